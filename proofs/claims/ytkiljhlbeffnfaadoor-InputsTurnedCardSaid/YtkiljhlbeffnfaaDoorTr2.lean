/- The reference's New and both, with the kind; the reference's Turned. -/
import Derived.Test.YtkiljhlbeffnfaaDoorTr1
import Derived.Deep.RegionLaw
import Derived.Deep.DrawnRows
import Derived.Deep.DeepCutAuto
import Derived.Deep.CutRange
namespace Go.Proofs.YtkiljhlbeffnfaaDoor
open Go.RowKit

def RefPostK (w : World) (k : Int) (s : ByteArray) (e : Ending) (w' : World) : Prop :=
  ∃ g m, Cnt s m ∧ e = .returned (.tuple #[.pointer (some ⟨g, 0, none⟩), .int .i64 0]) ∧ RefAt w' w.heap.size w'.heap.size g (pre s m) s.size s.data.toList ∧ w'.cell? ⟨g, 0, none⟩ = some (.int .i64 k) ∧ Below w.heap.size w w'
set_option maxHeartbeats 1000000 in
theorem refNewK_ok {w : World} {lo U : Nat} {A : Option Addr} {n c : Nat} {s : ByteArray} (k : Int) (hk : 1 ≤ k ∧ k ≤ 3) (hT : Lib.Utf8Tabs 0 1 w) (hR : Rd w lo U A (byteVals s.data.toList)) (hU : U ≤ w.heap.size) (hn : s.size = n) (hnc : n ≤ c) (hcm : c ≤ maxLen) (hA : A = none → n = 0) (hb : n ≤ 65536) :
    Calls Tryd.prog 30 #[.int .i64 k, .slice A n c] w (RefPostK w k s) := by
  have h1 : ¬ k < 1 := by omega
  have h2 : ¬ 3 < k := by omega
  have hb' : ¬ (65536 : Int) < n := by omega
  unfold maxLen at hcm
  have hown := World.ownsRow_made (base := w.heap.size) (size := 1) (e := 5) w #[] 0 (Nat.le_refl _) (Nat.zero_le _) rfl
  have hR2 : Rd (w.alloc (.cells #[] 5)) lo U A (byteVals s.data.toList) := hR.same ((Same.refl lo U w).alloc hU _)
  have hbl : (byteVals s.data.toList).length = n * 1 := by rw [byteVals_length, blen]; omega
  go_enter Tryd.func30, Tryd.ntmps30
  go_wp2_with (at_builtin; refine wpList_app _ rfl _ _ 23 rfl w.heap.size 5 elB _ _ _ rfl hown lo U A n c (byteVals s.data.toList) rfl hA hbl hR2 (byteVals_one _) (by unfold maxLen; omega) (by omega) (by simp) ?_; intro bv w1 hbv hg1 hb1 hn1; obtain ⟨T, tc, rfl, _, _⟩ := own_form hbv)
  have hgw : w.heap.size ≤ w1.heap.size := by have := hg1.size; simp at this; omega
  have hbe : Below w.heap.size w w1 := ((Below.refl _ _).alloc (Nat.le_refl _) _).grown hg1 (by simp) (fun k hk => (hown.lt k hk).1)
  have hstart : RefRel w ((w1.alloc (.cells #[.int .i64 0] 3)).alloc (.cells #[.int .i64 k, .slice T n tc, .slice none 0 0, .slice (some ⟨w1.heap.size, 0, none⟩) 1 1] 52)) (w1.heap.size + 1) k (.slice T n tc) s (.slice none 0 0) ((pre s 0).map (·.1)) (.slice (some ⟨w1.heap.size, 0, none⟩) 1 1) (offsOf (pre s 0) (posN s 0)) := by
    refine ⟨?_, World.ownsRow_nil _ _ _ _, ?_, ?_, (hbe.alloc hgw _).alloc (by simp; omega) _, by omega⟩
    · have := Blk.new (w1.alloc (.cells #[.int .i64 0] 3)) 52 #[.int .i64 k, .slice T n tc, .slice none 0 0, .slice (some ⟨w1.heap.size, 0, none⟩) 1 1]
      simpa using this
    · have := (World.ownsRow_lit (base := w.heap.size) (size := 1) (e := 3) w1 #[.int .i64 0] 1 hgw (by unfold maxLen; omega) rfl).alloc (.cells #[.int .i64 k, .slice T n tc, .slice none 0 0, .slice (some ⟨w1.heap.size, 0, none⟩) 1 1] 52)
      exact this
    · rw [hn]
      simp only [Nat.zero_add, List.nil_append] at hbv
      exact (hbv.alloc _).alloc _
  have HST := Lib.hid hstart
  clear hstart hbv hg1 hb1 hn1 hbe hown hR2
  generalize w1.heap.size + 1 = g at HST ⊢
  go_loopg [7] (n + 1) (fun q o wr => ∃ m rv ov, q = n + 1 - m ∧ o = .int .i64 (posN s m : Int) ∧ Hid ((∀ k, k < m → posN s k < s.size) ∧ RefRel w wr g k (.slice T n tc) s rv ((pre s m).map (·.1)) ov (offsOf (pre s m) (posN s m))))
  case atStart => exact ⟨0, _, _, rfl, rfl, Lib.hid ⟨fun k hk => by omega, HST.out⟩⟩
  case round =>
    obtain ⟨m, rv, ov, hgk, rfl, HR⟩ := hrel
    have HG := Lib.hid hgk
    clear hgk HST
    have hle := posN_le_size s HR.out.1
    have hml : m ≤ n := by have := posN_ge s HR.out.1; omega
    by_cases hp : posN s m < n
    · have hD := dec_any (tabs_below hT HR.out.2.below) (hR.same (.of_below HR.out.2.below hU)) hn hnc (posN s m) hp
      rw [if_neg (by omega)] at hD
      have hfit := decode_fits s (posN s m) (by omega)
      have hrune := decode_rune s (posN s m)
      have hnext : posN s m + (Utf8.decode s (posN s m)).2 = posN s (m + 1) := rfl
      have HN := Lib.hid hnext
      have hlt : ∀ k, k < m + 1 → posN s k < s.size := by
        intro k hk
        rcases Nat.lt_succ_iff_lt_or_eq.1 hk with h1 | h1
        · exact HR.out.1 k h1
        · subst h1; omega
      have HL := Lib.hid hlt
      have HRS := Lib.hid (runes_succ s m)
      have HOS := Lib.hid (offs_succ s m)
      have HREL := Lib.hid HR.out.2
      have erl : ((pre s m).map (·.1)).length ≤ 65536 := by rw [List.length_map, pre_length]; omega
      have eol : (offsOf (pre s m) (posN s m)).length ≤ 65537 := by rw [offsOf_length, pre_length]; omega
      have hpn : posN s (m + 1) ≤ n := by have := hfit.2.1; omega
      clear hnext hlt hT hR HR
      generalize (pre s m).map (·.1) = rs at HREL HRS erl
      generalize offsOf (pre s m) (posN s m) = os at HREL HOS eol
      generalize (Utf8.decode s (posN s m)).1 = r at hD hrune HRS
      generalize (Utf8.decode s (posN s m)).2 = d at hD hfit HN
      go_wp2_with fail
      refine hD.mono ?_
      rintro e w2 ⟨rfl, hb2⟩
      have HR2 := Lib.hid (HREL.out.move hb2)
      clear hD hb2 HREL
      have c1 : w2.cell? ⟨g, 2, none⟩ = some rv := by rw [HR2.out.blk.cell]; rfl
      have hO1 := HR2.out.ownR
      have hlw : w.heap.size ≤ w2.heap.size := HR2.out.below.size
      go_wp2_with (first | (at_builtin; refine wpList_app _ rfl _ _ 49 rfl w.heap.size 21 elR rv _ _ rfl (hO1.alloc _) 0 (w2.heap.size + 1) _ 1 1 [.int .i32 (r : Int)] rfl (fun h => by cases h) rfl (Rd.new w2 _ _ _ (Nat.zero_le _) (by omega)) (by simp [Value.oneCell']) (by unfold maxLen; omega) (by omega) (by simp; omega) ?_; intro v' W2 hO2 hg2 hb2 hn2; obtain ⟨A', c', rfl, _, _⟩ := own_form hO2; obtain ⟨q1, q2, q4, q5, q3⟩ := HR2.out.putR hO2 _ hg2; clear hg2 hb2 hn2 hO2 hO1 HR2 c1 hlw) | (at_builtin; refine wpList_app _ rfl _ _ 50 rfl w.heap.size 3 elI ov _ _ rfl (q3.out.ownO.alloc _) 0 _ _ 1 1 [.int .i64 ((posN s m : Int) + (d : Int))] rfl (fun h => by cases h) rfl (Rd.newAt _ _ _ _ _ (by simp) (Nat.zero_le _)) (by simp [Value.oneCell']) (by unfold maxLen; omega) (by omega) (by simp; omega) ?_; intro v3 W3 hO3 hg3 hb3 hn3; obtain ⟨A3, c3, rfl, _, _⟩ := own_form hO3; obtain ⟨q6, q7, q8⟩ := q3.out.putO hO3 _ hg3; clear hg3 hb3 hn3 hO3 q1 q2 q4 q5))
      go_roundg (n + 1 - (m + 1))
      case measure => have := HG.out; omega
      case rel =>
        refine ⟨m + 1, .slice A' (rs.length + 1) c', .slice A3 (os.length + 1) c3, rfl, ?_, Lib.hid ⟨HL.out, ?_⟩⟩
        · rw [← HN.out]; go_num
        · rw [HRS.out, HOS.out, ← HN.out, Int.natCast_add]
          exact q8.out
    · have hend : posN s m = n := by omega
      have hcnt : Cnt s m := ⟨by omega, HR.out.1⟩
      have HC := Lib.hid hcnt
      have hrel := HR.out.2
      rw [hend, ← hn] at hrel
      have HF := Lib.hid (hrel.refAt (Nat.le_refl _))
      have hck := hrel.blk.cell 0
      have HK := Lib.hid hck
      clear hck
      have HB := Lib.hid hrel.below
      clear hend hcnt hT hR HR hrel
      go_wp2
      go_ret2
      exact ⟨g, m, HC.out, rfl, HF.out, HK.out, HB.out⟩
/-- Both inputs, made of the same bytes. -/
def BothOkK (w : World) (k : Int) (s : ByteArray) (e : Ending) (w' : World) : Prop :=
  ∃ g g' m lo U lo' U', Cnt s m ∧ e = .returned (.tuple #[.pointer (some ⟨g, 0, none⟩), .pointer (some ⟨g', 0, none⟩), .bool true]) ∧ w.heap.size ≤ lo ∧ lo ≤ lo' ∧ U ≤ w'.heap.size ∧ U' ≤ w'.heap.size ∧
    InAt w' lo U g k (full (pre s m) s.size) s.data.toList ∧ RefAt w' lo' U' g' (pre s m) s.size s.data.toList ∧ w'.cell? ⟨g', 0, none⟩ = some (.int .i64 k) ∧ Below w.heap.size w w'

theorem both_okK {w : World} {lo U : Nat} {A : Option Addr} {n c : Nat} {s : ByteArray} (k : Int) (hk : 1 ≤ k ∧ k ≤ 3) (hT : Lib.Utf8Tabs 0 1 w) (hR : Rd w lo U A (byteVals s.data.toList)) (hU : U ≤ w.heap.size) (hn : s.size = n) (hnc : n ≤ c) (hcm : c ≤ maxLen) (hA : A = none → n = 0) (hb : n ≤ 65536) :
    Calls Tryd.prog 11 #[.int .i64 k, .slice A n c] w (BothOkK w k s) := by
  refine (both_core k 0 (fun w1 w2 p => ∃ g m, p = some ⟨g, 0, none⟩ ∧ Cnt s m ∧ InAt w2 w1.heap.size w2.heap.size g k (full (pre s m) s.size) s.data.toList) (fun w2 w3 p => ∃ g m, p = some ⟨g, 0, none⟩ ∧ Cnt s m ∧ RefAt w3 w2.heap.size w3.heap.size g (pre s m) s.size s.data.toList ∧ w3.cell? ⟨g, 0, none⟩ = some (.int .i64 k))
    hR hU hn hA (by omega) ?_ ?_ ?_).mono ?_
  · intro w1 A1 c1 hb1 hR1 hA1 h1 h2
    refine (new_ok k hk (tabs_below hT hb1) hR1 (Nat.le_refl _) hn h1 h2 hA1 hb).mono ?_
    rintro e w2 ⟨g, m, hm, rfl, hin, hb2⟩
    exact ⟨_, rfl, ⟨g, m, rfl, hm, hin⟩, hb2⟩
  · intro w2 hb2
    refine (refNewK_ok k hk (tabs_below hT hb2) (hR.same (.of_below hb2 hU)) (Nat.le_trans hU hb2.size) hn hnc hcm hA hb).mono ?_
    rintro e w3 ⟨g, m, hm, rfl, hin, hc0, hb3⟩
    exact ⟨_, rfl, ⟨g, m, rfl, hm, hin, hc0⟩, hb3⟩
  · rintro w1 w2 w3 p q ⟨g, m, rfl, _⟩ ⟨g', m', rfl, _⟩
    rfl
  · rintro e w' ⟨w1, w2, w3, p, q, row, ⟨g, m, rfl, hm, hin⟩, ⟨g', m', rfl, hm', href, hc0⟩, rfl, hg, hrow, h1, hb2, hb3, hbe⟩
    obtain rfl := hm.unique hm'
    have h2 := hb2.size
    have h3 := hb3.size
    have h4 := hg.size
    refine ⟨g, g', m, w1.heap.size, w2.heap.size, w2.heap.size, w3.heap.size, hm, rfl, h1, h2, by omega, h4, ?_, ?_, ?_, ?_⟩
    · exact hin.same ((Same.of_below hb3 (Nat.le_refl _)).trans (Same.of_grown hg h3 fun k hk => .inl (hrow k hk).2))
    · exact href.same (Same.of_grown hg (Nat.le_refl _) fun k hk => .inl (by have := (hrow k hk).2; omega))
    · exact ((Same.of_grown hg (Nat.le_refl _) fun k hk => .inl (by have := (hrow k hk).2; omega)).cell (p := ⟨g', 0, none⟩) href.1 href.2.1).trans hc0
    · exact hbe.grown hg hbe.size fun k hk => (hrow k hk).1

theorem appR_any {w : World} {base n : Nat} {v : Value} {bs : List UInt8} {r : Int} (h : w.ownsRow base 5 1 v n (byteVals bs)) (hr : Scalar r) (hn : n ≤ 1000000) (hb : base ≤ w.heap.size) :
    Calls Tryd.prog 28 #[v, .int .i32 r] w fun e w' => ∃ v', e = .returned v' ∧ Hid (w'.ownsRow base 5 1 v' (n + (Lib.encodeRune r).length) (byteVals (bs ++ Lib.encodeRune r))) ∧ Hid (∃ o, (w.alloc o).grownBy w' v.ownBlock) := by
  unfold Scalar at hr
  refine (Any.utf8_AppendRune_plain Tryd.lays242 (by kernel_rfl) base v n (byteVals bs) r (by omega) (by omega) w h (by omega) hb).mono ?_
  rintro e w' ⟨v', rfl, ho, hg⟩
  refine ⟨v', rfl, Lib.hid ?_, Lib.hid hg⟩
  have e1 : byteVals (bs ++ Lib.encodeRune r) = byteVals bs ++ Lib.runeCells r := by
    rw [← Lib.byteCells_encodeRune]
    simp [byteVals, Lib.byteCells]
  rw [e1]
  rw [Lib.runeCells_length] at ho
  exact ho
end Go.Proofs.YtkiljhlbeffnfaaDoor
