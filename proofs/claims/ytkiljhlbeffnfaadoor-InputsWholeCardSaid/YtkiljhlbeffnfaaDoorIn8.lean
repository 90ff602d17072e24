/- The reference's New. -/
import Derived.Test.YtkiljhlbeffnfaaDoorIn7
namespace Go.Proofs.YtkiljhlbeffnfaaDoor
open Go.RowKit

theorem elR : ElemOK Tryd.prog 49 21 1 4 := .mk' (z := .int .i32 0) Tryd.underlying49 (by kernel_rfl) rfl (by decide)
theorem elI : ElemOK Tryd.prog 50 3 1 8 := .mk' (z := .int .i64 0) Tryd.underlying50 (by kernel_rfl) rfl (by decide)
theorem i32s_one (l : List Int) : ∀ u ∈ i32s l, u.oneCell' = true := by intro u hu; obtain ⟨_, _, rfl⟩ := List.mem_map.1 hu; rfl
theorem i64s_one (l : List Int) : ∀ u ∈ i64s l, u.oneCell' = true := by intro u hu; obtain ⟨_, _, rfl⟩ := List.mem_map.1 hu; rfl

theorem offs_succ (s : ByteArray) (m : Nat) : offsOf (pre s (m + 1)) (posN s (m + 1)) = offsOf (pre s m) (posN s m) ++ [(posN s (m + 1) : Int)] := by
  unfold offsOf full
  rw [pre_succ]
  simp [symN]
theorem runes_succ (s : ByteArray) (m : Nat) : (pre s (m + 1)).map (·.1) = (pre s m).map (·.1) ++ [((Utf8.decode s (posN s m)).1 : Int)] := by
  rw [pre_succ]
  simp [symN]

structure RefRel (w wr : World) (g : Nat) (k : Int) (bv : Value) (s : ByteArray) (rv : Value) (rs : List Int) (ov : Value) (os : List Int) : Prop where
  blk : Blk wr g 52 #[.int .i64 k, bv, rv, ov]
  ownR : wr.ownsRow w.heap.size 21 1 rv rs.length (i32s rs)
  ownO : wr.ownsRow w.heap.size 3 1 ov os.length (i64s os)
  txt : wr.ownsRow w.heap.size 5 1 bv s.size (byteVals s.data.toList)
  below : Below w.heap.size w wr
  hg : w.heap.size ≤ g
section
variable {w wr w2 : World} {g : Nat} {k : Int} {bv : Value} {s : ByteArray} {rv ov : Value} {rs os : List Int}
theorem RefRel.move (h : RefRel w wr g k bv s rv rs ov os) (hb : Below wr.heap.size wr w2) : RefRel w w2 g k bv s rv rs ov os :=
  ⟨h.blk.below hb h.blk.lt, ownsRow_below h.ownR hb, ownsRow_below h.ownO hb, ownsRow_below h.txt hb, h.below.trans (hb.mono h.below.size), h.hg⟩
theorem RefRel.putR {v' : Value} {r : Int} (h : RefRel w wr g k bv s rv rs ov os) (hown : w2.ownsRow w.heap.size 21 1 v' (rs.length + 1) (i32s rs ++ [.int .i32 r])) (o : Obj) (hgr : (wr.alloc o).grownBy w2 rv.ownBlock) :
    w2.cell? ⟨g, 2, none⟩ = some rv ∧ w2.frozen? ⟨g, 2, none⟩ = false ∧ w2.cell? ⟨g, 3, none⟩ = some ov ∧ w.heap.size ≤ w2.heap.size ∧ Hid (RefRel w (w2.setCell ⟨g, 2, none⟩ v') g k bv s v' (rs ++ [r]) ov os) := by
  have hb : ∀ k, rv.ownBlock = some k → w.heap.size ≤ k := fun k hk => (h.ownR.lt k hk).1
  have h3 := (h.blk.alloc o).grown hgr (own_ne_blk (h.ownR.alloc o) (h.blk.alloc o) (by decide))
  have h4 := (h.txt.alloc o).kept hgr (own_ne_own (h.txt.alloc o) (h.ownR.alloc o) (by decide))
  have h5 := (h.ownO.alloc o).kept hgr (own_ne_own (h.ownO.alloc o) (h.ownR.alloc o) (by decide))
  refine ⟨by rw [h3.cell]; rfl, h3.frozen 2, by rw [h3.cell]; rfl, by have := hgr.size; have := h.below.size; simp at *; omega, Lib.hid ⟨h3.set 2 v', ?_, ?_, ?_, ?_, h.hg⟩⟩
  · have := ownsRow_far (w' := w2.setCell ⟨g, 2, none⟩ v') hown fun k hk => Below.heap_setCell _ _ _ _ (fun e => own_ne_blk hown h3 (by decide) (by rw [hk, e]))
    simpa [i32s] using this
  · exact ownsRow_far h5 fun k hk => Below.heap_setCell _ _ _ _ (fun e => own_ne_blk h5 h3 (by decide) (by rw [hk, e]))
  · exact ownsRow_far h4 fun k hk => Below.heap_setCell _ _ _ _ (fun e => own_ne_blk h4 h3 (by decide) (by rw [hk, e]))
  · exact ((h.below.alloc h.below.size o).grown hgr (by have := h.below.size; simp; omega) hb).setCell h.hg _
theorem RefRel.putO {v' : Value} {r : Int} (h : RefRel w wr g k bv s rv rs ov os) (hown : w2.ownsRow w.heap.size 3 1 v' (os.length + 1) (i64s os ++ [.int .i64 r])) (o : Obj) (hgr : (wr.alloc o).grownBy w2 ov.ownBlock) :
    w2.cell? ⟨g, 3, none⟩ = some ov ∧ w2.frozen? ⟨g, 3, none⟩ = false ∧ Hid (RefRel w (w2.setCell ⟨g, 3, none⟩ v') g k bv s rv rs v' (os ++ [r])) := by
  have hb : ∀ k, ov.ownBlock = some k → w.heap.size ≤ k := fun k hk => (h.ownO.lt k hk).1
  have h3 := (h.blk.alloc o).grown hgr (own_ne_blk (h.ownO.alloc o) (h.blk.alloc o) (by decide))
  have h4 := (h.txt.alloc o).kept hgr (own_ne_own (h.txt.alloc o) (h.ownO.alloc o) (by decide))
  have h5 := (h.ownR.alloc o).kept hgr (own_ne_own (h.ownR.alloc o) (h.ownO.alloc o) (by decide))
  refine ⟨by rw [h3.cell]; rfl, h3.frozen 3, Lib.hid ⟨h3.set 3 v', ?_, ?_, ?_, ?_, h.hg⟩⟩
  · exact ownsRow_far h5 fun k hk => Below.heap_setCell _ _ _ _ (fun e => own_ne_blk h5 h3 (by decide) (by rw [hk, e]))
  · have := ownsRow_far (w' := w2.setCell ⟨g, 3, none⟩ v') hown fun k hk => Below.heap_setCell _ _ _ _ (fun e => own_ne_blk hown h3 (by decide) (by rw [hk, e]))
    simpa [i64s] using this
  · exact ownsRow_far h4 fun k hk => Below.heap_setCell _ _ _ _ (fun e => own_ne_blk h4 h3 (by decide) (by rw [hk, e]))
  · exact ((h.below.alloc h.below.size o).grown hgr (by have := h.below.size; simp; omega) hb).setCell h.hg _
theorem RefRel.refAt {U e : Nat} {l : List (Int × Nat)} (h : RefRel w wr g k bv s rv (l.map (·.1)) ov (offsOf l e)) (hU : wr.heap.size ≤ U) : RefAt wr w.heap.size U g l e s.data.toList := by
  obtain ⟨A, c, rfl, h3, h4⟩ := own_form h.txt
  obtain ⟨R, rc, rfl, h5, h6⟩ := own_form h.ownR
  obtain ⟨O, oc, rfl, h7, h8⟩ := own_form h.ownO
  rw [offsOf_length] at h7
  have hr := Rd.of_own (lo := w.heap.size) (U := U) h.ownR (Nat.le_refl _) hU
  have ho := Rd.of_own (lo := w.heap.size) (U := U) h.ownO (Nat.le_refl _) hU
  exact ⟨h.hg, Nat.lt_of_lt_of_le h.blk.lt hU, A, c, R, rc, O, oc, by rw [h.blk.cell, blen]; rfl, by rw [h.blk.cell]; simp, by rw [h.blk.cell]; simp [offsOf_length], Rd.of_own h.txt (Nat.le_refl _) hU, hr, ho, by rw [blen]; exact h3, h4, h7, h8⟩
end

def RefPost (w : World) (s : ByteArray) (e : Ending) (w' : World) : Prop :=
  ∃ g m, Cnt s m ∧ e = .returned (.tuple #[.pointer (some ⟨g, 0, none⟩), .int .i64 0]) ∧ RefAt w' w.heap.size w'.heap.size g (pre s m) s.size s.data.toList ∧ Below w.heap.size w w'

theorem refNew_arg (k : Int) (A : Option Addr) (n c : Nat) (w : World) (h : k < 1 ∨ 3 < k) : Calls Tryd.prog 30 #[.int .i64 k, .slice A n c] w fun e w' => e = .returned (.tuple #[.pointer none, .int .i64 1]) ∧ w = w' := by
  rcases h with h | h
  · go_enter Tryd.func30, Tryd.ntmps30
    go_wp2
    go_ret2
    exact ⟨rfl, rfl⟩
  · have h' : ¬ k < 1 := by omega
    go_enter Tryd.func30, Tryd.ntmps30
    go_wp2
    go_ret2
    exact ⟨rfl, rfl⟩
theorem refNew_many (k : Int) (A : Option Addr) (n c : Nat) (w : World) (h : 1 ≤ k ∧ k ≤ 3) (hn : 65536 < n) (hb : n ≤ maxLen) : Calls Tryd.prog 30 #[.int .i64 k, .slice A n c] w fun e w' => e = .returned (.tuple #[.pointer none, .int .i64 2]) ∧ w = w' := by
  unfold maxLen at hb
  have h1 : ¬ k < 1 := by omega
  have h2 : ¬ 3 < k := by omega
  go_enter Tryd.func30, Tryd.ntmps30
  go_wp2
  go_ret2
  exact ⟨rfl, rfl⟩

set_option maxHeartbeats 1000000 in
theorem refNew_ok {w : World} {lo U : Nat} {A : Option Addr} {n c : Nat} {s : ByteArray} (k : Int) (hk : 1 ≤ k ∧ k ≤ 3) (hT : Lib.Utf8Tabs 0 1 w) (hR : Rd w lo U A (byteVals s.data.toList)) (hU : U ≤ w.heap.size) (hn : s.size = n) (hnc : n ≤ c) (hcm : c ≤ maxLen) (hA : A = none → n = 0) (hb : n ≤ 65536) :
    Calls Tryd.prog 30 #[.int .i64 k, .slice A n c] w (RefPost w s) := by
  have h1 : ¬ k < 1 := by omega
  have h2 : ¬ 3 < k := by omega
  have hb' : ¬ (65536 : Int) < n := by omega
  unfold maxLen at hcm
  have hown := World.ownsRow_made (base := w.heap.size) (size := 1) (e := 5) w #[] 0 (Nat.le_refl _) (Nat.zero_le _) rfl
  have hR2 : Rd (w.alloc (.cells #[] 5)) lo U A (byteVals s.data.toList) := hR.same ((Same.refl lo U w).alloc hU _)
  have hbl : (byteVals s.data.toList).length = n * 1 := by rw [byteVals_length, blen]; omega
  go_enter Tryd.func30, Tryd.ntmps30
  go_wp2_with (at_builtin; refine wpList_app _ rfl _ _ 23 rfl w.heap.size 5 elB _ _ _ rfl hown lo U A n c (byteVals s.data.toList) rfl hA hbl hR2 (byteVals_one _) (by unfold maxLen; omega) (by omega) (by simp) ?_; intro bv w1 hbv hg1 hb1 hn1; obtain ⟨T, tc, rfl, _, _⟩ := own_form hbv)
  have hgw : w.heap.size ≤ w1.heap.size := by have := hg1.size; simp at this; omega
  have hbe : Below w.heap.size w w1 := ((Below.refl _ _).alloc (Nat.le_refl _) _).grown hg1 (by simp) (fun k hk => (hown.lt k hk).1)
  have hstart : RefRel w ((w1.alloc (.cells #[.int .i64 0] 3)).alloc (.cells #[.int .i64 k, .slice T n tc, .slice none 0 0, .slice (some ⟨w1.heap.size, 0, none⟩) 1 1] 52)) (w1.heap.size + 1) k (.slice T n tc) s (.slice none 0 0) ((pre s 0).map (·.1)) (.slice (some ⟨w1.heap.size, 0, none⟩) 1 1) (offsOf (pre s 0) (posN s 0)) := by
    refine ⟨?_, World.ownsRow_nil _ _ _ _, ?_, ?_, (hbe.alloc hgw _).alloc (by simp; omega) _, by omega⟩
    · have := Blk.new (w1.alloc (.cells #[.int .i64 0] 3)) 52 #[.int .i64 k, .slice T n tc, .slice none 0 0, .slice (some ⟨w1.heap.size, 0, none⟩) 1 1]
      simpa using this
    · have := (World.ownsRow_lit (base := w.heap.size) (size := 1) (e := 3) w1 #[.int .i64 0] 1 hgw (by unfold maxLen; omega) rfl).alloc (.cells #[.int .i64 k, .slice T n tc, .slice none 0 0, .slice (some ⟨w1.heap.size, 0, none⟩) 1 1] 52)
      exact this
    · rw [hn]
      simp only [Nat.zero_add, List.nil_append] at hbv
      exact (hbv.alloc _).alloc _
  have HST := Lib.hid hstart
  clear hstart hbv hg1 hb1 hn1 hbe hown hR2
  generalize w1.heap.size + 1 = g at HST ⊢
  go_loopg [7] (n + 1) (fun q o wr => ∃ m rv ov, q = n + 1 - m ∧ o = .int .i64 (posN s m : Int) ∧ Hid ((∀ k, k < m → posN s k < s.size) ∧ RefRel w wr g k (.slice T n tc) s rv ((pre s m).map (·.1)) ov (offsOf (pre s m) (posN s m))))
  case atStart => exact ⟨0, _, _, rfl, rfl, Lib.hid ⟨fun k hk => by omega, HST.out⟩⟩
  case round =>
    obtain ⟨m, rv, ov, hgk, rfl, HR⟩ := hrel
    have HG := Lib.hid hgk
    clear hgk HST
    have hle := posN_le_size s HR.out.1
    have hml : m ≤ n := by have := posN_ge s HR.out.1; omega
    by_cases hp : posN s m < n
    · have hD := dec_any (tabs_below hT HR.out.2.below) (hR.same (.of_below HR.out.2.below hU)) hn hnc (posN s m) hp
      rw [if_neg (by omega)] at hD
      have hfit := decode_fits s (posN s m) (by omega)
      have hrune := decode_rune s (posN s m)
      have hnext : posN s m + (Utf8.decode s (posN s m)).2 = posN s (m + 1) := rfl
      have HN := Lib.hid hnext
      have hlt : ∀ k, k < m + 1 → posN s k < s.size := by
        intro k hk
        rcases Nat.lt_succ_iff_lt_or_eq.1 hk with h1 | h1
        · exact HR.out.1 k h1
        · subst h1; omega
      have HL := Lib.hid hlt
      have HRS := Lib.hid (runes_succ s m)
      have HOS := Lib.hid (offs_succ s m)
      have HREL := Lib.hid HR.out.2
      have erl : ((pre s m).map (·.1)).length ≤ 65536 := by rw [List.length_map, pre_length]; omega
      have eol : (offsOf (pre s m) (posN s m)).length ≤ 65537 := by rw [offsOf_length, pre_length]; omega
      have hpn : posN s (m + 1) ≤ n := by have := hfit.2.1; omega
      clear hnext hlt hT hR HR
      generalize (pre s m).map (·.1) = rs at HREL HRS erl
      generalize offsOf (pre s m) (posN s m) = os at HREL HOS eol
      generalize (Utf8.decode s (posN s m)).1 = r at hD hrune HRS
      generalize (Utf8.decode s (posN s m)).2 = d at hD hfit HN
      go_wp2_with fail
      refine hD.mono ?_
      rintro e w2 ⟨rfl, hb2⟩
      have HR2 := Lib.hid (HREL.out.move hb2)
      clear hD hb2 HREL
      have c1 : w2.cell? ⟨g, 2, none⟩ = some rv := by rw [HR2.out.blk.cell]; rfl
      have hO1 := HR2.out.ownR
      have hlw : w.heap.size ≤ w2.heap.size := HR2.out.below.size
      go_wp2_with (first | (at_builtin; refine wpList_app _ rfl _ _ 49 rfl w.heap.size 21 elR rv _ _ rfl (hO1.alloc _) 0 (w2.heap.size + 1) _ 1 1 [.int .i32 (r : Int)] rfl (fun h => by cases h) rfl (Rd.new w2 _ _ _ (Nat.zero_le _) (by omega)) (by simp [Value.oneCell']) (by unfold maxLen; omega) (by omega) (by simp; omega) ?_; intro v' W2 hO2 hg2 hb2 hn2; obtain ⟨A', c', rfl, _, _⟩ := own_form hO2; obtain ⟨q1, q2, q4, q5, q3⟩ := HR2.out.putR hO2 _ hg2; clear hg2 hb2 hn2 hO2 hO1 HR2 c1 hlw) | (at_builtin; refine wpList_app _ rfl _ _ 50 rfl w.heap.size 3 elI ov _ _ rfl (q3.out.ownO.alloc _) 0 _ _ 1 1 [.int .i64 ((posN s m : Int) + (d : Int))] rfl (fun h => by cases h) rfl (Rd.newAt _ _ _ _ _ (by simp) (Nat.zero_le _)) (by simp [Value.oneCell']) (by unfold maxLen; omega) (by omega) (by simp; omega) ?_; intro v3 W3 hO3 hg3 hb3 hn3; obtain ⟨A3, c3, rfl, _, _⟩ := own_form hO3; obtain ⟨q6, q7, q8⟩ := q3.out.putO hO3 _ hg3; clear hg3 hb3 hn3 hO3 q1 q2 q4 q5))
      go_roundg (n + 1 - (m + 1))
      case measure => have := HG.out; omega
      case rel =>
        refine ⟨m + 1, .slice A' (rs.length + 1) c', .slice A3 (os.length + 1) c3, rfl, ?_, Lib.hid ⟨HL.out, ?_⟩⟩
        · rw [← HN.out]; go_num
        · rw [HRS.out, HOS.out, ← HN.out, Int.natCast_add]
          exact q8.out
    · have hend : posN s m = n := by omega
      have hcnt : Cnt s m := ⟨by omega, HR.out.1⟩
      have HC := Lib.hid hcnt
      have hrel := HR.out.2
      rw [hend, ← hn] at hrel
      have HF := Lib.hid (hrel.refAt (Nat.le_refl _))
      have HB := Lib.hid hrel.below
      clear hend hcnt hT hR HR hrel
      go_wp2
      go_ret2
      exact ⟨g, m, HC.out, rfl, HF.out, HB.out⟩
end Go.Proofs.YtkiljhlbeffnfaaDoor
