/- The laws' own beginnings: head, both. -/
import Derived.Test.YtkiljhlbeffnfaaDoorIn9
import Derived.Lib.SlBytesConst
namespace Go.Proofs.YtkiljhlbeffnfaaDoor
open Go.RowKit

/-- The two runes of head's text. -/
def abS : ByteArray := ⟨#[97, 98]⟩
theorem abCnt : Cnt abS 2 := ⟨by decide, fun k hk => by
  match k, hk with
  | 0, _ => decide
  | 1, _ => decide⟩

set_option maxHeartbeats 1000000 in
theorem head_any {w : World} (hT : Lib.Utf8Tabs 0 1 w) : Calls Tryd.prog 10 #[] w fun e w' => e = .returned (.bool true) ∧ Below w.heap.size w w' := by
  have hR : Rd (w.alloc (.cells #[.int .u8 97, .int .u8 98] 5 (2, 3))) 0 (w.heap.size + 1) (some ⟨w.heap.size, 0, none⟩) (byteVals abS.data.toList) := Rd.new w [.int .u8 97, .int .u8 98] 5 (2, 3) (Nat.zero_le _) (Nat.lt_succ_self _)
  have kc := fun (w : World) (C : Array Value) (n c : Nat) => Lib.run_convert_bytes_const (P := Tryd.prog) w 23 5 C n c Tryd.underlying23 Tryd.underlying5
  have hN := new_text (c := 2) 1 (by omega) hR (by simp) (n := 2) rfl (fun h => by cases h) (by omega)
  go_enter Tryd.func10, Tryd.ntmps10
  go_wp2_with fail
  refine hN.mono ?_
  rintro e w1 ⟨g, m, hm, rfl, hin, hb⟩
  obtain rfl := hm.unique abCnt
  clear hN hR
  have hbe : Below w.heap.size w w1 := ((Below.refl _ _).alloc (Nat.le_refl _) _).trans (hb.mono (by simp))
  go_wp2_with fail
  refine (new_arg 0 none 0 0 w1 (by omega)).mono ?_
  rintro e w2 ⟨rfl, rfl⟩
  have cL := len_any hin.1
  have cR := rune_any hin.1 1
  have cO := off_any hin.1 2
  have e1 : ((full (pre abS 2) abS.size).length : Int) - 1 = 2 := by decide
  have e2 : runeAt (full (pre abS 2) abS.size) 1 = 98 := by decide
  have e3 : offAt (full (pre abS 2) abS.size) 2 = 2 := by decide
  rw [e1] at cL
  rw [e2] at cR
  rw [e3] at cO
  clear hin hb hm e1 e2 e3 hT
  go_wp2_with (first | (go_at_call 15; refine cL.mono ?_; rintro e w' ⟨rfl, rfl⟩) | (go_at_call 17; refine cR.mono ?_; rintro e w' ⟨rfl, rfl⟩) | (go_at_call 19; refine cO.mono ?_; rintro e w' ⟨rfl, rfl⟩))
  go_ret
  exact ⟨rfl, hbe⟩

/-- A byte of an owned row is written over. -/
theorem ownB_set {w : World} {base : Nat} {n cap g : Nat} {zs : List Int} (h : w.ownsRow base 5 1 (.slice (some ⟨g, 0, none⟩) n cap) n (zs.map (Value.int .u8))) (k : Nat) (x : Int) :
    (w.setCell ⟨g, k, none⟩ (.int .u8 x)).ownsRow base 5 1 (.slice (some ⟨g, 0, none⟩) n cap) n ((zs.set k x).map (Value.int .u8)) ∧ w.grownBy (w.setCell ⟨g, k, none⟩ (.int .u8 x)) (some g) := by
  have := h.stored k (.int .u8 x)
  rwa [← List.map_set] at this
theorem grownBy_trans' {w w' w'' : World} {row : Option Nat} (h : w.grownBy w' row) (h2 : w'.grownBy w'' row) : w.grownBy w'' row :=
  ⟨h2.os.trans h.os, h2.tape.trans h.tape, h2.output.trans h.output, Nat.le_trans h.size h2.size, fun k hk hne => (h2.block k (by have := h.size; omega) hne).trans (h.block k hk hne)⟩
theorem byteVals_ints (s : List UInt8) : byteVals s = (s.map fun c => (c.toNat : Int)).map (Value.int .u8) := by simp [byteVals]

def BothCore (w : World) (N : World → World → Option Addr → Prop) (M : World → World → Option Addr → Prop) (e : Ending) (w' : World) : Prop :=
  ∃ w1 w2 w3 p q row, N w1 w2 p ∧ M w2 w3 q ∧ e = .returned (.tuple #[.pointer p, .pointer q, .bool true]) ∧ w3.grownBy w' row ∧ (∀ k, row = some k → w.heap.size ≤ k ∧ k < w1.heap.size) ∧ w.heap.size ≤ w1.heap.size ∧ Below w1.heap.size w1 w2 ∧ Below w2.heap.size w2 w3 ∧ Below w.heap.size w w3

set_option maxHeartbeats 2000000 in
theorem both_core {w : World} {lo U : Nat} {A : Option Addr} {n c : Nat} {s : ByteArray} (k er : Int) (N : World → World → Option Addr → Prop) (M : World → World → Option Addr → Prop)
    (hR : Rd w lo U A (byteVals s.data.toList)) (hU : U ≤ w.heap.size) (hn : s.size = n) (hA : A = none → n = 0) (hb : n ≤ 140737488351232)
    (cN : ∀ w1 A1 c1, Below w.heap.size w w1 → Rd w1 0 w1.heap.size A1 (byteVals s.data.toList) → (A1 = none → n = 0) → n ≤ c1 → c1 ≤ maxLen →
      Calls Tryd.prog 25 #[.int .i64 k, .slice A1 n c1] w1 fun e w2 => ∃ p, e = .returned (.tuple #[.pointer p, .int .i64 er]) ∧ N w1 w2 p ∧ Below w1.heap.size w1 w2)
    (cM : ∀ w2, Below w.heap.size w w2 → Calls Tryd.prog 30 #[.int .i64 k, .slice A n c] w2 fun e w3 => ∃ p, e = .returned (.tuple #[.pointer p, .int .i64 er]) ∧ M w2 w3 p ∧ Below w2.heap.size w2 w3)
    (hpq : ∀ w1 w2 w3 p q, N w1 w2 p → M w2 w3 q → (p.isSome = q.isSome)) :
    Calls Tryd.prog 11 #[.int .i64 k, .slice A n c] w (BothCore w N M) := by
  have hown := World.ownsRow_made (base := w.heap.size) (size := 1) (e := 5) w #[] 0 (Nat.le_refl _) (Nat.zero_le _) rfl
  have hR2 : Rd (w.alloc (.cells #[] 5)) lo U A (byteVals s.data.toList) := hR.same ((Same.refl lo U w).alloc hU _)
  have hbl : (byteVals s.data.toList).length = n * 1 := by rw [byteVals_length, blen]; omega
  go_enter Tryd.func11, Tryd.ntmps11
  go_wp2_with (at_builtin; refine wpList_app _ rfl _ _ 23 rfl w.heap.size 5 elB _ _ _ rfl hown lo U A n c (byteVals s.data.toList) rfl hA hbl hR2 (byteVals_one _) (by unfold maxLen; omega) (by omega) (by simp) ?_; intro ov w1 hov hg1 hb1 hn1)
  simp only [Nat.zero_add, List.nil_append] at hov
  obtain ⟨O, oc, rfl, ho1, ho2⟩ := own_form hov
  have hgw : w.heap.size ≤ w1.heap.size := by have := hg1.size; simp at this; omega
  have hbe1 : Below w.heap.size w w1 := ((Below.refl _ _).alloc (Nat.le_refl _) _).grown hg1 (by simp) (fun k hk => (hown.lt k hk).1)
  have hRO : Rd w1 0 w1.heap.size O (byteVals s.data.toList) := Rd.of_own hov (Nat.zero_le _) (Nat.le_refl _)
  have hON : O = none → n = 0 := by
    intro h
    rcases Nat.eq_zero_or_pos n with h0 | h0
    · exact h0
    · obtain ⟨_, _, h1, _⟩ := hRO (by rw [hbl]; omega)
      rw [h1] at h; cases h
  clear hg1 hb1 hn1 hown hR2
  go_wp2_with fail
  refine (cN w1 O oc hbe1 hRO hON ho1 ho2).mono ?_
  rintro e w2 ⟨p, rfl, hN, hbe2⟩
  go_wp2_with fail
  refine (cM w2 (hbe1.trans (hbe2.mono hgw))).mono ?_
  rintro e w3 ⟨q, rfl, hM, hbe3⟩
  have hov3 := ownsRow_below (ownsRow_below hov hbe2) hbe3
  rw [byteVals_ints] at hov3
  have hlen : (s.data.toList.map fun c => (c.toNat : Int)).length = n := by rw [List.length_map, blen]; exact hn
  generalize (s.data.toList.map fun c => (c.toNat : Int)) = zs at hov3 hlen
  have hrow : ∀ k, (Value.slice O n oc).ownBlock = some k → w.heap.size ≤ k ∧ k < w1.heap.size := hov.lt
  have hfin := hpq w1 w2 w3 p q hN hM
  have hbe : Below w.heap.size w w3 := (hbe1.trans (hbe2.mono hgw)).trans (hbe3.mono (by have := hbe2.size; omega))
  have HF := Lib.hid hfin
  have HROW := Lib.hid hrow
  have HOV := Lib.hid hov3
  have HB2 := Lib.hid hbe2
  have HB3 := Lib.hid hbe3
  have HB := Lib.hid hbe
  have HLEN := Lib.hid hlen
  unfold maxLen at ho2
  clear hfin hrow hov3 hbe2 hbe3 hbe hlen hov hbe1 hRO cN cM hpq hR hbl
  go_wp2_with fail
  go_loopg [12] (n + 1) (fun x i wr => ∃ j : Nat, x = n + 1 - j ∧ j ≤ n ∧ i = .int .i64 j ∧ Hid (w3.grownBy wr (Value.slice O n oc).ownBlock ∧ ∃ zs : List Int, zs.length = n ∧ wr.ownsRow w.heap.size 5 1 (.slice O n oc) n (zs.map (Value.int .u8))))
  case atStart => exact ⟨0, rfl, Nat.zero_le _, rfl, Lib.hid ⟨World.grownBy.refl _ _, zs, HLEN.out, HOV.out⟩⟩
  case round =>
    obtain ⟨j, hgk, hj, rfl, HR⟩ := hrel
    have HG := Lib.hid hgk
    clear hgk
    by_cases hlt : j < n
    · obtain ⟨hgr, zs', hz, hown⟩ := HR.out
      obtain ⟨g, cap, hv, _, _⟩ := hown.form (by omega)
      have hO : O = some ⟨g, 0, none⟩ := by injection hv
      have hcell : wr.cell? ⟨g, j, none⟩ = some (.int .u8 (zs'[j]'(by omega))) := by
        subst hO
        rw [hown.cellAt j (by omega)]
        simp [hz, hlt]
      have hfz : wr.frozen? ⟨g, j, none⟩ = false := by subst hO; exact hown.frozenAt j
      have hnext : ∀ x, Hid (w3.grownBy (wr.setCell ⟨g, j, none⟩ (.int .u8 x)) (Value.slice O n oc).ownBlock ∧ ∃ zs : List Int, zs.length = n ∧ (wr.setCell ⟨g, j, none⟩ (.int .u8 x)).ownsRow w.heap.size 5 1 (.slice O n oc) n (zs.map (Value.int .u8))) := by
        intro x
        subst hO
        obtain ⟨h1, h2⟩ := ownB_set hown j x
        exact Lib.hid ⟨grownBy_trans' hgr h2, _, by rw [List.length_set]; exact hz, h1⟩
      generalize zs'[j]'(by omega) = z at hcell
      clear hgr hown hv hz HR
      subst hO
      have HN := Lib.hid hnext
      clear hnext HF HROW HOV HB2 HB3 HB HLEN
      go_wp2_with fail
      go_roundg (n + 1 - (j + 1))
      case measure => have := HG.out; omega
      case rel => exact ⟨j + 1, rfl, by omega, by go_num, HN.out _⟩
    · have HJ := Lib.hid HR.out.1
      clear HR
      rcases p with _ | pa <;> rcases q with _ | qa
      · go_wp2_with fail
        go_ret3
        exact ⟨w1, w2, w3, none, none, _, hN, hM, rfl, HJ.out, HROW.out, hgw, HB2.out, HB3.out, HB.out⟩
      · exact absurd HF.out (by simp)
      · exact absurd HF.out (by simp)
      · go_wp2_with fail
        go_ret3
        exact ⟨w1, w2, w3, some pa, some qa, _, hN, hM, rfl, HJ.out, HROW.out, hgw, HB2.out, HB3.out, HB.out⟩

/-- Both inputs, made of the same bytes. -/
def BothOk (w : World) (k : Int) (s : ByteArray) (e : Ending) (w' : World) : Prop :=
  ∃ g g' m lo U lo' U', Cnt s m ∧ e = .returned (.tuple #[.pointer (some ⟨g, 0, none⟩), .pointer (some ⟨g', 0, none⟩), .bool true]) ∧ w.heap.size ≤ lo ∧ lo ≤ lo' ∧ U ≤ w'.heap.size ∧ U' ≤ w'.heap.size ∧
    InAt w' lo U g k (full (pre s m) s.size) s.data.toList ∧ RefAt w' lo' U' g' (pre s m) s.size s.data.toList ∧ Below w.heap.size w w'

theorem both_ok {w : World} {lo U : Nat} {A : Option Addr} {n c : Nat} {s : ByteArray} (k : Int) (hk : 1 ≤ k ∧ k ≤ 3) (hT : Lib.Utf8Tabs 0 1 w) (hR : Rd w lo U A (byteVals s.data.toList)) (hU : U ≤ w.heap.size) (hn : s.size = n) (hnc : n ≤ c) (hcm : c ≤ maxLen) (hA : A = none → n = 0) (hb : n ≤ 65536) :
    Calls Tryd.prog 11 #[.int .i64 k, .slice A n c] w (BothOk w k s) := by
  refine (both_core k 0 (fun w1 w2 p => ∃ g m, p = some ⟨g, 0, none⟩ ∧ Cnt s m ∧ InAt w2 w1.heap.size w2.heap.size g k (full (pre s m) s.size) s.data.toList) (fun w2 w3 p => ∃ g m, p = some ⟨g, 0, none⟩ ∧ Cnt s m ∧ RefAt w3 w2.heap.size w3.heap.size g (pre s m) s.size s.data.toList)
    hR hU hn hA (by omega) ?_ ?_ ?_).mono ?_
  · intro w1 A1 c1 hb1 hR1 hA1 h1 h2
    refine (new_ok k hk (tabs_below hT hb1) hR1 (Nat.le_refl _) hn h1 h2 hA1 hb).mono ?_
    rintro e w2 ⟨g, m, hm, rfl, hin, hb2⟩
    exact ⟨_, rfl, ⟨g, m, rfl, hm, hin⟩, hb2⟩
  · intro w2 hb2
    refine (refNew_ok k hk (tabs_below hT hb2) (hR.same (.of_below hb2 hU)) (Nat.le_trans hU hb2.size) hn hnc hcm hA hb).mono ?_
    rintro e w3 ⟨g, m, hm, rfl, hin, hb3⟩
    exact ⟨_, rfl, ⟨g, m, rfl, hm, hin⟩, hb3⟩
  · rintro w1 w2 w3 p q ⟨g, m, rfl, _⟩ ⟨g', m', rfl, _⟩
    rfl
  · rintro e w' ⟨w1, w2, w3, p, q, row, ⟨g, m, rfl, hm, hin⟩, ⟨g', m', rfl, hm', href⟩, rfl, hg, hrow, h1, hb2, hb3, hbe⟩
    obtain rfl := hm.unique hm'
    have h2 := hb2.size
    have h3 := hb3.size
    have h4 := hg.size
    refine ⟨g, g', m, w1.heap.size, w2.heap.size, w2.heap.size, w3.heap.size, hm, rfl, h1, h2, by omega, h4, ?_, ?_, ?_⟩
    · exact hin.same ((Same.of_below hb3 (Nat.le_refl _)).trans (Same.of_grown hg h3 fun k hk => .inl (hrow k hk).2))
    · exact href.same (Same.of_grown hg (Nat.le_refl _) fun k hk => .inl (by have := (hrow k hk).2; omega))
    · exact hbe.grown hg hbe.size fun k hk => (hrow k hk).1

theorem both_no {w : World} {lo U : Nat} {A : Option Addr} {n c : Nat} {s : ByteArray} (k : Int) (hR : Rd w lo U A (byteVals s.data.toList)) (hU : U ≤ w.heap.size) (hn : s.size = n) (hnc : n ≤ c) (hcm : c ≤ maxLen) (hA : A = none → n = 0) (hb : n ≤ 140737488351232)
    (hno : (k < 1 ∨ 3 < k) ∨ 65536 < n) :
    Calls Tryd.prog 11 #[.int .i64 k, .slice A n c] w fun e w' => e = .returned (.tuple #[.pointer none, .pointer none, .bool true]) ∧ Below w.heap.size w w' := by
  have hm : n ≤ maxLen := by omega
  have post : ∀ e w', BothCore w (fun _ _ p => p = none) (fun _ _ p => p = none) e w' → e = .returned (.tuple #[.pointer none, .pointer none, .bool true]) ∧ Below w.heap.size w w' := by
    rintro e w' ⟨w1, w2, w3, p, q, row, rfl, rfl, rfl, hg, hrow, h1, hb2, hb3, hbe⟩
    exact ⟨rfl, hbe.grown hg hbe.size fun k hk => (hrow k hk).1⟩
  by_cases hk : k < 1 ∨ 3 < k
  · refine (both_core k 1 (fun _ _ p => p = none) (fun _ _ p => p = none) hR hU hn hA hb ?_ ?_ ?_).mono post
    · intro w1 A1 c1 hb1 hR1 hA1 h1 h2
      refine (new_arg k A1 n c1 w1 hk).mono ?_
      rintro e w2 ⟨rfl, rfl⟩
      exact ⟨_, rfl, rfl, Below.refl _ _⟩
    · intro w2 hb2
      refine (refNew_arg k A n c w2 hk).mono ?_
      rintro e w2 ⟨rfl, rfl⟩
      exact ⟨_, rfl, rfl, Below.refl _ _⟩
    · rintro w1 w2 w3 p q rfl rfl
      rfl
  · have h65 : 65536 < n := hno.resolve_left hk
    refine (both_core k 2 (fun _ _ p => p = none) (fun _ _ p => p = none) hR hU hn hA hb ?_ ?_ ?_).mono post
    · intro w1 A1 c1 hb1 hR1 hA1 h1 h2
      refine (new_many k A1 n c1 w1 (by omega) h65 hm).mono ?_
      rintro e w2 ⟨rfl, rfl⟩
      exact ⟨_, rfl, rfl, Below.refl _ _⟩
    · intro w2 hb2
      refine (refNew_many k A n c w2 (by omega) h65 hm).mono ?_
      rintro e w2 ⟨rfl, rfl⟩
      exact ⟨_, rfl, rfl, Below.refl _ _⟩
    · rintro w1 w2 w3 p q rfl rfl
      rfl
end Go.Proofs.YtkiljhlbeffnfaaDoor
