/- The bytes between two places: program and reference. -/
import Derived.Test.YtkiljhlbeffnfaaDoorIn3
import Derived.Deep.RegionHeld3
import Derived.Deep.AppendLies
namespace Go.Proofs.YtkiljhlbeffnfaaDoor
open Go.RowKit

theorem elB : ElemOK Tryd.prog 23 5 1 1 := .mk' (z := .int .u8 0) Tryd.underlying23 (by kernel_rfl) rfl (by decide)
theorem byteVals_one (s : List UInt8) : ∀ u ∈ byteVals s, u.oneCell' = true := by
  intro u hu
  obtain ⟨_, _, rfl⟩ := List.mem_map.1 hu
  rfl
theorem byteVals_length (s : List UInt8) : (byteVals s).length = s.length := by simp [byteVals]

theorem cloneB_any {w : World} {lo U : Nat} {A : Option Addr} {n c : Nat} {s : List UInt8} (hR : Rd w lo U A (byteVals s)) (hl : s.length = n) (hA : A = none → n = 0) (hbig : n ≤ 140737488355328) :
    Calls Tryd.prog 31 #[.slice A n c] w fun e w' => ∃ v, e = .returned v ∧ w'.ownsRow w.heap.size 5 1 v n (byteVals s) ∧ Below w.heap.size w w' := by
  have q := fun (w : World) (a : Option Addr) (n c n' c' : Nat) => Lib.run_eql_slice_nil (P := Tryd.prog) w _ _ a n c n' c' Tryd.underlying23
  have hm : n ≤ maxLen := by unfold maxLen; omega
  cases hA' : A with
  | none =>
    obtain rfl : n = 0 := hA hA'
    obtain rfl : s = [] := List.eq_nil_of_length_eq_zero hl
    subst hA'
    clear hR hA
    go_enter Tryd.func31, Tryd.ntmps31
    go_wp2
    go_ret
    exact ⟨_, rfl, World.ownsRow_nil _ _ _ _, Below.refl _ _⟩
  | some ad =>
    rw [← hA']
    have hno : A.isNone = false := by rw [hA']; rfl
    have hA2 : A = none → n = 0 := hA
    clear hA' hA
    have hown := World.ownsRow_made (base := w.heap.size) (size := 1) (e := 5) w #[] 0 (Nat.le_refl _) (Nat.zero_le _) rfl
    have hl1 : (byteVals s).length = n * 1 := by rw [byteVals_length]; omega
    have h1 := byteVals_one s
    by_cases h0 : n = 0
    · subst h0
      obtain rfl : s = [] := List.eq_nil_of_length_eq_zero hl
      clear hR hl
      go_enter Tryd.func31, Tryd.ntmps31
      go_wp2_with (at_builtin; refine wpList_app _ rfl _ _ 23 rfl w.heap.size 5 elB _ _ _ rfl hown 0 0 A 0 c [] rfl (fun _ => rfl) rfl Rd.nil (by simp) (by omega) (by omega) (by simp) ?_; intro v w1 hown1 hg hb hn)
      go_wp2
      go_ret
      exact ⟨_, rfl, hown1, ((Below.refl _ _).alloc (Nat.le_refl _) _).grown hg (by simp) (fun k hk => (hown.lt k hk).1)⟩
    · have hR2 : Rd (w.alloc (.cells #[] 5)) 0 w.heap.size A (byteVals s) := fun hp => by
        obtain ⟨b, off, hA, h1, h2, hc⟩ := hR hp
        have hb : b < w.heap.size := by
          have hs : 0 < s.length := by omega
          have := hc 0 (.int .u8 s[0].toNat) (by simp [byteVals, List.getElem?_eq_getElem hs])
          exact World.block_lt_of_cell? w _ this
        exact ⟨b, off, hA, Nat.zero_le _, hb, fun j u hu => (World.cell?_alloc_past _ _ _ hb).trans (hc j u hu)⟩
      clear hR hl
      go_enter Tryd.func31, Tryd.ntmps31
      go_wp2_with (at_builtin; refine wpList_app _ rfl _ _ 23 rfl w.heap.size 5 elB _ _ _ rfl hown 0 w.heap.size A n c (byteVals s) rfl hA2 hl1 hR2 h1 (by omega) (by omega) (by simp) ?_; intro v w1 hown1 hg hb hn)
      go_wp2
      go_ret
      simp only [Nat.zero_add, List.nil_append] at hown1
      exact ⟨_, rfl, hown1, ((Below.refl _ _).alloc (Nat.le_refl _) _).grown hg (by simp) (fun k hk => (hown.lt k hk).1)⟩

/-- The bytes between two places. -/
def bytesOf (l : List (Int × Nat)) (s : List UInt8) (i j : Int) : List UInt8 :=
  if i < 0 ∨ j < i ∨ (l.length : Int) ≤ j then [] else (s.take (offAt l j).toNat).drop (offAt l i).toNat

/-- The places do not fall, and end within the text. -/
def Fits (l : List (Int × Nat)) (n : Nat) : Prop := (∀ i j : Int, 0 ≤ i → i ≤ j → j < l.length → 0 ≤ offAt l i ∧ offAt l i ≤ offAt l j) ∧ ∀ j : Int, 0 ≤ j → j < l.length → offAt l j ≤ n

theorem offAt_get {l : List (Int × Nat)} {k : Nat} (h : k < l.length) : ∃ p, l[k]? = some p ∧ offAt l (k : Int) = (p.2 : Int) := by
  refine ⟨l[k], List.getElem?_eq_getElem h, ?_⟩
  simp [offAt, List.getElem?_eq_getElem h, show ¬ ((k : Int) < 0) by omega]
theorem bytesOf_vals (l : List (Int × Nat)) (s : List UInt8) (i j : Int) (h : ¬ (i < 0 ∨ j < i ∨ (l.length : Int) ≤ j)) : byteVals (bytesOf l s i j) = ((byteVals s).take (offAt l j).toNat).drop (offAt l i).toNat := by
  unfold bytesOf; rw [if_neg h]; simp [byteVals, List.map_drop, List.map_take]

set_option maxHeartbeats 400000 in
theorem bytes_any {w : World} {lo U g : Nat} {l : List (Int × Nat)} {s : List UInt8} (h : SymsAt w lo U g l s) (hU : U ≤ w.heap.size) (hf : Fits l s.length) (hbig : s.length ≤ 140737488355328) (i j : Int) :
    Calls Tryd.prog 12 #[.pointer (some ⟨g, 0, none⟩), .int .i64 i, .int .i64 j] w fun e w' => ∃ v, e = .returned v ∧ w'.ownsRow w.heap.size 5 1 v (bytesOf l s i j).length (byteVals (bytesOf l s i j)) ∧ Below w.heap.size w w' := by
  obtain ⟨hlo, hgU, A, c, T, tc, hc, ht, hA, hT, h1, h2, h3, h4⟩ := h
  unfold maxLen at h2 h4
  by_cases hi : i < 0 ∨ j < i ∨ (l.length : Int) ≤ j
  · have e0 : bytesOf l s i j = [] := by unfold bytesOf; rw [if_pos hi]
    rw [e0]
    clear e0 hf hA hT
    have hcs : i < 0 ∨ (¬ i < 0 ∧ j < i) ∨ (¬ i < 0 ∧ ¬ j < i ∧ (l.length : Int) ≤ j) := by omega
    clear hi
    rcases hcs with hi | ⟨hi, hj⟩ | ⟨hi, hj, hk⟩
    all_goals
      go_enter Tryd.func12, Tryd.ntmps12
      go_wp2
      go_ret
      exact ⟨_, rfl, World.ownsRow_nil _ _ _ _, Below.refl _ _⟩
  · have hv := bytesOf_vals l s i j hi
    have hlen : (bytesOf l s i j).length = (offAt l j).toNat - (offAt l i).toNat := by
      have := congrArg List.length hv
      rw [byteVals_length, List.length_drop, List.length_take, byteVals_length] at this
      have := hf.2 j (by omega) (by omega)
      omega
    obtain ⟨x, rfl⟩ := Int.eq_ofNat_of_zero_le (by omega : 0 ≤ i)
    obtain ⟨y, rfl⟩ := Int.eq_ofNat_of_zero_le (by omega : 0 ≤ j)
    obtain ⟨p, hp, hpo⟩ := offAt_get (l := l) (k := x) (by omega)
    obtain ⟨q, hq, hqo⟩ := offAt_get (l := l) (k := y) (by omega)
    have hf1 := (hf.1 x y (by omega) (by omega) (by omega)).2
    have hf2 := hf.2 y (by omega) (by omega)
    rw [hpo, hqo] at hv hf1 hlen
    rw [hqo] at hf2
    clear hpo hqo hf
    simp only [Int.toNat_natCast] at hv hlen
    have hxy : x ≤ y ∧ y < l.length := by omega
    obtain ⟨b, o, rfl, _, hbU, hcell⟩ := hA (by rw [symCells_length]; omega)
    have c1 := hcell _ _ (symCells_at l x p hp).2
    have c2 := hcell _ _ (symCells_at l y q hq).2
    rw [← Nat.add_assoc] at c1 c2
    have hRs : Rd w lo U (if tc = p.2 then T else Option.map (fun x => x.add p.2) T) (byteVals (bytesOf l s x y)) := by
      rw [hv]
      have := (hT.take q.2).cut1 (n := q.2) (k := p.2) (c := tc) (by rw [List.length_take, byteVals_length]; omega) (by omega) (by omega)
      exact this
    have hTn : (if tc = p.2 then T else Option.map (fun x => x.add p.2) T) = none → (bytesOf l s x y).length = 0 := by
      intro h0
      rcases Nat.eq_zero_or_pos (bytesOf l s x y).length with h5 | h5
      · exact h5
      · obtain ⟨b', o', h6, _⟩ := hRs (by rw [byteVals_length]; exact h5)
        rw [h6] at h0
        cases h0
    have hlen' : q.2 - p.2 = (bytesOf l s x y).length := by rw [hlen]
    generalize hbs : bytesOf l s x y = bs at hRs hTn hlen' ⊢
    generalize hTT : (if tc = p.2 then T else Option.map (fun x => x.add p.2) T) = TT at hRs hTn
    have cC : ∀ w' : World, (∀ k, k < w.heap.size → w'.heap[k]? = w.heap[k]?) → ∀ c', Calls Tryd.prog 31 #[.slice TT bs.length c'] w' fun e w2 => ∃ v, e = .returned v ∧ w2.ownsRow w'.heap.size 5 1 v bs.length (byteVals bs) ∧ Below w'.heap.size w' w2 := fun w' hs c' =>
      cloneB_any (hRs.same (w' := w') (fun k _ hk => hs k (by omega))) rfl hTn (by omega)
    have HB := Lib.hid hbs
    have HT := Lib.hid hTT
    have HL := Lib.hid hlen'
    clear hbs hTT hlen' hRs hTn hlen hv hcell hp hq hA hT
    have i1 : (0 : Int) ≤ (x : Int) := by omega
    have ig : g < w.heap.size := World.block_lt_of_cell? w _ hc
    have ib : b < w.heap.size := World.block_lt_of_cell? w _ c1
    have i2 : (x : Int) < (l.length : Int) := by omega
    have i3 : (0 : Int) ≤ (y : Int) := by omega
    have i4 : (y : Int) < (l.length : Int) := by omega
    have i5 : (0 : Int) ≤ (p.2 : Int) := by omega
    have i6 : (0 : Int) ≤ (q.2 : Int) := by omega
    have i7 : (q.2 : Int) ≤ (tc : Int) := by omega
    go_enter Tryd.func12, Tryd.ntmps12
    go_wp2_with fail
    go_region_held3 (fun w' => w'.cell? ⟨g, 0, none⟩ = some (.slice (some ⟨b, o, none⟩) l.length c) ∧ w'.cell? ⟨g, 1, none⟩ = some (.slice T s.length tc) ∧ w'.cell? ⟨b, o + x * 2 + 1, none⟩ = some (.int .i64 (p.2 : Int)) ∧ w'.cell? ⟨b, o + y * 2 + 1, none⟩ = some (.int .i64 (q.2 : Int)))
      (first | exact ⟨(hb.cell (p := ⟨g, _, none⟩) ig).trans hc, (hb.cell (p := ⟨g, _, none⟩) ig).trans ht, (hb.cell (p := ⟨b, _, none⟩) ib).trans c1, (hb.cell (p := ⟨b, _, none⟩) ib).trans c2⟩ | go_keep)
      (first | (go_at_call 31; rw [HT.out, HL.out]; refine (cC _ ?_ _).mono ?_; exact (fun _ _ => rfl); rintro e w1 ⟨v, rfl, hown, hb'⟩; have hb := hb'.undrew; clear hb'))
    go_wp2
    go_ret
    exact ⟨_, rfl, hown, hb⟩
end Go.Proofs.YtkiljhlbeffnfaaDoor
