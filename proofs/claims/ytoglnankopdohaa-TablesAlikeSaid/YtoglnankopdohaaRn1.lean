/- Lists of runes in memory: Contains, Orbit's add. -/
import Derived.Test.YtoglnankopdohaaOrb
import Derived.Laws.Cover3
namespace Go.Proofs.Ytoglnankopdohaa
open Go.RowKit

def i32s (l : List Int) : List Value := l.map (Value.int .i32)
theorem i32s_at {l : List Int} {k : Nat} {x : Int} (h : l[k]? = some x) : (i32s l)[k]? = some (.int .i32 x) := by simp [i32s, h]
theorem i32s_length (l : List Int) : (i32s l).length = l.length := by simp [i32s]
theorem i32s_append (a b : List Int) : i32s (a ++ b) = i32s a ++ i32s b := by simp [i32s]
theorem i32s_one (l : List Int) : ∀ u ∈ i32s l, u.oneCell' = true := by
  intro u hu
  obtain ⟨x, _, rfl⟩ := List.mem_map.1 hu
  rfl
/-- A list of runes that lies in memory. -/
structure RnIn (w : World) (A : Option Addr) (n c : Nat) (l : List Int) : Prop where
  rd : Rd w 0 w.heap.size A (i32s l)
  len : l.length = n
  le : n ≤ c
  max : c ≤ maxLen
  nil : A = none → n = 0
theorem RnIn.below {w w' : World} {A : Option Addr} {n c : Nat} {l : List Int} (h : RnIn w A n c l) (hb : Below w.heap.size w w') : RnIn w' A n c l :=
  ⟨(h.rd.same (.of_below hb (Nat.le_refl _))).mono (Nat.le_refl _) hb.size, h.len, h.le, h.max, h.nil⟩
theorem RnIn.drewN {w : World} {A : Option Addr} {n c : Nat} {l : List Int} (h : RnIn w A n c l) (d : Nat) : RnIn (w.drewN d) A n c l := h.below (Below.refl _ _).drewN
theorem RnIn.empty (w : World) : RnIn w none 0 0 [] := ⟨Rd.nil, rfl, Nat.le_refl _, Nat.zero_le _, fun _ => rfl⟩
theorem RnIn.of_own {w : World} {base : Nat} {B : Option Addr} {m d : Nat} {s : List Int} (h : w.ownsRow base 21 1 (.slice B m d) m (i32s s)) (hs : s.length = m) : RnIn w B m d s := by
  obtain ⟨B', d', he, h1, h2⟩ := own_form h
  injection he with e1 _ e2
  subst e1; subst e2
  have hR : Rd w 0 w.heap.size B (i32s s) := Rd.of_own h (Nat.zero_le _) (Nat.le_refl _)
  refine ⟨hR, hs, h1, h2, fun hB => ?_⟩
  rcases Nat.eq_zero_or_pos m with h0 | h0
  · exact h0
  · obtain ⟨_, _, h3, _⟩ := hR (by rw [i32s_length]; omega)
    rw [h3] at hB; cases hB
theorem RnIn.at {w : World} {A : Option Addr} {n c : Nat} {l : List Int} (h : RnIn w A n c l) {k : Nat} (hk : k < n) :
    ∃ b o x, A = some ⟨b, o, none⟩ ∧ b < w.heap.size ∧ l[k]? = some x ∧ (∀ W, Same 0 w.heap.size w W → W.cell? ⟨b, o + k, none⟩ = some (.int .i32 x)) := by
  obtain ⟨b, o, hA, _, hb, hc⟩ := h.rd (by rw [i32s_length, h.len]; omega)
  have hk' : k < l.length := by rw [h.len]; exact hk
  have hp : l[k]? = some l[k] := List.getElem?_eq_getElem hk'
  exact ⟨b, o, l[k], hA, hb, hp, fun W hW => (hW.cell (p := ⟨b, o + k, none⟩) (Nat.zero_le _) hb).trans (hc _ _ (i32s_at hp))⟩

set_option maxHeartbeats 1000000 in
theorem index_any {w : World} {A : Option Addr} {n c : Nat} {l : List Int} (hA : RnIn w A n c l) (x : Int) :
    Calls Try.prog 78 #[.slice A n c, .int .i32 x] w fun e w' => ∃ r : Int, e = .returned (.int .i64 r) ∧ (0 ≤ r ↔ x ∈ l) ∧ w = w' := by
  have h1 := hA.max
  have h2 := hA.le
  unfold maxLen at h1
  have hnc : (n : Int) ≤ 9223372036854775807 := by omega
  have HA := Lib.hid hA
  clear hA h1 h2
  go_enter Try.func78, Try.ntmps78
  go_wp2_with fail
  go_loopg [8] (n + 1) (fun q i wr => ∃ (j : Nat), q = n + 1 - j ∧ j ≤ n ∧ i = .int .i64 (j : Int) ∧ w = wr ∧ Hid (∀ k, k < j → l[k]? ≠ some x))
  case atStart => exact ⟨0, rfl, by omega, rfl, rfl, Lib.hid (by intro k hk; omega)⟩
  case round =>
    obtain ⟨j, hgk, hj, rfl, rfl, HR⟩ := hrel
    have HG := Lib.hid hgk
    clear hgk
    by_cases hlt : j < n
    · obtain ⟨b, o, y, rfl, hb, hp, hc⟩ := HA.out.at hlt
      have c1 := hc w (Same.refl _ _ _)
      have hi : (j : Int) < (n : Int) := by omega
      have HP := Lib.hid hp
      have HLT := Lib.hid hlt
      clear hc hb hp hlt
      by_cases hxy : x = y
      · have hb : (x == y) = true := beq_iff_eq.2 hxy
        have hyes : (0 : Int) ≤ (j : Int) ↔ x ∈ l := ⟨fun _ => by rw [hxy]; exact List.mem_of_getElem? HP.out, fun _ => by omega⟩
        have HY := Lib.hid hyes
        clear hxy hyes HA HR
        go_wp2_with fail
        go_ret
        exact ⟨_, rfl, HY.out, rfl⟩
      · have hb : (x == y) = false := beq_eq_false_iff_ne.2 hxy
        have HN : Hid (∀ k, k < j + 1 → l[k]? ≠ some x) := Lib.hid fun k hk hr => by
          rcases Nat.lt_succ_iff_lt_or_eq.1 hk with h | h
          · exact HR.out k h hr
          · subst h; rw [HP.out] at hr; injection hr with hr; exact hxy hr.symm
        clear hxy HA HR
        go_wp2_with fail
        go_roundg (n + 1 - (j + 1))
        case measure => have := HG.out; have := HLT.out; omega
        case rel => exact ⟨j + 1, rfl, by have := HLT.out; omega, by go_num, rfl, HN⟩
    · have hi : ¬ (j : Int) < (n : Int) := by omega
      have hno : ¬ x ∈ l := fun hm => by
        obtain ⟨k, hk, rfl⟩ := List.getElem_of_mem hm
        exact HR.out k (by have := HA.out.len; omega) (List.getElem?_eq_getElem hk)
      have HY := Lib.hid hno
      clear hno hlt HA HR
      go_wp2_with fail
      go_ret
      exact ⟨_, rfl, ⟨fun h => by omega, fun h => absurd h HY.out⟩, rfl⟩
set_option maxHeartbeats 1000000 in
theorem contains_any {w : World} {A : Option Addr} {n c : Nat} {l : List Int} (hA : RnIn w A n c l) (x : Int) :
    Calls Try.prog 60 #[.slice A n c, .int .i32 x] w fun e w' => e = .returned (.bool (decide (x ∈ l))) ∧ w = w' := by
  have hx := index_any hA x
  clear hA
  go_enter Try.func60, Try.ntmps60
  go_wp2_with fail
  refine hx.mono ?_
  rintro e w' ⟨r, rfl, hr, hw⟩
  rw [← hw]
  have HR := Lib.hid hr
  clear hx hr hw w'
  go_wp2_with fail
  go_ret
  refine ⟨?_, rfl⟩
  refine congrArg (fun b => Ending.returned (.bool b)) ?_
  exact decide_eq_decide.2 HR.out

/-- Orbit's list, in its box. -/
structure OutAt (base : Nat) (w : World) (g : Nat) (l : List Int) (B : Option Addr) (d : Nat) : Prop where
  blk : Blk w g 31 #[.slice B l.length d]
  own : w.ownsRow base 21 1 (.slice B l.length d) l.length (i32s l)
theorem elRn : ElemOK Try.prog 31 21 1 4 := .mk' (z := .int .i32 0) Try.underlying31 (by kernel_rfl) rfl (by decide)
/-- Other blocks stay. -/
def Kp (g : Nat) (w w' : World) : Prop := ∀ k t cs, Blk w k t cs → t ≠ 21 → k ≠ g → Blk w' k t cs

theorem ownsRow_far {w w' : World} {base : Nat} {e : TypeId} {size n : Nat} {v : Value} {xs : List Value} (h : w.ownsRow base e size v n xs) (hs : ∀ k, v.ownBlock = some k → w'.heap[k]? = w.heap[k]?) : w'.ownsRow base e size v n xs := by
  obtain ⟨h1, h2⟩ := h
  refine ⟨h1, ?_⟩
  rcases h2 with h2 | ⟨g, cap, cur, hv, hg, hh, r⟩
  · exact .inl h2
  · exact .inr ⟨g, cap, cur, hv, hg, (hs g (by rw [hv]; rfl)).trans hh, r⟩

theorem add_store {w W2 : World} {base g : Nat} {l : List Int} {B : Option Addr} {d : Nat} {x : Int} {v' : Value} (o : Obj) (h : OutAt base w g l B d) (hg : base ≤ g) (hs : base ≤ w.heap.size) (hown : W2.ownsRow base 21 1 v' (l.length + 1) (i32s l ++ [.int .i32 x])) (hgr : (w.alloc o).grownBy W2 (Value.slice B l.length d).ownBlock) :
    W2.cell? ⟨g, 0, none⟩ = some (.slice B l.length d) ∧ W2.frozen? ⟨g, 0, none⟩ = false ∧ Hid (∃ B' d', v' = .slice B' (l.length + 1) d' ∧ OutAt base (W2.setCell ⟨g, 0, none⟩ v') g (l ++ [x]) B' d' ∧ Below base w (W2.setCell ⟨g, 0, none⟩ v') ∧ Kp g w (W2.setCell ⟨g, 0, none⟩ v')) := by
  have hne := own_ne_blk h.own h.blk (by decide)
  have hB2 : Blk W2 g 31 #[.slice B l.length d] := (h.blk.alloc o).grown hgr hne
  have hsz : (w.alloc o).heap.size = w.heap.size + 1 := by simp
  have hbw : Below base w W2 := ((Below.refl _ _).alloc hs o).grown hgr (by omega) (own_above h.own)
  have c1 := hB2.cell 0
  simp only [List.getElem?_toArray, List.getElem?_cons_zero] at c1
  refine ⟨c1, hB2.frozen 0, Lib.hid ?_⟩
  obtain ⟨B', d', rfl, _, _⟩ := own_form hown
  refine ⟨B', d', rfl, ⟨?_, ?_⟩, hbw.setCell hg _, ?_⟩
  · have := hB2.set 0 (.slice B' (l.length + 1) d')
    simpa using this
  · have hfar : (W2.setCell ⟨g, 0, none⟩ (.slice B' (l.length + 1) d')).ownsRow base 21 1 (.slice B' (l.length + 1) d') (l.length + 1) (i32s l ++ [.int .i32 x]) := ownsRow_far hown fun k hk => Below.heap_setCell _ _ _ _ (fun e => own_ne_blk hown hB2 (by decide) (by rw [hk, e]))
    rw [i32s_append, List.length_append]
    exact hfar
  · intro k t cs hb ht hk
    have hne2 := own_ne_blk h.own hb (fun e => ht e.symm)
    exact ((hb.alloc o).grown hgr hne2).far hk _
set_option maxRecDepth 20000 in
set_option maxHeartbeats 2000000 in
theorem add_any {w : World} {base g : Nat} {l : List Int} {B : Option Addr} {d : Nat} (h : OutAt base w g l B d) (hl : l.length ≤ 100) (hg : base ≤ g) (hs : base ≤ w.heap.size) (x : Int) :
    Calls Try.prog 59 #[.int .i32 x, .pointer (some ⟨g, 0, none⟩)] w fun e w' => e = .returned (.tuple #[]) ∧ ∃ B' d', OutAt base w' g (addF l x) B' d' ∧ Below base w w' ∧ Kp g w w' := by
  have c1 := h.blk.cell 0
  simp only [List.getElem?_toArray, List.getElem?_cons_zero] at c1
  have hcon := contains_any (RnIn.of_own h.own rfl) x
  by_cases hx : x ∈ l
  · rw [decide_eq_true hx] at hcon
    have he : addF l x = l := by unfold addF; rw [if_pos hx]
    rw [he]
    have HH := Lib.hid h
    clear h he hx
    go_enter Try.func59, Try.ntmps59
    go_wp2_with fail
    refine hcon.mono ?_
    rintro e w' ⟨rfl, hw⟩
    rw [← hw]
    clear hcon hw w'
    go_wp2_with fail
    refine bodyPost_end (results_none (by rfl) _ _ _) (by rfl) ?_
    exact ⟨rfl, _, _, HH.out, Below.refl _ _, fun _ _ _ hb _ _ => hb⟩
  · rw [decide_eq_false hx] at hcon
    have he : addF l x = l ++ [x] := by unfold addF; rw [if_neg hx]
    rw [he]
    have hown := h.own
    have HH := Lib.hid h
    clear h he hx
    go_enter Try.func59, Try.ntmps59
    go_wp2_with fail
    refine hcon.mono ?_
    rintro e w' ⟨rfl, hw⟩
    rw [← hw]
    clear hcon hw w'
    go_wp2_with (at_builtin; refine wpList_app _ rfl _ _ 31 rfl base 21 elRn _ _ _ rfl (hown.alloc _) 0 (w.heap.size + 1) _ 1 1 [.int .i32 x] rfl (fun h => by cases h) rfl (Rd.new w _ _ _ (Nat.zero_le _) (by omega)) (by simp [Value.oneCell']) (by unfold maxLen; omega) (by omega) (by simp; omega) ?_; intro v2 V2 hv2 hg2 _ _; obtain ⟨c2, f2, HX⟩ := add_store _ HH.out hg hs hv2 hg2; obtain ⟨B3, d3, rfl, hd3, hd3q⟩ := own_form hv2; clear hv2 hg2)
    refine bodyPost_end (results_none (by rfl) _ _ _) (by rfl) ?_
    obtain ⟨B', d', _, h1, h2, h3⟩ := HX.out
    exact ⟨rfl, B', d', h1, h2, h3⟩
end Go.Proofs.Ytoglnankopdohaa
