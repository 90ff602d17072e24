/- Threads: a list of the machine in memory. -/
import Derived.Test.YtbhcgjahlfpjoaaDoorTm1
import Derived.Test.YtbhcgjahlfpjoaaDoorTm2
import Derived.Test.YtbhcgjahlfpjoaaDoorThA
namespace Go.Proofs.YtbhcgjahlfpjoaaDoor
open Go.RowKit

/-- A fit that lies in memory, outside Z. -/
def FitIn (W : World) (Z : Nat → Prop) (v : Value) (f : List Int) : Prop :=
  ∃ b o cc, v = .slice (some ⟨b, o, none⟩) f.length cc ∧ f.length ≤ cc ∧ cc ≤ maxLen ∧ b < W.heap.size ∧ ¬ Z b ∧ ∀ (j : Nat) (x : Int), f[j]? = some x → W.cell? ⟨b, o + j, none⟩ = some (.int .i64 x)
theorem FitIn.frm {W W' : World} {S Z Z' : Nat → Prop} {v : Value} {f : List Int} (h : FitIn W Z v f) (hf : Frm S W W') (hS : ∀ k, S k → Z k) (hZ : ∀ k, Z' k → Z k ∨ W.heap.size ≤ k) : FitIn W' Z' v f := by
  obtain ⟨b, o, cc, e, h1, h2, hb, hz, hc⟩ := h
  refine ⟨b, o, cc, e, h1, h2, Nat.lt_of_lt_of_le hb hf.size, fun h3 => ?_, fun j x hx => ?_⟩
  · rcases hZ b h3 with h4 | h4
    · exact hz h4
    · omega
  · exact (World.cell?_of_block (a := ⟨b, o + j, none⟩) (hf.block b hb fun h3 => hz (hS b h3))).trans (hc j x hx)
theorem FitIn.il {W : World} {Z : Nat → Prop} {A : Option Addr} {n c : Nat} {f : List Int} (h : FitIn W Z (.slice A n c) f) : IlIn W A n c f := by
  obtain ⟨b, o, cc, e, h1, h2, hb, _, hc⟩ := h
  injection e with e1 e2 e3
  subst e1; subst e2; subst e3
  refine ⟨fun _ => ⟨b, o, rfl, Nat.zero_le _, hb, fun j u hu => ?_⟩, rfl, h1, h2, fun h => by cases h⟩
  simp only [i64s, List.getElem?_map, Option.map_eq_some_iff] at hu
  obtain ⟨x, hx, rfl⟩ := hu
  exact hc j x hx
theorem FitIn.mono {W : World} {Z Z' : Nat → Prop} {v : Value} {f : List Int} (h : FitIn W Z v f) (hZ : ∀ k, Z' k → Z k ∨ W.heap.size ≤ k) : FitIn W Z' v f := h.frm (Frm.refl (fun _ => False) W) (fun _ h => h.elim) hZ

def foo3 (A N V : Option Addr) (k : Nat) : Prop := foot (.slice A 0 0) (.slice N 0 0) (.slice V 0 0) k
theorem ownBlock_sl (A : Option Addr) (a b : Nat) : (Value.slice A a b).ownBlock = (Value.slice A 0 0).ownBlock := by cases A <;> rfl
theorem foo3_iff (A N V : Option Addr) (a b c d e f k : Nat) : foot (.slice A a b) (.slice N c d) (.slice V e f) k ↔ foo3 A N V k := by
  unfold foo3 foot
  rw [ownBlock_sl A a b, ownBlock_sl N c d, ownBlock_sl V e f]
/-- What is written of a list; what no fit lies in. -/
def Sl (g : Nat) (A N V : Option Addr) (k : Nat) : Prop := k = g ∨ foo3 A N V k
def Zl (Y : Nat → Prop) (A N V : Option Addr) (k : Nat) : Prop := Y k ∨ foo3 A N V k

/-- A list of the machine, at the cells o, o + 1, o + 2 of its block g. -/
structure LsIn (b0 : Nat) (W : World) (Y : Nat → Prop) (g o n : Nat) (cells : Array Value) (X : List Th) (A : Option Addr) (na ca : Nat) (N : Option Addr) (kc : Nat) (V : Option Addr) (vc : Nat) (qs : List Int) (vs : List Value) : Prop where
  rows : RowsM b0 (Sl g A N V) W W g cells (.slice A na ca) (.slice N X.length kc) (.slice V X.length vc) (i64s qs) (i64s (X.map Prod.fst)) vs
  c0 : cells[o]? = some (.slice A na ca)
  c1 : cells[o + 1]? = some (.slice N X.length kc)
  c2 : cells[o + 2]? = some (.slice V X.length vc)
  vl : vs.length = X.length
  big : n ≤ na
  pos : ∀ a ∈ qs, 0 ≤ a
  at_ : ∀ (i : Nat) (t : Th), X[i]? = some t → qs[t.1.toNat]? = some (i : Int)
  pcs : ∀ t ∈ X, 0 ≤ t.1 ∧ t.1 < (n : Int)
  fits : ∀ (i : Nat) (t : Th), X[i]? = some t → ∃ v, vs[i]? = some v ∧ FitIn W (Zl Y A N V) v t.2
  yg : Y g
  ylt : ∀ k, Y k → k < W.heap.size
  sepY : ∀ k, foo3 A N V k → ¬ Y k
section
variable {b0 : Nat} {W W' : World} {Y : Nat → Prop} {g o n : Nat} {cells cells' : Array Value} {X X' : List Th} {A N V A' N' V' : Option Addr} {na ca kc vc na' ca' kc' vc' : Nat} {qs qs' : List Int} {vs vs' : List Value}
theorem RowsM.flen {S : Nat → Prop} {w : World} {va vn vv : Value} {ats nums : List Value} (h : RowsM b0 S w W g cells va vn vv ats nums vs) : (∃ A c, va = .slice A ats.length c) ∧ (∃ A c, vn = .slice A nums.length c) ∧ (∃ A c, vv = .slice A vs.length c) := by
  obtain ⟨A, c, h1, _⟩ := own_form h.oa
  obtain ⟨B, d, h2, _⟩ := own_form h.on
  obtain ⟨C, e, h3, _⟩ := own_form h.ov
  exact ⟨⟨A, c, h1⟩, ⟨B, d, h2⟩, ⟨C, e, h3⟩⟩
theorem LsIn.al (h : LsIn b0 W Y g o n cells X A na ca N kc V vc qs vs) : qs.length = na := by
  obtain ⟨⟨B, c, h1⟩, _⟩ := h.rows.flen
  injection h1 with _ h1 _
  rw [h1, i64s_length]
theorem LsIn.ilA (h : LsIn b0 W Y g o n cells X A na ca N kc V vc qs vs) : IlIn W A na ca qs := by
  have h1 := h.rows.oa
  rw [i64s_length, h.al] at h1
  exact IlIn.of_own h1 h.al
theorem LsIn.ilN (h : LsIn b0 W Y g o n cells X A na ca N kc V vc qs vs) : IlIn W N X.length kc (X.map Prod.fst) := by
  have h1 := h.rows.on
  rw [i64s_length, List.length_map] at h1
  exact IlIn.of_own h1 (by simp)
/-- Something is written in the list's rows and the machine. -/
theorem LsIn.step {n' : Nat} (h : LsIn b0 W Y g o n cells X A na ca N kc V vc qs vs)
    (r : RowsM b0 (Sl g A N V) W W' g cells' (.slice A' na' ca') (.slice N' X'.length kc') (.slice V' X'.length vc') (i64s qs') (i64s (X'.map Prod.fst)) vs')
    (c0 : cells'[o]? = some (.slice A' na' ca')) (c1 : cells'[o + 1]? = some (.slice N' X'.length kc')) (c2 : cells'[o + 2]? = some (.slice V' X'.length vc')) (vl : vs'.length = X'.length)
    (big : n' ≤ na') (pos : ∀ a ∈ qs', 0 ≤ a) (at_ : ∀ (i : Nat) (t : Th), X'[i]? = some t → qs'[t.1.toNat]? = some (i : Int)) (pcs : ∀ t ∈ X', 0 ≤ t.1 ∧ t.1 < (n' : Int))
    (fits : ∀ (i : Nat) (t : Th), X'[i]? = some t → ∃ v, vs'[i]? = some v ∧ FitIn W (Zl Y A N V) v t.2) :
    LsIn b0 W' Y g o n' cells' X' A' na' ca' N' kc' V' vc' qs' vs' ∧ Frm (Sl g A N V) W W' ∧ ∀ k, foo3 A' N' V' k → foo3 A N V k ∨ W.heap.size ≤ k := by
  have hft : ∀ k, foo3 A' N' V' k → foo3 A N V k ∨ W.heap.size ≤ k := fun k hk => by
    rcases r.ft k ((foo3_iff ..).2 hk) with h1 | h1
    · rcases h1 with h1 | h1
      · left
        have hne : ¬ foot (.slice A' na' ca') (.slice N' X'.length kc') (.slice V' X'.length vc') g := by
          rintro (h2 | h2 | h2)
          · exact own_ne_blk r.oa r.box (by decide) h2
          · exact own_ne_blk r.on r.box (by decide) h2
          · exact own_ne_blk r.ov r.box (by decide) h2
        subst h1
        exact absurd ((foo3_iff ..).2 hk) hne
      · exact .inl h1
    · exact .inr h1
  refine ⟨⟨⟨Frm.refl _ _, r.box, r.oa, r.on, r.ov, r.san, fun k hk => .inl (.inr ((foo3_iff ..).1 hk)), .inl rfl⟩, c0, c1, c2, vl, big, pos, at_, pcs, fun i t hi => ?_, h.yg, fun k hk => Nat.lt_of_lt_of_le (h.ylt k hk) r.frm.size, fun k hk hy => ?_⟩, r.frm, hft⟩
  · obtain ⟨v, hv, hf⟩ := fits i t hi
    refine ⟨v, hv, hf.frm r.frm (fun k hk => ?_) (fun k hk => ?_)⟩
    · rcases hk with rfl | hk
      · exact .inl h.yg
      · exact .inr hk
    · rcases hk with hk | hk
      · exact .inl (.inl hk)
      · rcases hft k hk with h1 | h1
        · exact .inl (.inr h1)
        · exact .inr h1
  · rcases hft k hk with h1 | h1
    · exact h.sepY k h1 hy
    · have := h.ylt k hy; omega
theorem LsIn.alloc (h : LsIn b0 W Y g o n cells X A na ca N kc V vc qs vs) (ob : Obj) : LsIn b0 (W.alloc ob) Y g o n cells X A na ca N kc V vc qs vs :=
  (h.step (h.rows.alloc ob) h.c0 h.c1 h.c2 h.vl h.big h.pos h.at_ h.pcs h.fits).1
theorem LsIn.drewN (h : LsIn b0 W Y g o n cells X A na ca N kc V vc qs vs) (d : Nat) : LsIn b0 (W.drewN d) Y g o n cells X A na ca N kc V vc qs vs :=
  (h.step ⟨h.rows.frm.drewN d, h.rows.box.drewN d, h.rows.oa, h.rows.on, h.rows.ov, h.rows.san, h.rows.ft, h.rows.hg⟩ h.c0 h.c1 h.c2 h.vl h.big h.pos h.at_ h.pcs h.fits).1
theorem LsIn.setG (h : LsIn b0 W Y g o n cells X A na ca N kc V vc qs vs) (i : Nat) (u : Value) (h0 : i ≠ o) (h1 : i ≠ o + 1) (h2 : i ≠ o + 2) : LsIn b0 (W.setCell ⟨g, i, none⟩ u) Y g o n (cells.setIfInBounds i u) X A na ca N kc V vc qs vs :=
  (h.step (h.rows.setG i u) (by rw [Array.getElem?_setIfInBounds_ne (by omega)]; exact h.c0) (by rw [Array.getElem?_setIfInBounds_ne (by omega)]; exact h.c1) (by rw [Array.getElem?_setIfInBounds_ne (by omega)]; exact h.c2) h.vl h.big h.pos h.at_ h.pcs h.fits).1
/-- What lies elsewhere is written. -/
theorem LsIn.move {S : Nat → Prop} (h : LsIn b0 W Y g o n cells X A na ca N kc V vc qs vs) (hf : Frm S W W') (hS : ∀ k, S k → Y k ∧ k ≠ g) (hfit : ∀ (i : Nat) (t : Th), X[i]? = some t → ∃ v, vs[i]? = some v ∧ FitIn W' (Zl Y A N V) v t.2) : LsIn b0 W' Y g o n cells X A na ca N kc V vc qs vs := by
  have hne : ∀ k, foo3 A N V k → ¬ S k := fun k hk hs => h.sepY k hk (hS k hs).1
  have own : ∀ {e : TypeId} {v : Value} {m : Nat} {xs : List Value}, W.ownsRow b0 e 1 v m xs → (∀ k, v.ownBlock = some k → foo3 A N V k) → W'.ownsRow b0 e 1 v m xs := fun ho hv => hf.own ho fun k hk => hne k (hv k hk)
  refine ⟨⟨Frm.refl _ _, hf.blk h.rows.box (fun hs => (hS g hs).2 rfl), own h.rows.oa fun k hk => (foo3_iff A N V na ca X.length kc X.length vc k).1 (.inl hk), own h.rows.on fun k hk => (foo3_iff A N V na ca X.length kc X.length vc k).1 (.inr (.inl hk)), own h.rows.ov fun k hk => (foo3_iff A N V na ca X.length kc X.length vc k).1 (.inr (.inr hk)), h.rows.san, fun k hk => .inl (.inr ((foo3_iff ..).1 hk)), h.rows.hg⟩, h.c0, h.c1, h.c2, h.vl, h.big, h.pos, h.at_, h.pcs, hfit, h.yg, fun k hk => Nat.lt_of_lt_of_le (h.ylt k hk) hf.size, h.sepY⟩
theorem LsIn.has (h : LsIn b0 W Y g o n cells X A na ca N kc V vc qs vs) {pc : Nat} (hpc : pc < n) :
    Calls Tryd.prog 46 #[.pointer (some ⟨g, o, none⟩), .int .i64 (pc : Int)] W fun e w' => e = .returned (.bool (inT X (pc : Int))) ∧ ∃ d, w' = W.drewN d := by
  have hlt : pc < qs.length := by rw [h.al]; have := h.big; omega
  have hq : qs[pc]? = some qs[pc] := List.getElem?_eq_getElem hlt
  have hp := h.pos _ (List.getElem_mem hlt)
  obtain ⟨q, hqe⟩ : ∃ q : Nat, qs[pc] = (q : Int) := ⟨qs[pc].toNat, by omega⟩
  rw [hqe] at hq
  have key : ((X.map Prod.fst)[q]? == some (pc : Int)) = inT X (pc : Int) := by
    rw [Bool.eq_iff_iff, inT_iff, beq_iff_eq, List.getElem?_map]
    constructor
    · intro h1
      cases hx : X[q]? with
      | none => rw [hx] at h1; cases h1
      | some t =>
        rw [hx] at h1
        injection h1 with h1
        exact ⟨t, List.mem_of_getElem? hx, h1⟩
    · rintro ⟨t, ht, h1⟩
      obtain ⟨i, hi, rfl⟩ := List.getElem_of_mem ht
      have h2 := h.at_ i _ (List.getElem?_eq_getElem hi)
      rw [h1, Int.toNat_natCast, hq] at h2
      injection h2 with h2
      have : q = i := by omega
      subst this
      rw [List.getElem?_eq_getElem hi, Option.map_some, h1]
  have := has17_any ((h.rows.box.cell o).trans h.c0) ((h.rows.box.cell (o + 1)).trans h.c1) h.ilA h.ilN hq (by have := h.big; omega)
  rw [key] at this
  exact this
/-- Another instruction, with its fit. -/
theorem LsIn.add (h : LsIn b0 W Y g o n cells X A na ca N kc V vc qs vs) {pc : Nat} {fv : Value} {f : List Int} (hpc : pc < n) (hX : X.length ≤ 1000000) (hin : inT X (pc : Int) = false) (hf : FitIn W (Zl Y A N V) fv f) :
    Calls Tryd.prog 47 #[.pointer (some ⟨g, o, none⟩), .int .i64 (pc : Int), fv] W fun e W' => e = .returned (.tuple #[]) ∧
      ∃ cells' N' kc' V' vc' qs' vs', LsIn b0 W' Y g o n cells' (X ++ [((pc : Int), f)]) A na ca N' kc' V' vc' qs' vs' ∧ Frm (Sl g A N V) W W' ∧ (∀ k, foo3 A N' V' k → foo3 A N V k ∨ W.heap.size ≤ k) ∧ (∀ i, i ≠ o + 1 → i ≠ o + 2 → cells'[i]? = cells[i]?) := by
  have hb0 : b0 ≤ W.heap.size := by
    have hlt : pc < qs.length := by rw [h.al]; have := h.big; omega
    obtain ⟨gq, cap, hv, hb, hl⟩ := h.rows.oa.form (by rw [i64s_length]; omega)
    omega
  obtain ⟨b, of, cc, rfl, hf1, hf2, hf3⟩ := hf
  have e1 : (i64s (X.map Prod.fst)).length = X.length := by rw [i64s_length, List.length_map]
  have hr := h.rows
  rw [show Value.slice N X.length kc = .slice N (i64s (X.map Prod.fst)).length kc by rw [e1], show Value.slice V X.length vc = .slice V vs.length vc by rw [h.vl]] at hr
  refine (add17_any hr hb0 h.c0 (by rw [e1]; exact h.c1) (by rw [h.vl]; exact h.c2) (pc := pc) (by have := h.big; omega) (by rw [e1]; exact hX) (by rw [e1]; exact h.vl) (F := some ⟨b, of, none⟩) (fn := f.length) (fc := cc)).mono ?_
  rintro e W' ⟨rfl, N', kc', V', vc', hR⟩
  refine ⟨rfl, (cells.setIfInBounds (o + 1) (.slice N' (X.length + 1) kc')).setIfInBounds (o + 2) (.slice V' (X.length + 1) vc'), N', kc', V', vc', qs.set pc (X.length : Int), vs ++ [.slice (some ⟨b, of, none⟩) f.length cc], ?_⟩
  have e2 : (i64s qs).set pc (.int .i64 ((i64s (X.map Prod.fst)).length : Int)) = i64s (qs.set pc (X.length : Int)) := by rw [e1]; simp [i64s, List.map_set]
  have e3 : i64s (X.map Prod.fst) ++ [Value.int .i64 (pc : Int)] = i64s ((X ++ [((pc : Int), f)]).map Prod.fst) := by simp [i64s]
  have e4 : (X ++ [((pc : Int), f)]).length = X.length + 1 := by simp
  rw [e2, e3, e1, h.vl] at hR
  have hs := hR.box
  have hal := h.al
  have hbig := h.big
  have hz1 : o + 1 < cells.size := (Array.getElem?_eq_some_iff.1 h.c1).1
  have hz2 : o + 2 < cells.size := (Array.getElem?_eq_some_iff.1 h.c2).1
  refine and_assoc.1 (and_assoc.1 ⟨and_assoc.2 (h.step (by rw [e4]; exact hR) ?_ ?_ ?_ (by simp [h.vl]) h.big ?_ ?_ ?_ ?_), fun i h1 h2 => ?_⟩)
  · rw [Array.getElem?_setIfInBounds_ne (by omega), Array.getElem?_setIfInBounds_ne (by omega)]; exact h.c0
  · rw [Array.getElem?_setIfInBounds_ne (by omega), Array.getElem?_setIfInBounds_self_of_lt hz1, e4]
  · rw [Array.getElem?_setIfInBounds_self_of_lt (by simpa using hz2), e4]
  · intro a ha
    rcases List.mem_or_eq_of_mem_set ha with h1 | h1
    · exact h.pos a h1
    · omega
  · intro i t hi
    rw [List.getElem?_append] at hi
    split at hi
    · have h2 := h.at_ i t hi
      have hne : pc ≠ t.1.toNat := fun e => by
        have h3 := h.pcs t (List.mem_of_getElem? hi)
        have : inT X (pc : Int) = true := inT_iff.2 ⟨t, List.mem_of_getElem? hi, by omega⟩
        rw [hin] at this; cases this
      rw [List.getElem?_set_ne hne]
      exact h2
    · rename_i hge
      have h0 : i = X.length := by
        have := (List.getElem?_eq_some_iff.1 hi).1
        simp at this; omega
      subst h0
      simp only [Nat.sub_self, List.getElem?_cons_zero, Option.some.injEq] at hi
      subst hi
      rw [Int.toNat_natCast, List.getElem?_set_self (by omega)]
  · intro t ht
    rcases List.mem_append.1 ht with h1 | h1
    · exact h.pcs t h1
    · obtain rfl := List.mem_singleton.1 h1
      simp only; omega
  · intro i t hi
    rw [List.getElem?_append] at hi
    split at hi
    · rename_i hlt
      obtain ⟨v, hv, hf⟩ := h.fits i t hi
      exact ⟨v, by rw [List.getElem?_append_left (by rw [h.vl]; exact hlt)]; exact hv, hf⟩
    · rename_i hge
      have h0 : i = X.length := by
        have := (List.getElem?_eq_some_iff.1 hi).1
        simp at this; omega
      subst h0
      simp only [Nat.sub_self, List.getElem?_cons_zero, Option.some.injEq] at hi
      subst hi
      refine ⟨_, by rw [List.getElem?_append_right (by rw [h.vl]; exact Nat.le_refl _), h.vl, Nat.sub_self]; rfl, b, of, cc, rfl, hf1, hf2, hf3⟩
  · rw [Array.getElem?_setIfInBounds_ne (by omega), Array.getElem?_setIfInBounds_ne (by omega)]
end
end Go.Proofs.YtbhcgjahlfpjoaaDoor
