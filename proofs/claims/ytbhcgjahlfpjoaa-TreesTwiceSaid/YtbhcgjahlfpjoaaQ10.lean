/- Which trees are right: plain; a set of names in memory. -/
import Derived.Test.YtbhcgjahlfpjoaaQ9
import Derived.Test.YtbhcgjahlfpjoaaQ3
import Derived.Maps.OwnIn
import Derived.Maps.Views
import Derived.StringKeys
namespace Go.Proofs.Ytbhcgjahlfpjoaa
open Go.RowKit

/-- The groups among parts. -/
def grp (l : List Tr) : List Tr := l.filter fun p => decide (p.op = 6)
theorem grp_app (a b : List Tr) : grp (a ++ b) = grp a ++ grp b := List.filter_append ..
theorem grp_one (p : Tr) : grp [p] = if p.op = 6 then [p] else [] := by unfold grp; by_cases h : p.op = 6 <;> simp [h]
theorem grp_len (l : List Tr) : (grp l).length ≤ l.length := List.length_filter_le ..
/-- Are groups numbered as they begin, and have no two one name? -/
def CapsOK (g : List Tr) : Prop := ∀ (i : Nat) (x : Tr), g[i]? = some x → x.cap = (i : Int) + 1 ∧ (x.name ≠ ⟨#[]⟩ → x.name ∉ (g.take i).map Tr.name)
theorem CapsOK.nil : CapsOK [] := fun i x h => by simp at h
theorem CapsOK.snoc {g : List Tr} {x : Tr} : CapsOK (g ++ [x]) ↔ CapsOK g ∧ x.cap = (g.length : Int) + 1 ∧ (x.name ≠ ⟨#[]⟩ → x.name ∉ g.map Tr.name) := by
  constructor
  · intro h
    refine ⟨fun i y hy => ?_, ?_⟩
    · have hlt := (List.getElem?_eq_some_iff.1 hy).1
      have := h i y (by rw [List.getElem?_append_left hlt]; exact hy)
      rwa [List.take_append_of_le_length (by omega)] at this
    · have := h g.length x (by simp)
      rwa [List.take_append_of_le_length (Nat.le_refl _), List.take_length] at this
  · rintro ⟨h, h1, h2⟩ i y hy
    rcases Nat.lt_or_ge i g.length with hlt | hge
    · rw [List.getElem?_append_left hlt] at hy
      rw [List.take_append_of_le_length (by omega)]
      exact h i y hy
    · have hi : i = g.length := by
        have := (List.getElem?_eq_some_iff.1 hy).1
        simp at this
        omega
      subst hi
      simp at hy
      subst hy
      rw [List.take_append_of_le_length (Nat.le_refl _), List.take_length]
      exact ⟨h1, h2⟩
theorem CapsOK.left {a b : List Tr} (h : CapsOK (a ++ b)) : CapsOK a := fun i y hy => by
  have hlt := (List.getElem?_eq_some_iff.1 hy).1
  have := h i y (by rw [List.getElem?_append_left hlt]; exact hy)
  rwa [List.take_append_of_le_length (by omega)] at this
/-- Parts as they must be in a right tree. -/
def RightL (l : List Tr) : Prop := (∀ p ∈ l, OkP p) ∧ CapsOK (grp l)
theorem RightL.nil : RightL [] := ⟨fun p h => (by cases h), CapsOK.nil⟩
theorem RightL.left {a b : List Tr} (h : RightL (a ++ b)) : RightL a := ⟨fun p hp => h.1 p (List.mem_append_left _ hp), by have := h.2; rw [grp_app] at this; exact this.left⟩
theorem RightL.snoc {l : List Tr} {x : Tr} : RightL (l ++ [x]) ↔ RightL l ∧ OkP x ∧ (x.op = 6 → x.cap = ((grp l).length : Int) + 1 ∧ (x.name ≠ ⟨#[]⟩ → x.name ∉ (grp l).map Tr.name)) := by
  unfold RightL
  rw [grp_app, grp_one]
  constructor
  · rintro ⟨h1, h2⟩
    refine ⟨⟨fun p hp => h1 p (List.mem_append_left _ hp), h2.left⟩, h1 x (by simp), fun h6 => ?_⟩
    rw [if_pos h6] at h2
    exact (CapsOK.snoc.1 h2).2
  · rintro ⟨⟨h1, h2⟩, h3, h4⟩
    refine ⟨fun p hp => (List.mem_append.1 hp).elim (h1 p) (fun e => by rw [List.mem_singleton] at e; subst e; exact h3), ?_⟩
    by_cases h6 : x.op = 6
    · rw [if_pos h6]; exact CapsOK.snoc.2 ⟨h2, h4 h6⟩
    · rw [if_neg h6, List.append_nil]; exact h2
/-- Is it a tree? -/
def RightP (t : Tr) : Prop := t.depth ≤ 50 ∧ t.weight ≤ 4000 ∧ RightL t.all

/-! ### A set of names -/
def namesD (l : List ByteArray) : DataW Unit := l.foldl (fun D s => D.put (.string s.data.toList) (.lit (.bool true))) (.map [])
theorem namesD_snoc (l : List ByteArray) (s : ByteArray) : namesD (l ++ [s]) = (namesD l).put (.string s.data.toList) (.lit (.bool true)) := by simp [namesD]
theorem snoc_ind {α : Type} {P : List α → Prop} (h0 : P []) (h1 : ∀ l x, P l → P (l ++ [x])) (l : List α) : P l := by
  have : ∀ r : List α, P r.reverse := fun r => by
    induction r with
    | nil => exact h0
    | cons x r ih => rw [List.reverse_cons]; exact h1 _ _ ih
  rw [← List.reverse_reverse l]
  exact this _
theorem namesD_map (l : List ByteArray) : Maps.IsMap (namesD l) := by
  refine snoc_ind (P := fun l => Maps.IsMap (namesD l)) ⟨[], rfl⟩ (fun l s h => ?_) l
  show Maps.IsMap (namesD (l ++ [s]))
  rw [namesD_snoc]
  obtain ⟨es, he⟩ := h
  rw [he]
  exact ⟨_, rfl⟩
theorem bytes_inj {s u : ByteArray} (h : s.data.toList = u.data.toList) : s = u := by
  cases s with | mk d => cases u with | mk d' => congr 1; exact Array.toList_inj.1 h
open Classical in
theorem namesD_at (l : List ByteArray) (s : ByteArray) : (namesD l).atKey (.string s.data.toList) (.lit (.bool false)) = .lit (.bool (decide (s ∈ l))) := by
  refine snoc_ind (P := fun l => (namesD l).atKey (.string s.data.toList) (.lit (.bool false)) = .lit (.bool (decide (s ∈ l)))) (by simp [namesD, DataW.atKey]) (fun l u ih => ?_) l
  show (namesD (l ++ [u])).atKey _ _ = _
  rw [namesD_snoc]
  by_cases h : s = u
  · subst h
    rw [Maps.atKey_put_same (k := .string s.data.toList) (namesD_map l) (by simp [WideAt.IsKeyLit])]
    simp
  · rw [Maps.atKey_put_other (fun e => h (bytes_inj (by injection e)))]
    rw [ih]
    simp [h]
theorem plainElem_bool_inv {P : Program} {e : TypeId} (he : P.underlying e = some .bool) {v : Value} {b : Bool} {ps : List MemPlace} (h : plainElem (H := Unit) P e v = some (.lit (.bool b), ps)) : v = .bool b := by
  unfold plainElem at h
  rw [he] at h
  cases v <;> simp at h
  rw [h.1]
abbrev NmMap (W : World) (b n : Nat) (l : List ByteArray) : Prop := W.ownsMap Try.prog 9 (plainElem Try.prog 4) b n (namesD l)
open Classical in
theorem NmMap.look {W : World} {b n : Nat} {l : List ByteArray} (h : NmMap W b n l) (s : ByteArray) (hs : s.size ≤ maxLen) : (Instr.lookup 64 (.map (some b)) (.string s) false).run Try.prog W = .ok (.bool (decide (s ∈ l))) W := by
  obtain ⟨v, ps, hrun, hv⟩ := World.ownsMap.lookup h (Maps.string_keyed Try.underlying9) Try.underlying64 (z := .bool false) (Try.zeroValue4 W) (plainElem_bool Try.underlying4 false) (WideMaps.keyOf_string_mk Try.underlying9 hs)
  rw [namesD_at] at hv
  rw [hrun, plainElem_bool_inv Try.underlying4 hv]
theorem NmMap.put {W : World} {b n : Nat} {l : List ByteArray} (h : NmMap W b n l) (hn : n < maxLen) (s : ByteArray) (hs : s.size ≤ maxLen) :
    ∃ W', (Instr.mapUpdate 64 (.map (some b)) (.string s) (.bool true)).run Try.prog W = .ok () W' ∧ NmMap W' b (n + 1) (l ++ [s]) ∧ W.grownBy W' (some b) := by
  obtain ⟨W', h1, h2, h3⟩ := World.ownsMap.update h (Maps.string_keyed Try.underlying9) Try.underlying64 hn (WideMaps.keyOf_string_mk Try.underlying9 hs) (plainElem_bool Try.underlying4 true)
  exact ⟨W', h1, by unfold NmMap; rw [namesD_snoc]; exact h2, h3⟩
theorem NmMap.made (W : World) : NmMap (W.alloc (.map #[] 0)) W.heap.size 0 [] := World.ownsMap_made W _ _ _
end Go.Proofs.Ytbhcgjahlfpjoaa
