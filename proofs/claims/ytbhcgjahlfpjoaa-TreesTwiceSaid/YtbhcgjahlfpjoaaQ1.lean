/- Trees: plain, and in memory. -/
import Derived.Test.YtbhcgjahlfpjoaaSetW1
namespace Go.Proofs.Ytbhcgjahlfpjoaa
open Go.RowKit

/-- A tree. -/
structure Tr where
  op : Int
  kids : List Tr
  rune : Int
  set : List Rg
  at_ : Int
  cap : Int
  name : ByteArray
  mn : Int
  mx : Int
  lzy : Bool
/-- Where a tree's lists lie. -/
structure TA where
  kA : Option Addr
  kn : Nat
  kc : Nat
  sA : Option Addr
  sn : Nat
  sc : Nat
def Tr.cells (t : Tr) (a : TA) : List Value := [.int .i64 t.op, .slice a.kA a.kn a.kc, .int .i32 t.rune, .slice a.sA a.sn a.sc, .int .i64 t.at_, .int .i64 t.cap, .string t.name, .int .i64 t.mn, .int .i64 t.mx, .bool t.lzy]
/-- A tree's lists are in memory, and all that is below it. -/
inductive TIn (w : World) : Tr → TA → Prop
  | mk {t : Tr} {a : TA} (ka : Nat → TA) (hset : RgIn w a.sA a.sn a.sc t.set) (hlen : t.kids.length = a.kn) (hle : a.kn ≤ a.kc) (hmax : a.kc ≤ maxLen) (hnil : a.kA = none → a.kn = 0) (hname : t.name.size ≤ maxLen) (hfit : a.sn ≤ 17592186043904)
      (hrow : 0 < a.kn → ∃ b o, a.kA = some ⟨b, o, none⟩ ∧ b < w.heap.size ∧ ∀ (i : Nat) (k : Tr), t.kids[i]? = some k → ∀ (j : Nat) (v : Value), (k.cells (ka i))[j]? = some v → w.cell? ⟨b, o + (i * 10 + j), none⟩ = some v)
      (hkids : ∀ (i : Nat) (k : Tr), t.kids[i]? = some k → TIn w k (ka i)) : TIn w t a
/-- A list of trees in memory. -/
structure TsIn (w : World) (A : Option Addr) (n c : Nat) (l : List Tr) (ka : Nat → TA) : Prop where
  len : l.length = n
  le : n ≤ c
  max : c ≤ maxLen
  nil : A = none → n = 0
  row : 0 < n → ∃ b o, A = some ⟨b, o, none⟩ ∧ b < w.heap.size ∧ ∀ (i : Nat) (k : Tr), l[i]? = some k → ∀ (j : Nat) (v : Value), (k.cells (ka i))[j]? = some v → w.cell? ⟨b, o + (i * 10 + j), none⟩ = some v
  kids : ∀ (i : Nat) (k : Tr), l[i]? = some k → TIn w k (ka i)
section
variable {w w' : World} {t : Tr} {a : TA}
theorem TIn.on (h : TIn w t a) (hb : Below w.heap.size w w') : TIn w' t a := by
  induction h with
  | mk ka hset hlen hle hmax hnil hname hfit hrow _ ih =>
    refine .mk ka (hset.below hb) hlen hle hmax hnil hname hfit (fun hp => ?_) ih
    obtain ⟨b, o, hA, hlt, hc⟩ := hrow hp
    exact ⟨b, o, hA, Nat.lt_of_lt_of_le hlt hb.size, fun i k hk j v hv => (hb.cell (p := ⟨b, o + (i * 10 + j), none⟩) hlt).trans (hc i k hk j v hv)⟩
theorem TIn.set (h : TIn w t a) : RgIn w a.sA a.sn a.sc t.set := by cases h; assumption
theorem TIn.fit (h : TIn w t a) : a.sn ≤ 17592186043904 := by cases h; assumption
theorem TIn.name (h : TIn w t a) : t.name.size ≤ maxLen := by cases h; assumption
theorem TIn.kids (h : TIn w t a) : ∃ ka, TsIn w a.kA a.kn a.kc t.kids ka := by
  cases h with
  | mk ka _ hlen hle hmax hnil _ _ hrow hkids => exact ⟨ka, hlen, hle, hmax, hnil, hrow, hkids⟩
theorem TIn.of {ka : Nat → TA} (hs : RgIn w a.sA a.sn a.sc t.set) (hn : t.name.size ≤ maxLen) (hf : a.sn ≤ 17592186043904) (h : TsIn w a.kA a.kn a.kc t.kids ka) : TIn w t a := .mk ka hs h.len h.le h.max h.nil hn hf h.row h.kids
theorem TsIn.below {A : Option Addr} {n c : Nat} {l : List Tr} {ka : Nat → TA} (h : TsIn w A n c l ka) (hb : Below w.heap.size w w') : TsIn w' A n c l ka := by
  refine ⟨h.len, h.le, h.max, h.nil, fun hp => ?_, fun i k hk => (h.kids i k hk).on hb⟩
  obtain ⟨b, o, hA, hlt, hc⟩ := h.row hp
  exact ⟨b, o, hA, Nat.lt_of_lt_of_le hlt hb.size, fun i k hk j v hv => (hb.cell (p := ⟨b, o + (i * 10 + j), none⟩) hlt).trans (hc i k hk j v hv)⟩
/-- Ten cells. -/
structure At10 (W : World) (b o : Nat) (k : Tr) (x : TA) : Prop where
  c0 : W.cell? ⟨b, o, none⟩ = some (.int .i64 k.op)
  c1 : W.cell? ⟨b, o + 1, none⟩ = some (.slice x.kA x.kn x.kc)
  c2 : W.cell? ⟨b, o + 2, none⟩ = some (.int .i32 k.rune)
  c3 : W.cell? ⟨b, o + 3, none⟩ = some (.slice x.sA x.sn x.sc)
  c4 : W.cell? ⟨b, o + 4, none⟩ = some (.int .i64 k.at_)
  c5 : W.cell? ⟨b, o + 5, none⟩ = some (.int .i64 k.cap)
  c6 : W.cell? ⟨b, o + 6, none⟩ = some (.string k.name)
  c7 : W.cell? ⟨b, o + 7, none⟩ = some (.int .i64 k.mn)
  c8 : W.cell? ⟨b, o + 8, none⟩ = some (.int .i64 k.mx)
  c9 : W.cell? ⟨b, o + 9, none⟩ = some (.bool k.lzy)
theorem TsIn.at {A : Option Addr} {n c : Nat} {l : List Tr} {ka : Nat → TA} (h : TsIn w A n c l ka) {i : Nat} (hi : i < n) :
    ∃ b o k x, A = some ⟨b, o, none⟩ ∧ b < w.heap.size ∧ l[i]? = some k ∧ TIn w k x ∧ ∀ W, Same 0 w.heap.size w W → At10 W b (o + i * 10) k x := by
  obtain ⟨b, o, hA, hlt, hc⟩ := h.row (by omega)
  have hil : i < l.length := by rw [h.len]; exact hi
  have hk : l[i]? = some l[i] := List.getElem?_eq_getElem hil
  refine ⟨b, o, l[i], ka i, hA, hlt, hk, h.kids i _ hk, fun W hW => ?_⟩
  have key : ∀ (j : Nat) (v : Value), (l[i].cells (ka i))[j]? = some v → W.cell? ⟨b, o + i * 10 + j, none⟩ = some v := fun j v hv => by
    have := (hW.cell (p := ⟨b, o + (i * 10 + j), none⟩) (Nat.zero_le _) hlt).trans (hc i _ hk j v hv)
    rwa [← Nat.add_assoc] at this
  exact ⟨key 0 _ rfl, key 1 _ rfl, key 2 _ rfl, key 3 _ rfl, key 4 _ rfl, key 5 _ rfl, key 6 _ rfl, key 7 _ rfl, key 8 _ rfl, key 9 _ rfl⟩
/-- A tree's box. -/
def TBox (W : World) (g : Nat) (t : Tr) (a : TA) : Prop := Blk W g 27 (t.cells a).toArray
/-- Ten cells of a block of their own. -/
structure Bx10 (W : World) (g : Nat) (k : Tr) (x : TA) : Prop where
  c0 : W.cell? ⟨g, 0, none⟩ = some (.int .i64 k.op)
  c1 : W.cell? ⟨g, 1, none⟩ = some (.slice x.kA x.kn x.kc)
  c2 : W.cell? ⟨g, 2, none⟩ = some (.int .i32 k.rune)
  c3 : W.cell? ⟨g, 3, none⟩ = some (.slice x.sA x.sn x.sc)
  c4 : W.cell? ⟨g, 4, none⟩ = some (.int .i64 k.at_)
  c5 : W.cell? ⟨g, 5, none⟩ = some (.int .i64 k.cap)
  c6 : W.cell? ⟨g, 6, none⟩ = some (.string k.name)
  c7 : W.cell? ⟨g, 7, none⟩ = some (.int .i64 k.mn)
  c8 : W.cell? ⟨g, 8, none⟩ = some (.int .i64 k.mx)
  c9 : W.cell? ⟨g, 9, none⟩ = some (.bool k.lzy)
theorem TBox.ten {W : World} {g : Nat} (h : TBox W g t a) : Bx10 W g t a :=
  ⟨Blk.cell h 0, Blk.cell h 1, Blk.cell h 2, Blk.cell h 3, Blk.cell h 4, Blk.cell h 5, Blk.cell h 6, Blk.cell h 7, Blk.cell h 8, Blk.cell h 9⟩
theorem TBox.below {W W' : World} {g : Nat} (h : TBox W g t a) (hb : Below W.heap.size W W') : TBox W' g t a := Blk.below h hb (Blk.lt h)
theorem TBox.lt {W : World} {g : Nat} (h : TBox W g t a) : g < W.heap.size := Blk.lt h
theorem TBox.new (W : World) (t : Tr) (a : TA) : TBox (W.alloc (.cells (t.cells a).toArray 27)) W.heap.size t a := Blk.new _ _ _
end

/-! ### Plain -/
mutual
/-- How deep. -/
def Tr.depth : Tr → Nat
  | ⟨_, l, _, _, _, _, _, _, _, _⟩ => Tr.depths l + 1
def Tr.depths : List Tr → Nat
  | [] => 0
  | k :: l => max (Tr.depth k) (Tr.depths l)
end
mutual
/-- How many parts, ranges among them. -/
def Tr.parts : Tr → Nat
  | ⟨_, l, _, s, _, _, _, _, _, _⟩ => 1 + s.length + Tr.partsL l
def Tr.partsL : List Tr → Nat
  | [] => 0
  | k :: l => Tr.parts k + Tr.partsL l
end
mutual
/-- All its parts, it first. -/
def Tr.all : Tr → List Tr
  | ⟨a, l, b, c, d, e, f, g, h, i⟩ => ⟨a, l, b, c, d, e, f, g, h, i⟩ :: Tr.allL l
def Tr.allL : List Tr → List Tr
  | [] => []
  | k :: l => Tr.all k ++ Tr.allL l
end
theorem Tr.depth_eq (t : Tr) : t.depth = Tr.depths t.kids + 1 := by cases t; rw [Tr.depth]
theorem Tr.parts_eq (t : Tr) : t.parts = 1 + t.set.length + Tr.partsL t.kids := by cases t; rw [Tr.parts]
theorem Tr.all_eq (t : Tr) : t.all = t :: Tr.allL t.kids := by cases t; rw [Tr.all]
theorem Tr.depths_app : ∀ a b : List Tr, Tr.depths (a ++ b) = max (Tr.depths a) (Tr.depths b)
  | [], b => by rw [List.nil_append, Tr.depths]; omega
  | k :: a, b => by rw [List.cons_append, Tr.depths, Tr.depths, Tr.depths_app a b]; omega
theorem Tr.partsL_app : ∀ a b : List Tr, Tr.partsL (a ++ b) = Tr.partsL a + Tr.partsL b
  | [], b => by rw [List.nil_append, Tr.partsL]; omega
  | k :: a, b => by rw [List.cons_append, Tr.partsL, Tr.partsL, Tr.partsL_app a b]; omega
theorem Tr.allL_app : ∀ a b : List Tr, Tr.allL (a ++ b) = Tr.allL a ++ Tr.allL b
  | [], b => by rw [List.nil_append, Tr.allL, List.nil_append]
  | k :: a, b => by rw [List.cons_append, Tr.allL, Tr.allL, Tr.allL_app a b, List.append_assoc]
theorem Tr.depths_one (k : Tr) : Tr.depths [k] = k.depth := by rw [Tr.depths, Tr.depths]; omega
theorem Tr.partsL_one (k : Tr) : Tr.partsL [k] = k.parts := by rw [Tr.partsL, Tr.partsL]; omega
theorem Tr.allL_one (k : Tr) : Tr.allL [k] = k.all := by rw [Tr.allL, Tr.allL, List.append_nil]
theorem take_snoc {α : Type} {l : List α} {j : Nat} {x : α} (h : l[j]? = some x) : l.take (j + 1) = l.take j ++ [x] := by rw [List.take_add_one, h]; rfl
theorem Tr.depths_take {l : List Tr} {j : Nat} {k : Tr} (h : l[j]? = some k) : Tr.depths (l.take (j + 1)) = max (Tr.depths (l.take j)) k.depth := by rw [take_snoc h, Tr.depths_app, Tr.depths_one]
theorem Tr.partsL_take {l : List Tr} {j : Nat} {k : Tr} (h : l[j]? = some k) : Tr.partsL (l.take (j + 1)) = Tr.partsL (l.take j) + k.parts := by rw [take_snoc h, Tr.partsL_app, Tr.partsL_one]
theorem Tr.allL_take {l : List Tr} {j : Nat} {k : Tr} (h : l[j]? = some k) : Tr.allL (l.take (j + 1)) = Tr.allL (l.take j) ++ k.all := by rw [take_snoc h, Tr.allL_app, Tr.allL_one]
theorem Tr.partsL_le {l : List Tr} {k : Tr} (h : k ∈ l) : k.parts ≤ Tr.partsL l := by
  obtain ⟨a, b, rfl⟩ := List.append_of_mem h
  rw [Tr.partsL_app, Tr.partsL]; omega
theorem Tr.partsL_take_le (l : List Tr) (j : Nat) : Tr.partsL (l.take j) ≤ Tr.partsL l := by
  have := Tr.partsL_app (l.take j) (l.drop j)
  rw [List.take_append_drop] at this; omega
theorem Tr.parts_pos (t : Tr) : 1 ≤ t.parts := by rw [Tr.parts_eq]; omega
/-- By what is below it. -/
theorem Tr.ind {P : Tr → Prop} (h : ∀ t : Tr, (∀ k ∈ t.kids, P k) → P t) : ∀ t, P t := by
  have key : ∀ (n : Nat) (t : Tr), t.parts ≤ n → P t := by
    intro n
    induction n with
    | zero => intro t ht; have := t.parts_pos; omega
    | succ n ih =>
      intro t ht
      refine h t fun k hk => ih k ?_
      have := Tr.partsL_le hk
      rw [Tr.parts_eq] at ht
      omega
  exact fun t => key _ t (Nat.le_refl _)
theorem Tr.depths_le : ∀ {l : List Tr} {n : Nat}, (∀ k ∈ l, k.depth ≤ n) → Tr.depths l ≤ n
  | [], _, _ => by rw [Tr.depths]; omega
  | k :: l, n, h => by
    have := h k (List.mem_cons_self ..)
    have := Tr.depths_le (l := l) (n := n) fun k hk => h k (List.mem_cons_of_mem _ hk)
    rw [Tr.depths]; omega
theorem Tr.depth_le_parts (t : Tr) : t.depth ≤ t.parts := by
  induction t using Tr.ind with
  | h t ih =>
    rw [Tr.depth_eq, Tr.parts_eq]
    have := Tr.depths_le (l := t.kids) (n := Tr.partsL t.kids) fun k hk => Nat.le_trans (ih k hk) (Tr.partsL_le hk)
    omega
theorem Tr.len_le_partsL : ∀ l : List Tr, l.length ≤ Tr.partsL l
  | [] => by simp
  | k :: l => by have := k.parts_pos; have := Tr.len_le_partsL l; rw [Tr.partsL, List.length_cons]; omega
end Go.Proofs.Ytbhcgjahlfpjoaa
