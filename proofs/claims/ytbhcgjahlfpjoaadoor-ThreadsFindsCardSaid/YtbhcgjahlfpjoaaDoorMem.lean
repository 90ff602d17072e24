/- Words for memory that all texts of this seat share: what a slice reads as, which blocks are as they were. -/
import Derived.Below
import Derived.Laws.OwnMore
import Derived.Deep.AppendLies
import Derived.Deep.Draws
import Derived.Laws.Rows
import Derived.Maps.AppendAt
import Derived.OwnWalk
import Derived.Laws.NewBlocks
import Derived.RegionTactic
namespace Go.Proofs.YtbhcgjahlfpjoaaDoor
open Go.RowKit

theorem _root_.Go.RowKit.Below.undrew {B : Nat} {w w' : World} (h : Below B w.drew w') : Below B w w' := ⟨h.os, h.tape, h.output, h.size, h.block⟩
theorem _root_.Go.RowKit.Below.undrewN {B n : Nat} {w w' : World} (h : Below B (w.drewN n) w') : Below B w w' := ⟨h.os, h.tape, h.output, h.size, h.block⟩
theorem _root_.Go.RowKit.Below.drewN {B n : Nat} {w w' : World} (h : Below B w w') : Below B w (w'.drewN n) := ⟨h.os, h.tape, h.output, h.size, h.block⟩
/-- The blocks from lo on and below U are as they were. -/
def Same (lo U : Nat) (w w' : World) : Prop := ∀ k, lo ≤ k → k < U → w'.heap[k]? = w.heap[k]?

section
variable {w w' w'' : World} {lo U lo' U' B : Nat}
theorem Same.refl (lo U : Nat) (w : World) : Same lo U w w := fun _ _ _ => rfl
theorem Same.trans (h : Same lo U w w') (h' : Same lo U w' w'') : Same lo U w w'' := fun k a b => (h' k a b).trans (h k a b)
theorem Same.mono (h : Same lo U w w') (a : lo ≤ lo') (b : U' ≤ U) : Same lo' U' w w' := fun k x y => h k (by omega) (by omega)
theorem Same.of_below (h : Below B w w') (hU : U ≤ B) : Same lo U w w' := fun k _ b => h.block k (by omega)
theorem Same.of_grown {row : Option Nat} (h : w.grownBy w' row) (hU : U ≤ w.heap.size) (hr : ∀ k, row = some k → k < lo ∨ U ≤ k) : Same lo U w w' :=
  fun k a b => h.block k (by omega) (fun e => by have := hr k e.symm; omega)
theorem Same.alloc (h : Same lo U w w') (hU : U ≤ w'.heap.size) (o : Obj) : Same lo U w (w'.alloc o) := h.trans fun k _ b => Below.heap_alloc _ _ _ (by omega)
theorem Same.setCell (h : Same lo U w w') {p : Addr} (hp : p.block < lo ∨ U ≤ p.block) (u : Value) : Same lo U w (w'.setCell p u) := h.trans fun k a b => Below.heap_setCell _ _ _ _ (by omega)
theorem Same.drew (h : Same lo U w w') : Same lo U w w'.drew := h
theorem Same.drewN (h : Same lo U w w') (n : Nat) : Same lo U w (w'.drewN n) := h
theorem Same.cell (h : Same lo U w w') {p : Addr} (a : lo ≤ p.block) (b : p.block < U) : w'.cell? p = w.cell? p := World.cell?_of_block (w := w) (h p.block a b)
theorem Same.frozen (h : Same lo U w w') {p : Addr} (a : lo ≤ p.block) (b : p.block < U) : w'.frozen? p = w.frozen? p := World.frozen?_of_block (w := w) (h p.block a b)
end

/-- A slice's address A reads the cells xs; its block lies from lo on and below U. Nothing is said where xs is empty. -/
def Rd (w : World) (lo U : Nat) (A : Option Addr) (xs : List Value) : Prop :=
  0 < xs.length → ∃ b off, A = some ⟨b, off, none⟩ ∧ lo ≤ b ∧ b < U ∧ ∀ j u, xs[j]? = some u → w.cell? ⟨b, off + j, none⟩ = some u

section
variable {w w' : World} {lo U lo' U' : Nat} {A : Option Addr} {xs : List Value}
theorem Rd.nil : Rd w lo U A [] := fun h => by simp at h
theorem Rd.same (h : Rd w lo U A xs) (hs : Same lo U w w') : Rd w' lo U A xs := fun hp => by
  obtain ⟨b, off, hA, h1, h2, hc⟩ := h hp
  exact ⟨b, off, hA, h1, h2, fun j u hu => (hs.cell (p := ⟨b, off + j, none⟩) h1 h2).trans (hc j u hu)⟩
theorem Rd.mono (h : Rd w lo U A xs) (a : lo' ≤ lo) (b : U ≤ U') : Rd w lo' U' A xs := fun hp => by
  obtain ⟨b', off, hA, h1, h2, hc⟩ := h hp
  exact ⟨b', off, hA, by omega, by omega, hc⟩
theorem Rd.of_own {base : Nat} {e : TypeId} {size n c : Nat} (h : w.ownsRow base e size (.slice A n c) n xs) (a : lo ≤ base) (b : w.heap.size ≤ U) : Rd w lo U A xs := fun hp => by
  have hl := h.1
  have hn : 0 < n := by
    rcases Nat.eq_zero_or_pos n with h0 | h0
    · subst h0; omega
    · exact h0
  obtain ⟨g, cap, hv, hb, hlt⟩ := h.form hn
  have hA : A = some ⟨g, 0, none⟩ := by injection hv
  subst hA
  refine ⟨g, 0, rfl, by omega, by omega, fun j u hu => ?_⟩
  have := h.cells (g := g) rfl j u hu
  rcases Nat.eq_zero_or_pos j with h0 | h0
  · subst h0; simpa [Addr.add] using this
  · simpa [Addr.add, Nat.pos_iff_ne_zero.1 h0] using this
theorem Rd.new (w : World) (cs : List Value) (e : TypeId) (fr : Nat × Nat) (a : lo ≤ w.heap.size) (b : w.heap.size < U) : Rd (w.alloc (.cells cs.toArray e fr)) lo U (some ⟨w.heap.size, 0, none⟩) cs := fun _ =>
  ⟨w.heap.size, 0, rfl, a, b, fun j u hu => by
    have : (w.alloc (.cells cs.toArray e fr)).heap[w.heap.size]? = some (.cells cs.toArray e fr) := heap_alloc_new w _
    unfold World.cell?
    dsimp only
    rw [this]
    simp [hu]⟩
theorem Rd.newAt (w : World) (cs : List Value) (e : TypeId) (fr : Nat × Nat) (g : Nat) (hg : g = w.heap.size) (a : lo ≤ g) : Rd (w.alloc (.cells cs.toArray e fr)) lo (g + 1) (some ⟨g, 0, none⟩) cs := by
  subst hg; exact Rd.new w cs e fr a (Nat.lt_succ_self _)
theorem Rd.cut {n k c size : Nat} (h : Rd w lo U A xs) (hl : xs.length = n * size) (hs : 0 < size) (_ : k ≤ n) (hc : n ≤ c) : Rd w lo U (if c = k then A else A.map (·.add (k * size))) (xs.drop (k * size)) := fun hp => by
  rw [List.length_drop, hl] at hp
  have hkn : k < n := by
    rcases Nat.lt_or_ge k n with h' | h'
    · exact h'
    · have : n * size ≤ k * size := Nat.mul_le_mul_right _ h'
      omega
  obtain ⟨b, off, rfl, h1, h2, hcell⟩ := h (by rw [hl]; exact Nat.mul_pos (by omega) hs)
  rw [if_neg (by omega)]
  refine ⟨b, off + k * size, ?_, h1, h2, fun j u hu => ?_⟩
  · simp only [Option.map_some, Addr.add]
    split <;> simp_all
  · rw [Nat.add_assoc]
    exact hcell _ u (by rw [← hu, List.getElem?_drop])
theorem Rd.cut1 {n k c : Nat} (h : Rd w lo U A xs) (hl : xs.length = n) (hk : k ≤ n) (hc : n ≤ c) : Rd w lo U (if c = k then A else Option.map (fun x => x.add k) A) (xs.drop k) := by
  have := h.cut (n := n) (k := k) (c := c) (size := 1) (by omega) (by omega) hk hc
  simpa using this
theorem Rd.take (h : Rd w lo U A xs) (n : Nat) : Rd w lo U A (xs.take n) := fun hp => by
  obtain ⟨b, off, hA, h1, h2, hc⟩ := h (by rw [List.length_take] at hp; omega)
  refine ⟨b, off, hA, h1, h2, fun j u hu => hc j u ?_⟩
  rw [List.getElem?_take] at hu
  split at hu
  · exact hu
  · cases hu
end

/-- Block g is just these cells, of element type t, none frozen. -/
def Blk (w : World) (g : Nat) (t : TypeId) (cs : Array Value) : Prop := w.heap[g]? = some (.cells cs t (0, 0))
section
variable {w w' : World} {g : Nat} {t : TypeId} {cs : Array Value}
theorem Blk.lt (h : Blk w g t cs) : g < w.heap.size := by
  rcases Nat.lt_or_ge g w.heap.size with hlt | hge
  · exact hlt
  · unfold Blk at h; rw [Array.getElem?_eq_none hge] at h; cases h
theorem Blk.cell (h : Blk w g t cs) (i : Nat) : w.cell? ⟨g, i, none⟩ = cs[i]? := by unfold Blk at h; simp [World.cell?, h]
theorem Blk.frozen (h : Blk w g t cs) (i : Nat) : w.frozen? ⟨g, i, none⟩ = false := by unfold Blk at h; simp [World.frozen?, h]
theorem Blk.new (w : World) (t : TypeId) (cs : Array Value) : Blk (w.alloc (.cells cs t)) w.heap.size t cs := heap_alloc_new w _
theorem Blk.drew (h : Blk w g t cs) : Blk w.drew g t cs := h
theorem Blk.drewN (h : Blk w g t cs) (n : Nat) : Blk (w.drewN n) g t cs := h
theorem Blk.alloc (h : Blk w g t cs) (o : Obj) : Blk (w.alloc o) g t cs := (Below.heap_alloc w o g h.lt).trans h
theorem Blk.set (h : Blk w g t cs) (i : Nat) (u : Value) : Blk (w.setCell ⟨g, i, none⟩ u) g t (cs.setIfInBounds i u) := by
  unfold Blk at h ⊢
  simp [World.setCell, Array.getElem?_modify, h]
theorem Blk.far (h : Blk w g t cs) {p : Addr} (hp : g ≠ p.block) (u : Value) : Blk (w.setCell p u) g t cs := (Below.heap_setCell w p u g hp).trans h
theorem Blk.below {B : Nat} (h : Blk w g t cs) (hb : Below B w w') (hg : g < B) : Blk w' g t cs := (hb.block g hg).trans h
theorem Blk.same {lo U : Nat} (h : Blk w g t cs) (hb : Same lo U w w') (h1 : lo ≤ g) (h2 : g < U) : Blk w' g t cs := (hb g h1 h2).trans h
theorem Blk.grown {row : Option Nat} (h : Blk w g t cs) (hb : w.grownBy w' row) (hg : row ≠ some g) : Blk w' g t cs := (hb.block g h.lt (Ne.symm hg)).trans h
theorem Blk.ne {g' : Nat} {t' : TypeId} {cs' : Array Value} (h : Blk w g t cs) (h' : Blk w g' t' cs') (hne : t ≠ t') : g ≠ g' := by
  rintro rfl
  unfold Blk at h h'
  rw [h] at h'
  injection h' with h'
  injection h' with _ ht
  exact hne ht
theorem own_ne_blk {base : Nat} {e : TypeId} {size n : Nat} {v : Value} {xs : List Value} (h : w.ownsRow base e size v n xs) (hg : Blk w g t cs) (hne : e ≠ t) : v.ownBlock ≠ some g := by
  rcases h.2 with ⟨rfl, _⟩ | ⟨g', cap, cur, rfl, _, hh, _⟩
  · simp [Value.ownBlock]
  · intro he
    have : g' = g := by simpa [Value.ownBlock] using he
    subst this
    exact Blk.ne (t := e) hh hg hne rfl
theorem own_ne_own {base base' : Nat} {e e' : TypeId} {size size' n n' : Nat} {v v' : Value} {xs xs' : List Value} (h : w.ownsRow base e size v n xs) (h' : w.ownsRow base' e' size' v' n' xs') (hne : e ≠ e') : v.ownBlock = none ∨ v.ownBlock ≠ v'.ownBlock := by
  rcases h.2 with ⟨rfl, _⟩ | ⟨g', cap, cur, rfl, _, hh, _⟩
  · exact .inl rfl
  · right
    intro he
    exact own_ne_blk h' (g := g') (t := e) (cs := cur) hh (Ne.symm hne) he.symm
theorem own_blk {base : Nat} {e : TypeId} {size n c g : Nat} {xs : List Value} (h : w.ownsRow base e size (.slice (some ⟨g, 0, none⟩) n c) n xs) : ∃ cur, Blk w g e cur ∧ base ≤ g ∧ cur.size = c * size ∧ cur.toList.take (n * size) = xs ∧ n ≤ c ∧ c ≤ maxLen := by
  rcases h.2 with ⟨h', _⟩ | ⟨g', cap, cur, h', hb, hg, h1, h2, h3, h4⟩
  · simp at h'
  · simp only [Value.slice.injEq, Option.some.injEq, Addr.mk.injEq, and_true, true_and] at h'
    obtain ⟨rfl, rfl⟩ := h'
    exact ⟨cur, hg, hb, h3, h4, h1, h2⟩
/-- An owned row's value, written out. -/
theorem own_form {base : Nat} {e : TypeId} {size n : Nat} {v : Value} {xs : List Value} (h : w.ownsRow base e size v n xs) : ∃ A c, v = .slice A n c ∧ n ≤ c ∧ c ≤ maxLen := by
  rcases h.2 with ⟨rfl, rfl⟩ | ⟨g, cap, cur, rfl, _, _, h1, h2, _⟩
  · exact ⟨none, 0, rfl, Nat.le_refl _, Nat.zero_le _⟩
  · exact ⟨_, cap, rfl, h1, h2⟩
end

/-- What an append asks of a slice's type t and its element's type e. -/
structure ElemOK (P : Program) (t e : TypeId) (size bytes : Nat) : Prop where
  ht : P.underlying t = some (.slice e)
  info : ∃ i z, P.info? e = some i ∧ i.zero = some z ∧ i.size = size ∧ i.bytes = bytes ∧ z.cells.size = size
  pos : 0 < size
theorem ElemOK.mk' {P : Program} {t e : TypeId} {z : Value} {size bytes : Nat} (ht : P.underlying t = some (.slice e)) (h : (P.info? e).map (fun i => (i.zero, i.size, i.bytes)) = some (some z, size, bytes)) (hz : z.cells.size = size) (hp : 0 < size) : ElemOK P t e size bytes := by
  obtain ⟨i, h1, h2, h3, h4⟩ := info_parts h
  exact ⟨ht, ⟨i, z, h1, h2, h3, h4, hz⟩, hp⟩

section
variable {P : Program} (w : World)
theorem run_append_of_nil (base : Nat) (t ty e : TypeId) {i : TypeInfo} {size : Nat} (ht : P.underlying t = some (.slice e)) (hi : P.info? e = some i)
    (v : Value) (n : Nat) (xs : List Value) (hown : w.ownsRow base e size v n xs) (c : Nat) : (Builtin.append_ #[t, t] ty #[v, .slice none 0 c]).run P w = .ok v w := by
  rcases hown.2 with ⟨rfl, rfl⟩ | ⟨g, cap, cur, rfl, _, _, hnc, _⟩
  · simp [Builtin.append_, run_underlying ht, sizeOf, typeInfo, hi, Builtin.lenOf, Builtin.firstCells]
  · simp [Builtin.append_, run_underlying ht, sizeOf, typeInfo, hi, Builtin.lenOf, Builtin.firstCells, hnc, storeCells]

theorem run_app (base : Nat) (t ty e : TypeId) {size bytes : Nat} (K : ElemOK P t e size bytes) (v : Value) (n : Nat) (xs : List Value) (hown : w.ownsRow base e size v n xs)
    (lo U : Nat) (A : Option Addr) (m c : Nat) (news : List Value) (hAc : A = none → m = 0) (hl : news.length = m * size) (hr : Rd w lo U A news) (h1 : ∀ u ∈ news, u.oneCell' = true) (h63 : n + m ≤ maxLen) (hbytes : (n + m) * bytes ≤ 140737488355328) (hbase : base ≤ w.heap.size) :
    ∃ v' w', (Builtin.append_ #[t, t] ty #[v, .slice A m c]).run P w = .ok v' w' ∧ w'.ownsRow base e size v' (n + m) (xs ++ news) ∧ w.grownBy w' v.ownBlock ∧ (v'.ownBlock = v.ownBlock ∨ v'.ownBlock = some w.heap.size) ∧
      (v' = .slice none 0 0 → v = .slice none 0 0) := by
  obtain ⟨i, z, hi, hz, hsz, hby, hzs⟩ := K.info
  rcases A with _ | ad
  · obtain rfl : m = 0 := hAc rfl
    obtain rfl : news = [] := List.eq_nil_of_length_eq_zero (by simpa using hl)
    exact ⟨v, w, run_append_of_nil w base t ty e K.ht hi v n xs hown c, by simpa using hown, World.grownBy.refl w _, .inl rfl, id⟩
  · have hcells : ∀ j u, news[j]? = some u → w.cell? (ad.add j) = some u := by
      intro j u hu
      have hj : j < news.length := (List.getElem?_eq_some_iff.1 hu).1
      obtain ⟨b, off, hA, _, _, hc⟩ := hr (by omega)
      injection hA with hA
      subst hA
      have := hc j u hu
      rcases Nat.eq_zero_or_pos j with h0 | h0
      · subst h0; simpa [Addr.add] using this
      · simpa [Addr.add, Nat.pos_iff_ne_zero.1 h0] using this
    obtain ⟨v', w', hrun, h2, h3, h4, h5⟩ := run_append_own_at (P := P) w base t ty e i z size bytes K.ht hi hz hsz hby hzs K.pos v n xs hown ad m c news hl hcells h1 h63 hbytes hbase
    exact ⟨v', w', hrun, h2, h3, h5, fun h => (h4.1 h).1⟩

theorem wp_app {o : Oper} {a : Act} {K : Act → World → Prop} {Q : Exit → Act → World → Prop} (s x : Operand) (t : TypeId)
    (ho : o.op = .call { callee := .builtin .append, args := #[s, x], argTypes := #[t, t] })
    (base : Nat) (e : TypeId) {size bytes : Nat} (E : ElemOK P t e size bytes) (v : Value) (n : Nat) (xs : List Value) (hs : a.eval s = v) (hown : w.ownsRow base e size v n xs)
    (lo U : Nat) (A : Option Addr) (m c : Nat) (news : List Value) (hx : a.eval x = .slice A m c) (hAc : A = none → m = 0) (hl : news.length = m * size) (hr : Rd w lo U A news) (h1 : ∀ u ∈ news, u.oneCell' = true)
    (h63 : n + m ≤ maxLen) (hbytes : (n + m) * bytes ≤ 140737488355328) (hbase : base ≤ w.heap.size)
    (h : ∀ v' w', w'.ownsRow base e size v' (n + m) (xs ++ news) → w.grownBy w' v.ownBlock → (v'.ownBlock = v.ownBlock ∨ v'.ownBlock = some w.heap.size) → (v' = .slice none 0 0 → v = .slice none 0 0) → K (a.put o.dst v') w') : o.wp P a w K Q := by
  obtain ⟨v', w', hrun, h2, h3, h4, h5⟩ := run_app (P := P) w base t o.type e E v n xs hown lo U A m c news hAc hl hr h1 h63 hbytes hbase
  unfold Oper.wp execOp
  simp only [ho, resolve, invoke, builtin, Sem.run_bind, Sem.run_pure, Result.andThen_ok, List.map_toArray, List.map_cons, List.map_nil, hs, hx, hrun]
  exact h v' w' h2 h3 h4 h5

/-- append onto an owned row, of whatever slice that reads. -/
theorem wpList_app {ops : Array Oper} {rest : List Oper} {o : Oper} {a : Act} {Q : Exit → Act → World → Prop} (hgd : o.guard = none) (s x : Operand) (t : TypeId)
    (ho : o.op = .call { callee := .builtin .append, args := #[s, x], argTypes := #[t, t] })
    (base : Nat) (e : TypeId) {size bytes : Nat} (E : ElemOK P t e size bytes) (v : Value) (n : Nat) (xs : List Value) (hs : a.eval s = v) (hown : w.ownsRow base e size v n xs)
    (lo U : Nat) (A : Option Addr) (m c : Nat) (news : List Value) (hx : a.eval x = .slice A m c) (hAc : A = none → m = 0) (hl : news.length = m * size) (hr : Rd w lo U A news) (h1 : ∀ u ∈ news, u.oneCell' = true)
    (h63 : n + m ≤ maxLen) (hbytes : (n + m) * bytes ≤ 140737488355328) (hbase : base ≤ w.heap.size)
    (h : ∀ v' w', w'.ownsRow base e size v' (n + m) (xs ++ news) → w.grownBy w' v.ownBlock → (v'.ownBlock = v.ownBlock ∨ v'.ownBlock = some w.heap.size) → (v' = .slice none 0 0 → v = .slice none 0 0) → wpList P ops Q rest (a.put o.dst v') w') : wpList P ops Q (o :: rest) a w :=
  wpList_plain hgd fun _ hK => wp_app w s x t ho base e E v n xs hs hown lo U A m c news hx hAc hl hr h1 h63 hbytes hbase fun v' w' h2 h3 h4 h5 => hK _ _ (h v' w' h2 h3 h4 h5)

theorem step_app {ops : Array Oper} {o : Oper} {a : Act} {K : Act → World → Prop} {Q : Exit → Act → World → Prop} {E' : Prop} (hgd : o.guard = none) (s x : Operand) (t : TypeId)
    (ho : o.op = .call { callee := .builtin .append, args := #[s, x], argTypes := #[t, t] })
    (base : Nat) (e : TypeId) {size bytes : Nat} (E : ElemOK P t e size bytes) (v : Value) (n : Nat) (xs : List Value) (hs : a.eval s = v) (hown : w.ownsRow base e size v n xs)
    (lo U : Nat) (A : Option Addr) (m c : Nat) (news : List Value) (hx : a.eval x = .slice A m c) (hAc : A = none → m = 0) (hl : news.length = m * size) (hr : Rd w lo U A news) (h1 : ∀ u ∈ news, u.oneCell' = true)
    (h63 : n + m ≤ maxLen) (hbytes : (n + m) * bytes ≤ 140737488355328) (hbase : base ≤ w.heap.size)
    (h : ∀ v' w', w'.ownsRow base e size v' (n + m) (xs ++ news) → w.grownBy w' v.ownBlock → (v'.ownBlock = v.ownBlock ∨ v'.ownBlock = some w.heap.size) → (v' = .slice none 0 0 → v = .slice none 0 0) → K (a.put o.dst v') w') :
    if Region.wanted o (yielded ops a.tmps) = true then Oper.wp P o a w K Q else E' := by
  have hw : Region.wanted o (yielded ops a.tmps) = true := by simp [Region.wanted, hgd]
  rw [if_pos hw]
  exact wp_app w s x t ho base e E v n xs hs hown lo U A m c news hx hAc hl hr h1 h63 hbytes hbase h
end
end Go.Proofs.YtbhcgjahlfpjoaaDoor
