/- Trees: how many parts, up to a bound; how heavy: the walks. -/
import Derived.Test.YtbhcgjahlfpjoaaQ2
namespace Go.Proofs.Ytbhcgjahlfpjoaa
open Go.RowKit

mutual
/-- How many parts, up to a bound. -/
def Tr.upto : Tr → Int → Int
  | ⟨_, l, _, s, _, _, _, _, _, _⟩, m => Tr.uptoL l m (1 + (s.length : Int))
def Tr.uptoL : List Tr → Int → Int → Int
  | [], _, n => n
  | k :: l, m, n => if n ≤ m then Tr.uptoL l m (n + Tr.upto k (m - n)) else n
end
theorem Tr.upto_eq (t : Tr) (m : Int) : t.upto m = Tr.uptoL t.kids m (1 + (t.set.length : Int)) := by cases t; rw [Tr.upto]
theorem Tr.uptoL_stop {m n : Int} (h : ¬ n ≤ m) : ∀ l : List Tr, Tr.uptoL l m n = n
  | [] => by rw [Tr.uptoL]
  | _ :: _ => by rw [Tr.uptoL, if_neg h]
theorem Tr.uptoL_ge : ∀ (l : List Tr) (m n : Int), (∀ k ∈ l, ∀ m, 0 ≤ k.upto m) → n ≤ Tr.uptoL l m n
  | [], m, n, _ => by rw [Tr.uptoL]; omega
  | k :: l, m, n, h => by
    rw [Tr.uptoL]
    split
    · have h1 := h k (List.mem_cons_self ..) (m - n)
      have h2 := Tr.uptoL_ge l m (n + k.upto (m - n)) fun k hk => h k (List.mem_cons_of_mem _ hk)
      omega
    · omega
theorem Tr.upto_pos (t : Tr) : ∀ m, 0 ≤ t.upto m := by
  induction t using Tr.ind with
  | h t ih =>
    intro m
    rw [Tr.upto_eq]
    have := Tr.uptoL_ge t.kids m (1 + (t.set.length : Int)) ih
    omega
theorem Tr.uptoL_exact : ∀ (l : List Tr) (m n : Int), (∀ k ∈ l, ∀ m, k.upto m ≤ m → k.upto m = (k.parts : Int)) → Tr.uptoL l m n ≤ m → Tr.uptoL l m n = n + (Tr.partsL l : Int)
  | [], m, n, _, _ => by rw [Tr.uptoL, Tr.partsL]; omega
  | k :: l, m, n, h, hm => by
    rw [Tr.uptoL] at hm ⊢
    split at hm
    · rename_i hnm
      rw [if_pos hnm]
      have h2 := Tr.uptoL_ge l m (n + k.upto (m - n)) fun k _ => k.upto_pos
      have h1 := h k (List.mem_cons_self ..) (m - n) (by omega)
      rw [Tr.uptoL_exact l m _ (fun k hk => h k (List.mem_cons_of_mem _ hk)) hm, h1, Tr.partsL]
      omega
    · omega
theorem Tr.upto_exact (t : Tr) : ∀ m, t.upto m ≤ m → t.upto m = (t.parts : Int) := by
  induction t using Tr.ind with
  | h t ih =>
    intro m hm
    rw [Tr.upto_eq] at hm ⊢
    rw [Tr.uptoL_exact t.kids m _ ih hm, Tr.parts_eq]
    omega
theorem Tr.uptoL_drop {l : List Tr} {j : Nat} {k : Tr} (h : l[j]? = some k) {m n : Int} (hn : n ≤ m) : Tr.uptoL (l.drop j) m n = Tr.uptoL (l.drop (j + 1)) m (n + k.upto (m - n)) := by
  obtain ⟨hlt, rfl⟩ := List.getElem?_eq_some_iff.1 h
  rw [List.drop_eq_getElem_cons hlt, Tr.uptoL, if_pos hn]
/-- The number of parts is told, and it is not great. -/
def PartB (n m : Int) (w : World) (e : Ending) (w' : World) : Prop := e = .returned (.int .i64 n) ∧ n ≤ max m 0 + 100000000000000 ∧ Below w.heap.size w w'

set_option maxRecDepth 20000 in
set_option maxHeartbeats 2000000 in
theorem parts_any : ∀ (t : Tr) {w : World} {kA : Option Addr} {kn kc : Nat} {sA : Option Addr} {sn sc : Nat} (m : Int), m ≤ 20000 → -200000000000000 ≤ m → TIn w t ⟨kA, kn, kc, sA, sn, sc⟩ → Calls Try.prog 55 #[.agg #[.int .i64 t.op, .slice kA kn kc, .int .i32 t.rune, .slice sA sn sc, .int .i64 t.at_, .int .i64 t.cap, .string t.name, .int .i64 t.mn, .int .i64 t.mx, .bool t.lzy], .int .i64 m] w (PartB (t.upto m) m w) := by
  intro t
  induction t using Tr.ind with
  | h t ih =>
  intro w kA kn kc sA sn sc m hm hm0 hT
  have hb : Below w.heap.size w (w.alloc (.cells #[.int .i64 t.op, .slice kA kn kc, .int .i32 t.rune, .slice sA sn sc, .int .i64 t.at_, .int .i64 t.cap, .string t.name, .int .i64 t.mn, .int .i64 t.mx, .bool t.lzy] 27)) := (Below.refl _ _).alloc (Nat.le_refl _) _
  have hB := TBox.newV w t kA kn kc sA sn sc
  obtain ⟨ka, hK⟩ := (hT.on hb).kidsV
  have hkn : (kn : Int) ≤ 9223372036854775807 := by have h1 := hK.max; have h2 := hK.le; unfold maxLen at h1; omega
  have HB := Lib.hid hb
  have HBX := Lib.hid hB
  have HK := Lib.hid hK
  have IH := Lib.hid ih
  have hsn := hT.fit
  have hsl := hT.set.len
  have HSL := Lib.hid hsl
  clear hb hB hK ih hT
  have hs0 : 1 + (t.set.length : Int) = 1 + (sn : Int) := by rw [show t.set.length = sn from HSL.out]
  rw [Tr.upto_eq, hs0]
  dsimp only at hsn
  clear hsl hs0
  go_enter Try.func55, Try.ntmps55
  have c3 := HBX.out.ten.c3
  dsimp only at c3
  go_wp2_with fail
  generalize w.alloc (.cells #[.int .i64 t.op, .slice kA kn kc, .int .i32 t.rune, .slice sA sn sc, .int .i64 t.at_, .int .i64 t.cap, .string t.name, .int .i64 t.mn, .int .i64 t.mx, .bool t.lzy] 27) = w0 at HB HBX HK ⊢
  clear c3
  go_loopg [6, 5] (kn + 1) (fun q i n W => ∃ (j : Nat) (z : Int), q = kn + 1 - j ∧ j ≤ kn ∧ i = .int .i64 (j : Int) ∧ n = .int .i64 z ∧ 0 ≤ z ∧ z ≤ max m 0 + 100000000000000 ∧ Hid (Tr.uptoL (t.kids.drop j) m z = Tr.uptoL t.kids m (1 + (sn : Int))) ∧ Hid (Below w0.heap.size w0 W))
  case atStart => exact ⟨0, 1 + (sn : Int), rfl, Nat.zero_le _, rfl, by go_num, by omega, by omega, Lib.hid rfl, Lib.hid (Below.refl _ _)⟩
  case round =>
    obtain ⟨j, z, hgk, hj, rfl, rfl, hz0, hz1, HR, HW⟩ := hrel
    have HG := Lib.hid hgk
    have HJ := Lib.hid hj
    clear hgk hj
    have c1 := (HBX.out.below HW.out).ten.c1
    dsimp only at c1
    by_cases hzm : z ≤ m
    case neg =>
      have hend : Tr.uptoL t.kids m (1 + (sn : Int)) = z := HR.out.symm.trans (Tr.uptoL_stop hzm _)
      have HE := Lib.hid hend
      clear hend
      by_cases hlt : j < kn
      · have hi : (j : Int) < (kn : Int) := by omega
        go_wp2_with fail
        go_ret
        exact ⟨by rw [HE.out]; rfl, by rw [HE.out]; exact hz1, HB.out.trans (HW.out.mono HB.out.size)⟩
      · have hi : ¬ (j : Int) < (kn : Int) := by omega
        go_wp2_with fail
        go_ret
        exact ⟨by rw [HE.out]; rfl, by rw [HE.out]; exact hz1, HB.out.trans (HW.out.mono HB.out.size)⟩
    by_cases hlt : j < kn
    · obtain ⟨b, o, k, x, rfl, hb, hk, hx, hc⟩ := HK.out.at hlt
      have h10 := hc wr (.of_below HW.out (Nat.le_refl _))
      have k0 := h10.c0
      have k1 := h10.c1
      have k2 := h10.c2
      have k3 := h10.c3
      have k4 := h10.c4
      have k5 := h10.c5
      have k6 := h10.c6
      have k7 := h10.c7
      have k8 := h10.c8
      have k9 := h10.c9
      have hi : (j : Int) < (kn : Int) := by omega
      have hcall := fun (V : World) (hV : Below wr.heap.size wr V) => IH.out k (List.mem_of_getElem? hk) (m - z) (by omega) (by omega) (hx.on (HW.out.trans (hV.mono HW.out.size)))
      have HC : Hid (∀ V : World, Below wr.heap.size wr V → Calls Try.prog 55 #[.agg #[.int .i64 k.op, .slice x.kA x.kn x.kc, .int .i32 k.rune, .slice x.sA x.sn x.sc, .int .i64 k.at_, .int .i64 k.cap, .string k.name, .int .i64 k.mn, .int .i64 k.mx, .bool k.lzy], .int .i64 (m - z)] V (PartB (k.upto (m - z)) (m - z) V)) := Lib.hid hcall
      have HKK := Lib.hid hk
      have HLT := Lib.hid hlt
      clear hcall h10 hc hx hk hb hlt
      have HSTEP : Hid (Tr.uptoL (t.kids.drop j) m z = Tr.uptoL (t.kids.drop (j + 1)) m (z + k.upto (m - z))) := Lib.hid (Tr.uptoL_drop HKK.out hzm)
      have hcall := HC.out wr (Below.refl _ _)
      go_wp2_with fail
      refine hcall.mono ?_
      rintro e w5 ⟨rfl, hv5, hb5⟩
      have HN : Hid (Below w0.heap.size w0 w5) := Lib.hid (HW.out.trans (hb5.mono HW.out.size))
      clear hcall hb5 k0 k1 k2 k3 k4 k5 k6 k7 k8 k9
      have HV := Lib.hid hv5
      have hz5 := k.upto_pos (m - z)
      have hz6 : k.upto (m - z) ≤ 200000000000000 := by omega
      clear hv5
      have HZ5 := Lib.hid hz5
      have HZ6 := Lib.hid hz6
      have hnew : z + k.upto (m - z) ≤ max m 0 + 100000000000000 := by have := HV.out; omega
      have HNW := Lib.hid hnew
      generalize k.upto (m - z) = y at *
      go_wp2_with fail
      go_roundg (kn + 1 - (j + 1))
      case measure => have := HG.out; have := HLT.out; omega
      case rel => exact ⟨j + 1, z + y, rfl, by have := HLT.out; omega, by go_num, by go_num, by omega, HNW.out, Lib.hid (HSTEP.out.symm.trans HR.out), HN⟩
    · have hi : ¬ (j : Int) < (kn : Int) := by omega
      have hend : Tr.uptoL t.kids m (1 + (sn : Int)) = z := by have := HR.out; rw [List.drop_eq_nil_of_le (by have := HK.out.len; have := HJ.out; omega), Tr.uptoL] at this; exact this.symm
      have HE := Lib.hid hend
      clear hend hlt
      go_wp2_with fail
      go_ret
      exact ⟨by rw [HE.out]; rfl, by rw [HE.out]; exact hz1, HB.out.trans (HW.out.mono HB.out.size)⟩
/-- Told: is a tree too great? -/
def GreatB (t : Tr) (w : World) (e : Ending) (w' : World) : Prop := ∃ b, e = .returned (.bool b) ∧ (b = false → t.parts ≤ 20000) ∧ Below w.heap.size w w'
set_option maxRecDepth 20000 in
theorem great_any {t : Tr} {w : World} {kA : Option Addr} {kn kc : Nat} {sA : Option Addr} {sn sc : Nat} (hT : TIn w t ⟨kA, kn, kc, sA, sn, sc⟩) : Calls Try.prog 18 #[.agg #[.int .i64 t.op, .slice kA kn kc, .int .i32 t.rune, .slice sA sn sc, .int .i64 t.at_, .int .i64 t.cap, .string t.name, .int .i64 t.mn, .int .i64 t.mx, .bool t.lzy]] w (GreatB t w) := by
  have hb : Below w.heap.size w (w.alloc (.cells #[.int .i64 t.op, .slice kA kn kc, .int .i32 t.rune, .slice sA sn sc, .int .i64 t.at_, .int .i64 t.cap, .string t.name, .int .i64 t.mn, .int .i64 t.mx, .bool t.lzy] 27)) := (Below.refl _ _).alloc (Nat.le_refl _) _
  have hB := TBox.newV w t kA kn kc sA sn sc
  have h10 := hB.ten
  have k0 := h10.c0
  have k1 := h10.c1
  have k2 := h10.c2
  have k3 := h10.c3
  have k4 := h10.c4
  have k5 := h10.c5
  have k6 := h10.c6
  have k7 := h10.c7
  have k8 := h10.c8
  have k9 := h10.c9
  dsimp only at k1 k3
  have hcall := parts_any t 20000 (by omega) (by omega) (hT.on hb)
  have HB := Lib.hid hb
  clear hB h10 hT hb
  go_enter Try.func18, Try.ntmps18
  go_wp2_with fail
  refine hcall.mono ?_
  rintro e w5 ⟨rfl, hv5, hb5⟩
  have hex := t.upto_exact 20000
  have HX : Hid (decide (20000 < t.upto 20000) = false → t.parts ≤ 20000) := Lib.hid fun h => by have h1 := of_decide_eq_false h; have := hex (by omega); omega
  have HE := Lib.hid (HB.out.trans (hb5.mono HB.out.size))
  clear hcall hb5 hv5 hex
  generalize t.upto 20000 = y at *
  go_wp2_with fail
  go_ret
  exact ⟨_, rfl, HX.out, HE.out⟩

/-- A tree's weight, its kids' known. -/
def wOf (op n len mn mx : Int) : Int :=
  if op = 6 then min (2 + n) 4001 else if op = 7 ∨ op = 8 ∨ op = 9 ∨ op = 11 then min (1 + n) 4001
  else if op = 10 then min (min (max mn (max mx 1)) 4001 * n + min (max mn (max mx 1)) 4001 + 1) 4001
  else if op = 12 then min (n + min len 4001) 4001 else 1
mutual
def Tr.weight : Tr → Int
  | ⟨op, l, _, _, _, _, _, mn, mx, _⟩ => wOf op (Tr.weights l 0) l.length mn mx
def Tr.weights : List Tr → Int → Int
  | [], n => n
  | k :: l, n => Tr.weights l (min (n + Tr.weight k) 4001)
end
theorem Tr.weight_eq (t : Tr) : t.weight = wOf t.op (Tr.weights t.kids 0) t.kids.length t.mn t.mx := by cases t; rw [Tr.weight]
theorem Tr.weights_take {l : List Tr} {j : Nat} {k : Tr} (h : l[j]? = some k) (n : Int) : Tr.weights (l.take (j + 1)) n = min (Tr.weights (l.take j) n + k.weight) 4001 := by
  have key : ∀ (a : List Tr) (n : Int), Tr.weights (a ++ [k]) n = min (Tr.weights a n + k.weight) 4001 := by
    intro a
    induction a with
    | nil => intro n; rw [List.nil_append, Tr.weights, Tr.weights, Tr.weights]
    | cons x a ih => intro n; rw [List.cons_append, Tr.weights, Tr.weights, ih]
  rw [take_snoc h, key]
theorem wOf_range {op n len mn mx : Int} (h0 : 0 ≤ n) (h1 : 0 ≤ len) : 0 ≤ wOf op n len mn mx ∧ wOf op n len mn mx ≤ 4001 := by
  unfold wOf
  have hk : 0 ≤ min (max mn (max mx 1)) 4001 * n := Int.mul_nonneg (by omega) h0
  repeat' split
  all_goals omega
theorem Tr.weight_range (t : Tr) : 0 ≤ t.weight ∧ t.weight ≤ 4001 := by
  induction t using Tr.ind with
  | h t ih =>
    rw [Tr.weight_eq]
    refine wOf_range ?_ (by omega)
    have key : ∀ (l : List Tr) (n : Int), (∀ k ∈ l, 0 ≤ k.weight) → 0 ≤ n → 0 ≤ Tr.weights l n := by
      intro l
      induction l with
      | nil => intro n _ h; rw [Tr.weights]; exact h
      | cons k l ih => intro n hl h; rw [Tr.weights]; have := hl k (List.mem_cons_self ..); exact ih _ (fun k hk => hl k (List.mem_cons_of_mem _ hk)) (by omega)
    exact key _ _ (fun k hk => (ih k hk).1) (by omega)
theorem Tr.weights_range (l : List Tr) : ∀ n : Int, 0 ≤ n → n ≤ 4001 → 0 ≤ Tr.weights l n ∧ Tr.weights l n ≤ 4001 := by
  induction l with
  | nil => intro n h0 h1; rw [Tr.weights]; exact ⟨h0, h1⟩
  | cons k l ih => intro n h0 h1; rw [Tr.weights]; have := k.weight_range; exact ih _ (by omega) (by omega)
theorem max3_run (a b c : Int) (w : World) : (Builtin.max_ #[3, 3, 3] 3 #[.int .i64 a, .int .i64 b, .int .i64 c]).run Try.prog w = .ok (.int .i64 (max (max a b) c)) w := by
  have e : Builtin.max_ #[3, 3, 3] 3 #[.int .i64 a, .int .i64 b, .int .i64 c] = (pure (.int .i64 (max (max a b) c)) : Sem Value) := by
    simp only [Builtin.max_, List.foldlM_cons, List.foldlM_nil, Builtin.max2, gt_iff_lt, pure_bind]
    have h1 : (if a < b then b else a) = max a b := by rw [Int.max_def]; split <;> split <;> omega
    rw [h1]
    have h2 : (if max a b < c then c else max a b) = max (max a b) c := by omega
    rw [h2]
  rw [e]; rfl
theorem clip_any (n : Int) (w : World) : Calls Try.prog 86 #[.int .i64 n] w fun e w' => e = .returned (.int .i64 (min n 4001)) ∧ w = w' := by
  go_enter Try.func86, Try.ntmps86
  go_wp2_with fail
  go_ret
  exact ⟨rfl, rfl⟩

set_option maxRecDepth 20000 in
set_option maxHeartbeats 4000000 in
theorem rweight_any : ∀ (t : Tr) {w : World} {kA : Option Addr} {kn kc : Nat} {sA : Option Addr} {sn sc : Nat}, TIn w t ⟨kA, kn, kc, sA, sn, sc⟩ → t.parts ≤ 20000 → Calls Try.prog 59 #[.agg #[.int .i64 t.op, .slice kA kn kc, .int .i32 t.rune, .slice sA sn sc, .int .i64 t.at_, .int .i64 t.cap, .string t.name, .int .i64 t.mn, .int .i64 t.mx, .bool t.lzy]] w (NumB t.weight w) := by
  intro t
  induction t using Tr.ind with
  | h t ih =>
  intro w kA kn kc sA sn sc hT hp
  have hb : Below w.heap.size w (w.alloc (.cells #[.int .i64 t.op, .slice kA kn kc, .int .i32 t.rune, .slice sA sn sc, .int .i64 t.at_, .int .i64 t.cap, .string t.name, .int .i64 t.mn, .int .i64 t.mx, .bool t.lzy] 27)) := (Below.refl _ _).alloc (Nat.le_refl _) _
  have hB := TBox.newV w t kA kn kc sA sn sc
  obtain ⟨ka, hK⟩ := (hT.on hb).kidsV
  have hkn : kn ≤ 20000 := by have := Tr.len_le_partsL t.kids; rw [Tr.parts_eq] at hp; have := hK.len; omega
  have hkp : ∀ k ∈ t.kids, k.parts ≤ 20000 := fun k hk => by have := Tr.partsL_le hk; rw [Tr.parts_eq] at hp; omega
  have HP := Lib.hid hkp
  have HB := Lib.hid hb
  have HBX := Lib.hid hB
  have HK := Lib.hid hK
  have IH := Lib.hid ih
  clear hb hB hK ih hT hkp hp
  go_enter Try.func59, Try.ntmps59
  go_wp2_with fail
  generalize w.alloc (.cells #[.int .i64 t.op, .slice kA kn kc, .int .i32 t.rune, .slice sA sn sc, .int .i64 t.at_, .int .i64 t.cap, .string t.name, .int .i64 t.mn, .int .i64 t.mx, .bool t.lzy] 27) = w0 at HB HBX HK ⊢
  go_loopg [4, 3] (kn + 1) (fun q i n W => ∃ j : Nat, q = kn + 1 - j ∧ j ≤ kn ∧ i = .int .i64 (j : Int) ∧ n = .int .i64 (Tr.weights (t.kids.take j) 0) ∧ Hid (Below w0.heap.size w0 W))
  case atStart => exact ⟨0, rfl, Nat.zero_le _, rfl, by simp [Tr.weights], Lib.hid (Below.refl _ _)⟩
  case round =>
    obtain ⟨j, hgk, hj, rfl, rfl, HW⟩ := hrel
    have HG := Lib.hid hgk
    have HJ := Lib.hid hj
    clear hgk hj
    have c1 := (HBX.out.below HW.out).ten.c1
    dsimp only at c1
    by_cases hlt : j < kn
    · obtain ⟨b, o, k, x, rfl, hb, hk, hx, hc⟩ := HK.out.at hlt
      have h10 := hc wr (.of_below HW.out (Nat.le_refl _))
      have k0 := h10.c0
      have k1 := h10.c1
      have k2 := h10.c2
      have k3 := h10.c3
      have k4 := h10.c4
      have k5 := h10.c5
      have k6 := h10.c6
      have k7 := h10.c7
      have k8 := h10.c8
      have k9 := h10.c9
      have hi : (j : Int) < (kn : Int) := by omega
      have hcall := fun (V : World) (hV : Below wr.heap.size wr V) => IH.out k (List.mem_of_getElem? hk) (hx.on (HW.out.trans (hV.mono HW.out.size))) (HP.out k (List.mem_of_getElem? hk))
      have HC : Hid (∀ V : World, Below wr.heap.size wr V → Calls Try.prog 59 #[.agg #[.int .i64 k.op, .slice x.kA x.kn x.kc, .int .i32 k.rune, .slice x.sA x.sn x.sc, .int .i64 k.at_, .int .i64 k.cap, .string k.name, .int .i64 k.mn, .int .i64 k.mx, .bool k.lzy]] V (NumB k.weight V)) := Lib.hid hcall
      have HKK := Lib.hid hk
      have HLT := Lib.hid hlt
      clear hcall h10 hc hx hk hb hlt
      have hcall := HC.out wr (Below.refl _ _)
      go_wp2_with fail
      refine hcall.mono ?_
      rintro e w5 ⟨rfl, hb5⟩
      have HN : Hid (Below w0.heap.size w0 w5) := Lib.hid (HW.out.trans (hb5.mono HW.out.size))
      clear hcall hb5 k0 k1 k2 k3 k4 k5 k6 k7 k8 k9
      have hz := k.weight_range
      have hy := Tr.weights_range (t.kids.take j) 0 (by omega) (by omega)
      have hst : Tr.weights (t.kids.take (j + 1)) 0 = min (Tr.weights (t.kids.take j) 0 + k.weight) 4001 := Tr.weights_take HKK.out 0
      have HST := Lib.hid hst
      clear hst
      generalize Tr.weights (t.kids.take j) 0 = y at *
      generalize k.weight = z at *
      obtain ⟨hz0, hz1⟩ := hz
      obtain ⟨hy0, hy1⟩ := hy
      go_wp2_with fail
      refine (clip_any _ _).mono ?_
      rintro e w6 ⟨rfl, rfl⟩
      go_wp2_with fail
      go_roundg (kn + 1 - (j + 1))
      case measure => have := HG.out; have := HLT.out; omega
      case rel => exact ⟨j + 1, rfl, by have := HLT.out; omega, by go_num, by rw [HST.out], HN⟩
    · have hi : ¬ (j : Int) < (kn : Int) := by omega
      have hall : t.kids.take j = t.kids := by rw [show j = t.kids.length by have := HK.out.len; have := HJ.out; omega, List.take_length]
      have hwe : t.weight = wOf t.op (Tr.weights t.kids 0) (kn : Int) t.mn t.mx := by rw [Tr.weight_eq, HK.out.len]
      have hy := Tr.weights_range t.kids 0 (by omega) (by omega)
      rw [hall]
      have h10 := (HBX.out.below HW.out).ten
      have c0 := h10.c0
      have c7 := h10.c7
      have c8 := h10.c8
      obtain ⟨hy0, hy1⟩ := hy
      generalize Tr.weights t.kids 0 = y at *
      have HWE := Lib.hid hwe
      clear hwe hlt hall h10
      by_cases hop : t.op = 6
      · have d6 : (t.op == 6) = true := by rw [hop]; rfl
        have d7 : (t.op == 7) = false := by rw [hop]; rfl
        have d8 : (t.op == 8) = false := by rw [hop]; rfl
        have d9 : (t.op == 9) = false := by rw [hop]; rfl
        have d11 : (t.op == 11) = false := by rw [hop]; rfl
        have d10 : (t.op == 10) = false := by rw [hop]; rfl
        have d12 : (t.op == 12) = false := by rw [hop]; rfl
        have hw : wOf t.op y (kn : Int) t.mn t.mx = min (2 + y) 4001 := by
          unfold wOf
          rw [if_pos hop]
        have HWW := Lib.hid hw
        clear hw hop
        go_wp2_with fail
        refine (clip_any _ _).mono ?_
        rintro e V0 ⟨rfl, rfl⟩
        go_wp2_with fail
        go_ret
        exact ⟨by rw [HWE.out, HWW.out]; rfl, HB.out.trans (HW.out.mono HB.out.size)⟩
      have n6 : ¬ t.op = 6 := hop
      clear hop
      by_cases hop : t.op = 7
      · have d6 : (t.op == 6) = false := by rw [hop]; rfl
        have d7 : (t.op == 7) = true := by rw [hop]; rfl
        have d8 : (t.op == 8) = false := by rw [hop]; rfl
        have d9 : (t.op == 9) = false := by rw [hop]; rfl
        have d11 : (t.op == 11) = false := by rw [hop]; rfl
        have d10 : (t.op == 10) = false := by rw [hop]; rfl
        have d12 : (t.op == 12) = false := by rw [hop]; rfl
        have hw : wOf t.op y (kn : Int) t.mn t.mx = min (1 + y) 4001 := by
          unfold wOf
          rw [if_neg (by omega), if_pos (by omega)]
        have HWW := Lib.hid hw
        clear hw hop
        go_wp2_with fail
        refine (clip_any _ _).mono ?_
        rintro e V0 ⟨rfl, rfl⟩
        go_wp2_with fail
        go_ret
        exact ⟨by rw [HWE.out, HWW.out]; rfl, HB.out.trans (HW.out.mono HB.out.size)⟩
      have n7 : ¬ t.op = 7 := hop
      clear hop
      by_cases hop : t.op = 8
      · have d6 : (t.op == 6) = false := by rw [hop]; rfl
        have d7 : (t.op == 7) = false := by rw [hop]; rfl
        have d8 : (t.op == 8) = true := by rw [hop]; rfl
        have d9 : (t.op == 9) = false := by rw [hop]; rfl
        have d11 : (t.op == 11) = false := by rw [hop]; rfl
        have d10 : (t.op == 10) = false := by rw [hop]; rfl
        have d12 : (t.op == 12) = false := by rw [hop]; rfl
        have hw : wOf t.op y (kn : Int) t.mn t.mx = min (1 + y) 4001 := by
          unfold wOf
          rw [if_neg (by omega), if_pos (by omega)]
        have HWW := Lib.hid hw
        clear hw hop
        go_wp2_with fail
        refine (clip_any _ _).mono ?_
        rintro e V0 ⟨rfl, rfl⟩
        go_wp2_with fail
        go_ret
        exact ⟨by rw [HWE.out, HWW.out]; rfl, HB.out.trans (HW.out.mono HB.out.size)⟩
      have n8 : ¬ t.op = 8 := hop
      clear hop
      by_cases hop : t.op = 9
      · have d6 : (t.op == 6) = false := by rw [hop]; rfl
        have d7 : (t.op == 7) = false := by rw [hop]; rfl
        have d8 : (t.op == 8) = false := by rw [hop]; rfl
        have d9 : (t.op == 9) = true := by rw [hop]; rfl
        have d11 : (t.op == 11) = false := by rw [hop]; rfl
        have d10 : (t.op == 10) = false := by rw [hop]; rfl
        have d12 : (t.op == 12) = false := by rw [hop]; rfl
        have hw : wOf t.op y (kn : Int) t.mn t.mx = min (1 + y) 4001 := by
          unfold wOf
          rw [if_neg (by omega), if_pos (by omega)]
        have HWW := Lib.hid hw
        clear hw hop
        go_wp2_with fail
        refine (clip_any _ _).mono ?_
        rintro e V0 ⟨rfl, rfl⟩
        go_wp2_with fail
        go_ret
        exact ⟨by rw [HWE.out, HWW.out]; rfl, HB.out.trans (HW.out.mono HB.out.size)⟩
      have n9 : ¬ t.op = 9 := hop
      clear hop
      by_cases hop : t.op = 11
      · have d6 : (t.op == 6) = false := by rw [hop]; rfl
        have d7 : (t.op == 7) = false := by rw [hop]; rfl
        have d8 : (t.op == 8) = false := by rw [hop]; rfl
        have d9 : (t.op == 9) = false := by rw [hop]; rfl
        have d11 : (t.op == 11) = true := by rw [hop]; rfl
        have d10 : (t.op == 10) = false := by rw [hop]; rfl
        have d12 : (t.op == 12) = false := by rw [hop]; rfl
        have hw : wOf t.op y (kn : Int) t.mn t.mx = min (1 + y) 4001 := by
          unfold wOf
          rw [if_neg (by omega), if_pos (by omega)]
        have HWW := Lib.hid hw
        clear hw hop
        go_wp2_with fail
        refine (clip_any _ _).mono ?_
        rintro e V0 ⟨rfl, rfl⟩
        go_wp2_with fail
        go_ret
        exact ⟨by rw [HWE.out, HWW.out]; rfl, HB.out.trans (HW.out.mono HB.out.size)⟩
      have n11 : ¬ t.op = 11 := hop
      clear hop
      by_cases hop : t.op = 10
      · have d6 : (t.op == 6) = false := by rw [hop]; rfl
        have d7 : (t.op == 7) = false := by rw [hop]; rfl
        have d8 : (t.op == 8) = false := by rw [hop]; rfl
        have d9 : (t.op == 9) = false := by rw [hop]; rfl
        have d11 : (t.op == 11) = false := by rw [hop]; rfl
        have d10 : (t.op == 10) = true := by rw [hop]; rfl
        have d12 : (t.op == 12) = false := by rw [hop]; rfl
        have hmax3 := max3_run t.mn t.mx 1
        obtain ⟨kk, hkk⟩ : ∃ kk, kk = min (max t.mn (max t.mx 1)) 4001 := ⟨_, rfl⟩
        have hk0 : 1 ≤ kk := by omega
        have hk1 : kk ≤ 4001 := by omega
        have hm0 : 0 ≤ kk * y := Int.mul_nonneg (by omega) (by omega)
        have hm1 : kk * y ≤ 16008001 := Int.le_trans (Int.mul_le_mul (show kk ≤ 4001 by omega) (show y ≤ 4001 by omega) (by omega) (by omega)) (by omega)
        have hw : wOf t.op y (kn : Int) t.mn t.mx = min (kk * y + kk + 1) 4001 := by
          unfold wOf
          rw [if_neg (by omega), if_neg (by omega), if_pos hop, ← hkk]
        have HKK := Lib.hid hkk
        have HWW := Lib.hid hw
        clear hw hop hkk
        go_wp2_with fail
        refine (clip_any _ _).mono ?_
        rintro e V1 ⟨rfl, rfl⟩
        rw [← HKK.out]
        go_wp2_with fail
        refine (clip_any _ _).mono ?_
        rintro e V1 ⟨rfl, rfl⟩
        go_wp2_with fail
        go_ret
        exact ⟨by rw [HWE.out, HWW.out]; rfl, HB.out.trans (HW.out.mono HB.out.size)⟩
      have n10 : ¬ t.op = 10 := hop
      clear hop
      by_cases hop : t.op = 12
      · have d6 : (t.op == 6) = false := by rw [hop]; rfl
        have d7 : (t.op == 7) = false := by rw [hop]; rfl
        have d8 : (t.op == 8) = false := by rw [hop]; rfl
        have d9 : (t.op == 9) = false := by rw [hop]; rfl
        have d11 : (t.op == 11) = false := by rw [hop]; rfl
        have d10 : (t.op == 10) = false := by rw [hop]; rfl
        have d12 : (t.op == 12) = true := by rw [hop]; rfl
        have hw : wOf t.op y (kn : Int) t.mn t.mx = min (y + min (kn : Int) 4001) 4001 := by
          unfold wOf
          rw [if_neg (by omega), if_neg (by omega), if_neg (by omega), if_pos hop]
        have HWW := Lib.hid hw
        clear hw hop
        go_wp2_with fail
        refine (clip_any _ _).mono ?_
        rintro e V0 ⟨rfl, rfl⟩
        go_wp2_with fail
        refine (clip_any _ _).mono ?_
        rintro e V1 ⟨rfl, rfl⟩
        go_wp2_with fail
        go_ret
        exact ⟨by rw [HWE.out, HWW.out]; rfl, HB.out.trans (HW.out.mono HB.out.size)⟩
      have n12 : ¬ t.op = 12 := hop
      clear hop
      have d6 : (t.op == 6) = false := beq_eq_false_iff_ne.2 n6
      have d7 : (t.op == 7) = false := beq_eq_false_iff_ne.2 n7
      have d8 : (t.op == 8) = false := beq_eq_false_iff_ne.2 n8
      have d9 : (t.op == 9) = false := beq_eq_false_iff_ne.2 n9
      have d11 : (t.op == 11) = false := beq_eq_false_iff_ne.2 n11
      have d10 : (t.op == 10) = false := beq_eq_false_iff_ne.2 n10
      have d12 : (t.op == 12) = false := beq_eq_false_iff_ne.2 n12
      have hw : wOf t.op y (kn : Int) t.mn t.mx = 1 := by
        unfold wOf
        rw [if_neg n6, if_neg (by omega), if_neg n10, if_neg n12]
      have HWW := Lib.hid hw
      clear hw n6 n7 n8 n9 n11 n10 n12
      go_wp2_with fail
      go_ret
      exact ⟨by rw [HWE.out, HWW.out]; rfl, HB.out.trans (HW.out.mono HB.out.size)⟩
set_option maxRecDepth 20000 in
set_option maxHeartbeats 4000000 in
theorem pweight_any : ∀ (t : Tr) {w : World} {kA : Option Addr} {kn kc : Nat} {sA : Option Addr} {sn sc : Nat}, TIn w t ⟨kA, kn, kc, sA, sn, sc⟩ → t.parts ≤ 20000 → Calls Try.prog 54 #[.agg #[.int .i64 t.op, .slice kA kn kc, .int .i32 t.rune, .slice sA sn sc, .int .i64 t.at_, .int .i64 t.cap, .string t.name, .int .i64 t.mn, .int .i64 t.mx, .bool t.lzy]] w (NumB t.weight w) := by
  intro t
  induction t using Tr.ind with
  | h t ih =>
  intro w kA kn kc sA sn sc hT hp
  have hb : Below w.heap.size w (w.alloc (.cells #[.int .i64 t.op, .slice kA kn kc, .int .i32 t.rune, .slice sA sn sc, .int .i64 t.at_, .int .i64 t.cap, .string t.name, .int .i64 t.mn, .int .i64 t.mx, .bool t.lzy] 27)) := (Below.refl _ _).alloc (Nat.le_refl _) _
  have hB := TBox.newV w t kA kn kc sA sn sc
  obtain ⟨ka, hK⟩ := (hT.on hb).kidsV
  have hkn : kn ≤ 20000 := by have := Tr.len_le_partsL t.kids; rw [Tr.parts_eq] at hp; have := hK.len; omega
  have hkp : ∀ k ∈ t.kids, k.parts ≤ 20000 := fun k hk => by have := Tr.partsL_le hk; rw [Tr.parts_eq] at hp; omega
  have HP := Lib.hid hkp
  have HB := Lib.hid hb
  have HBX := Lib.hid hB
  have HK := Lib.hid hK
  have IH := Lib.hid ih
  clear hb hB hK ih hT hkp hp
  go_enter Try.func54, Try.ntmps54
  have c1 := HBX.out.ten.c1
  dsimp only at c1
  go_wp2_with fail
  clear c1
  generalize w.alloc (.cells #[.int .i64 t.op, .slice kA kn kc, .int .i32 t.rune, .slice sA sn sc, .int .i64 t.at_, .int .i64 t.cap, .string t.name, .int .i64 t.mn, .int .i64 t.mx, .bool t.lzy] 27) = w0 at HB HBX HK ⊢
  go_loopg [10, 3] (kn + 1) (fun q i n W => ∃ j : Nat, q = kn + 1 - j ∧ j ≤ kn ∧ i = .int .i64 (j : Int) ∧ n = .int .i64 (Tr.weights (t.kids.take j) 0) ∧ Hid (Below w0.heap.size w0 W))
  case atStart => exact ⟨0, rfl, Nat.zero_le _, rfl, by simp [Tr.weights], Lib.hid (Below.refl _ _)⟩
  case round =>
    obtain ⟨j, hgk, hj, rfl, rfl, HW⟩ := hrel
    have HG := Lib.hid hgk
    have HJ := Lib.hid hj
    clear hgk hj
    have c1 := (HBX.out.below HW.out).ten.c1
    dsimp only at c1
    by_cases hlt : j < kn
    · obtain ⟨b, o, k, x, rfl, hb, hk, hx, hc⟩ := HK.out.at hlt
      have h10 := hc wr (.of_below HW.out (Nat.le_refl _))
      have k0 := h10.c0
      have k1 := h10.c1
      have k2 := h10.c2
      have k3 := h10.c3
      have k4 := h10.c4
      have k5 := h10.c5
      have k6 := h10.c6
      have k7 := h10.c7
      have k8 := h10.c8
      have k9 := h10.c9
      have hi : (j : Int) < (kn : Int) := by omega
      have hcall := fun (V : World) (hV : Below wr.heap.size wr V) => IH.out k (List.mem_of_getElem? hk) (hx.on (HW.out.trans (hV.mono HW.out.size))) (HP.out k (List.mem_of_getElem? hk))
      have HC : Hid (∀ V : World, Below wr.heap.size wr V → Calls Try.prog 54 #[.agg #[.int .i64 k.op, .slice x.kA x.kn x.kc, .int .i32 k.rune, .slice x.sA x.sn x.sc, .int .i64 k.at_, .int .i64 k.cap, .string k.name, .int .i64 k.mn, .int .i64 k.mx, .bool k.lzy]] V (NumB k.weight V)) := Lib.hid hcall
      have HKK := Lib.hid hk
      have HLT := Lib.hid hlt
      clear hcall h10 hc hx hk hb hlt
      have hbx := TBox.newA wr k x
      go_upto_region 5 with fail
      have HBK := Lib.hid hbx
      have HWA : Hid (Below wr.heap.size wr (wr.alloc (.cells #[.int .i64 k.op, .slice x.kA x.kn x.kc, .int .i32 k.rune, .slice x.sA x.sn x.sc, .int .i64 k.at_, .int .i64 k.cap, .string k.name, .int .i64 k.mn, .int .i64 k.mx, .bool k.lzy] 27))) := Lib.hid ((Below.refl _ _).alloc (Nat.le_refl _) _)
      clear hbx c1 k0 k1 k2 k3 k4 k5 k6 k7 k8 k9
      have h10 := HBK.out.ten
      have k0 := h10.c0
      have k1 := h10.c1
      have k2 := h10.c2
      have k3 := h10.c3
      have k4 := h10.c4
      have k5 := h10.c5
      have k6 := h10.c6
      have k7 := h10.c7
      have k8 := h10.c8
      have k9 := h10.c9
      have hcall := HC.out _ HWA.out
      clear h10
      go_wp2_with fail
      refine hcall.mono ?_
      rintro e w5 ⟨rfl, hb5⟩
      have HN : Hid (Below w0.heap.size w0 w5) := Lib.hid (HW.out.trans ((HWA.out.trans (hb5.mono HWA.out.size)).mono HW.out.size))
      clear hcall hb5 k0 k1 k2 k3 k4 k5 k6 k7 k8 k9
      have hz := k.weight_range
      have hy := Tr.weights_range (t.kids.take j) 0 (by omega) (by omega)
      have hst : Tr.weights (t.kids.take (j + 1)) 0 = min (Tr.weights (t.kids.take j) 0 + k.weight) 4001 := Tr.weights_take HKK.out 0
      have HST := Lib.hid hst
      clear hst
      generalize Tr.weights (t.kids.take j) 0 = y at *
      generalize k.weight = z at *
      obtain ⟨hz0, hz1⟩ := hz
      obtain ⟨hy0, hy1⟩ := hy
      go_wp2_with fail
      go_roundg (kn + 1 - (j + 1))
      case measure => have := HG.out; have := HLT.out; omega
      case rel => exact ⟨j + 1, rfl, by have := HLT.out; omega, by go_num, by rw [HST.out], HN⟩
    · have hi : ¬ (j : Int) < (kn : Int) := by omega
      have hall : t.kids.take j = t.kids := by rw [show j = t.kids.length by have := HK.out.len; have := HJ.out; omega, List.take_length]
      have hwe : t.weight = wOf t.op (Tr.weights t.kids 0) (kn : Int) t.mn t.mx := by rw [Tr.weight_eq, HK.out.len]
      have hy := Tr.weights_range t.kids 0 (by omega) (by omega)
      rw [hall]
      have h10 := (HBX.out.below HW.out).ten
      have c0 := h10.c0
      have c7 := h10.c7
      have c8 := h10.c8
      obtain ⟨hy0, hy1⟩ := hy
      generalize Tr.weights t.kids 0 = y at *
      have HWE := Lib.hid hwe
      clear hwe hlt hall h10
      by_cases hop : t.op = 6
      · have d6 : (t.op == 6) = true := by rw [hop]; rfl
        have d7 : (t.op == 7) = false := by rw [hop]; rfl
        have d8 : (t.op == 8) = false := by rw [hop]; rfl
        have d9 : (t.op == 9) = false := by rw [hop]; rfl
        have d11 : (t.op == 11) = false := by rw [hop]; rfl
        have d10 : (t.op == 10) = false := by rw [hop]; rfl
        have d12 : (t.op == 12) = false := by rw [hop]; rfl
        have hw : wOf t.op y (kn : Int) t.mn t.mx = min (y + 2) 4001 := by
          unfold wOf
          rw [if_pos hop]; omega
        have HWW := Lib.hid hw
        clear hw hop
        go_wp2_with fail
        go_ret
        exact ⟨by rw [HWE.out, HWW.out]; rfl, HB.out.trans (HW.out.mono HB.out.size)⟩
      have n6 : ¬ t.op = 6 := hop
      clear hop
      by_cases hop : t.op = 7
      · have d6 : (t.op == 6) = false := by rw [hop]; rfl
        have d7 : (t.op == 7) = true := by rw [hop]; rfl
        have d8 : (t.op == 8) = false := by rw [hop]; rfl
        have d9 : (t.op == 9) = false := by rw [hop]; rfl
        have d11 : (t.op == 11) = false := by rw [hop]; rfl
        have d10 : (t.op == 10) = false := by rw [hop]; rfl
        have d12 : (t.op == 12) = false := by rw [hop]; rfl
        have hw : wOf t.op y (kn : Int) t.mn t.mx = min (y + 1) 4001 := by
          unfold wOf
          rw [if_neg (by omega), if_pos (by omega)]; omega
        have HWW := Lib.hid hw
        clear hw hop
        go_wp2_with fail
        go_ret
        exact ⟨by rw [HWE.out, HWW.out]; rfl, HB.out.trans (HW.out.mono HB.out.size)⟩
      have n7 : ¬ t.op = 7 := hop
      clear hop
      by_cases hop : t.op = 8
      · have d6 : (t.op == 6) = false := by rw [hop]; rfl
        have d7 : (t.op == 7) = false := by rw [hop]; rfl
        have d8 : (t.op == 8) = true := by rw [hop]; rfl
        have d9 : (t.op == 9) = false := by rw [hop]; rfl
        have d11 : (t.op == 11) = false := by rw [hop]; rfl
        have d10 : (t.op == 10) = false := by rw [hop]; rfl
        have d12 : (t.op == 12) = false := by rw [hop]; rfl
        have hw : wOf t.op y (kn : Int) t.mn t.mx = min (y + 1) 4001 := by
          unfold wOf
          rw [if_neg (by omega), if_pos (by omega)]; omega
        have HWW := Lib.hid hw
        clear hw hop
        go_wp2_with fail
        go_ret
        exact ⟨by rw [HWE.out, HWW.out]; rfl, HB.out.trans (HW.out.mono HB.out.size)⟩
      have n8 : ¬ t.op = 8 := hop
      clear hop
      by_cases hop : t.op = 9
      · have d6 : (t.op == 6) = false := by rw [hop]; rfl
        have d7 : (t.op == 7) = false := by rw [hop]; rfl
        have d8 : (t.op == 8) = false := by rw [hop]; rfl
        have d9 : (t.op == 9) = true := by rw [hop]; rfl
        have d11 : (t.op == 11) = false := by rw [hop]; rfl
        have d10 : (t.op == 10) = false := by rw [hop]; rfl
        have d12 : (t.op == 12) = false := by rw [hop]; rfl
        have hw : wOf t.op y (kn : Int) t.mn t.mx = min (y + 1) 4001 := by
          unfold wOf
          rw [if_neg (by omega), if_pos (by omega)]; omega
        have HWW := Lib.hid hw
        clear hw hop
        go_wp2_with fail
        go_ret
        exact ⟨by rw [HWE.out, HWW.out]; rfl, HB.out.trans (HW.out.mono HB.out.size)⟩
      have n9 : ¬ t.op = 9 := hop
      clear hop
      by_cases hop : t.op = 11
      · have d6 : (t.op == 6) = false := by rw [hop]; rfl
        have d7 : (t.op == 7) = false := by rw [hop]; rfl
        have d8 : (t.op == 8) = false := by rw [hop]; rfl
        have d9 : (t.op == 9) = false := by rw [hop]; rfl
        have d11 : (t.op == 11) = true := by rw [hop]; rfl
        have d10 : (t.op == 10) = false := by rw [hop]; rfl
        have d12 : (t.op == 12) = false := by rw [hop]; rfl
        have hw : wOf t.op y (kn : Int) t.mn t.mx = min (y + 1) 4001 := by
          unfold wOf
          rw [if_neg (by omega), if_pos (by omega)]; omega
        have HWW := Lib.hid hw
        clear hw hop
        go_wp2_with fail
        go_ret
        exact ⟨by rw [HWE.out, HWW.out]; rfl, HB.out.trans (HW.out.mono HB.out.size)⟩
      have n11 : ¬ t.op = 11 := hop
      clear hop
      by_cases hop : t.op = 10
      · have d6 : (t.op == 6) = false := by rw [hop]; rfl
        have d7 : (t.op == 7) = false := by rw [hop]; rfl
        have d8 : (t.op == 8) = false := by rw [hop]; rfl
        have d9 : (t.op == 9) = false := by rw [hop]; rfl
        have d11 : (t.op == 11) = false := by rw [hop]; rfl
        have d10 : (t.op == 10) = true := by rw [hop]; rfl
        have d12 : (t.op == 12) = false := by rw [hop]; rfl
        have hmax3 := max3_run t.mn t.mx 1
        obtain ⟨kk, hkk⟩ : ∃ kk, kk = min (max t.mn (max t.mx 1)) 4001 := ⟨_, rfl⟩
        have hk0 : 1 ≤ kk := by omega
        have hk1 : kk ≤ 4001 := by omega
        have hm0 : 0 ≤ y * kk := Int.mul_nonneg (by omega) (by omega)
        have hm1 : y * kk ≤ 16008001 := Int.le_trans (Int.mul_le_mul (show y ≤ 4001 by omega) (show kk ≤ 4001 by omega) (by omega) (by omega)) (by omega)
        have hw : wOf t.op y (kn : Int) t.mn t.mx = min (y * kk + kk + 1) 4001 := by
          unfold wOf
          rw [if_neg (by omega), if_neg (by omega), if_pos hop, ← hkk]; rw [Int.mul_comm]
        have HKK := Lib.hid hkk
        have HWW := Lib.hid hw
        clear hw hop hkk
        go_wp2_with fail
        skip
        have e1 : wrap64 (wrap64 (wrap64 (y * kk) + kk) + 1) = y * kk + kk + 1 := by unfold wrap64; omega
        have HE1 := Lib.hid e1
        clear e1
        go_ret
        refine ⟨?_, HB.out.trans (HW.out.mono HB.out.size)⟩
        show Ending.returned (.int .i64 (min (wrap64 (wrap64 (wrap64 (y * min (max t.mn (max t.mx 1)) 4001) + min (max t.mn (max t.mx 1)) 4001) + 1)) 4001)) = _
        rw [← HKK.out, HE1.out, HWE.out, HWW.out]
      have n10 : ¬ t.op = 10 := hop
      clear hop
      by_cases hop : t.op = 12
      · have d6 : (t.op == 6) = false := by rw [hop]; rfl
        have d7 : (t.op == 7) = false := by rw [hop]; rfl
        have d8 : (t.op == 8) = false := by rw [hop]; rfl
        have d9 : (t.op == 9) = false := by rw [hop]; rfl
        have d11 : (t.op == 11) = false := by rw [hop]; rfl
        have d10 : (t.op == 10) = false := by rw [hop]; rfl
        have d12 : (t.op == 12) = true := by rw [hop]; rfl
        have hw : wOf t.op y (kn : Int) t.mn t.mx = min (y + min (kn : Int) 4001) 4001 := by
          unfold wOf
          rw [if_neg (by omega), if_neg (by omega), if_neg (by omega), if_pos hop]
        have HWW := Lib.hid hw
        clear hw hop
        go_wp2_with fail
        go_ret
        exact ⟨by rw [HWE.out, HWW.out]; rfl, HB.out.trans (HW.out.mono HB.out.size)⟩
      have n12 : ¬ t.op = 12 := hop
      clear hop
      have d6 : (t.op == 6) = false := beq_eq_false_iff_ne.2 n6
      have d7 : (t.op == 7) = false := beq_eq_false_iff_ne.2 n7
      have d8 : (t.op == 8) = false := beq_eq_false_iff_ne.2 n8
      have d9 : (t.op == 9) = false := beq_eq_false_iff_ne.2 n9
      have d11 : (t.op == 11) = false := beq_eq_false_iff_ne.2 n11
      have d10 : (t.op == 10) = false := beq_eq_false_iff_ne.2 n10
      have d12 : (t.op == 12) = false := beq_eq_false_iff_ne.2 n12
      have hw : wOf t.op y (kn : Int) t.mn t.mx = min 1 4001 := by
        unfold wOf
        rw [if_neg n6, if_neg (by omega), if_neg n10, if_neg n12]; rfl
      have HWW := Lib.hid hw
      clear hw n6 n7 n8 n9 n11 n10 n12
      go_wp2_with fail
      go_ret
      exact ⟨by rw [HWE.out, HWW.out]; rfl, HB.out.trans (HW.out.mono HB.out.size)⟩
end Go.Proofs.Ytbhcgjahlfpjoaa
