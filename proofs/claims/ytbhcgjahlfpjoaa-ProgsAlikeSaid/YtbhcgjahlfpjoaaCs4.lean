/- The classes of a program: plain; the reference's. -/
import Derived.Test.YtbhcgjahlfpjoaaCs3
import Derived.Test.YtbhcgjahlfpjoaaPc8
namespace Go.Proofs.Ytbhcgjahlfpjoaa
open Go.RowKit

def base11 : List Int := [0, 10, 11, 48, 58, 65, 91, 95, 96, 97, 123]
/-- Where the ranges begin, and where they have ended. -/
def ends (s : List Rg) : List Int := s.flatMap fun p => [p.1, p.2 + 1]
def pts (L : List MI) : List Int := L.flatMap fun x => ends x.set
theorem ends_take {s : List Rg} {k : Nat} {p : Rg} (h : s[k]? = some p) : ends (s.take (k + 1)) = ends (s.take k) ++ [p.1, p.2 + 1] := by
  unfold ends; rw [List.take_add_one, h]; simp
theorem pts_take {L : List MI} {k : Nat} {x : MI} (h : L[k]? = some x) : pts (L.take (k + 1)) = pts (L.take k) ++ ends x.set := by
  unfold pts; rw [List.take_add_one, h]; simp
/-- A rising list whose members are the runes among xs. -/
def GSt (xs l : List Int) : Prop := l.Pairwise (· < ·) ∧ ∀ v, v ∈ l ↔ v ∈ xs ∧ v ≤ 1114111
theorem GSt.put {xs l r : List Int} {x : Int} (h : GSt xs l) (hp : PutR l x r) : GSt (xs ++ [x]) r :=
  ⟨hp.1, fun v => by
    rw [hp.2.1, h.2, List.mem_append, List.mem_singleton]
    constructor
    · rintro (⟨h1, h2⟩ | ⟨rfl, h2⟩)
      · exact ⟨.inl h1, h2⟩
      · exact ⟨.inr rfl, h2⟩
    · rintro ⟨h1 | rfl, h2⟩
      · exact .inl ⟨h1, h2⟩
      · exact .inr ⟨rfl, h2⟩⟩
theorem rise_det : ∀ a b : List Int, a.Pairwise (· < ·) → b.Pairwise (· < ·) → (∀ v, v ∈ a ↔ v ∈ b) → a = b := by
  intro a
  induction a with
  | nil =>
    intro b _ _ h
    cases b with
    | nil => rfl
    | cons y b => have := (h y).2 (by simp); simp at this
  | cons x a ih =>
    intro b ha hb h
    cases b with
    | nil => have := (h x).1 (by simp); simp at this
    | cons y b =>
      rw [List.pairwise_cons] at ha hb
      have hxy : x = y := by
        rcases List.mem_cons.1 ((h x).1 (by simp)) with h1 | h1
        · exact h1
        · rcases List.mem_cons.1 ((h y).2 (by simp)) with h2 | h2
          · exact h2.symm
          · have := hb.1 x h1; have := ha.1 y h2; omega
      subst hxy
      congr 1
      refine ih b ha.2 hb.2 fun v => ⟨fun hv => ?_, fun hv => ?_⟩
      · rcases List.mem_cons.1 ((h v).1 (List.mem_cons_of_mem _ hv)) with rfl | h1
        · have := ha.1 _ hv; omega
        · exact h1
      · rcases List.mem_cons.1 ((h v).2 (List.mem_cons_of_mem _ hv)) with rfl | h1
        · have := hb.1 _ hv; omega
        · exact h1
theorem GSt.det {xs l r : List Int} (h : GSt xs l) (h' : GSt xs r) : l = r := rise_det l r h.1 h'.1 fun v => by rw [h.2, h'.2]
/-- Ranges of runes in all sets. -/
def SetsIn (L : List MI) : Prop := ∀ x ∈ L, ∀ p ∈ x.set, 0 ≤ p.1 ∧ p.1 ≤ p.2 ∧ p.2 ≤ 1114111
theorem setsIn {w : World} {A : Option Addr} {n c : Nat} {st cp : Int} {L : List MI} (hA : PgIn w A n c L) (h : PgOK n st cp L) : SetsIn L := by
  intro x hx p hp
  have hok := h.2.2.2.2.2.2.2 x hx
  have hlen : x.set.length = x.n := (hA.sets x hx).len
  have h0 : x.n = 0 → False := fun e => by rw [e] at hlen; rw [List.eq_nil_of_length_eq_zero hlen] at hp; cases hp
  rcases hok with h | h | h | h | h
  · exact (h0 h.2.2.2.1).elim
  · have := h.2.2.2.2.2.1.1 p hp; unfold maxR at this; exact this
  · exact (h0 h.2.2.2.2.2.1).elim
  · exact (h0 h.2.2.2.2.2.1).elim
  · exact (h0 h.2.2.2.2.1).elim

/-- Classes answers. -/
def ClsB (n : Nat) (st cp : Int) (L : List MI) (w : World) (e : Ending) (w' : World) : Prop :=
  Below w.heap.size w w' ∧ ∃ B m d r, e = .returned (.slice B m d) ∧ RnIn w' B m d r ∧ ((¬ PgOK n st cp L ∧ r = []) ∨ (PgOK n st cp L ∧ GSt (base11 ++ pts L) r))
theorem ClsB.det {n : Nat} {st cp : Int} {L : List MI} {r r' : List Int} (h : (¬ PgOK n st cp L ∧ r = []) ∨ (PgOK n st cp L ∧ GSt (base11 ++ pts L) r)) (h' : (¬ PgOK n st cp L ∧ r' = []) ∨ (PgOK n st cp L ∧ GSt (base11 ++ pts L) r')) : r = r' := by
  rcases h with ⟨h1, h2⟩ | ⟨h1, h2⟩ <;> rcases h' with ⟨h3, h4⟩ | ⟨h3, h4⟩
  · rw [h2, h4]
  · exact absurd h3 h1
  · exact absurd h1 h3
  · exact h2.det h4
theorem RnIn.lit (w : World) (t : TypeId) (l : List Int) (hl : l.length ≤ 1000) : RnIn (w.alloc (.cells (i32s l).toArray t)) (some ⟨w.heap.size, 0, none⟩) l.length l.length l :=
  ⟨(Rd.new (lo := 0) (U := w.heap.size + 1) w (i32s l) t _ (Nat.zero_le _) (by omega)).mono (Nat.le_refl _) (by simp), rfl, Nat.le_refl _, by unfold maxLen; omega, fun h => by cases h⟩

set_option maxRecDepth 20000 in
set_option maxHeartbeats 1000000 in
theorem rclasses_bad {w : World} {A : Option Addr} {n c : Nat} {st cp : Int} {L : List MI} (hA : PgIn w A n c L) (hno : ¬ PgOK n st cp L) :
    Calls Try.prog 48 #[.agg #[.slice A n c, .int .i64 st, .int .i64 cp]] w (ClsB n st cp L w) := by
  have hb : Below w.heap.size w (w.alloc (.cells #[.slice A n c, .int .i64 st, .int .i64 cp] 38)) := (Below.refl _ _).alloc (Nat.le_refl _) _
  have hcon := rcheck_any (hA.below hb) (st := st) (cp := cp)
  have HB := Lib.hid hb
  have HNO := Lib.hid hno
  clear hA hb hno
  go_enter Try.func48, Try.ntmps48
  go_wp2_with fail
  refine hcon.mono ?_
  rintro e w2 ⟨v, rfl, hv, hb2⟩
  obtain ⟨rfl⟩ : v = 121 := by
    rcases hv with ⟨_, h⟩ | ⟨h, _⟩
    · exact absurd h HNO.out
    · exact h
  have HB2 := Lib.hid (HB.out.trans (hb2.mono HB.out.size))
  clear hcon hb2 hv
  go_wp2_with fail
  go_ret
  exact ⟨HB2.out, none, 0, 0, [], rfl, RnIn.empty _, .inl ⟨HNO.out, rfl⟩⟩

set_option maxRecDepth 20000 in
set_option maxHeartbeats 2000000 in
theorem rclasses_yes {w : World} {A : Option Addr} {n c : Nat} {st cp : Int} {L : List MI} (hA : PgIn w A n c L) (hs : ∀ x ∈ L, x.n ≤ 2000) (hn2 : n ≤ 2000) (hyes : PgOK n st cp L) :
    Calls Try.prog 48 #[.agg #[.slice A n c, .int .i64 st, .int .i64 cp]] w (ClsB n st cp L w) := by
  have hb : Below w.heap.size w (w.alloc (.cells #[.slice A n c, .int .i64 st, .int .i64 cp] 38)) := (Below.refl _ _).alloc (Nat.le_refl _) _
  have hB := Blk.new w 38 #[.slice A n c, .int .i64 st, .int .i64 cp]
  have hcon := rcheck_any (hA.below hb) (st := st) (cp := cp)
  have HIN := Lib.hid (setsIn hA hyes)
  have hn1 : (n : Int) ≤ 2000 := by omega
  have HB := Lib.hid hb
  have HBK := Lib.hid hB
  have HYES := Lib.hid hyes
  have HA := Lib.hid hA
  have HSM := Lib.hid hs
  clear hA hs hb hyes hB
  go_enter Try.func48, Try.ntmps48
  go_wp2_with fail
  refine hcon.mono ?_
  rintro e w2 ⟨v, rfl, hv, hb2⟩
  obtain ⟨rfl⟩ : v = 0 := by
    rcases hv with ⟨h, _⟩ | ⟨_, h⟩
    · exact h
    · exact absurd HYES.out h
  have HB3 := Lib.hid (HB.out.trans (hb2.mono HB.out.size))
  have hB3 := HBK.out.below hb2 HBK.out.lt
  obtain ⟨gp, hgp⟩ : ∃ gp, gp = w.heap.size := ⟨_, rfl⟩
  have HGP := Lib.hid hgp
  rw [← hgp] at hB3 HB3 ⊢
  clear hgp
  have HBK3 := Lib.hid hB3
  clear hcon hb2 hv HBK HB hB3
  go_wp2_with fail
  go_loopg [3, 4] (n + 1) (fun q lv i W => ∃ (j m d : Nat) (B : Option Addr) (l : List Int), q = n + 1 - j ∧ j ≤ n ∧ i = .int .i64 (j : Int) ∧ lv = .slice B m d ∧
    Hid (Below gp w W ∧ Blk W gp 38 #[.slice A n c, .int .i64 st, .int .i64 cp] ∧ RnIn W B m d l ∧ GSt (base11 ++ pts (L.take j)) l ∧ m ≤ 11 + 4000 * j))
  case atStart =>
    have h5 : ∀ v ∈ base11, v ≤ 1114111 := by decide
    exact ⟨0, 11, 11, _, base11, rfl, Nat.zero_le _, rfl, rfl, Lib.hid ⟨HB3.out.alloc (Nat.le_trans (Nat.le_of_eq HGP.out) HB3.out.size) _, HBK3.out.alloc _, RnIn.lit w2 _ base11 (by decide), ⟨by decide, fun v => by
      simp only [pts, List.take_zero, List.flatMap_nil, List.append_nil]
      exact ⟨fun h => ⟨h, h5 v h⟩, fun h => h.1⟩⟩, by omega⟩⟩
  case round =>
    obtain ⟨j, m, d, B, l, hgk, hj, rfl, rfl, HR⟩ := hrel
    have HG := Lib.hid hgk
    have HJ := Lib.hid hj
    clear hgk hj
    have c0 := HR.out.2.1.cell 0
    simp only [List.getElem?_toArray, List.getElem?_cons_zero] at c0
    by_cases hlt : j < n
    · have hi : (j : Int) < (n : Int) := by omega
      obtain ⟨bA, oA, x, hAe, _, hx, hxI, hxc⟩ := HA.out.at hlt
      have hxn := HSM.out x (List.mem_of_getElem? hx)
      have hxi := HIN.out x (List.mem_of_getElem? hx)
      have HX := Lib.hid hx
      have HXI := Lib.hid hxI
      have HXC := Lib.hid hxc
      have HIX := Lib.hid hxi
      have HLT := Lib.hid hlt
      subst hAe
      clear hx hxI hxc hxi hlt
      go_upto_region 8 with fail
      clear c0
      have hxn1 : (x.n : Int) ≤ 2000 := by omega
      go_loopg [3, 5] (x.n + 1) (fun q lv i V => ∃ (k m d : Nat) (B : Option Addr) (l : List Int), q = x.n + 1 - k ∧ k ≤ x.n ∧ i = .int .i64 (k : Int) ∧ lv = .slice B m d ∧
        Hid (Below gp w V ∧ Blk V gp 38 #[.slice (some ⟨bA, oA, none⟩) n c, .int .i64 st, .int .i64 cp] ∧ RnIn V B m d l ∧ GSt (base11 ++ pts (L.take j) ++ ends (x.set.take k)) l ∧ m ≤ 11 + 4000 * j + 2 * k))
      case atStart => exact ⟨0, m, d, B, l, rfl, Nat.zero_le _, rfl, rfl, Lib.hid ⟨HR.out.1, HR.out.2.1, HR.out.2.2.1, by simpa [ends] using HR.out.2.2.2.1, by have := HR.out.2.2.2.2; omega⟩⟩
      case round =>
        clear HR
        obtain ⟨k, m, d, B, l, hgk, hk, rfl, rfl, HR⟩ := hrel
        have HG2 := Lib.hid hgk
        have HK := Lib.hid hk
        clear hgk hk
        have c0 := HR.out.2.1.cell 0
        simp only [List.getElem?_toArray, List.getElem?_cons_zero] at c0
        obtain ⟨_, _, _, c3, _⟩ := HXC.out wr (.of_below HR.out.1 (Nat.le_of_eq HGP.out.symm))
        by_cases hlk : k < x.n
        · have hki : (k : Int) < (x.n : Int) := by omega
          obtain ⟨b, o, p, hpe, _, hp, hpc, _, _⟩ := HXI.out.at hlk
          obtain ⟨p1, p2⟩ := hpc wr (.of_below HR.out.1 (Nat.le_of_eq HGP.out.symm))
          obtain ⟨q1, q2, q3⟩ := HIX.out p (List.mem_of_getElem? hp)
          have hm : m ≤ 9000000 := by have := HR.out.2.2.2.2; have := HJ.out; have := HK.out; omega
          have hcon := put_any HR.out.2.2.1 p.1 HR.out.2.2.2.1.1 (by omega)
          have HP := Lib.hid hp
          have HPC := Lib.hid hpc
          have HLK := Lib.hid hlk
          rw [hpe] at c3
          clear hp hpc hlk
          go_wp2_with fail
          refine hcon.mono ?_
          rintro e V1 ⟨B1, m1, d1, l1, rfl, hR1, hP1, hb1⟩
          have hV1 : Below gp w V1 := HR.out.1.trans (hb1.mono (Nat.le_trans (Nat.le_of_eq HGP.out) HR.out.1.size))
          have hK1 := HR.out.2.1.below hb1 HR.out.2.1.lt
          have hS1 := HR.out.2.2.2.1.put hP1
          have hm1 : m1 ≤ m + 1 := by have h5 := hP1.2.2; rw [hR1.len, HR.out.2.2.1.len] at h5; exact h5
          have c01 := hK1.cell 0
          simp only [List.getElem?_toArray, List.getElem?_cons_zero] at c01
          obtain ⟨_, _, _, c31, _⟩ := HXC.out V1 (.of_below hV1 (Nat.le_of_eq HGP.out.symm))
          obtain ⟨p11, p21⟩ := HPC.out V1 (.of_below hV1 (Nat.le_of_eq HGP.out.symm))
          have hcon2 := put_any hR1 (p.2 + 1) hS1.1 (by omega)
          have hw : IntKind.i32.wrap (p.2 + 1) = p.2 + 1 := IntWalk.i32_in _ (by omega)
          rw [hpe] at c31
          have HV1 := Lib.hid hV1
          have HK1 := Lib.hid hK1
          have HS1 := Lib.hid hS1
          have HR1 := Lib.hid hR1
          clear hcon hb1 hP1 hR1 hS1 hV1 hK1 c0 c3 p1 p2
          go_wp2_with fail
          refine hcon2.mono ?_
          rintro e V2 ⟨B2, m2, d2, l2, rfl, hR2, hP2, hb2⟩
          have hV2 : Below gp w V2 := HV1.out.trans (hb2.mono (Nat.le_trans (Nat.le_of_eq HGP.out) HV1.out.size))
          have hK2 := HK1.out.below hb2 HK1.out.lt
          have hS2 := HS1.out.put hP2
          have hm2 : m2 ≤ m1 + 1 := by have h5 := hP2.2.2; rw [hR2.len, HR1.out.len] at h5; exact h5
          have HN : Hid (GSt (base11 ++ pts (L.take j) ++ ends (x.set.take (k + 1))) l2) := Lib.hid (by
            rw [ends_take HP.out]
            simpa using hS2)
          have HQ := Lib.hid (And.intro hV2 (And.intro hK2 hR2))
          clear hcon2 hb2 hP2 hR2 hS2 hV2 hK2 c01 c31 p11 p21
          go_wp2_with fail
          go_roundg (x.n + 1 - (k + 1))
          case measure => have := HG2.out; have := HLK.out; omega
          case rel => exact ⟨k + 1, m2, d2, B2, l2, rfl, by have := HLK.out; omega, by go_num, rfl, Lib.hid ⟨HQ.out.1, HQ.out.2.1, HQ.out.2.2, HN.out, by have := HR.out.2.2.2.2; omega⟩⟩
        · have hki : ¬ (k : Int) < (x.n : Int) := by omega
          have hkn : k = x.n := by have := HK.out; omega
          have HN : Hid (GSt (base11 ++ pts (L.take (j + 1))) l ∧ m ≤ 11 + 4000 * (j + 1)) := Lib.hid ⟨by
            have h5 := HR.out.2.2.2.1
            rw [hkn, ← HXI.out.len, List.take_length] at h5
            rw [pts_take HX.out, ← List.append_assoc]
            exact h5, by have := HR.out.2.2.2.2; omega⟩
          clear hlk hkn
          go_wp2_with fail
          go_roundg (n + 1 - (j + 1))
          case measure => have := HG.out; have := HLT.out; omega
          case rel => exact ⟨j + 1, m, d, B, l, rfl, by have := HLT.out; omega, by go_num, rfl, Lib.hid ⟨HR.out.1, HR.out.2.1, HR.out.2.2.1, HN.out.1, HN.out.2⟩⟩
    · have hi : ¬ (j : Int) < (n : Int) := by omega
      have hjn : j = n := by have := HJ.out; omega
      have HN : Hid (GSt (base11 ++ pts L) l) := Lib.hid (by
        have h5 := HR.out.2.2.2.1
        rw [List.take_of_length_le (by rw [HA.out.len]; omega)] at h5
        exact h5)
      clear hlt hjn
      go_wp2_with fail
      go_ret
      exact ⟨HGP.out ▸ HR.out.1, B, m, d, l, rfl, HR.out.2.2.1, .inr ⟨HYES.out, HN.out⟩⟩
end Go.Proofs.Ytbhcgjahlfpjoaa
