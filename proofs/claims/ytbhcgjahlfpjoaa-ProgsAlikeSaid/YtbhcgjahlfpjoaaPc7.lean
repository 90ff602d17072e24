/- Closure: the program's and the reference's. -/
import Derived.Test.YtbhcgjahlfpjoaaPc6
namespace Go.Proofs.Ytbhcgjahlfpjoaa
open Go.RowKit

/-- What a Closure answers. -/
def ClB (n : Nat) (st cp at_ : Int) (lng : Bool) (L : List MI) (l : List Int) (w : World) (e : Ending) (w' : World) : Prop :=
  Below w.heap.size w w' ∧ ((¬ (PgOK n st cp L ∧ InL n l) ∧ e = .returned (.tuple #[.slice none 0 0, .bool false])) ∨
    (PgOK n st cp L ∧ InL n l ∧ ∃ (s : CS) (O : Option Addr) (oc : Nat), Runs L (AtT at_) lng l (CS.start n) s ∧ e = .returned (.tuple #[.slice O s.out.length oc, .bool s.mt]) ∧
      w'.ownsRow w.heap.size 3 1 (.slice O s.out.length oc) s.out.length (i64s s.out)))

theorem closure_any {w : World} {A : Option Addr} {n c : Nat} {st cp : Int} {L : List MI} (hA : PgIn w A n c L) (hs : ∀ x ∈ L, x.n ≤ 1000000) {B : Option Addr} {m d : Nat} {l : List Int} (hI : IlIn w B m d l) (at_ : Int) (lng : Bool) :
    Calls Try.prog 40 #[.agg #[.slice A n c, .int .i64 st, .int .i64 cp], .slice B m d, .int .i64 at_, .bool lng] w (ClB n st cp at_ lng L l w) := by
  by_cases h1 : PgOK n st cp L
  · by_cases h2 : InL n l
    · exact (closure_go hA hs hI at_ lng h1 h2).mono fun e w' ⟨s, hr, O, oc, he, ho, hb⟩ => ⟨hb, .inr ⟨h1, h2, s, O, oc, hr, he, ho⟩⟩
    · exact (closure_out hA hs hI at_ lng h1 h2).mono fun e w' ⟨he, hb⟩ => ⟨hb, .inl ⟨fun h => h2 h.2, he⟩⟩
  · exact (closure_bad hA hs at_ lng h1).mono fun e w' ⟨he, hb⟩ => ⟨hb, .inl ⟨fun h => h1 h.1, he⟩⟩

set_option maxRecDepth 20000 in
set_option maxHeartbeats 1000000 in
theorem rclosure_bad {w : World} {A : Option Addr} {n c : Nat} {st cp : Int} {L : List MI} (hA : PgIn w A n c L) {B : Option Addr} {m d : Nat} (l : List Int) (at_ : Int) (lng : Bool) (hno : ¬ PgOK n st cp L) :
    Calls Try.prog 41 #[.agg #[.slice A n c, .int .i64 st, .int .i64 cp], .slice B m d, .int .i64 at_, .bool lng] w (ClB n st cp at_ lng L l w) := by
  have hb : Below w.heap.size w (w.alloc (.cells #[.slice A n c, .int .i64 st, .int .i64 cp] 38)) := (Below.refl _ _).alloc (Nat.le_refl _) _
  have hcon := rcheck_any (hA.below hb) (st := st) (cp := cp)
  have HB := Lib.hid hb
  have HNO := Lib.hid hno
  clear hA hb hno
  go_enter Try.func41, Try.ntmps41
  go_wp2_with fail
  refine hcon.mono ?_
  rintro e w2 ⟨v, rfl, hv, hb2⟩
  obtain ⟨rfl⟩ : v = 121 := by
    rcases hv with ⟨_, h⟩ | ⟨h, _⟩
    · exact absurd h HNO.out
    · exact h
  have HB2 := Lib.hid (HB.out.trans (hb2.mono HB.out.size))
  clear hcon hb2 hv
  go_wp2_with fail
  go_ret2
  exact ⟨HB2.out, .inl ⟨fun h => HNO.out h.1, rfl⟩⟩

set_option maxRecDepth 20000 in
set_option maxHeartbeats 2000000 in
theorem rclosure_yes {w : World} {A : Option Addr} {n c : Nat} {st cp : Int} {L : List MI} (hA : PgIn w A n c L) {B : Option Addr} {m d : Nat} {l : List Int} (hI : IlIn w B m d l) (at_ : Int) (lng : Bool) (hyes : PgOK n st cp L) :
    Calls Try.prog 41 #[.agg #[.slice A n c, .int .i64 st, .int .i64 cp], .slice B m d, .int .i64 at_, .bool lng] w (ClB n st cp at_ lng L l w) := by
  have hb : Below w.heap.size w (w.alloc (.cells #[.slice A n c, .int .i64 st, .int .i64 cp] 38)) := (Below.refl _ _).alloc (Nat.le_refl _) _
  have hB := Blk.new w 38 #[.slice A n c, .int .i64 st, .int .i64 cp]
  have hcon := rcheck_any (hA.below hb) (st := st) (cp := cp)
  have hmm : (m : Int) ≤ 9223372036854775807 := by have h1 := hI.max; have h2 := hI.le; unfold maxLen at h1; omega
  have hL : Leads L := .of_ok hyes hA.len
  have hmk := fun W => mkSeen W hyes.2.1
  have hn1 : (n : Int) ≤ 10000 := by have := hyes.2.1; omega
  have HL := Lib.hid hL
  have HB := Lib.hid hb
  have HBK := Lib.hid hB
  have HYES := Lib.hid hyes
  have HI := Lib.hid hI
  have HA := Lib.hid hA
  have HMK := Lib.hid hmk
  clear hA hb hyes hI hB hL hmk
  go_enter Try.func41, Try.ntmps41
  go_wp2_with fail
  refine hcon.mono ?_
  rintro e w2 ⟨v, rfl, hv, hb2⟩
  obtain ⟨rfl⟩ : v = 0 := by
    rcases hv with ⟨h, _⟩ | ⟨_, h⟩
    · exact h
    · exact absurd HYES.out h
  have HB2 := Lib.hid (HB.out.trans (hb2.mono HB.out.size))
  have HBK2 := Lib.hid (HBK.out.below hb2 HBK.out.lt)
  clear hcon hb2 hv HB HBK
  go_wp2_with fail
  go_loopg [10] (m + 1) (fun q i W => ∃ (j : Nat), q = m + 1 - j ∧ j ≤ m ∧ i = .int .i64 (j : Int) ∧ Hid (Below w.heap.size w W ∧ Blk W w.heap.size 38 #[.slice A n c, .int .i64 st, .int .i64 cp] ∧ ∀ k x, k < j → l[k]? = some x → 0 ≤ x ∧ x < (n : Int)))
  case atStart => exact ⟨0, rfl, Nat.zero_le _, rfl, Lib.hid ⟨HB2.out, HBK2.out, fun k x hk => by omega⟩⟩
  case round =>
    obtain ⟨j, hgk, hj, rfl, HR⟩ := hrel
    have HG := Lib.hid hgk
    have HJ := Lib.hid hj
    have p0 := HR.out.2.1.cell 0
    simp only [List.getElem?_toArray, List.getElem?_cons_zero] at p0
    clear hgk hj
    by_cases hlt : j < m
    · obtain ⟨b, o, x, rfl, hb, hx, hc⟩ := HI.out.at hlt
      have c1 := hc wr (.of_below HR.out.1 (Nat.le_refl _))
      have hi : (j : Int) < (m : Int) := by omega
      have HX := Lib.hid hx
      have HLT := Lib.hid hlt
      clear hc hb hx hlt
      have hout : ¬ (0 ≤ x ∧ x < (n : Int)) → Hid (¬ InL n l) := fun h => Lib.hid fun h2 => h (h2 x (List.mem_of_getElem? HX.out))
      by_cases h0 : 0 ≤ x
      · by_cases h1 : x < (n : Int)
        · have d0 : decide (x < 0) = false := decide_eq_false (by omega)
          have d1 : decide ((n : Int) ≤ x) = false := decide_eq_false (by omega)
          have HI2 : Hid (∀ k y, k < j + 1 → l[k]? = some y → 0 ≤ y ∧ y < (n : Int)) := Lib.hid fun k y hk hy => by
            rcases Nat.lt_succ_iff_lt_or_eq.1 hk with h | h
            · exact HR.out.2.2 k y h hy
            · subst h; rw [HX.out] at hy; injection hy with hy; subst hy; exact ⟨h0, h1⟩
          clear hout h0 h1
          go_wp2_with fail
          go_region
          go_wp2_with fail
          go_roundg (m + 1 - (j + 1))
          case measure => have := HG.out; have := HLT.out; omega
          case rel => exact ⟨j + 1, rfl, by have := HLT.out; omega, by go_num, Lib.hid ⟨HR.out.1.drew, HR.out.2.1.drew, HI2.out⟩⟩
        · have d0 : decide (x < 0) = false := decide_eq_false (by omega)
          have d1 : decide ((n : Int) ≤ x) = true := decide_eq_true (by omega)
          have HO := hout fun h => h1 h.2
          clear hout h0 h1
          go_wp2_with fail
          go_region
          go_wp2_with fail
          go_ret2
          exact ⟨HR.out.1.drew, .inl ⟨fun h => HO.out h.2, rfl⟩⟩
      · have d0 : decide (x < 0) = true := decide_eq_true (by omega)
        have HO := hout fun h => h0 h.1
        clear hout h0
        go_wp2_with fail
        go_region
        go_wp2_with fail
        go_ret2
        exact ⟨HR.out.1.drew, .inl ⟨fun h => HO.out h.2, rfl⟩⟩
    · have hi : ¬ (j : Int) < (m : Int) := by omega
      have hjm : j = m := by have := HJ.out; omega
      have hin : InL n l := fun x hx => by
        obtain ⟨k, hk, rfl⟩ := List.getElem_of_mem hx
        exact HR.out.2.2 k _ (by have := HI.out.len; omega) (List.getElem?_eq_getElem hk)
      have HIN := Lib.hid hin
      have p1 := HR.out.2.1.cell 1
      have p2 := HR.out.2.1.cell 2
      simp only [List.getElem?_toArray, List.getElem?_cons_zero, List.getElem?_cons_succ] at p1 p2
      clear hlt hjm hin
      go_wp2_with fail
      have hmk := HMK.out
      simp only [List.map_replicate, List.toArray_replicate] at hmk
      have a0 := (HR.out.2.1.alloc (.cells (Array.replicate n (Value.bool false)) 4)).cell 0
      have a1 := (HR.out.2.1.alloc (.cells (Array.replicate n (Value.bool false)) 4)).cell 1
      have a2 := (HR.out.2.1.alloc (.cells (Array.replicate n (Value.bool false)) 4)).cell 2
      simp only [List.getElem?_toArray, List.getElem?_cons_zero, List.getElem?_cons_succ] at a0 a1 a2
      go_region
      have h1 := HR.out.1.alloc HR.out.1.size (.cells (Array.replicate n (Value.bool false)) 4)
      have hw : WkM w ((wr.alloc (.cells (Array.replicate n (Value.bool false)) 4)).alloc (.cells #[.slice A n c, .int .i64 st, .int .i64 cp, .int .i64 at_, .bool lng, .slice (some ⟨wr.heap.size, 0, none⟩) n n, .slice none 0 0, .bool false] 80)).drew A n c st cp at_ lng (wr.heap.size + 1) wr.heap.size (CS.start n).seen none 0 (CS.start n).out (CS.start n).mt := by
        refine ⟨(h1.alloc h1.size _).drew, ?_, ?_, World.ownsRow_nil _ _ _ _, Nat.le_succ_of_le HR.out.1.size, HR.out.1.size⟩
        · have := Blk.new (wr.alloc (.cells (Array.replicate n (Value.bool false)) 4)) 80 #[.slice A n c, .int .i64 st, .int .i64 cp, .int .i64 at_, .bool lng, .slice (some ⟨wr.heap.size, 0, none⟩) n n, .slice none 0 0, .bool false]
          rw [show (wr.alloc (.cells (Array.replicate n (Value.bool false)) 4)).heap.size = wr.heap.size + 1 by simp] at this
          exact this.drew
        · have := (Blk.new wr 4 (Array.replicate n (Value.bool false))).alloc (.cells #[.slice A n c, .int .i64 st, .int .i64 cp, .int .i64 at_, .bool lng, .slice (some ⟨wr.heap.size, 0, none⟩) n n, .slice none 0 0, .bool false] 80)
          rw [show ((CS.start n).seen.map Value.bool).toArray = Array.replicate n (Value.bool false) by simp [CS.start]]
          exact this.drew
      have HW := Lib.hid hw
      clear hw h1 hmk a0 a1 a2 p0 p1 p2 HMK
      generalize ((wr.alloc (.cells (Array.replicate n (Value.bool false)) 4)).alloc (.cells #[.slice A n c, .int .i64 st, .int .i64 cp, .int .i64 at_, .bool lng, .slice (some ⟨wr.heap.size, 0, none⟩) n n, .slice none 0 0, .bool false] 80)).drew = w5 at HW ⊢
      generalize wr.heap.size + 1 = g at HW ⊢
      generalize wr.heap.size = gs at HW ⊢
      have hcome : ∀ N, ComeN w A n c st cp at_ lng g gs L N := come_any HA.out HL.out HYES.out.2.1
      have HC := Lib.hid hcome
      clear hcome HR HG HJ HB2 HBK2
      go_wp2_with fail
      go_loopg [12] (m + 1) (fun q i W => ∃ (j : Nat) (s : CS) (O : Option Addr) (oc : Nat), q = m + 1 - j ∧ j ≤ m ∧ i = .int .i64 (j : Int) ∧ Hid (WkM w W A n c st cp at_ lng g gs s.seen O oc s.out s.mt ∧ s.seen.length = n ∧ s.out.length + s.left ≤ n ∧ Runs L (AtT at_) lng (l.take j) (CS.start n) s))
      case atStart => exact ⟨0, CS.start n, none, 0, rfl, Nat.zero_le _, rfl, Lib.hid ⟨HW.out, by simp [CS.start], by simp [CS.start, CS.left], .nil _⟩⟩
      case round =>
        obtain ⟨j, s, O, oc, hgk, hj, rfl, HR⟩ := hrel
        have HG := Lib.hid hgk
        have HJ := Lib.hid hj
        clear hgk hj
        by_cases hlt : j < m
        · obtain ⟨b, o, x, rfl, hb, hx, hc⟩ := HI.out.at hlt
          have c1 := hc wr (.of_below HR.out.1.below (Nat.le_refl _))
          have hi : (j : Int) < (m : Int) := by omega
          have HX := Lib.hid hx
          have HLT := Lib.hid hlt
          have hcall := HC.out (s.left + 1) s wr O oc x (Nat.lt_succ_self _) HR.out.1 HR.out.2.1 HR.out.2.2.1 (HIN.out x (List.mem_of_getElem? hx)).1 (HIN.out x (List.mem_of_getElem? hx)).2
          clear hc hb hx hlt
          go_wp2_with fail
          refine hcall.mono ?_
          rintro e w6 ⟨rfl, s6, O6, oc6, hM6, _, hR6⟩
          obtain ⟨u1, u2, u3⟩ := hR6.num
          have HN : Hid (WkM w w6 A n c st cp at_ lng g gs s6.seen O6 oc6 s6.out s6.mt ∧ s6.seen.length = n ∧ s6.out.length + s6.left ≤ n ∧ Runs L (AtT at_) lng (l.take (j + 1)) (CS.start n) s6) := by
            refine Lib.hid ⟨hM6, u1.trans HR.out.2.1, Nat.le_trans u3 HR.out.2.2.1, ?_⟩
            rw [List.take_add_one, HX.out]
            exact HR.out.2.2.2.app hR6
          clear hM6 hR6 u1 u2 u3 hcall
          go_wp2_with fail
          go_roundg (m + 1 - (j + 1))
          case measure => have := HG.out; have := HLT.out; omega
          case rel => exact ⟨j + 1, s6, O6, oc6, rfl, by have := HLT.out; omega, by go_num, HN⟩
        · have hi : ¬ (j : Int) < (m : Int) := by omega
          have hjm : j = m := by have := HJ.out; omega
          have HF : Hid (Runs L (AtT at_) lng l (CS.start n) s) := Lib.hid (by have := HR.out.2.2.2; rw [hjm, ← HI.out.len, List.take_length] at this; exact this)
          have b6 := HR.out.1.blk.cell 6
          have b7 := HR.out.1.blk.cell 7
          simp only [List.getElem?_toArray, List.getElem?_cons_zero, List.getElem?_cons_succ] at b6 b7
          clear hlt hjm
          go_wp2_with fail
          go_region
          go_wp2_with fail
          go_ret2
          exact ⟨HR.out.1.below.drew, .inr ⟨HYES.out, HIN.out, s, O, oc, HF.out, rfl, HR.out.1.own⟩⟩
theorem rclosure_any {w : World} {A : Option Addr} {n c : Nat} {st cp : Int} {L : List MI} (hA : PgIn w A n c L) {B : Option Addr} {m d : Nat} {l : List Int} (hI : IlIn w B m d l) (at_ : Int) (lng : Bool) :
    Calls Try.prog 41 #[.agg #[.slice A n c, .int .i64 st, .int .i64 cp], .slice B m d, .int .i64 at_, .bool lng] w (ClB n st cp at_ lng L l w) := by
  by_cases h1 : PgOK n st cp L
  · exact rclosure_yes hA hI at_ lng h1
  · exact rclosure_bad hA l at_ lng h1
end Go.Proofs.Ytbhcgjahlfpjoaa
