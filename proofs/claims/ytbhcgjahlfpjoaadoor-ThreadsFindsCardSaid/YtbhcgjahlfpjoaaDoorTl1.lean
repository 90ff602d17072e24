/- Threads' laws: their small functions (lines of Pc8 turned). -/
import Derived.Test.YtbhcgjahlfpjoaaDoorIl1
import Derived.Test.YtbhcgjahlfpjoaaDoorPg5
import Derived.Test.YtbhcgjahlfpjoaaDoorInD
import Derived.Test.YtbhcgjahlfpjoaaDoorTf1
namespace Go.Proofs.YtbhcgjahlfpjoaaDoor
open Go.RowKit

/-- Told: are the lists the same? -/
def SameB (l k : List Int) (w : World) (e : Ending) (w' : World) : Prop := ∃ b, e = .returned (.bool b) ∧ (b = true ↔ l = k) ∧ Below w.heap.size w w'
/-- Told: is the program too long? -/
def LongB (n : Nat) (L : List MI) (w : World) (e : Ending) (w' : World) : Prop := ∃ b, e = .returned (.bool b) ∧ (b = false → n ≤ 2000 ∧ ∀ x ∈ L, x.n ≤ 2000) ∧ Below w.heap.size w w'
set_option maxHeartbeats 1000000 in
theorem sameI_any {w : World} {A B : Option Addr} {n c m d : Nat} {l k : List Int} (hA : IlIn w A n c l) (hB : IlIn w B m d k) :
    Calls Tryd.prog 15 #[.slice A n c, .slice B m d] w (SameB l k w) := by
  have h1 := hA.max
  have h2 := hA.le
  unfold maxLen at h1
  have hnc : (n : Int) ≤ 9223372036854775807 := by omega
  have HA := Lib.hid hA
  have HB := Lib.hid hB
  clear hA hB h1 h2
  by_cases hnm : n = m
  · subst hnm
    have d0 : ((n : Int) != (n : Int)) = false := by simp
    go_enter Tryd.func15, Tryd.ntmps15
    go_wp2_with fail
    go_loopg [5] (n + 1) (fun q i wr => ∃ (j : Nat), q = n + 1 - j ∧ j ≤ n ∧ i = .int .i64 (j : Int) ∧ Hid (Below w.heap.size w wr ∧ ∀ i, i < j → l[i]? = k[i]?))
    case atStart => exact ⟨0, rfl, by omega, rfl, Lib.hid ⟨Below.refl _ _, fun i hi => by omega⟩⟩
    case round =>
      obtain ⟨j, hgk, hj, rfl, HR⟩ := hrel
      have HG := Lib.hid hgk
      have HJ := Lib.hid hj
      clear hgk hj
      by_cases hlt : j < n
      · obtain ⟨b1, o1, x, rfl, _, hx, hc1⟩ := HA.out.at hlt
        obtain ⟨b2, o2, y, rfl, _, hy, hc2⟩ := HB.out.at hlt
        have c1 := hc1 wr (.of_below HR.out.1 (Nat.le_refl _))
        have c2 := hc2 wr (.of_below HR.out.1 (Nat.le_refl _))
        have hi : (j : Int) < (n : Int) := by omega
        have HX := Lib.hid hx
        have HY := Lib.hid hy
        have HLT := Lib.hid hlt
        clear hc1 hc2 hx hy hlt
        by_cases hxy : x = y
        · have d1 : (x != y) = false := by rw [hxy]; simp
          have HN : Hid (∀ i, i < j + 1 → l[i]? = k[i]?) := Lib.hid fun i hi => by
            rcases Nat.lt_succ_iff_lt_or_eq.1 hi with h | h
            · exact HR.out.2 i h
            · subst h; rw [HX.out, HY.out, hxy]
          clear hxy
          go_wp2_with fail
          go_region
          go_wp2_with fail
          go_roundg (n + 1 - (j + 1))
          case measure => have := HG.out; have := HLT.out; omega
          case rel => exact ⟨j + 1, rfl, by have := HLT.out; omega, by go_num, Lib.hid ⟨HR.out.1.drew, HN.out⟩⟩
        · have d1 : (x != y) = true := bne_iff_ne.2 hxy
          have HN : Hid (¬ l = k) := Lib.hid fun h => by
            subst h
            have := HX.out.symm.trans HY.out
            injection this with this
            exact hxy this
          clear hxy
          go_wp2_with fail
          go_region
          go_wp2_with fail
          go_ret
          exact ⟨_, rfl, ⟨fun h => (by cases h), fun h => absurd h HN.out⟩, HR.out.1.drew⟩
      · have hi : ¬ (j : Int) < (n : Int) := by omega
        have HN : Hid (l = k) := Lib.hid (List.ext_getElem? fun i => by
          rcases Nat.lt_or_ge i j with h | h
          · exact HR.out.2 i h
          · have h1 := HA.out.len
            have h2 := HB.out.len
            rw [List.getElem?_eq_none (by omega), List.getElem?_eq_none (by omega)])
        clear hlt
        go_wp2_with fail
        go_ret
        exact ⟨_, rfl, ⟨fun _ => HN.out, fun _ => rfl⟩, HR.out.1⟩
  · have d0 : ((n : Int) != (m : Int)) = true := bne_iff_ne.2 (by omega)
    have HN : Hid (¬ l = k) := Lib.hid fun h => hnm (by rw [← HA.out.len, ← HB.out.len, h])
    clear hnm
    go_enter Tryd.func15, Tryd.ntmps15
    go_wp2_with fail
    go_ret
    exact ⟨_, rfl, ⟨fun h => (by cases h), fun h => absurd h HN.out⟩, Below.refl _ _⟩

/-- Sets that memory can hold. -/
def SetsFit (L : List MI) : Prop := ∀ x ∈ L, x.n ≤ 17592186043904
set_option maxHeartbeats 1000000 in
theorem long_any {w : World} {A : Option Addr} {n c : Nat} {st cp : Int} {L : List MI} (hA : PgIn w A n c L) (hf : SetsFit L) (hnn : n ≤ 17592186043904) :
    Calls Tryd.prog 22 #[.agg #[.slice A n c, .int .i64 st, .int .i64 cp]] w (LongB n L w) := by
  have hb : Below w.heap.size w (w.alloc (.cells #[.slice A n c, .int .i64 st, .int .i64 cp] 28)) := (Below.refl _ _).alloc (Nat.le_refl _) _
  have hB := Blk.new w 28 #[.slice A n c, .int .i64 st, .int .i64 cp]
  have hnc : (n : Int) ≤ 9223372036854775807 := by omega
  have HA := Lib.hid (hA.below hb)
  have HF := Lib.hid hf
  have HB := Lib.hid hb
  have HNN := Lib.hid hnn
  have c0 := hB.cell 0
  have HBK := Lib.hid hB
  simp only [List.getElem?_toArray, List.getElem?_cons_zero] at c0
  clear hA hf hb hB hnn
  go_enter Tryd.func22, Tryd.ntmps22
  go_wp2_with fail
  generalize w.alloc (.cells #[.slice A n c, .int .i64 st, .int .i64 cp] 28) = w1 at HA HB c0 HBK ⊢
  go_loopg [4, 3] (n + 1) (fun q i a wr => ∃ (j t : Nat), q = n + 1 - j ∧ j ≤ n ∧ i = .int .i64 (j : Int) ∧ a = .int .i64 (t : Int) ∧ w1 = wr ∧ Hid (t ≤ 17592186045904 + n ∧ n ≤ t ∧ (t ≤ 2000 → ∀ k x, k < j → L[k]? = some x → x.n ≤ 2000)))
  case atStart => exact ⟨0, n, rfl, by omega, rfl, rfl, rfl, Lib.hid ⟨by omega, Nat.le_refl _, fun _ k x hk => by omega⟩⟩
  case round =>
    obtain ⟨j, t, hgk, hj, rfl, rfl, rfl, HR⟩ := hrel
    have HG := Lib.hid hgk
    have HJ := Lib.hid hj
    have ht : (t : Int) ≤ 9223372036854775807 := by have := HR.out.1; have := HNN.out; omega
    clear hgk hj
    by_cases hlt : j < n
    · have hi : (j : Int) < (n : Int) := by omega
      by_cases h2 : t ≤ 2000
      · have d2 : decide ((t : Int) ≤ 2000) = true := decide_eq_true (by omega)
        have h2i : (t : Int) ≤ 2000 := by omega
        obtain ⟨b, o, x, rfl, _, hx, _, hc⟩ := HA.out.at hlt
        obtain ⟨_, _, _, c3, _⟩ := hc w1 (Same.refl _ _ _)
        have hxn := HF.out x (List.mem_of_getElem? hx)
        have hw : wrap64 ((t : Int) + (x.n : Int)) = ((t + x.n : Nat) : Int) := by unfold wrap64; omega
        have hw2 : IntKind.i64.wrap ((t : Int) + (x.n : Int)) = ((t + x.n : Nat) : Int) := by rw [IntKind.wrap_i64]; omega
        have HX := Lib.hid hx
        have HLT := Lib.hid hlt
        have H2 := Lib.hid h2
        have HXN := Lib.hid hxn
        clear hc hx hlt h2 hxn
        go_wp2_with fail
        go_roundg (n + 1 - (j + 1))
        case measure => have := HG.out; have := HLT.out; omega
        case rel =>
          refine ⟨j + 1, t + x.n, rfl, by have := HLT.out; omega, by go_num, ?_, rfl, Lib.hid ⟨by have := H2.out; have := HXN.out; omega, by have := HR.out.2.1; omega, fun h k y hk hy => ?_⟩⟩
          · first | rfl | (congr 1)
          · rcases Nat.lt_succ_iff_lt_or_eq.1 hk with h' | h'
            · exact HR.out.2.2 H2.out k y h' hy
            · subst h'; rw [HX.out] at hy; injection hy with hy; subst hy; omega
      · have d2 : decide ((t : Int) ≤ 2000) = false := decide_eq_false (by omega)
        have d3 : decide ((2000 : Int) < (t : Int)) = true := decide_eq_true (by omega)
        have h2i : ¬ (t : Int) ≤ 2000 := by omega
        have h3i : (2000 : Int) < (t : Int) := by omega
        clear hlt h2
        go_wp2_with fail
        go_ret
        exact ⟨_, rfl, fun h => (by first | cases h | (exfalso; simp at h; omega)), HB.out⟩
    · have hi : ¬ (j : Int) < (n : Int) := by omega
      have hall : t ≤ 2000 → n ≤ 2000 ∧ ∀ x ∈ L, x.n ≤ 2000 := fun h => ⟨Nat.le_trans HR.out.2.1 h, fun x hx => by
        obtain ⟨k, hk, rfl⟩ := List.getElem_of_mem hx
        exact HR.out.2.2 h k _ (by have := HA.out.len; omega) (List.getElem?_eq_getElem hk)⟩
      have HL := Lib.hid hall
      clear hlt hall
      go_wp2_with fail
      go_ret
      exact ⟨_, rfl, fun h => HL.out (by simp only [decide_eq_false_iff_not] at h; omega), HB.out⟩

/-- Told: is a program over a text too long? -/
def Long15B (n tn : Nat) (L : List MI) (w : World) (e : Ending) (w' : World) : Prop := ∃ b, e = .returned (.bool b) ∧ (b = false → n ≤ 2000 ∧ (∀ x ∈ L, x.n ≤ 2000) ∧ tn ≤ 3000 ∧ n * (tn + 1) ≤ 100000) ∧ Below w.heap.size w w'
set_option maxRecDepth 20000 in
set_option maxHeartbeats 1000000 in
theorem long15_any {w : World} {A : Option Addr} {n c : Nat} {st cp : Int} {L : List MI} (hA : PgIn w A n c L) (hf : SetsFit L) (hnn : n ≤ 17592186043904) (T : Option Addr) {tn tc : Nat} (htn : tn ≤ 65536) :
    Calls Tryd.prog 10 #[.agg #[.slice A n c, .int .i64 st, .int .i64 cp], .slice T tn tc] w (Long15B n tn L w) := by
  have hb : Below w.heap.size w (w.alloc (.cells #[.slice A n c, .int .i64 st, .int .i64 cp] 28)) := (Below.refl _ _).alloc (Nat.le_refl _) _
  have hB := Blk.new w 28 #[.slice A n c, .int .i64 st, .int .i64 cp]
  have hl := long_any (st := st) (cp := cp) (hA.below hb) hf hnn
  have HB := Lib.hid hb
  have HBK := Lib.hid hB
  clear hA hf hb hB
  go_enter Tryd.func10, Tryd.ntmps10
  go_wp2_with fail
  with_reducible refine hl.mono ?_
  rintro e w2 ⟨b, rfl, hbn, hb2⟩
  have HBN := Lib.hid hbn
  have HB2 := Lib.hid (HB.out.onto hb2)
  have c0 := (HBK.out.below hb2 HBK.out.lt).cell 0
  simp only [List.getElem?_toArray, List.getElem?_cons_zero] at c0
  clear hl hbn hb2
  cases b with
  | true =>
    go_wp2_with fail
    go_ret
    exact ⟨_, rfl, ⟨fun h => (by cases h), HB2.out⟩⟩
  | false =>
    obtain ⟨h1, h2⟩ := HBN.out rfl
    by_cases ht : tn ≤ 3000
    · have d0 : decide ((3000 : Int) < (tn : Int)) = false := decide_eq_false (by omega)
      have i0 : ¬ (3000 : Int) < (tn : Int) := by omega
      have hmul : n * (tn + 1) ≤ 2000 * 3001 := Nat.mul_le_mul h1 (by omega)
      have hw1 : IntKind.i64.wrap ((tn : Int) + 1) = (tn : Int) + 1 := IntWalk.i64_in _ (by omega)
      have hcast : (n : Int) * ((tn : Int) + 1) = ((n * (tn + 1) : Nat) : Int) := by simp
      have hw2 : IntKind.i64.wrap ((n : Int) * ((tn : Int) + 1)) = (n : Int) * ((tn : Int) + 1) := IntWalk.i64_in _ (by rw [hcast]; omega)
      have HH2 := Lib.hid h2
      by_cases hp : n * (tn + 1) ≤ 100000
      · have i1 : ¬ (100000 : Int) < (n : Int) * ((tn : Int) + 1) := by rw [hcast]; omega
        have HP := Lib.hid hp
        have HT := Lib.hid ht
        have H1 := Lib.hid h1
        clear hcast hmul hp ht h2 h1
        go_wp2_with fail
        go_ret
        exact ⟨_, rfl, ⟨fun _ => ⟨H1.out, HH2.out, HT.out, HP.out⟩, HB2.out⟩⟩
      · have i1 : (100000 : Int) < (n : Int) * ((tn : Int) + 1) := by rw [hcast]; omega
        clear hcast hmul hp ht h2 h1
        go_wp2_with fail
        go_ret
        exact ⟨_, rfl, ⟨fun h => (by cases h), HB2.out⟩⟩
    · have i0 : (3000 : Int) < (tn : Int) := by omega
      clear ht h1 h2
      go_wp2_with fail
      go_ret
      exact ⟨_, rfl, ⟨fun h => (by cases h), HB2.out⟩⟩

/-- The program's input of a text. -/
def TextB (w : World) (s : ByteArray) (e : Ending) (w' : World) : Prop :=
  (s.size ≤ 65536 ∧ ∃ g m, Cnt s m ∧ e = .returned (.pointer (some ⟨g, 0, none⟩)) ∧ InAt w' w.heap.size w'.heap.size g 2 (full (preR s m) s.size) s.data.toList ∧ Below w.heap.size w w') ∨ (65536 < s.size ∧ e = .returned (.pointer none) ∧ Below w.heap.size w w')
set_option maxHeartbeats 1000000 in
theorem text11_any {w : World} {lo U : Nat} {A : Option Addr} {n c : Nat} {s : ByteArray} (hR : Rd w lo U A (byteVals s.data.toList)) (hU : U ≤ w.heap.size) (hn : s.size = n) (hA : A = none → n = 0) (hb : n ≤ maxLen) :
    Calls Tryd.prog 9 #[.slice A n c] w (TextB w s) := by
  by_cases hs : n ≤ 65536
  · have hc := new_text (c := c) 2 (by omega) hR hU hn hA hs
    have HS : Hid (s.size ≤ 65536) := Lib.hid (by omega)
    clear hR hU hA hb hs hn
    go_enter Tryd.func9, Tryd.ntmps9
    go_wp2_with fail
    with_reducible refine hc.mono ?_
    rintro e w2 ⟨g, m, hm, rfl, hin, hb2⟩
    have HX := Lib.hid (And.intro hm (And.intro hin hb2))
    clear hc hm hin hb2
    go_wp2_with fail
    go_ret
    exact .inl ⟨HS.out, g, m, HX.out.1, rfl, HX.out.2.1, HX.out.2.2⟩
  · have hc := new_many 2 A n c w (by omega) (by omega) hb
    have HS : Hid (65536 < s.size) := Lib.hid (by omega)
    clear hR hU hA hb hs hn
    go_enter Tryd.func9, Tryd.ntmps9
    go_wp2_with fail
    with_reducible refine hc.mono ?_
    rintro e w2 ⟨rfl, rfl⟩
    clear hc
    go_wp2_with fail
    go_ret
    exact .inr ⟨HS.out, rfl, Below.refl _ _⟩
end Go.Proofs.YtbhcgjahlfpjoaaDoor
