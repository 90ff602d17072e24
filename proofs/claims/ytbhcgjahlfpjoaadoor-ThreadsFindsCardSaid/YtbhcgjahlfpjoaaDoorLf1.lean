/- ThreadsFinds: what it is asked, in memory; the steps' bound; the document's input. -/
import Derived.Test.YtbhcgjahlfpjoaaDoorTdM
import Derived.Test.YtbhcgjahlfpjoaaDoorLwAgain
namespace Go.Proofs.YtbhcgjahlfpjoaaDoor
open Go.RowKit

/-- A machine's question. -/
structure AV where
  A : Option Addr
  n : Nat
  c : Nat
  st : Int
  cp : Int
  L : List MI
  T : Option Addr
  tn : Nat
  tc : Nat
  s : ByteArray
  frm : Int
  anch : Bool
  lng : Bool
def AV.cells (x : AV) : List Value := [.slice x.A x.n x.c, .int .i64 x.st, .int .i64 x.cp, .slice x.T x.tn x.tc, .int .i64 x.frm, .bool x.anch, .bool x.lng]
def avCells (K : List AV) : List Value := K.flatMap AV.cells
def AV.In (w : World) (x : AV) : Prop := AskIn w x.A x.n x.c x.L x.T x.tn x.tc x.s x.frm ∧ x.tn ≤ x.tc ∧ x.tc ≤ maxLen
theorem avCells_length (K : List AV) : (avCells K).length = K.length * 7 := by
  induction K with
  | nil => rfl
  | cons p l ih => simp only [avCells, List.flatMap_cons, List.length_append, AV.cells, List.length_cons, List.length_nil] at *; omega
theorem avCells_at : ∀ (K : List AV) (k : Nat) (x : AV), K[k]? = some x → ∀ j, j < 7 → (avCells K)[k * 7 + j]? = x.cells[j]?
  | [], k, x, h, _, _ => by simp at h
  | y :: K, 0, x, h, j, hj => by
    simp only [List.getElem?_cons_zero, Option.some.injEq] at h
    subst h
    have e : avCells (y :: K) = y.cells ++ avCells K := rfl
    rw [e, Nat.zero_mul, Nat.zero_add, List.getElem?_append_left (by simp [AV.cells]; omega)]
  | y :: K, k + 1, x, h, j, hj => by
    rw [List.getElem?_cons_succ] at h
    have e : avCells (y :: K) = y.cells ++ avCells K := rfl
    rw [e, List.getElem?_append_right (by simp [AV.cells]; omega), show (k + 1) * 7 + j - y.cells.length = k * 7 + j by simp [AV.cells]; omega]
    exact avCells_at K k x h j hj
/-- A list of questions, in memory. -/
structure AsksIn (w : World) (Q : Option Addr) (m d : Nat) (K : List AV) : Prop where
  rd : Rd w 0 w.heap.size Q (avCells K)
  len : K.length = m
  le : m ≤ d
  max : d ≤ maxLen
  each : ∀ x ∈ K, x.In w
theorem AsksIn.at {w : World} {Q : Option Addr} {m d : Nat} {K : List AV} (h : AsksIn w Q m d K) {k : Nat} (hk : k < m) :
    ∃ b o x, Q = some ⟨b, o, none⟩ ∧ b < w.heap.size ∧ K[k]? = some x ∧ x.In w ∧ ∀ W, Same 0 w.heap.size w W → W.cell? ⟨b, o + k * 7, none⟩ = some (.slice x.A x.n x.c) ∧ W.cell? ⟨b, o + k * 7 + 1, none⟩ = some (.int .i64 x.st) ∧ W.cell? ⟨b, o + k * 7 + 2, none⟩ = some (.int .i64 x.cp) ∧ W.cell? ⟨b, o + k * 7 + 3, none⟩ = some (.slice x.T x.tn x.tc) ∧ W.cell? ⟨b, o + k * 7 + 4, none⟩ = some (.int .i64 x.frm) ∧ W.cell? ⟨b, o + k * 7 + 5, none⟩ = some (.bool x.anch) ∧ W.cell? ⟨b, o + k * 7 + 6, none⟩ = some (.bool x.lng) := by
  obtain ⟨b, o, hQ, _, hb, hc⟩ := h.rd (by rw [avCells_length, h.len]; omega)
  have hk' : k < K.length := by rw [h.len]; exact hk
  have hp : K[k]? = some K[k] := List.getElem?_eq_getElem hk'
  have hx := avCells_at K k _ hp
  refine ⟨b, o, K[k], hQ, hb, hp, h.each _ (List.getElem_mem _), fun W hW => ?_⟩
  have key : ∀ j v, j < 7 → (K[k]).cells[j]? = some v → W.cell? ⟨b, o + (k * 7 + j), none⟩ = some v := fun j v hj hv => (hW.cell (p := ⟨b, o + (k * 7 + j), none⟩) (Nat.zero_le _) hb).trans (hc _ _ ((hx j hj).trans hv))
  refine ⟨?_, ?_, ?_, ?_, ?_, ?_, ?_⟩
  · exact key 0 _ (by omega) rfl
  · rw [Nat.add_assoc]; exact key 1 _ (by omega) rfl
  · rw [Nat.add_assoc]; exact key 2 _ (by omega) rfl
  · rw [Nat.add_assoc]; exact key 3 _ (by omega) rfl
  · rw [Nat.add_assoc]; exact key 4 _ (by omega) rfl
  · rw [Nat.add_assoc]; exact key 5 _ (by omega) rfl
  · rw [Nat.add_assoc]; exact key 6 _ (by omega) rfl
theorem pre_pos (s : ByteArray) (m : Nat) : ∀ p ∈ preR s m, 0 ≤ p.1 := by
  intro p hp
  induction m with
  | zero => simp [preR] at hp
  | succ m ih =>
    rw [pre_succ] at hp
    rcases List.mem_append.1 hp with h | h
    · exact ih h
    · simp only [List.mem_singleton] at h
      subst h
      simp [symN]
/-- The steps' bound. -/
theorem fS_le {n c : Nat} {st : Int} {L : List MI} {l : List (Int × Nat)} (h : PgOK n st (c : Int) L) (hl : L.length = n) (frm : Int) (anch lng : Bool) (hk : l.length ≤ 100000) : fS n st (c : Int) L l frm anch lng ≤ 8 * n * (c + 1) * l.length := by
  unfold fS
  rw [if_pos h]
  unfold findS
  split
  · exact Nat.zero_le _
  · have h1 := (steps_le (l := l) h hl anch lng frm.toNat (l.length - frm.toNat) (by omega)).1
    refine Nat.le_trans h1 ?_
    have h2 : 3 * ((2 + c) * L.length) + c + 1 ≤ 8 * n * (c + 1) := by
      have e : 8 * n * (c + 1) = 8 * (c * n) + 8 * n := by rw [Nat.mul_add, Nat.mul_one, Nat.mul_assoc 8 n c, Nat.mul_comm n c]
      rw [hl, Nat.add_mul, Nat.mul_add, e]
      have h3 : c ≤ c * n := Nat.le_mul_of_pos_right c h.1
      have h4 := h.1
      omega
    rw [Nat.mul_comm (8 * n * (c + 1))]
    exact Nat.mul_le_mul (by omega) h2
set_option maxHeartbeats 1000000 in
theorem steps_any {w : World} {PA : Option Addr} {n pcap : Nat} {st : Int} {c pl k : Nat} (hn : n ≤ 2000) (hnn : n ≤ pcap ∧ pcap ≤ maxLen) (hc : c ≤ 4002) (hp : pl ≤ 100001) (hk : k ≤ 8 * n * (c + 1) * pl) :
    Calls Tryd.prog 16 #[.agg #[.slice PA n pcap, .int .i64 st, .int .i64 (c : Int)], .int .i64 (pl : Int), .int .i64 (k : Int)] w fun e w' => e = .returned (.bool true) ∧ Below w.heap.size w w' := by
  have hb : Below w.heap.size w (w.alloc (.cells #[.slice PA n pcap, .int .i64 st, .int .i64 (c : Int)] 28)) := (Below.refl _ _).alloc (Nat.le_refl _) _
  obtain ⟨a1, h1⟩ : ∃ a1, a1 = 8 * n := ⟨_, rfl⟩
  obtain ⟨c1, h2⟩ : ∃ c1, c1 = c + 1 := ⟨_, rfl⟩
  obtain ⟨a2, h3⟩ : ∃ a2, a2 = a1 * c1 := ⟨_, rfl⟩
  obtain ⟨a3, h4⟩ : ∃ a3, a3 = a2 * pl := ⟨_, rfl⟩
  have b2 : a2 ≤ 16000 * 4003 := by rw [h3]; exact Nat.mul_le_mul (by omega) (by omega)
  have b3 : a3 ≤ 16000 * 4003 * 100001 := by rw [h4]; exact Nat.mul_le_mul b2 hp
  have w1 : IntKind.i64.wrap (8 * (n : Int)) = (a1 : Int) := by rw [show 8 * (n : Int) = (a1 : Int) by omega]; exact IntWalk.i64_in _ (by omega)
  have w2 : IntKind.i64.wrap ((c : Int) + 1) = (c1 : Int) := by rw [show (c : Int) + 1 = (c1 : Int) by omega]; exact IntWalk.i64_in _ (by omega)
  have w3 : IntKind.i64.wrap ((a1 : Int) * (c1 : Int)) = (a2 : Int) := by rw [mulN, ← h3]; exact IntWalk.i64_in _ (by omega)
  have w4 : IntKind.i64.wrap ((a2 : Int) * (pl : Int)) = (a3 : Int) := by rw [mulN, ← h4]; exact IntWalk.i64_in _ (by omega)
  have hk3 : k ≤ a3 := by rw [h4, h3, h2, h1]; exact hk
  have d1 : decide ((k : Int) ≤ (a3 : Int)) = true := decide_eq_true (by omega)
  have hki : (k : Int) ≤ (a3 : Int) := by omega
  have hnm := hnn.2
  have hnl := hnn.1
  unfold maxLen at hnm
  have HB := Lib.hid hb
  clear h1 h2 h3 h4 b2 b3 hk hb hnn
  go_enter Tryd.func16, Tryd.ntmps16
  go_wp2_with fail
  go_ret
  exact ⟨rfl, HB.out⟩
set_option maxHeartbeats 1000000 in
theorem doc_any {w : World} {lo U : Nat} {A : Option Addr} {n c : Nat} {s : ByteArray} (hT : Lib.Utf8Tabs 0 1 w) (hR : Rd w lo U A (byteVals s.data.toList)) (hU : U ≤ w.heap.size) (hn : s.size = n) (hnc : n ≤ c) (hcm : c ≤ maxLen) (hA : A = none → n = 0) (hb : n ≤ 65536) :
    Calls Tryd.prog 14 #[.slice A n c] w fun e w' => ∃ g m, Cnt s m ∧ e = .returned (.pointer (some ⟨g, 0, none⟩)) ∧ RefAt w' w.heap.size w'.heap.size g (preR s m) s.size s.data.toList ∧ Below w.heap.size w w' := by
  have hc := refNew_ok 2 (by omega) hT hR hU hn hnc hcm hA hb
  clear hT hR hU hn hnc hcm hA hb
  go_enter Tryd.func14, Tryd.ntmps14
  go_wp2_with fail
  with_reducible refine hc.mono ?_
  rintro e w2 ⟨g, m, hm, rfl, hin, hb2⟩
  have HX := Lib.hid (And.intro hm (And.intro hin hb2))
  clear hc hm hin hb2
  go_wp2_with fail
  go_ret
  exact ⟨g, m, HX.out.1, rfl, HX.out.2.1, HX.out.2.2⟩
end Go.Proofs.YtbhcgjahlfpjoaaDoor
