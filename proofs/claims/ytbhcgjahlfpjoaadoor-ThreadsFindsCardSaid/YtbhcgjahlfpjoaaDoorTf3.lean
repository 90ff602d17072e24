/- Threads: Find of anything. -/
import Derived.Test.YtbhcgjahlfpjoaaDoorTf2
namespace Go.Proofs.YtbhcgjahlfpjoaaDoor
open Go.RowKit

open Classical in
/-- What Find answers: what was found, the steps. -/
noncomputable def fR (n : Nat) (st cp : Int) (L : List MI) (l : List (Int × Nat)) (frm : Int) (anch lng : Bool) : Option (List Int) := if PgOK n st cp L then findR L l st cp frm anch lng else none
open Classical in
noncomputable def fS (n : Nat) (st cp : Int) (L : List MI) (l : List (Int × Nat)) (frm : Int) (anch lng : Bool) : Nat := if PgOK n st cp L then findS L l st cp frm anch lng else 0
theorem PgOK.leads3 {n : Nat} {st cp : Int} {L : List MI} (h : PgOK n st cp L) (hl : L.length = n) : Leads3 L ∧ CapsAt L := by
  obtain ⟨_, _, _, _, _, _, _, q8⟩ := h
  refine ⟨fun x hx => ?_, fun x hx h4 => ?_⟩
  · have h := q8 x hx
    rw [hl]
    unfold InstOK at h
    refine ⟨fun h3 => ?_, fun h3 => ?_⟩ <;> omega
  · have h := q8 x hx
    unfold InstOK at h
    omega
theorem steps_le {n c : Nat} {st : Int} {L : List MI} {l : List (Int × Nat)} (h : PgOK n st (c : Int) L) (hl : L.length = n) (anch lng : Bool) (fr k : Nat) (hk : k ≤ 100000) :
    findN L (TP l) (RP l) st (fit0 c) lng anch fr k fr [] none ≤ k * (3 * ((2 + c) * L.length) + c + 1) ∧ findN L (TP l) (RP l) st (fit0 c) lng anch fr k fr [] none ≤ 4611686018427387904 := by
  obtain ⟨h3, h4⟩ := h.leads3 hl
  obtain ⟨_, q2, q3, q4, q5, q6, _, _⟩ := h
  have h1 := findN_le (L := L) (T := TP l) (R := RP l) (s0 := st) (f0 := fit0 c) h3 h4 (c := c) (fun j => by rw [fit0_length, Int.toNat_natCast]) q3 (by rw [hl]; exact q4) lng anch fr k fr [] none Full.nil (fun _ h => by cases h)
  refine ⟨h1, Nat.le_trans h1 ?_⟩
  have h5 : (2 + c) * L.length ≤ 4004 * 10000 := Nat.mul_le_mul (by omega) (by omega)
  have h6 : k * (3 * ((2 + c) * L.length) + c + 1) ≤ 100000 * (3 * (4004 * 10000) + 4002 + 1) := Nat.mul_le_mul hk (by omega)
  omega
theorem find_any {w0 W : World} {g : Nat} {D1 D2 : LD} {PA : Option Addr} {n pcap : Nat} {st cp : Int} {L : List MI} (hM : Ma w0.heap.size W g D1 D2) (hP : PgK w0 g PA n pcap L) (hs : ∀ x ∈ L, x.n ≤ 1000000) (hb0 : Bel w0.heap.size g w0 W)
    {lo U gi : Nat} {l : List (Int × Nat)} {sx : List UInt8} (hI : SymsAt W lo U gi l sx) (hU : U ≤ W.heap.size) (hZ : ∀ k, lo ≤ k → k < U → ¬ Ft g D1 D2 k) (hl : 1 ≤ l.length ∧ l.length ≤ 100000) (frm : Int) (hfi : frm ≤ 9223372036854775807) (anch lng : Bool) :
    Calls Tryd.prog 11 #[.pointer (some ⟨g, 0, none⟩), .agg #[.slice PA n pcap, .int .i64 st, .int .i64 cp], .pointer (some ⟨gi, 0, none⟩), .int .i64 frm, .bool anch, .bool lng] W
      (FindB w0.heap.size g D1 D2 W (fR n st cp L l frm anch lng) (fS n st cp L l frm anch lng)) := by
  by_cases hyes : PgOK n st cp L
  · unfold fR fS
    rw [if_pos hyes, if_pos hyes]
    unfold findR findS
    by_cases hfar : anch = true ∧ (frm < 0 ∨ (l.length : Int) - 1 < frm)
    · rw [if_pos hfar, if_pos hfar]
      obtain ⟨rfl, hfar⟩ := hfar
      exact find_far hM hP hs hb0 hyes hI hU hl frm hfar lng
    · rw [if_neg hfar, if_neg hfar]
      obtain ⟨c, rfl⟩ : ∃ c : Nat, cp = (c : Int) := ⟨cp.toNat, by have := hyes.2.2.2.2.1; omega⟩
      exact find_main hM hP hs hb0 hyes hI hU hZ hl frm anch lng (fun h h2 => hfar ⟨h, h2⟩) hfi _ rfl (steps_le hyes hP.len anch lng _ _ (by omega)).2
  · unfold fR fS
    rw [if_neg hyes, if_neg hyes]
    exact find_bad hM hP hs hb0 hyes gi frm anch lng
end Go.Proofs.YtbhcgjahlfpjoaaDoor
