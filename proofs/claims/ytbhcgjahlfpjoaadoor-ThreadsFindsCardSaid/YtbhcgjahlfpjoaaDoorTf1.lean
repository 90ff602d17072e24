/- Threads: what Find answers; Find of what is no program. -/
import Derived.Test.YtbhcgjahlfpjoaaDoorTm6
import Derived.Test.YtbhcgjahlfpjoaaDoorPg5
import Derived.Test.YtbhcgjahlfpjoaaDoorInD
namespace Go.Proofs.YtbhcgjahlfpjoaaDoor
open Go.RowKit

/-- Does an instruction's place hold at place j; does it read the rune there? -/
def TP (l : List (Int × Nat)) (j : Nat) (x : MI) : Bool := AtB (atAt l (j : Int)) x
def RP (l : List (Int × Nat)) (j : Nat) (x : MI) : Bool := decide ((j : Int) < (l.length : Int) - 1) && hasB x.set (runeAt l (j : Int))
def fit0 (cp : Int) (j : Nat) : List Int := (List.replicate cp.toNat (-1)).set 0 (j : Int)
theorem fit0_length (cp : Int) (j : Nat) : (fit0 cp j).length = cp.toNat := by simp [fit0]
section
variable (L : List MI) (l : List (Int × Nat)) (st cp frm : Int) (anch lng : Bool)
/-- What Find finds, over the places of l (the last one has no rune). -/
def findR : Option (List Int) := if anch = true ∧ (frm < 0 ∨ (l.length : Int) - 1 < frm) then none else findP L (TP l) (RP l) st (fit0 cp) lng anch frm.toNat (l.length - frm.toNat) frm.toNat [] none
def findS : Nat := if anch = true ∧ (frm < 0 ∨ (l.length : Int) - 1 < frm) then 0 else findN L (TP l) (RP l) st (fit0 cp) lng anch frm.toNat (l.length - frm.toNat) frm.toNat [] none
end
/-- The best match in memory, in a block of its own from B0 on. -/
def BestIn (B0 : Nat) (W : World) (Z : Nat → Prop) (v : Value) (b : Option (List Int)) : Prop :=
  match b with | none => v = .slice none 0 0 | some f => FitIn W Z v f ∧ W.ownsRow B0 3 1 v f.length (i64s f)
/-- The machine, at rest. -/
def Ma (b0 : Nat) (W : World) (g : Nat) (D1 D2 : LD) : Prop := ∃ cells n1 X1 n2 X2 s, Mach b0 W g cells 0 n1 D1 X1 3 n2 D2 X2 s
def FindB (b0 g : Nat) (D1 D2 : LD) (W : World) (b : Option (List Int)) (k : Nat) (e : Ending) (W' : World) : Prop :=
  ∃ v D1' D2', e = .returned (.tuple #[v, .bool b.isSome, .int .i64 (k : Int)]) ∧ BestIn W.heap.size W' (Ft g D1' D2') v b ∧ Ma b0 W' g D1' D2' ∧ Went g D1 D2 D1' D2' W W'

set_option maxRecDepth 20000 in
set_option maxHeartbeats 2000000 in
theorem find_bad {w0 W : World} {g : Nat} {D1 D2 : LD} {PA : Option Addr} {n pcap : Nat} {st cp : Int} {L : List MI} (hM : Ma w0.heap.size W g D1 D2) (hP : PgK w0 g PA n pcap L) (hs : ∀ x ∈ L, x.n ≤ 1000000) (hb0 : Bel w0.heap.size g w0 W) (hno : ¬ PgOK n st cp L) (gi : Nat) (frm : Int) (anch lng : Bool) :
    Calls Tryd.prog 11 #[.pointer (some ⟨g, 0, none⟩), .agg #[.slice PA n pcap, .int .i64 st, .int .i64 cp], .pointer (some ⟨gi, 0, none⟩), .int .i64 frm, .bool anch, .bool lng] W (FindB w0.heap.size g D1 D2 W none 0) := by
  have hb1 : Below W.heap.size W (W.alloc (.cells #[.slice PA n pcap, .int .i64 st, .int .i64 cp] 28)) := (Below.refl _ _).alloc (Nat.le_refl _) _
  have hcon := pcheck_any (hP _ (hb0.on hb0.size hb1)) (st := st) (cp := cp) hs
  have HB1 := Lib.hid hb1
  have HM := Lib.hid hM
  have HNO := Lib.hid hno
  clear hb1 hM hP hs hb0 hno
  go_enter Tryd.func11, Tryd.ntmps11
  go_wp2_with fail
  with_reducible refine hcon.mono ?_
  rintro e w2 ⟨v, rfl, hv, hb2⟩
  obtain ⟨rfl⟩ : v = 121 := by
    rcases hv with ⟨_, h⟩ | ⟨h, _⟩
    · exact absurd h HNO.out
    · exact h
  have HB2 := Lib.hid (HB1.out.onto hb2)
  clear hcon hb2 hv
  go_wp2_with fail
  go_ret3
  obtain ⟨cells, n1, X1, n2, X2, s, hm⟩ := HM.out
  exact ⟨_, D1, D2, rfl, rfl, ⟨cells, n1, X1, n2, X2, s, hm.on HB2.out⟩, (Went.refl _ _ _ _).below HB2.out⟩
end Go.Proofs.YtbhcgjahlfpjoaaDoor
