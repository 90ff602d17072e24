/- progs.Closure: what is no question. -/
import Derived.Test.YtbhcgjahlfpjoaaPc2
namespace Go.Proofs.Ytbhcgjahlfpjoaa
open Go.RowKit

theorem out_any {w : World} {g : Nat} {A : Option Addr} {n c : Nat} {st cp : Int} (hB : Blk w g 38 #[.slice A n c, .int .i64 st, .int .i64 cp]) (_hn : n ≤ maxLen) (pc : Int) :
    Calls Try.prog 74 #[.int .i64 pc, .pointer (some ⟨g, 0, none⟩)] w fun e w' => e = .returned (.bool (!hereB n pc)) ∧ w = w' := by
  have c1 := hB.cell 0
  simp only [List.getElem?_toArray, List.getElem?_cons_zero] at c1
  unfold maxLen at _hn
  clear hB
  by_cases h0 : 0 ≤ pc
  · have d0 : decide (pc < 0) = false := decide_eq_false (by omega)
    by_cases h1 : pc < (n : Int)
    · have d1 : decide ((n : Int) ≤ pc) = false := decide_eq_false (by omega)
      rw [hereT ⟨h0, h1⟩]
      go_enter Try.func74, Try.ntmps74
      go_wp2_with fail
      go_ret
      exact ⟨rfl, rfl⟩
    · have d1 : decide ((n : Int) ≤ pc) = true := decide_eq_true (by omega)
      rw [hereF (fun h => h1 h.2)]
      go_enter Try.func74, Try.ntmps74
      go_wp2_with fail
      go_ret
      exact ⟨rfl, rfl⟩
  · have d0 : decide (pc < 0) = true := decide_eq_true (by omega)
    rw [hereF (fun h => h0 h.1)]
    go_enter Try.func74, Try.ntmps74
    go_wp2_with fail
    go_ret
    exact ⟨rfl, rfl⟩

/-- What a Closure answers: ms: what is come to; nothing where that is no question. -/
def CS.start (n : Nat) : CS := ⟨List.replicate n false, [], false⟩
theorem any_notI (n : Nat) : ∀ l : List Int, (l.any fun x => !hereB n x) = false ↔ InL n l := fun l => by
  rw [List.any_eq_false]
  exact ⟨fun h pc hp => by have := h pc hp; simpa [hereB] using this, fun h pc hp => by have := h pc hp; simpa [hereB] using this⟩

set_option maxRecDepth 20000 in
set_option maxHeartbeats 1000000 in
theorem closure_bad {w : World} {A : Option Addr} {n c : Nat} {st cp : Int} {L : List MI} (hA : PgIn w A n c L) (hs : ∀ x ∈ L, x.n ≤ 1000000) {B : Option Addr} {m d : Nat} (at_ : Int) (lng : Bool) (hno : ¬ PgOK n st cp L) :
    Calls Try.prog 40 #[.agg #[.slice A n c, .int .i64 st, .int .i64 cp], .slice B m d, .int .i64 at_, .bool lng] w fun e w' => e = .returned (.tuple #[.slice none 0 0, .bool false]) ∧ Below w.heap.size w w' := by
  have hb : Below w.heap.size w (w.alloc (.cells #[.slice A n c, .int .i64 st, .int .i64 cp] 38)) := (Below.refl _ _).alloc (Nat.le_refl _) _
  have hcon := pcheck_any (hA.below hb) (st := st) (cp := cp) hs
  have HB := Lib.hid hb
  have HNO := Lib.hid hno
  clear hA hs hb hno
  go_enter Try.func40, Try.ntmps40
  go_wp2_with fail
  refine hcon.mono ?_
  rintro e w2 ⟨v, rfl, hv, hb2⟩
  obtain ⟨rfl⟩ : v = 121 := by
    rcases hv with ⟨_, h⟩ | ⟨h, _⟩
    · exact absurd h HNO.out
    · exact h
  have HB2 := Lib.hid (HB.out.trans (hb2.mono HB.out.size))
  clear hcon hb2 hv
  go_wp2_with fail
  go_ret2
  exact ⟨rfl, HB2.out⟩

set_option maxRecDepth 20000 in
set_option maxHeartbeats 1000000 in
theorem closure_out {w : World} {A : Option Addr} {n c : Nat} {st cp : Int} {L : List MI} (hA : PgIn w A n c L) (hs : ∀ x ∈ L, x.n ≤ 1000000) {B : Option Addr} {m d : Nat} {l : List Int} (hI : IlIn w B m d l) (at_ : Int) (lng : Bool) (hyes : PgOK n st cp L) (hno : ¬ InL n l) :
    Calls Try.prog 40 #[.agg #[.slice A n c, .int .i64 st, .int .i64 cp], .slice B m d, .int .i64 at_, .bool lng] w fun e w' => e = .returned (.tuple #[.slice none 0 0, .bool false]) ∧ Below w.heap.size w w' := by
  have hb : Below w.heap.size w (w.alloc (.cells #[.slice A n c, .int .i64 st, .int .i64 cp] 38)) := (Below.refl _ _).alloc (Nat.le_refl _) _
  have hB := Blk.new w 38 #[.slice A n c, .int .i64 st, .int .i64 cp]
  have hcon := pcheck_any (hA.below hb) (st := st) (cp := cp) hs
  have hn := Nat.le_trans hA.le hA.max
  have HB := Lib.hid hb
  have HBK := Lib.hid hB
  have HNO := Lib.hid hno
  have HYES := Lib.hid hyes
  have HI := Lib.hid hI
  have HN := Lib.hid hn
  have eg : ∀ args w, (callFunc 74 args).run Try.prog w = .ok (.enter 74 args) w := enters_of Try.func74 (by kernel_rfl) rfl
  clear hA hs hb hno hyes hI hB hn
  go_enter Try.func40, Try.ntmps40
  go_wp2_with fail
  refine hcon.mono ?_
  rintro e w2 ⟨v, rfl, hv, hb2⟩
  obtain ⟨rfl⟩ : v = 0 := by
    rcases hv with ⟨h, _⟩ | ⟨_, h⟩
    · exact h
    · exact absurd HYES.out h
  have hb3 := HB.out.trans (hb2.mono HB.out.size)
  have hcal := containsI_any (HI.out.below hb3) (fun x => !hereB n x) 74 #[.pointer (some ⟨w.heap.size, 0, none⟩)] eg (fun W x hW => (out_any ((HBK.out.below hb2 HBK.out.lt).below hW (Nat.lt_of_lt_of_le HBK.out.lt hb2.size)) HN.out x).mono fun e w' ⟨h1, h2⟩ => ⟨h1, h2 ▸ Below.refl _ _⟩)
  rw [show (l.any fun x => !hereB n x) = true by cases h : (l.any fun x => !hereB n x) with | true => rfl | false => exact absurd ((any_notI n l).1 h) HNO.out] at hcal
  have HB2 := Lib.hid hb3
  clear hcon hb2 hv hb3
  go_wp2_with (go_at_call 73; refine hcal.mono ?_; rintro e w3 ⟨rfl, hb4⟩)
  go_ret2
  exact ⟨rfl, HB2.out.trans (hb4.mono HB2.out.size)⟩
end Go.Proofs.Ytbhcgjahlfpjoaa
