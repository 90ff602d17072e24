/- ClassesTurned: the walk. -/
import Derived.Test.YtoglnankopdohaaPr1
namespace Go.Proofs.Ytoglnankopdohaa
open Go.RowKit

theorem caret_name (s : ByteArray) : notOf ((⟨#[94]⟩ : ByteArray) ++ s) = true ∧ nameOf ((⟨#[94]⟩ : ByteArray) ++ s) = s := by
  obtain ⟨a, b⟩ := name_cons (s := (⟨#[94]⟩ : ByteArray) ++ s) (x := 94) (r := s.data.toList) (by simp [ByteArray.data_append])
  refine ⟨by rw [a]; rfl, ?_⟩
  rw [b, if_pos rfl]
theorem told_other {nt : Bool} {L : List Rg} {w v w1 w2 : World} {A B : Option Addr} {m d m' d' : Nat} {s s' : List Rg} (h : Told nt L w A m d s w1) (h' : Told (!nt) L v B m' d' s' w2) : SetOf (fun x => ¬ mem s x) s' :=
  h'.set.cong (fun c a b => by
    rw [(so_mm h.set) c a b]
    unfold TP
    cases nt <;> simp)
theorem perl_pair (c : Int) (k1 : 97 ≤ c) (k2 : c ≤ 122) : ∃ L : Option (List Rg), (∀ W, Calls Try.prog 43 #[.int .u8 c] W fun e w' => PxTold L false W e w') ∧ (∀ W, Calls Try.prog 43 #[.int .u8 (c - 32)] W fun e w' => PxTold L true W e w') := by
  by_cases h1 : c = 100
  · subst h1; exact ⟨some perlD, fun W => perl_100 W, fun W => perl_68 W⟩
  by_cases h2 : c = 115
  · subst h2; exact ⟨some perlS, fun W => perl_115 W, fun W => perl_83 W⟩
  by_cases h3 : c = 119
  · subst h3; exact ⟨some perlW, fun W => perl_119 W, fun W => perl_87 W⟩
  refine ⟨none, fun W => perl_no W c ?_ ?_ ?_ ?_ ?_ ?_, fun W => perl_no W (c - 32) ?_ ?_ ?_ ?_ ?_ ?_⟩ <;> omega
set_option maxRecDepth 20000 in
set_option maxHeartbeats 1000000 in
theorem other_yes {w : World} {A B : Option Addr} {n c m d : Nat} {l r : List Rg} (hA : RgIn w A n c l) (hB : RgIn w B m d r) (hn : n ≤ 1000000) (h : SetOf (fun x => ¬ mem l x) r) :
    Calls Try.prog 55 #[.slice A n c, .slice B m d] w fun e w' => e = .returned (.bool true) ∧ Below w.heap.size w w' := by
  have hx := refNot_any hA hn
  have HB := Lib.hid hB
  clear hA hB
  go_enter Try.func55, Try.ntmps55
  go_wp2_with fail
  refine hx.mono ?_
  rintro e w2 ⟨B2, m2, d2, s2, rfl, _, hg2⟩
  have hb := Lib.hid hg2.below
  have he : s2 = r := hg2.set.unique h (fun _ _ _ => Iff.rfl)
  have hy := same_yes hg2.rg (HB.out.below hb.out) he
  clear hx hg2 HB he h
  go_wp2_with fail
  refine hy.mono ?_
  rintro e w3 ⟨rfl, hb3⟩
  go_wp2_with fail
  go_ret
  exact ⟨rfl, Below.on hb.out hb3⟩

set_option maxRecDepth 20000 in
set_option maxHeartbeats 4000000 in
theorem turned_walk_out {w : World} (c : Int) (x : ByteArray) (n : Bool) (hx9 : x.size ≤ 140737488351232) (k : ¬ (97 ≤ c ∧ c ≤ 122)) :
    Calls Try.prog 20 #[.int .u8 c, .string x, .bool n] w fun e w' => e = .returned (.bool true) ∧ Below w.heap.size w w' := by
  by_cases ka : 97 ≤ c
  · have kb : ¬ c ≤ 122 := fun h => k ⟨ka, h⟩
    have k1 : decide (97 ≤ c) = true := decide_eq_true ka
    have k2 : decide (c ≤ 122) = false := decide_eq_false kb
    clear ka kb k
    by_cases h0 : 0 < x.size
    · have hsz : (0 : Int) < (x.size : Int) := by omega
      by_cases h1 : x[0] = 94
      · have hb : ((x[0].toNat : Int) == 94) = true := by rw [h1]; rfl
        clear h1
        have HB := Lib.hid (Below.refl w.heap.size w)
        go_enter Try.func20, Try.ntmps20
        go_wp2_with fail
        refine (head4_any w).mono ?_
        rintro e w1 ⟨rfl, hb0⟩
        have hb := hb0
        replace HB := Lib.hid (Below.on HB.out hb)
        clear hb
        clear hb0
        go_wp2_with fail
        go_ret
        exact ⟨rfl, HB.out⟩
      · obtain ⟨e1, e2⟩ := name_B (s := x) (fun _ => h1)
        have hb : ((x[0].toNat : Int) == 94) = false := by
          rw [beq_eq_false_iff_ne]
          intro h
          refine h1 (UInt8.toNat_inj.1 ?_)
          rw [show (94 : UInt8).toNat = 94 from rfl]
          omega
        clear h1
        obtain ⟨f1, f2⟩ := caret_name x
        have q1 := fun W => posix_any x W
        have q2 := fun W => posix_any ((⟨#[94]⟩ : ByteArray) ++ x) W
        have r1 := fun W => property_any x n W
        have r2 := fun W => property_any ((⟨#[94]⟩ : ByteArray) ++ x) n W
        have r3 := fun W => property_any x (!n) W
        rw [e1, e2] at q1 r1 r3
        rw [f1, f2] at q2 r2
        rw [show (false != n) = n by cases n <;> rfl] at r1
        rw [show (true != n) = !n by cases n <;> rfl] at r2
        rw [show (false != !n) = !n by cases n <;> rfl] at r3
        clear e1 e2 f1 f2
        generalize pxOf x = L1 at q1 q2
        generalize prOf x = L2 at r1 r2 r3
        rcases L1 with _ | L1
        · rcases L2 with _ | L2
          · simp only [PxTold] at q1 q2 r1 r2 r3
            have HB := Lib.hid (Below.refl w.heap.size w)
            go_enter Try.func20, Try.ntmps20
            go_wp2_with fail
            refine (head4_any w).mono ?_
            rintro e w1 ⟨rfl, hb0⟩
            have hb := hb0
            replace HB := Lib.hid (Below.on HB.out hb)
            clear hb
            clear hb0
            go_wp2_with fail
            refine (q1 w1).mono ?_
            rintro e w2 ⟨rfl, hb0⟩
            have hb := hb0
            replace HB := Lib.hid (Below.on HB.out hb)
            clear hb
            clear hb0
            go_wp2_with fail
            refine (q2 w2).mono ?_
            rintro e w3 ⟨rfl, hb0⟩
            have hb := hb0
            replace HB := Lib.hid (Below.on HB.out hb)
            clear hb
            clear hb0
            go_wp2_with fail
            refine (r1 w3).mono ?_
            rintro e w4 ⟨rfl, hb0⟩
            have hb := hb0
            replace HB := Lib.hid (Below.on HB.out hb)
            clear hb
            clear hb0
            go_wp2_with fail
            refine (r2 w4).mono ?_
            rintro e w5 ⟨rfl, hb0⟩
            have hb := hb0
            replace HB := Lib.hid (Below.on HB.out hb)
            clear hb
            clear hb0
            go_wp2_with fail
            refine (r3 w5).mono ?_
            rintro e w6 ⟨rfl, hb0⟩
            have hb := hb0
            replace HB := Lib.hid (Below.on HB.out hb)
            clear hb
            clear hb0
            go_wp2_with fail
            go_ret
            exact ⟨rfl, HB.out⟩
          · simp only [PxTold] at q1 q2 r1 r2 r3
            have HB := Lib.hid (Below.refl w.heap.size w)
            go_enter Try.func20, Try.ntmps20
            go_wp2_with fail
            refine (head4_any w).mono ?_
            rintro e w1 ⟨rfl, hb0⟩
            have hb := hb0
            replace HB := Lib.hid (Below.on HB.out hb)
            clear hb
            clear hb0
            go_wp2_with fail
            refine (q1 w1).mono ?_
            rintro e w2 ⟨rfl, hb0⟩
            have hb := hb0
            replace HB := Lib.hid (Below.on HB.out hb)
            clear hb
            clear hb0
            go_wp2_with fail
            refine (q2 w2).mono ?_
            rintro e w3 ⟨rfl, hb0⟩
            have hb := hb0
            replace HB := Lib.hid (Below.on HB.out hb)
            clear hb
            clear hb0
            go_wp2_with fail
            refine (r1 w3).mono ?_
            rintro e w4 ⟨Ae, ne, ce, le, rfl, ge⟩
            have hb := ge.below
            replace HB := Lib.hid (Below.on HB.out hb)
            clear hb
            have He := Lib.hid ge.rg
            have Ge := Lib.hid ge
            have ye := ge.small
            clear ge
            go_wp2_with fail
            refine (r2 w4).mono ?_
            rintro e w5 ⟨Af, nf, cf, lf, rfl, gf⟩
            have hb := gf.below
            replace HB := Lib.hid (Below.on HB.out hb)
            replace He := Lib.hid (He.out.below hb)
            clear hb
            have Hf := Lib.hid gf.rg
            have Gf := Lib.hid gf
            have yf := gf.small
            clear gf
            go_wp2_with fail
            refine (r3 w5).mono ?_
            rintro e w6 ⟨Ah, nh, ch, lh, rfl, gh⟩
            have hb := gh.below
            replace HB := Lib.hid (Below.on HB.out hb)
            replace He := Lib.hid (He.out.below hb)
            replace Hf := Lib.hid (Hf.out.below hb)
            clear hb
            have Hh := Lib.hid gh.rg
            have Gh := Lib.hid gh
            have yh := gh.small
            clear gh
            have he := told_other Ge.out Gf.out
            go_wp2_with fail
            refine (other_yes He.out Hf.out (by omega) he).mono ?_
            rintro e w7 ⟨rfl, hb0⟩
            have hb := hb0
            replace HB := Lib.hid (Below.on HB.out hb)
            replace He := Lib.hid (He.out.below hb)
            replace Hf := Lib.hid (Hf.out.below hb)
            replace Hh := Lib.hid (Hh.out.below hb)
            clear hb
            clear hb0 he
            have he : lf = lh := Gf.out.set.unique Gh.out.set (fun _ _ _ => Iff.rfl)
            go_wp2_with fail
            refine (same_yes Hf.out Hh.out he).mono ?_
            rintro e w8 ⟨rfl, hb0⟩
            have hb := hb0
            replace HB := Lib.hid (Below.on HB.out hb)
            replace He := Lib.hid (He.out.below hb)
            replace Hf := Lib.hid (Hf.out.below hb)
            replace Hh := Lib.hid (Hh.out.below hb)
            clear hb
            clear hb0 he
            go_wp2_with fail
            go_ret
            exact ⟨rfl, HB.out⟩
        · rcases L2 with _ | L2
          · simp only [PxTold] at q1 q2 r1 r2 r3
            have HB := Lib.hid (Below.refl w.heap.size w)
            go_enter Try.func20, Try.ntmps20
            go_wp2_with fail
            refine (head4_any w).mono ?_
            rintro e w1 ⟨rfl, hb0⟩
            have hb := hb0
            replace HB := Lib.hid (Below.on HB.out hb)
            clear hb
            clear hb0
            go_wp2_with fail
            refine (q1 w1).mono ?_
            rintro e w2 ⟨Ai, ni, ci, li, rfl, gi⟩
            have hb := gi.below
            replace HB := Lib.hid (Below.on HB.out hb)
            clear hb
            have Hi := Lib.hid gi.rg
            have Gi := Lib.hid gi
            have yi := gi.small
            clear gi
            go_wp2_with fail
            refine (q2 w2).mono ?_
            rintro e w3 ⟨Aj, nj, cj, lj, rfl, gj⟩
            have hb := gj.below
            replace HB := Lib.hid (Below.on HB.out hb)
            replace Hi := Lib.hid (Hi.out.below hb)
            clear hb
            have Hj := Lib.hid gj.rg
            have Gj := Lib.hid gj
            have yj := gj.small
            clear gj
            have he := told_other Gi.out Gj.out
            go_wp2_with fail
            refine (other_yes Hi.out Hj.out (by omega) he).mono ?_
            rintro e w4 ⟨rfl, hb0⟩
            have hb := hb0
            replace HB := Lib.hid (Below.on HB.out hb)
            replace Hi := Lib.hid (Hi.out.below hb)
            replace Hj := Lib.hid (Hj.out.below hb)
            clear hb
            clear hb0 he
            clear Hi
            clear Hj
            clear Gi Gj
            go_wp2_with fail
            refine (r1 w4).mono ?_
            rintro e w5 ⟨rfl, hb0⟩
            have hb := hb0
            replace HB := Lib.hid (Below.on HB.out hb)
            clear hb
            clear hb0
            go_wp2_with fail
            refine (r2 w5).mono ?_
            rintro e w6 ⟨rfl, hb0⟩
            have hb := hb0
            replace HB := Lib.hid (Below.on HB.out hb)
            clear hb
            clear hb0
            go_wp2_with fail
            refine (r3 w6).mono ?_
            rintro e w7 ⟨rfl, hb0⟩
            have hb := hb0
            replace HB := Lib.hid (Below.on HB.out hb)
            clear hb
            clear hb0
            go_wp2_with fail
            go_ret
            exact ⟨rfl, HB.out⟩
          · simp only [PxTold] at q1 q2 r1 r2 r3
            have HB := Lib.hid (Below.refl w.heap.size w)
            go_enter Try.func20, Try.ntmps20
            go_wp2_with fail
            refine (head4_any w).mono ?_
            rintro e w1 ⟨rfl, hb0⟩
            have hb := hb0
            replace HB := Lib.hid (Below.on HB.out hb)
            clear hb
            clear hb0
            go_wp2_with fail
            refine (q1 w1).mono ?_
            rintro e w2 ⟨Ai, ni, ci, li, rfl, gi⟩
            have hb := gi.below
            replace HB := Lib.hid (Below.on HB.out hb)
            clear hb
            have Hi := Lib.hid gi.rg
            have Gi := Lib.hid gi
            have yi := gi.small
            clear gi
            go_wp2_with fail
            refine (q2 w2).mono ?_
            rintro e w3 ⟨Aj, nj, cj, lj, rfl, gj⟩
            have hb := gj.below
            replace HB := Lib.hid (Below.on HB.out hb)
            replace Hi := Lib.hid (Hi.out.below hb)
            clear hb
            have Hj := Lib.hid gj.rg
            have Gj := Lib.hid gj
            have yj := gj.small
            clear gj
            have he := told_other Gi.out Gj.out
            go_wp2_with fail
            refine (other_yes Hi.out Hj.out (by omega) he).mono ?_
            rintro e w4 ⟨rfl, hb0⟩
            have hb := hb0
            replace HB := Lib.hid (Below.on HB.out hb)
            replace Hi := Lib.hid (Hi.out.below hb)
            replace Hj := Lib.hid (Hj.out.below hb)
            clear hb
            clear hb0 he
            clear Hi
            clear Hj
            clear Gi Gj
            go_wp2_with fail
            refine (r1 w4).mono ?_
            rintro e w5 ⟨Ae, ne, ce, le, rfl, ge⟩
            have hb := ge.below
            replace HB := Lib.hid (Below.on HB.out hb)
            clear hb
            have He := Lib.hid ge.rg
            have Ge := Lib.hid ge
            have ye := ge.small
            clear ge
            go_wp2_with fail
            refine (r2 w5).mono ?_
            rintro e w6 ⟨Af, nf, cf, lf, rfl, gf⟩
            have hb := gf.below
            replace HB := Lib.hid (Below.on HB.out hb)
            replace He := Lib.hid (He.out.below hb)
            clear hb
            have Hf := Lib.hid gf.rg
            have Gf := Lib.hid gf
            have yf := gf.small
            clear gf
            go_wp2_with fail
            refine (r3 w6).mono ?_
            rintro e w7 ⟨Ah, nh, ch, lh, rfl, gh⟩
            have hb := gh.below
            replace HB := Lib.hid (Below.on HB.out hb)
            replace He := Lib.hid (He.out.below hb)
            replace Hf := Lib.hid (Hf.out.below hb)
            clear hb
            have Hh := Lib.hid gh.rg
            have Gh := Lib.hid gh
            have yh := gh.small
            clear gh
            have he := told_other Ge.out Gf.out
            go_wp2_with fail
            refine (other_yes He.out Hf.out (by omega) he).mono ?_
            rintro e w8 ⟨rfl, hb0⟩
            have hb := hb0
            replace HB := Lib.hid (Below.on HB.out hb)
            replace He := Lib.hid (He.out.below hb)
            replace Hf := Lib.hid (Hf.out.below hb)
            replace Hh := Lib.hid (Hh.out.below hb)
            clear hb
            clear hb0 he
            have he : lf = lh := Gf.out.set.unique Gh.out.set (fun _ _ _ => Iff.rfl)
            go_wp2_with fail
            refine (same_yes Hf.out Hh.out he).mono ?_
            rintro e w9 ⟨rfl, hb0⟩
            have hb := hb0
            replace HB := Lib.hid (Below.on HB.out hb)
            replace He := Lib.hid (He.out.below hb)
            replace Hf := Lib.hid (Hf.out.below hb)
            replace Hh := Lib.hid (Hh.out.below hb)
            clear hb
            clear hb0 he
            go_wp2_with fail
            go_ret
            exact ⟨rfl, HB.out⟩
    · obtain ⟨e1, e2⟩ := name_B (s := x) (fun h => absurd h h0)
      have hsz : x.size = 0 := by omega
      clear h0
      obtain ⟨f1, f2⟩ := caret_name x
      have q1 := fun W => posix_any x W
      have q2 := fun W => posix_any ((⟨#[94]⟩ : ByteArray) ++ x) W
      have r1 := fun W => property_any x n W
      have r2 := fun W => property_any ((⟨#[94]⟩ : ByteArray) ++ x) n W
      have r3 := fun W => property_any x (!n) W
      rw [e1, e2] at q1 r1 r3
      rw [f1, f2] at q2 r2
      rw [show (false != n) = n by cases n <;> rfl] at r1
      rw [show (true != n) = !n by cases n <;> rfl] at r2
      rw [show (false != !n) = !n by cases n <;> rfl] at r3
      clear e1 e2 f1 f2
      generalize pxOf x = L1 at q1 q2
      generalize prOf x = L2 at r1 r2 r3
      rcases L1 with _ | L1
      · rcases L2 with _ | L2
        · simp only [PxTold] at q1 q2 r1 r2 r3
          have HB := Lib.hid (Below.refl w.heap.size w)
          go_enter Try.func20, Try.ntmps20
          go_wp2_with fail
          refine (head4_any w).mono ?_
          rintro e w1 ⟨rfl, hb0⟩
          have hb := hb0
          replace HB := Lib.hid (Below.on HB.out hb)
          clear hb
          clear hb0
          go_wp2_with fail
          refine (q1 w1).mono ?_
          rintro e w2 ⟨rfl, hb0⟩
          have hb := hb0
          replace HB := Lib.hid (Below.on HB.out hb)
          clear hb
          clear hb0
          go_wp2_with fail
          refine (q2 w2).mono ?_
          rintro e w3 ⟨rfl, hb0⟩
          have hb := hb0
          replace HB := Lib.hid (Below.on HB.out hb)
          clear hb
          clear hb0
          go_wp2_with fail
          refine (r1 w3).mono ?_
          rintro e w4 ⟨rfl, hb0⟩
          have hb := hb0
          replace HB := Lib.hid (Below.on HB.out hb)
          clear hb
          clear hb0
          go_wp2_with fail
          refine (r2 w4).mono ?_
          rintro e w5 ⟨rfl, hb0⟩
          have hb := hb0
          replace HB := Lib.hid (Below.on HB.out hb)
          clear hb
          clear hb0
          go_wp2_with fail
          refine (r3 w5).mono ?_
          rintro e w6 ⟨rfl, hb0⟩
          have hb := hb0
          replace HB := Lib.hid (Below.on HB.out hb)
          clear hb
          clear hb0
          go_wp2_with fail
          go_ret
          exact ⟨rfl, HB.out⟩
        · simp only [PxTold] at q1 q2 r1 r2 r3
          have HB := Lib.hid (Below.refl w.heap.size w)
          go_enter Try.func20, Try.ntmps20
          go_wp2_with fail
          refine (head4_any w).mono ?_
          rintro e w1 ⟨rfl, hb0⟩
          have hb := hb0
          replace HB := Lib.hid (Below.on HB.out hb)
          clear hb
          clear hb0
          go_wp2_with fail
          refine (q1 w1).mono ?_
          rintro e w2 ⟨rfl, hb0⟩
          have hb := hb0
          replace HB := Lib.hid (Below.on HB.out hb)
          clear hb
          clear hb0
          go_wp2_with fail
          refine (q2 w2).mono ?_
          rintro e w3 ⟨rfl, hb0⟩
          have hb := hb0
          replace HB := Lib.hid (Below.on HB.out hb)
          clear hb
          clear hb0
          go_wp2_with fail
          refine (r1 w3).mono ?_
          rintro e w4 ⟨Ae, ne, ce, le, rfl, ge⟩
          have hb := ge.below
          replace HB := Lib.hid (Below.on HB.out hb)
          clear hb
          have He := Lib.hid ge.rg
          have Ge := Lib.hid ge
          have ye := ge.small
          clear ge
          go_wp2_with fail
          refine (r2 w4).mono ?_
          rintro e w5 ⟨Af, nf, cf, lf, rfl, gf⟩
          have hb := gf.below
          replace HB := Lib.hid (Below.on HB.out hb)
          replace He := Lib.hid (He.out.below hb)
          clear hb
          have Hf := Lib.hid gf.rg
          have Gf := Lib.hid gf
          have yf := gf.small
          clear gf
          go_wp2_with fail
          refine (r3 w5).mono ?_
          rintro e w6 ⟨Ah, nh, ch, lh, rfl, gh⟩
          have hb := gh.below
          replace HB := Lib.hid (Below.on HB.out hb)
          replace He := Lib.hid (He.out.below hb)
          replace Hf := Lib.hid (Hf.out.below hb)
          clear hb
          have Hh := Lib.hid gh.rg
          have Gh := Lib.hid gh
          have yh := gh.small
          clear gh
          have he := told_other Ge.out Gf.out
          go_wp2_with fail
          refine (other_yes He.out Hf.out (by omega) he).mono ?_
          rintro e w7 ⟨rfl, hb0⟩
          have hb := hb0
          replace HB := Lib.hid (Below.on HB.out hb)
          replace He := Lib.hid (He.out.below hb)
          replace Hf := Lib.hid (Hf.out.below hb)
          replace Hh := Lib.hid (Hh.out.below hb)
          clear hb
          clear hb0 he
          have he : lf = lh := Gf.out.set.unique Gh.out.set (fun _ _ _ => Iff.rfl)
          go_wp2_with fail
          refine (same_yes Hf.out Hh.out he).mono ?_
          rintro e w8 ⟨rfl, hb0⟩
          have hb := hb0
          replace HB := Lib.hid (Below.on HB.out hb)
          replace He := Lib.hid (He.out.below hb)
          replace Hf := Lib.hid (Hf.out.below hb)
          replace Hh := Lib.hid (Hh.out.below hb)
          clear hb
          clear hb0 he
          go_wp2_with fail
          go_ret
          exact ⟨rfl, HB.out⟩
      · rcases L2 with _ | L2
        · simp only [PxTold] at q1 q2 r1 r2 r3
          have HB := Lib.hid (Below.refl w.heap.size w)
          go_enter Try.func20, Try.ntmps20
          go_wp2_with fail
          refine (head4_any w).mono ?_
          rintro e w1 ⟨rfl, hb0⟩
          have hb := hb0
          replace HB := Lib.hid (Below.on HB.out hb)
          clear hb
          clear hb0
          go_wp2_with fail
          refine (q1 w1).mono ?_
          rintro e w2 ⟨Ai, ni, ci, li, rfl, gi⟩
          have hb := gi.below
          replace HB := Lib.hid (Below.on HB.out hb)
          clear hb
          have Hi := Lib.hid gi.rg
          have Gi := Lib.hid gi
          have yi := gi.small
          clear gi
          go_wp2_with fail
          refine (q2 w2).mono ?_
          rintro e w3 ⟨Aj, nj, cj, lj, rfl, gj⟩
          have hb := gj.below
          replace HB := Lib.hid (Below.on HB.out hb)
          replace Hi := Lib.hid (Hi.out.below hb)
          clear hb
          have Hj := Lib.hid gj.rg
          have Gj := Lib.hid gj
          have yj := gj.small
          clear gj
          have he := told_other Gi.out Gj.out
          go_wp2_with fail
          refine (other_yes Hi.out Hj.out (by omega) he).mono ?_
          rintro e w4 ⟨rfl, hb0⟩
          have hb := hb0
          replace HB := Lib.hid (Below.on HB.out hb)
          replace Hi := Lib.hid (Hi.out.below hb)
          replace Hj := Lib.hid (Hj.out.below hb)
          clear hb
          clear hb0 he
          clear Hi
          clear Hj
          clear Gi Gj
          go_wp2_with fail
          refine (r1 w4).mono ?_
          rintro e w5 ⟨rfl, hb0⟩
          have hb := hb0
          replace HB := Lib.hid (Below.on HB.out hb)
          clear hb
          clear hb0
          go_wp2_with fail
          refine (r2 w5).mono ?_
          rintro e w6 ⟨rfl, hb0⟩
          have hb := hb0
          replace HB := Lib.hid (Below.on HB.out hb)
          clear hb
          clear hb0
          go_wp2_with fail
          refine (r3 w6).mono ?_
          rintro e w7 ⟨rfl, hb0⟩
          have hb := hb0
          replace HB := Lib.hid (Below.on HB.out hb)
          clear hb
          clear hb0
          go_wp2_with fail
          go_ret
          exact ⟨rfl, HB.out⟩
        · simp only [PxTold] at q1 q2 r1 r2 r3
          have HB := Lib.hid (Below.refl w.heap.size w)
          go_enter Try.func20, Try.ntmps20
          go_wp2_with fail
          refine (head4_any w).mono ?_
          rintro e w1 ⟨rfl, hb0⟩
          have hb := hb0
          replace HB := Lib.hid (Below.on HB.out hb)
          clear hb
          clear hb0
          go_wp2_with fail
          refine (q1 w1).mono ?_
          rintro e w2 ⟨Ai, ni, ci, li, rfl, gi⟩
          have hb := gi.below
          replace HB := Lib.hid (Below.on HB.out hb)
          clear hb
          have Hi := Lib.hid gi.rg
          have Gi := Lib.hid gi
          have yi := gi.small
          clear gi
          go_wp2_with fail
          refine (q2 w2).mono ?_
          rintro e w3 ⟨Aj, nj, cj, lj, rfl, gj⟩
          have hb := gj.below
          replace HB := Lib.hid (Below.on HB.out hb)
          replace Hi := Lib.hid (Hi.out.below hb)
          clear hb
          have Hj := Lib.hid gj.rg
          have Gj := Lib.hid gj
          have yj := gj.small
          clear gj
          have he := told_other Gi.out Gj.out
          go_wp2_with fail
          refine (other_yes Hi.out Hj.out (by omega) he).mono ?_
          rintro e w4 ⟨rfl, hb0⟩
          have hb := hb0
          replace HB := Lib.hid (Below.on HB.out hb)
          replace Hi := Lib.hid (Hi.out.below hb)
          replace Hj := Lib.hid (Hj.out.below hb)
          clear hb
          clear hb0 he
          clear Hi
          clear Hj
          clear Gi Gj
          go_wp2_with fail
          refine (r1 w4).mono ?_
          rintro e w5 ⟨Ae, ne, ce, le, rfl, ge⟩
          have hb := ge.below
          replace HB := Lib.hid (Below.on HB.out hb)
          clear hb
          have He := Lib.hid ge.rg
          have Ge := Lib.hid ge
          have ye := ge.small
          clear ge
          go_wp2_with fail
          refine (r2 w5).mono ?_
          rintro e w6 ⟨Af, nf, cf, lf, rfl, gf⟩
          have hb := gf.below
          replace HB := Lib.hid (Below.on HB.out hb)
          replace He := Lib.hid (He.out.below hb)
          clear hb
          have Hf := Lib.hid gf.rg
          have Gf := Lib.hid gf
          have yf := gf.small
          clear gf
          go_wp2_with fail
          refine (r3 w6).mono ?_
          rintro e w7 ⟨Ah, nh, ch, lh, rfl, gh⟩
          have hb := gh.below
          replace HB := Lib.hid (Below.on HB.out hb)
          replace He := Lib.hid (He.out.below hb)
          replace Hf := Lib.hid (Hf.out.below hb)
          clear hb
          have Hh := Lib.hid gh.rg
          have Gh := Lib.hid gh
          have yh := gh.small
          clear gh
          have he := told_other Ge.out Gf.out
          go_wp2_with fail
          refine (other_yes He.out Hf.out (by omega) he).mono ?_
          rintro e w8 ⟨rfl, hb0⟩
          have hb := hb0
          replace HB := Lib.hid (Below.on HB.out hb)
          replace He := Lib.hid (He.out.below hb)
          replace Hf := Lib.hid (Hf.out.below hb)
          replace Hh := Lib.hid (Hh.out.below hb)
          clear hb
          clear hb0 he
          have he : lf = lh := Gf.out.set.unique Gh.out.set (fun _ _ _ => Iff.rfl)
          go_wp2_with fail
          refine (same_yes Hf.out Hh.out he).mono ?_
          rintro e w9 ⟨rfl, hb0⟩
          have hb := hb0
          replace HB := Lib.hid (Below.on HB.out hb)
          replace He := Lib.hid (He.out.below hb)
          replace Hf := Lib.hid (Hf.out.below hb)
          replace Hh := Lib.hid (Hh.out.below hb)
          clear hb
          clear hb0 he
          go_wp2_with fail
          go_ret
          exact ⟨rfl, HB.out⟩
  · have k1 : decide (97 ≤ c) = false := decide_eq_false ka
    clear ka k
    by_cases h0 : 0 < x.size
    · have hsz : (0 : Int) < (x.size : Int) := by omega
      by_cases h1 : x[0] = 94
      · have hb : ((x[0].toNat : Int) == 94) = true := by rw [h1]; rfl
        clear h1
        have HB := Lib.hid (Below.refl w.heap.size w)
        go_enter Try.func20, Try.ntmps20
        go_wp2_with fail
        refine (head4_any w).mono ?_
        rintro e w1 ⟨rfl, hb0⟩
        have hb := hb0
        replace HB := Lib.hid (Below.on HB.out hb)
        clear hb
        clear hb0
        go_wp2_with fail
        go_ret
        exact ⟨rfl, HB.out⟩
      · obtain ⟨e1, e2⟩ := name_B (s := x) (fun _ => h1)
        have hb : ((x[0].toNat : Int) == 94) = false := by
          rw [beq_eq_false_iff_ne]
          intro h
          refine h1 (UInt8.toNat_inj.1 ?_)
          rw [show (94 : UInt8).toNat = 94 from rfl]
          omega
        clear h1
        obtain ⟨f1, f2⟩ := caret_name x
        have q1 := fun W => posix_any x W
        have q2 := fun W => posix_any ((⟨#[94]⟩ : ByteArray) ++ x) W
        have r1 := fun W => property_any x n W
        have r2 := fun W => property_any ((⟨#[94]⟩ : ByteArray) ++ x) n W
        have r3 := fun W => property_any x (!n) W
        rw [e1, e2] at q1 r1 r3
        rw [f1, f2] at q2 r2
        rw [show (false != n) = n by cases n <;> rfl] at r1
        rw [show (true != n) = !n by cases n <;> rfl] at r2
        rw [show (false != !n) = !n by cases n <;> rfl] at r3
        clear e1 e2 f1 f2
        generalize pxOf x = L1 at q1 q2
        generalize prOf x = L2 at r1 r2 r3
        rcases L1 with _ | L1
        · rcases L2 with _ | L2
          · simp only [PxTold] at q1 q2 r1 r2 r3
            have HB := Lib.hid (Below.refl w.heap.size w)
            go_enter Try.func20, Try.ntmps20
            go_wp2_with fail
            refine (head4_any w).mono ?_
            rintro e w1 ⟨rfl, hb0⟩
            have hb := hb0
            replace HB := Lib.hid (Below.on HB.out hb)
            clear hb
            clear hb0
            go_wp2_with fail
            refine (q1 w1).mono ?_
            rintro e w2 ⟨rfl, hb0⟩
            have hb := hb0
            replace HB := Lib.hid (Below.on HB.out hb)
            clear hb
            clear hb0
            go_wp2_with fail
            refine (q2 w2).mono ?_
            rintro e w3 ⟨rfl, hb0⟩
            have hb := hb0
            replace HB := Lib.hid (Below.on HB.out hb)
            clear hb
            clear hb0
            go_wp2_with fail
            refine (r1 w3).mono ?_
            rintro e w4 ⟨rfl, hb0⟩
            have hb := hb0
            replace HB := Lib.hid (Below.on HB.out hb)
            clear hb
            clear hb0
            go_wp2_with fail
            refine (r2 w4).mono ?_
            rintro e w5 ⟨rfl, hb0⟩
            have hb := hb0
            replace HB := Lib.hid (Below.on HB.out hb)
            clear hb
            clear hb0
            go_wp2_with fail
            refine (r3 w5).mono ?_
            rintro e w6 ⟨rfl, hb0⟩
            have hb := hb0
            replace HB := Lib.hid (Below.on HB.out hb)
            clear hb
            clear hb0
            go_wp2_with fail
            go_ret
            exact ⟨rfl, HB.out⟩
          · simp only [PxTold] at q1 q2 r1 r2 r3
            have HB := Lib.hid (Below.refl w.heap.size w)
            go_enter Try.func20, Try.ntmps20
            go_wp2_with fail
            refine (head4_any w).mono ?_
            rintro e w1 ⟨rfl, hb0⟩
            have hb := hb0
            replace HB := Lib.hid (Below.on HB.out hb)
            clear hb
            clear hb0
            go_wp2_with fail
            refine (q1 w1).mono ?_
            rintro e w2 ⟨rfl, hb0⟩
            have hb := hb0
            replace HB := Lib.hid (Below.on HB.out hb)
            clear hb
            clear hb0
            go_wp2_with fail
            refine (q2 w2).mono ?_
            rintro e w3 ⟨rfl, hb0⟩
            have hb := hb0
            replace HB := Lib.hid (Below.on HB.out hb)
            clear hb
            clear hb0
            go_wp2_with fail
            refine (r1 w3).mono ?_
            rintro e w4 ⟨Ae, ne, ce, le, rfl, ge⟩
            have hb := ge.below
            replace HB := Lib.hid (Below.on HB.out hb)
            clear hb
            have He := Lib.hid ge.rg
            have Ge := Lib.hid ge
            have ye := ge.small
            clear ge
            go_wp2_with fail
            refine (r2 w4).mono ?_
            rintro e w5 ⟨Af, nf, cf, lf, rfl, gf⟩
            have hb := gf.below
            replace HB := Lib.hid (Below.on HB.out hb)
            replace He := Lib.hid (He.out.below hb)
            clear hb
            have Hf := Lib.hid gf.rg
            have Gf := Lib.hid gf
            have yf := gf.small
            clear gf
            go_wp2_with fail
            refine (r3 w5).mono ?_
            rintro e w6 ⟨Ah, nh, ch, lh, rfl, gh⟩
            have hb := gh.below
            replace HB := Lib.hid (Below.on HB.out hb)
            replace He := Lib.hid (He.out.below hb)
            replace Hf := Lib.hid (Hf.out.below hb)
            clear hb
            have Hh := Lib.hid gh.rg
            have Gh := Lib.hid gh
            have yh := gh.small
            clear gh
            have he := told_other Ge.out Gf.out
            go_wp2_with fail
            refine (other_yes He.out Hf.out (by omega) he).mono ?_
            rintro e w7 ⟨rfl, hb0⟩
            have hb := hb0
            replace HB := Lib.hid (Below.on HB.out hb)
            replace He := Lib.hid (He.out.below hb)
            replace Hf := Lib.hid (Hf.out.below hb)
            replace Hh := Lib.hid (Hh.out.below hb)
            clear hb
            clear hb0 he
            have he : lf = lh := Gf.out.set.unique Gh.out.set (fun _ _ _ => Iff.rfl)
            go_wp2_with fail
            refine (same_yes Hf.out Hh.out he).mono ?_
            rintro e w8 ⟨rfl, hb0⟩
            have hb := hb0
            replace HB := Lib.hid (Below.on HB.out hb)
            replace He := Lib.hid (He.out.below hb)
            replace Hf := Lib.hid (Hf.out.below hb)
            replace Hh := Lib.hid (Hh.out.below hb)
            clear hb
            clear hb0 he
            go_wp2_with fail
            go_ret
            exact ⟨rfl, HB.out⟩
        · rcases L2 with _ | L2
          · simp only [PxTold] at q1 q2 r1 r2 r3
            have HB := Lib.hid (Below.refl w.heap.size w)
            go_enter Try.func20, Try.ntmps20
            go_wp2_with fail
            refine (head4_any w).mono ?_
            rintro e w1 ⟨rfl, hb0⟩
            have hb := hb0
            replace HB := Lib.hid (Below.on HB.out hb)
            clear hb
            clear hb0
            go_wp2_with fail
            refine (q1 w1).mono ?_
            rintro e w2 ⟨Ai, ni, ci, li, rfl, gi⟩
            have hb := gi.below
            replace HB := Lib.hid (Below.on HB.out hb)
            clear hb
            have Hi := Lib.hid gi.rg
            have Gi := Lib.hid gi
            have yi := gi.small
            clear gi
            go_wp2_with fail
            refine (q2 w2).mono ?_
            rintro e w3 ⟨Aj, nj, cj, lj, rfl, gj⟩
            have hb := gj.below
            replace HB := Lib.hid (Below.on HB.out hb)
            replace Hi := Lib.hid (Hi.out.below hb)
            clear hb
            have Hj := Lib.hid gj.rg
            have Gj := Lib.hid gj
            have yj := gj.small
            clear gj
            have he := told_other Gi.out Gj.out
            go_wp2_with fail
            refine (other_yes Hi.out Hj.out (by omega) he).mono ?_
            rintro e w4 ⟨rfl, hb0⟩
            have hb := hb0
            replace HB := Lib.hid (Below.on HB.out hb)
            replace Hi := Lib.hid (Hi.out.below hb)
            replace Hj := Lib.hid (Hj.out.below hb)
            clear hb
            clear hb0 he
            clear Hi
            clear Hj
            clear Gi Gj
            go_wp2_with fail
            refine (r1 w4).mono ?_
            rintro e w5 ⟨rfl, hb0⟩
            have hb := hb0
            replace HB := Lib.hid (Below.on HB.out hb)
            clear hb
            clear hb0
            go_wp2_with fail
            refine (r2 w5).mono ?_
            rintro e w6 ⟨rfl, hb0⟩
            have hb := hb0
            replace HB := Lib.hid (Below.on HB.out hb)
            clear hb
            clear hb0
            go_wp2_with fail
            refine (r3 w6).mono ?_
            rintro e w7 ⟨rfl, hb0⟩
            have hb := hb0
            replace HB := Lib.hid (Below.on HB.out hb)
            clear hb
            clear hb0
            go_wp2_with fail
            go_ret
            exact ⟨rfl, HB.out⟩
          · simp only [PxTold] at q1 q2 r1 r2 r3
            have HB := Lib.hid (Below.refl w.heap.size w)
            go_enter Try.func20, Try.ntmps20
            go_wp2_with fail
            refine (head4_any w).mono ?_
            rintro e w1 ⟨rfl, hb0⟩
            have hb := hb0
            replace HB := Lib.hid (Below.on HB.out hb)
            clear hb
            clear hb0
            go_wp2_with fail
            refine (q1 w1).mono ?_
            rintro e w2 ⟨Ai, ni, ci, li, rfl, gi⟩
            have hb := gi.below
            replace HB := Lib.hid (Below.on HB.out hb)
            clear hb
            have Hi := Lib.hid gi.rg
            have Gi := Lib.hid gi
            have yi := gi.small
            clear gi
            go_wp2_with fail
            refine (q2 w2).mono ?_
            rintro e w3 ⟨Aj, nj, cj, lj, rfl, gj⟩
            have hb := gj.below
            replace HB := Lib.hid (Below.on HB.out hb)
            replace Hi := Lib.hid (Hi.out.below hb)
            clear hb
            have Hj := Lib.hid gj.rg
            have Gj := Lib.hid gj
            have yj := gj.small
            clear gj
            have he := told_other Gi.out Gj.out
            go_wp2_with fail
            refine (other_yes Hi.out Hj.out (by omega) he).mono ?_
            rintro e w4 ⟨rfl, hb0⟩
            have hb := hb0
            replace HB := Lib.hid (Below.on HB.out hb)
            replace Hi := Lib.hid (Hi.out.below hb)
            replace Hj := Lib.hid (Hj.out.below hb)
            clear hb
            clear hb0 he
            clear Hi
            clear Hj
            clear Gi Gj
            go_wp2_with fail
            refine (r1 w4).mono ?_
            rintro e w5 ⟨Ae, ne, ce, le, rfl, ge⟩
            have hb := ge.below
            replace HB := Lib.hid (Below.on HB.out hb)
            clear hb
            have He := Lib.hid ge.rg
            have Ge := Lib.hid ge
            have ye := ge.small
            clear ge
            go_wp2_with fail
            refine (r2 w5).mono ?_
            rintro e w6 ⟨Af, nf, cf, lf, rfl, gf⟩
            have hb := gf.below
            replace HB := Lib.hid (Below.on HB.out hb)
            replace He := Lib.hid (He.out.below hb)
            clear hb
            have Hf := Lib.hid gf.rg
            have Gf := Lib.hid gf
            have yf := gf.small
            clear gf
            go_wp2_with fail
            refine (r3 w6).mono ?_
            rintro e w7 ⟨Ah, nh, ch, lh, rfl, gh⟩
            have hb := gh.below
            replace HB := Lib.hid (Below.on HB.out hb)
            replace He := Lib.hid (He.out.below hb)
            replace Hf := Lib.hid (Hf.out.below hb)
            clear hb
            have Hh := Lib.hid gh.rg
            have Gh := Lib.hid gh
            have yh := gh.small
            clear gh
            have he := told_other Ge.out Gf.out
            go_wp2_with fail
            refine (other_yes He.out Hf.out (by omega) he).mono ?_
            rintro e w8 ⟨rfl, hb0⟩
            have hb := hb0
            replace HB := Lib.hid (Below.on HB.out hb)
            replace He := Lib.hid (He.out.below hb)
            replace Hf := Lib.hid (Hf.out.below hb)
            replace Hh := Lib.hid (Hh.out.below hb)
            clear hb
            clear hb0 he
            have he : lf = lh := Gf.out.set.unique Gh.out.set (fun _ _ _ => Iff.rfl)
            go_wp2_with fail
            refine (same_yes Hf.out Hh.out he).mono ?_
            rintro e w9 ⟨rfl, hb0⟩
            have hb := hb0
            replace HB := Lib.hid (Below.on HB.out hb)
            replace He := Lib.hid (He.out.below hb)
            replace Hf := Lib.hid (Hf.out.below hb)
            replace Hh := Lib.hid (Hh.out.below hb)
            clear hb
            clear hb0 he
            go_wp2_with fail
            go_ret
            exact ⟨rfl, HB.out⟩
    · obtain ⟨e1, e2⟩ := name_B (s := x) (fun h => absurd h h0)
      have hsz : x.size = 0 := by omega
      clear h0
      obtain ⟨f1, f2⟩ := caret_name x
      have q1 := fun W => posix_any x W
      have q2 := fun W => posix_any ((⟨#[94]⟩ : ByteArray) ++ x) W
      have r1 := fun W => property_any x n W
      have r2 := fun W => property_any ((⟨#[94]⟩ : ByteArray) ++ x) n W
      have r3 := fun W => property_any x (!n) W
      rw [e1, e2] at q1 r1 r3
      rw [f1, f2] at q2 r2
      rw [show (false != n) = n by cases n <;> rfl] at r1
      rw [show (true != n) = !n by cases n <;> rfl] at r2
      rw [show (false != !n) = !n by cases n <;> rfl] at r3
      clear e1 e2 f1 f2
      generalize pxOf x = L1 at q1 q2
      generalize prOf x = L2 at r1 r2 r3
      rcases L1 with _ | L1
      · rcases L2 with _ | L2
        · simp only [PxTold] at q1 q2 r1 r2 r3
          have HB := Lib.hid (Below.refl w.heap.size w)
          go_enter Try.func20, Try.ntmps20
          go_wp2_with fail
          refine (head4_any w).mono ?_
          rintro e w1 ⟨rfl, hb0⟩
          have hb := hb0
          replace HB := Lib.hid (Below.on HB.out hb)
          clear hb
          clear hb0
          go_wp2_with fail
          refine (q1 w1).mono ?_
          rintro e w2 ⟨rfl, hb0⟩
          have hb := hb0
          replace HB := Lib.hid (Below.on HB.out hb)
          clear hb
          clear hb0
          go_wp2_with fail
          refine (q2 w2).mono ?_
          rintro e w3 ⟨rfl, hb0⟩
          have hb := hb0
          replace HB := Lib.hid (Below.on HB.out hb)
          clear hb
          clear hb0
          go_wp2_with fail
          refine (r1 w3).mono ?_
          rintro e w4 ⟨rfl, hb0⟩
          have hb := hb0
          replace HB := Lib.hid (Below.on HB.out hb)
          clear hb
          clear hb0
          go_wp2_with fail
          refine (r2 w4).mono ?_
          rintro e w5 ⟨rfl, hb0⟩
          have hb := hb0
          replace HB := Lib.hid (Below.on HB.out hb)
          clear hb
          clear hb0
          go_wp2_with fail
          refine (r3 w5).mono ?_
          rintro e w6 ⟨rfl, hb0⟩
          have hb := hb0
          replace HB := Lib.hid (Below.on HB.out hb)
          clear hb
          clear hb0
          go_wp2_with fail
          go_ret
          exact ⟨rfl, HB.out⟩
        · simp only [PxTold] at q1 q2 r1 r2 r3
          have HB := Lib.hid (Below.refl w.heap.size w)
          go_enter Try.func20, Try.ntmps20
          go_wp2_with fail
          refine (head4_any w).mono ?_
          rintro e w1 ⟨rfl, hb0⟩
          have hb := hb0
          replace HB := Lib.hid (Below.on HB.out hb)
          clear hb
          clear hb0
          go_wp2_with fail
          refine (q1 w1).mono ?_
          rintro e w2 ⟨rfl, hb0⟩
          have hb := hb0
          replace HB := Lib.hid (Below.on HB.out hb)
          clear hb
          clear hb0
          go_wp2_with fail
          refine (q2 w2).mono ?_
          rintro e w3 ⟨rfl, hb0⟩
          have hb := hb0
          replace HB := Lib.hid (Below.on HB.out hb)
          clear hb
          clear hb0
          go_wp2_with fail
          refine (r1 w3).mono ?_
          rintro e w4 ⟨Ae, ne, ce, le, rfl, ge⟩
          have hb := ge.below
          replace HB := Lib.hid (Below.on HB.out hb)
          clear hb
          have He := Lib.hid ge.rg
          have Ge := Lib.hid ge
          have ye := ge.small
          clear ge
          go_wp2_with fail
          refine (r2 w4).mono ?_
          rintro e w5 ⟨Af, nf, cf, lf, rfl, gf⟩
          have hb := gf.below
          replace HB := Lib.hid (Below.on HB.out hb)
          replace He := Lib.hid (He.out.below hb)
          clear hb
          have Hf := Lib.hid gf.rg
          have Gf := Lib.hid gf
          have yf := gf.small
          clear gf
          go_wp2_with fail
          refine (r3 w5).mono ?_
          rintro e w6 ⟨Ah, nh, ch, lh, rfl, gh⟩
          have hb := gh.below
          replace HB := Lib.hid (Below.on HB.out hb)
          replace He := Lib.hid (He.out.below hb)
          replace Hf := Lib.hid (Hf.out.below hb)
          clear hb
          have Hh := Lib.hid gh.rg
          have Gh := Lib.hid gh
          have yh := gh.small
          clear gh
          have he := told_other Ge.out Gf.out
          go_wp2_with fail
          refine (other_yes He.out Hf.out (by omega) he).mono ?_
          rintro e w7 ⟨rfl, hb0⟩
          have hb := hb0
          replace HB := Lib.hid (Below.on HB.out hb)
          replace He := Lib.hid (He.out.below hb)
          replace Hf := Lib.hid (Hf.out.below hb)
          replace Hh := Lib.hid (Hh.out.below hb)
          clear hb
          clear hb0 he
          have he : lf = lh := Gf.out.set.unique Gh.out.set (fun _ _ _ => Iff.rfl)
          go_wp2_with fail
          refine (same_yes Hf.out Hh.out he).mono ?_
          rintro e w8 ⟨rfl, hb0⟩
          have hb := hb0
          replace HB := Lib.hid (Below.on HB.out hb)
          replace He := Lib.hid (He.out.below hb)
          replace Hf := Lib.hid (Hf.out.below hb)
          replace Hh := Lib.hid (Hh.out.below hb)
          clear hb
          clear hb0 he
          go_wp2_with fail
          go_ret
          exact ⟨rfl, HB.out⟩
      · rcases L2 with _ | L2
        · simp only [PxTold] at q1 q2 r1 r2 r3
          have HB := Lib.hid (Below.refl w.heap.size w)
          go_enter Try.func20, Try.ntmps20
          go_wp2_with fail
          refine (head4_any w).mono ?_
          rintro e w1 ⟨rfl, hb0⟩
          have hb := hb0
          replace HB := Lib.hid (Below.on HB.out hb)
          clear hb
          clear hb0
          go_wp2_with fail
          refine (q1 w1).mono ?_
          rintro e w2 ⟨Ai, ni, ci, li, rfl, gi⟩
          have hb := gi.below
          replace HB := Lib.hid (Below.on HB.out hb)
          clear hb
          have Hi := Lib.hid gi.rg
          have Gi := Lib.hid gi
          have yi := gi.small
          clear gi
          go_wp2_with fail
          refine (q2 w2).mono ?_
          rintro e w3 ⟨Aj, nj, cj, lj, rfl, gj⟩
          have hb := gj.below
          replace HB := Lib.hid (Below.on HB.out hb)
          replace Hi := Lib.hid (Hi.out.below hb)
          clear hb
          have Hj := Lib.hid gj.rg
          have Gj := Lib.hid gj
          have yj := gj.small
          clear gj
          have he := told_other Gi.out Gj.out
          go_wp2_with fail
          refine (other_yes Hi.out Hj.out (by omega) he).mono ?_
          rintro e w4 ⟨rfl, hb0⟩
          have hb := hb0
          replace HB := Lib.hid (Below.on HB.out hb)
          replace Hi := Lib.hid (Hi.out.below hb)
          replace Hj := Lib.hid (Hj.out.below hb)
          clear hb
          clear hb0 he
          clear Hi
          clear Hj
          clear Gi Gj
          go_wp2_with fail
          refine (r1 w4).mono ?_
          rintro e w5 ⟨rfl, hb0⟩
          have hb := hb0
          replace HB := Lib.hid (Below.on HB.out hb)
          clear hb
          clear hb0
          go_wp2_with fail
          refine (r2 w5).mono ?_
          rintro e w6 ⟨rfl, hb0⟩
          have hb := hb0
          replace HB := Lib.hid (Below.on HB.out hb)
          clear hb
          clear hb0
          go_wp2_with fail
          refine (r3 w6).mono ?_
          rintro e w7 ⟨rfl, hb0⟩
          have hb := hb0
          replace HB := Lib.hid (Below.on HB.out hb)
          clear hb
          clear hb0
          go_wp2_with fail
          go_ret
          exact ⟨rfl, HB.out⟩
        · simp only [PxTold] at q1 q2 r1 r2 r3
          have HB := Lib.hid (Below.refl w.heap.size w)
          go_enter Try.func20, Try.ntmps20
          go_wp2_with fail
          refine (head4_any w).mono ?_
          rintro e w1 ⟨rfl, hb0⟩
          have hb := hb0
          replace HB := Lib.hid (Below.on HB.out hb)
          clear hb
          clear hb0
          go_wp2_with fail
          refine (q1 w1).mono ?_
          rintro e w2 ⟨Ai, ni, ci, li, rfl, gi⟩
          have hb := gi.below
          replace HB := Lib.hid (Below.on HB.out hb)
          clear hb
          have Hi := Lib.hid gi.rg
          have Gi := Lib.hid gi
          have yi := gi.small
          clear gi
          go_wp2_with fail
          refine (q2 w2).mono ?_
          rintro e w3 ⟨Aj, nj, cj, lj, rfl, gj⟩
          have hb := gj.below
          replace HB := Lib.hid (Below.on HB.out hb)
          replace Hi := Lib.hid (Hi.out.below hb)
          clear hb
          have Hj := Lib.hid gj.rg
          have Gj := Lib.hid gj
          have yj := gj.small
          clear gj
          have he := told_other Gi.out Gj.out
          go_wp2_with fail
          refine (other_yes Hi.out Hj.out (by omega) he).mono ?_
          rintro e w4 ⟨rfl, hb0⟩
          have hb := hb0
          replace HB := Lib.hid (Below.on HB.out hb)
          replace Hi := Lib.hid (Hi.out.below hb)
          replace Hj := Lib.hid (Hj.out.below hb)
          clear hb
          clear hb0 he
          clear Hi
          clear Hj
          clear Gi Gj
          go_wp2_with fail
          refine (r1 w4).mono ?_
          rintro e w5 ⟨Ae, ne, ce, le, rfl, ge⟩
          have hb := ge.below
          replace HB := Lib.hid (Below.on HB.out hb)
          clear hb
          have He := Lib.hid ge.rg
          have Ge := Lib.hid ge
          have ye := ge.small
          clear ge
          go_wp2_with fail
          refine (r2 w5).mono ?_
          rintro e w6 ⟨Af, nf, cf, lf, rfl, gf⟩
          have hb := gf.below
          replace HB := Lib.hid (Below.on HB.out hb)
          replace He := Lib.hid (He.out.below hb)
          clear hb
          have Hf := Lib.hid gf.rg
          have Gf := Lib.hid gf
          have yf := gf.small
          clear gf
          go_wp2_with fail
          refine (r3 w6).mono ?_
          rintro e w7 ⟨Ah, nh, ch, lh, rfl, gh⟩
          have hb := gh.below
          replace HB := Lib.hid (Below.on HB.out hb)
          replace He := Lib.hid (He.out.below hb)
          replace Hf := Lib.hid (Hf.out.below hb)
          clear hb
          have Hh := Lib.hid gh.rg
          have Gh := Lib.hid gh
          have yh := gh.small
          clear gh
          have he := told_other Ge.out Gf.out
          go_wp2_with fail
          refine (other_yes He.out Hf.out (by omega) he).mono ?_
          rintro e w8 ⟨rfl, hb0⟩
          have hb := hb0
          replace HB := Lib.hid (Below.on HB.out hb)
          replace He := Lib.hid (He.out.below hb)
          replace Hf := Lib.hid (Hf.out.below hb)
          replace Hh := Lib.hid (Hh.out.below hb)
          clear hb
          clear hb0 he
          have he : lf = lh := Gf.out.set.unique Gh.out.set (fun _ _ _ => Iff.rfl)
          go_wp2_with fail
          refine (same_yes Hf.out Hh.out he).mono ?_
          rintro e w9 ⟨rfl, hb0⟩
          have hb := hb0
          replace HB := Lib.hid (Below.on HB.out hb)
          replace He := Lib.hid (He.out.below hb)
          replace Hf := Lib.hid (Hf.out.below hb)
          replace Hh := Lib.hid (Hh.out.below hb)
          clear hb
          clear hb0 he
          go_wp2_with fail
          go_ret
          exact ⟨rfl, HB.out⟩
set_option maxRecDepth 20000 in
set_option maxHeartbeats 4000000 in
theorem turned_walk_none {w : World} (c : Int) (x : ByteArray) (n : Bool) (hx9 : x.size ≤ 140737488351232) (k1 : 97 ≤ c) (k2 : c ≤ 122) (p1 : ∀ W, Calls Try.prog 43 #[.int .u8 c] W fun e w' => PxTold none false W e w') (p2 : ∀ W, Calls Try.prog 43 #[.int .u8 (c - 32)] W fun e w' => PxTold none true W e w') :
    Calls Try.prog 20 #[.int .u8 c, .string x, .bool n] w fun e w' => e = .returned (.bool true) ∧ Below w.heap.size w w' := by
  have kw : IntKind.u8.wrap (c - 32) = c - 32 := IntWalk.u8_in _ (by omega)
  have ka : decide (97 ≤ c) = true := decide_eq_true k1
  have kb : decide (c ≤ 122) = true := decide_eq_true k2
  simp only [PxTold] at p1 p2
  by_cases h0 : 0 < x.size
  · have hsz : (0 : Int) < (x.size : Int) := by omega
    by_cases h1 : x[0] = 94
    · have hb : ((x[0].toNat : Int) == 94) = true := by rw [h1]; rfl
      clear h1
      have HB := Lib.hid (Below.refl w.heap.size w)
      go_enter Try.func20, Try.ntmps20
      go_wp2_with fail
      refine (head4_any w).mono ?_
      rintro e w1 ⟨rfl, hb0⟩
      have hb := hb0
      replace HB := Lib.hid (Below.on HB.out hb)
      clear hb
      clear hb0
      go_wp2_with fail
      refine (p1 w1).mono ?_
      rintro e w2 ⟨rfl, hb0⟩
      have hb := hb0
      replace HB := Lib.hid (Below.on HB.out hb)
      clear hb
      clear hb0
      go_wp2_with fail
      refine (p2 w2).mono ?_
      rintro e w3 ⟨rfl, hb0⟩
      have hb := hb0
      replace HB := Lib.hid (Below.on HB.out hb)
      clear hb
      clear hb0
      go_wp2_with fail
      go_ret
      exact ⟨rfl, HB.out⟩
    · obtain ⟨e1, e2⟩ := name_B (s := x) (fun _ => h1)
      have hb : ((x[0].toNat : Int) == 94) = false := by
        rw [beq_eq_false_iff_ne]
        intro h
        refine h1 (UInt8.toNat_inj.1 ?_)
        rw [show (94 : UInt8).toNat = 94 from rfl]
        omega
      clear h1
      obtain ⟨f1, f2⟩ := caret_name x
      have q1 := fun W => posix_any x W
      have q2 := fun W => posix_any ((⟨#[94]⟩ : ByteArray) ++ x) W
      have r1 := fun W => property_any x n W
      have r2 := fun W => property_any ((⟨#[94]⟩ : ByteArray) ++ x) n W
      have r3 := fun W => property_any x (!n) W
      rw [e1, e2] at q1 r1 r3
      rw [f1, f2] at q2 r2
      rw [show (false != n) = n by cases n <;> rfl] at r1
      rw [show (true != n) = !n by cases n <;> rfl] at r2
      rw [show (false != !n) = !n by cases n <;> rfl] at r3
      clear e1 e2 f1 f2
      generalize pxOf x = L1 at q1 q2
      generalize prOf x = L2 at r1 r2 r3
      rcases L1 with _ | L1
      · rcases L2 with _ | L2
        · simp only [PxTold] at q1 q2 r1 r2 r3
          have HB := Lib.hid (Below.refl w.heap.size w)
          go_enter Try.func20, Try.ntmps20
          go_wp2_with fail
          refine (head4_any w).mono ?_
          rintro e w1 ⟨rfl, hb0⟩
          have hb := hb0
          replace HB := Lib.hid (Below.on HB.out hb)
          clear hb
          clear hb0
          go_wp2_with fail
          refine (p1 w1).mono ?_
          rintro e w2 ⟨rfl, hb0⟩
          have hb := hb0
          replace HB := Lib.hid (Below.on HB.out hb)
          clear hb
          clear hb0
          go_wp2_with fail
          refine (p2 w2).mono ?_
          rintro e w3 ⟨rfl, hb0⟩
          have hb := hb0
          replace HB := Lib.hid (Below.on HB.out hb)
          clear hb
          clear hb0
          go_wp2_with fail
          refine (q1 w3).mono ?_
          rintro e w4 ⟨rfl, hb0⟩
          have hb := hb0
          replace HB := Lib.hid (Below.on HB.out hb)
          clear hb
          clear hb0
          go_wp2_with fail
          refine (q2 w4).mono ?_
          rintro e w5 ⟨rfl, hb0⟩
          have hb := hb0
          replace HB := Lib.hid (Below.on HB.out hb)
          clear hb
          clear hb0
          go_wp2_with fail
          refine (r1 w5).mono ?_
          rintro e w6 ⟨rfl, hb0⟩
          have hb := hb0
          replace HB := Lib.hid (Below.on HB.out hb)
          clear hb
          clear hb0
          go_wp2_with fail
          refine (r2 w6).mono ?_
          rintro e w7 ⟨rfl, hb0⟩
          have hb := hb0
          replace HB := Lib.hid (Below.on HB.out hb)
          clear hb
          clear hb0
          go_wp2_with fail
          refine (r3 w7).mono ?_
          rintro e w8 ⟨rfl, hb0⟩
          have hb := hb0
          replace HB := Lib.hid (Below.on HB.out hb)
          clear hb
          clear hb0
          go_wp2_with fail
          go_ret
          exact ⟨rfl, HB.out⟩
        · simp only [PxTold] at q1 q2 r1 r2 r3
          have HB := Lib.hid (Below.refl w.heap.size w)
          go_enter Try.func20, Try.ntmps20
          go_wp2_with fail
          refine (head4_any w).mono ?_
          rintro e w1 ⟨rfl, hb0⟩
          have hb := hb0
          replace HB := Lib.hid (Below.on HB.out hb)
          clear hb
          clear hb0
          go_wp2_with fail
          refine (p1 w1).mono ?_
          rintro e w2 ⟨rfl, hb0⟩
          have hb := hb0
          replace HB := Lib.hid (Below.on HB.out hb)
          clear hb
          clear hb0
          go_wp2_with fail
          refine (p2 w2).mono ?_
          rintro e w3 ⟨rfl, hb0⟩
          have hb := hb0
          replace HB := Lib.hid (Below.on HB.out hb)
          clear hb
          clear hb0
          go_wp2_with fail
          refine (q1 w3).mono ?_
          rintro e w4 ⟨rfl, hb0⟩
          have hb := hb0
          replace HB := Lib.hid (Below.on HB.out hb)
          clear hb
          clear hb0
          go_wp2_with fail
          refine (q2 w4).mono ?_
          rintro e w5 ⟨rfl, hb0⟩
          have hb := hb0
          replace HB := Lib.hid (Below.on HB.out hb)
          clear hb
          clear hb0
          go_wp2_with fail
          refine (r1 w5).mono ?_
          rintro e w6 ⟨Ae, ne, ce, le, rfl, ge⟩
          have hb := ge.below
          replace HB := Lib.hid (Below.on HB.out hb)
          clear hb
          have He := Lib.hid ge.rg
          have Ge := Lib.hid ge
          have ye := ge.small
          clear ge
          go_wp2_with fail
          refine (r2 w6).mono ?_
          rintro e w7 ⟨Af, nf, cf, lf, rfl, gf⟩
          have hb := gf.below
          replace HB := Lib.hid (Below.on HB.out hb)
          replace He := Lib.hid (He.out.below hb)
          clear hb
          have Hf := Lib.hid gf.rg
          have Gf := Lib.hid gf
          have yf := gf.small
          clear gf
          go_wp2_with fail
          refine (r3 w7).mono ?_
          rintro e w8 ⟨Ah, nh, ch, lh, rfl, gh⟩
          have hb := gh.below
          replace HB := Lib.hid (Below.on HB.out hb)
          replace He := Lib.hid (He.out.below hb)
          replace Hf := Lib.hid (Hf.out.below hb)
          clear hb
          have Hh := Lib.hid gh.rg
          have Gh := Lib.hid gh
          have yh := gh.small
          clear gh
          have he := told_other Ge.out Gf.out
          go_wp2_with fail
          refine (other_yes He.out Hf.out (by omega) he).mono ?_
          rintro e w9 ⟨rfl, hb0⟩
          have hb := hb0
          replace HB := Lib.hid (Below.on HB.out hb)
          replace He := Lib.hid (He.out.below hb)
          replace Hf := Lib.hid (Hf.out.below hb)
          replace Hh := Lib.hid (Hh.out.below hb)
          clear hb
          clear hb0 he
          have he : lf = lh := Gf.out.set.unique Gh.out.set (fun _ _ _ => Iff.rfl)
          go_wp2_with fail
          refine (same_yes Hf.out Hh.out he).mono ?_
          rintro e w10 ⟨rfl, hb0⟩
          have hb := hb0
          replace HB := Lib.hid (Below.on HB.out hb)
          replace He := Lib.hid (He.out.below hb)
          replace Hf := Lib.hid (Hf.out.below hb)
          replace Hh := Lib.hid (Hh.out.below hb)
          clear hb
          clear hb0 he
          go_wp2_with fail
          go_ret
          exact ⟨rfl, HB.out⟩
      · rcases L2 with _ | L2
        · simp only [PxTold] at q1 q2 r1 r2 r3
          have HB := Lib.hid (Below.refl w.heap.size w)
          go_enter Try.func20, Try.ntmps20
          go_wp2_with fail
          refine (head4_any w).mono ?_
          rintro e w1 ⟨rfl, hb0⟩
          have hb := hb0
          replace HB := Lib.hid (Below.on HB.out hb)
          clear hb
          clear hb0
          go_wp2_with fail
          refine (p1 w1).mono ?_
          rintro e w2 ⟨rfl, hb0⟩
          have hb := hb0
          replace HB := Lib.hid (Below.on HB.out hb)
          clear hb
          clear hb0
          go_wp2_with fail
          refine (p2 w2).mono ?_
          rintro e w3 ⟨rfl, hb0⟩
          have hb := hb0
          replace HB := Lib.hid (Below.on HB.out hb)
          clear hb
          clear hb0
          go_wp2_with fail
          refine (q1 w3).mono ?_
          rintro e w4 ⟨Ai, ni, ci, li, rfl, gi⟩
          have hb := gi.below
          replace HB := Lib.hid (Below.on HB.out hb)
          clear hb
          have Hi := Lib.hid gi.rg
          have Gi := Lib.hid gi
          have yi := gi.small
          clear gi
          go_wp2_with fail
          refine (q2 w4).mono ?_
          rintro e w5 ⟨Aj, nj, cj, lj, rfl, gj⟩
          have hb := gj.below
          replace HB := Lib.hid (Below.on HB.out hb)
          replace Hi := Lib.hid (Hi.out.below hb)
          clear hb
          have Hj := Lib.hid gj.rg
          have Gj := Lib.hid gj
          have yj := gj.small
          clear gj
          have he := told_other Gi.out Gj.out
          go_wp2_with fail
          refine (other_yes Hi.out Hj.out (by omega) he).mono ?_
          rintro e w6 ⟨rfl, hb0⟩
          have hb := hb0
          replace HB := Lib.hid (Below.on HB.out hb)
          replace Hi := Lib.hid (Hi.out.below hb)
          replace Hj := Lib.hid (Hj.out.below hb)
          clear hb
          clear hb0 he
          clear Hi
          clear Hj
          clear Gi Gj
          go_wp2_with fail
          refine (r1 w6).mono ?_
          rintro e w7 ⟨rfl, hb0⟩
          have hb := hb0
          replace HB := Lib.hid (Below.on HB.out hb)
          clear hb
          clear hb0
          go_wp2_with fail
          refine (r2 w7).mono ?_
          rintro e w8 ⟨rfl, hb0⟩
          have hb := hb0
          replace HB := Lib.hid (Below.on HB.out hb)
          clear hb
          clear hb0
          go_wp2_with fail
          refine (r3 w8).mono ?_
          rintro e w9 ⟨rfl, hb0⟩
          have hb := hb0
          replace HB := Lib.hid (Below.on HB.out hb)
          clear hb
          clear hb0
          go_wp2_with fail
          go_ret
          exact ⟨rfl, HB.out⟩
        · simp only [PxTold] at q1 q2 r1 r2 r3
          have HB := Lib.hid (Below.refl w.heap.size w)
          go_enter Try.func20, Try.ntmps20
          go_wp2_with fail
          refine (head4_any w).mono ?_
          rintro e w1 ⟨rfl, hb0⟩
          have hb := hb0
          replace HB := Lib.hid (Below.on HB.out hb)
          clear hb
          clear hb0
          go_wp2_with fail
          refine (p1 w1).mono ?_
          rintro e w2 ⟨rfl, hb0⟩
          have hb := hb0
          replace HB := Lib.hid (Below.on HB.out hb)
          clear hb
          clear hb0
          go_wp2_with fail
          refine (p2 w2).mono ?_
          rintro e w3 ⟨rfl, hb0⟩
          have hb := hb0
          replace HB := Lib.hid (Below.on HB.out hb)
          clear hb
          clear hb0
          go_wp2_with fail
          refine (q1 w3).mono ?_
          rintro e w4 ⟨Ai, ni, ci, li, rfl, gi⟩
          have hb := gi.below
          replace HB := Lib.hid (Below.on HB.out hb)
          clear hb
          have Hi := Lib.hid gi.rg
          have Gi := Lib.hid gi
          have yi := gi.small
          clear gi
          go_wp2_with fail
          refine (q2 w4).mono ?_
          rintro e w5 ⟨Aj, nj, cj, lj, rfl, gj⟩
          have hb := gj.below
          replace HB := Lib.hid (Below.on HB.out hb)
          replace Hi := Lib.hid (Hi.out.below hb)
          clear hb
          have Hj := Lib.hid gj.rg
          have Gj := Lib.hid gj
          have yj := gj.small
          clear gj
          have he := told_other Gi.out Gj.out
          go_wp2_with fail
          refine (other_yes Hi.out Hj.out (by omega) he).mono ?_
          rintro e w6 ⟨rfl, hb0⟩
          have hb := hb0
          replace HB := Lib.hid (Below.on HB.out hb)
          replace Hi := Lib.hid (Hi.out.below hb)
          replace Hj := Lib.hid (Hj.out.below hb)
          clear hb
          clear hb0 he
          clear Hi
          clear Hj
          clear Gi Gj
          go_wp2_with fail
          refine (r1 w6).mono ?_
          rintro e w7 ⟨Ae, ne, ce, le, rfl, ge⟩
          have hb := ge.below
          replace HB := Lib.hid (Below.on HB.out hb)
          clear hb
          have He := Lib.hid ge.rg
          have Ge := Lib.hid ge
          have ye := ge.small
          clear ge
          go_wp2_with fail
          refine (r2 w7).mono ?_
          rintro e w8 ⟨Af, nf, cf, lf, rfl, gf⟩
          have hb := gf.below
          replace HB := Lib.hid (Below.on HB.out hb)
          replace He := Lib.hid (He.out.below hb)
          clear hb
          have Hf := Lib.hid gf.rg
          have Gf := Lib.hid gf
          have yf := gf.small
          clear gf
          go_wp2_with fail
          refine (r3 w8).mono ?_
          rintro e w9 ⟨Ah, nh, ch, lh, rfl, gh⟩
          have hb := gh.below
          replace HB := Lib.hid (Below.on HB.out hb)
          replace He := Lib.hid (He.out.below hb)
          replace Hf := Lib.hid (Hf.out.below hb)
          clear hb
          have Hh := Lib.hid gh.rg
          have Gh := Lib.hid gh
          have yh := gh.small
          clear gh
          have he := told_other Ge.out Gf.out
          go_wp2_with fail
          refine (other_yes He.out Hf.out (by omega) he).mono ?_
          rintro e w10 ⟨rfl, hb0⟩
          have hb := hb0
          replace HB := Lib.hid (Below.on HB.out hb)
          replace He := Lib.hid (He.out.below hb)
          replace Hf := Lib.hid (Hf.out.below hb)
          replace Hh := Lib.hid (Hh.out.below hb)
          clear hb
          clear hb0 he
          have he : lf = lh := Gf.out.set.unique Gh.out.set (fun _ _ _ => Iff.rfl)
          go_wp2_with fail
          refine (same_yes Hf.out Hh.out he).mono ?_
          rintro e w11 ⟨rfl, hb0⟩
          have hb := hb0
          replace HB := Lib.hid (Below.on HB.out hb)
          replace He := Lib.hid (He.out.below hb)
          replace Hf := Lib.hid (Hf.out.below hb)
          replace Hh := Lib.hid (Hh.out.below hb)
          clear hb
          clear hb0 he
          go_wp2_with fail
          go_ret
          exact ⟨rfl, HB.out⟩
  · obtain ⟨e1, e2⟩ := name_B (s := x) (fun h => absurd h h0)
    have hsz : x.size = 0 := by omega
    clear h0
    obtain ⟨f1, f2⟩ := caret_name x
    have q1 := fun W => posix_any x W
    have q2 := fun W => posix_any ((⟨#[94]⟩ : ByteArray) ++ x) W
    have r1 := fun W => property_any x n W
    have r2 := fun W => property_any ((⟨#[94]⟩ : ByteArray) ++ x) n W
    have r3 := fun W => property_any x (!n) W
    rw [e1, e2] at q1 r1 r3
    rw [f1, f2] at q2 r2
    rw [show (false != n) = n by cases n <;> rfl] at r1
    rw [show (true != n) = !n by cases n <;> rfl] at r2
    rw [show (false != !n) = !n by cases n <;> rfl] at r3
    clear e1 e2 f1 f2
    generalize pxOf x = L1 at q1 q2
    generalize prOf x = L2 at r1 r2 r3
    rcases L1 with _ | L1
    · rcases L2 with _ | L2
      · simp only [PxTold] at q1 q2 r1 r2 r3
        have HB := Lib.hid (Below.refl w.heap.size w)
        go_enter Try.func20, Try.ntmps20
        go_wp2_with fail
        refine (head4_any w).mono ?_
        rintro e w1 ⟨rfl, hb0⟩
        have hb := hb0
        replace HB := Lib.hid (Below.on HB.out hb)
        clear hb
        clear hb0
        go_wp2_with fail
        refine (p1 w1).mono ?_
        rintro e w2 ⟨rfl, hb0⟩
        have hb := hb0
        replace HB := Lib.hid (Below.on HB.out hb)
        clear hb
        clear hb0
        go_wp2_with fail
        refine (p2 w2).mono ?_
        rintro e w3 ⟨rfl, hb0⟩
        have hb := hb0
        replace HB := Lib.hid (Below.on HB.out hb)
        clear hb
        clear hb0
        go_wp2_with fail
        refine (q1 w3).mono ?_
        rintro e w4 ⟨rfl, hb0⟩
        have hb := hb0
        replace HB := Lib.hid (Below.on HB.out hb)
        clear hb
        clear hb0
        go_wp2_with fail
        refine (q2 w4).mono ?_
        rintro e w5 ⟨rfl, hb0⟩
        have hb := hb0
        replace HB := Lib.hid (Below.on HB.out hb)
        clear hb
        clear hb0
        go_wp2_with fail
        refine (r1 w5).mono ?_
        rintro e w6 ⟨rfl, hb0⟩
        have hb := hb0
        replace HB := Lib.hid (Below.on HB.out hb)
        clear hb
        clear hb0
        go_wp2_with fail
        refine (r2 w6).mono ?_
        rintro e w7 ⟨rfl, hb0⟩
        have hb := hb0
        replace HB := Lib.hid (Below.on HB.out hb)
        clear hb
        clear hb0
        go_wp2_with fail
        refine (r3 w7).mono ?_
        rintro e w8 ⟨rfl, hb0⟩
        have hb := hb0
        replace HB := Lib.hid (Below.on HB.out hb)
        clear hb
        clear hb0
        go_wp2_with fail
        go_ret
        exact ⟨rfl, HB.out⟩
      · simp only [PxTold] at q1 q2 r1 r2 r3
        have HB := Lib.hid (Below.refl w.heap.size w)
        go_enter Try.func20, Try.ntmps20
        go_wp2_with fail
        refine (head4_any w).mono ?_
        rintro e w1 ⟨rfl, hb0⟩
        have hb := hb0
        replace HB := Lib.hid (Below.on HB.out hb)
        clear hb
        clear hb0
        go_wp2_with fail
        refine (p1 w1).mono ?_
        rintro e w2 ⟨rfl, hb0⟩
        have hb := hb0
        replace HB := Lib.hid (Below.on HB.out hb)
        clear hb
        clear hb0
        go_wp2_with fail
        refine (p2 w2).mono ?_
        rintro e w3 ⟨rfl, hb0⟩
        have hb := hb0
        replace HB := Lib.hid (Below.on HB.out hb)
        clear hb
        clear hb0
        go_wp2_with fail
        refine (q1 w3).mono ?_
        rintro e w4 ⟨rfl, hb0⟩
        have hb := hb0
        replace HB := Lib.hid (Below.on HB.out hb)
        clear hb
        clear hb0
        go_wp2_with fail
        refine (q2 w4).mono ?_
        rintro e w5 ⟨rfl, hb0⟩
        have hb := hb0
        replace HB := Lib.hid (Below.on HB.out hb)
        clear hb
        clear hb0
        go_wp2_with fail
        refine (r1 w5).mono ?_
        rintro e w6 ⟨Ae, ne, ce, le, rfl, ge⟩
        have hb := ge.below
        replace HB := Lib.hid (Below.on HB.out hb)
        clear hb
        have He := Lib.hid ge.rg
        have Ge := Lib.hid ge
        have ye := ge.small
        clear ge
        go_wp2_with fail
        refine (r2 w6).mono ?_
        rintro e w7 ⟨Af, nf, cf, lf, rfl, gf⟩
        have hb := gf.below
        replace HB := Lib.hid (Below.on HB.out hb)
        replace He := Lib.hid (He.out.below hb)
        clear hb
        have Hf := Lib.hid gf.rg
        have Gf := Lib.hid gf
        have yf := gf.small
        clear gf
        go_wp2_with fail
        refine (r3 w7).mono ?_
        rintro e w8 ⟨Ah, nh, ch, lh, rfl, gh⟩
        have hb := gh.below
        replace HB := Lib.hid (Below.on HB.out hb)
        replace He := Lib.hid (He.out.below hb)
        replace Hf := Lib.hid (Hf.out.below hb)
        clear hb
        have Hh := Lib.hid gh.rg
        have Gh := Lib.hid gh
        have yh := gh.small
        clear gh
        have he := told_other Ge.out Gf.out
        go_wp2_with fail
        refine (other_yes He.out Hf.out (by omega) he).mono ?_
        rintro e w9 ⟨rfl, hb0⟩
        have hb := hb0
        replace HB := Lib.hid (Below.on HB.out hb)
        replace He := Lib.hid (He.out.below hb)
        replace Hf := Lib.hid (Hf.out.below hb)
        replace Hh := Lib.hid (Hh.out.below hb)
        clear hb
        clear hb0 he
        have he : lf = lh := Gf.out.set.unique Gh.out.set (fun _ _ _ => Iff.rfl)
        go_wp2_with fail
        refine (same_yes Hf.out Hh.out he).mono ?_
        rintro e w10 ⟨rfl, hb0⟩
        have hb := hb0
        replace HB := Lib.hid (Below.on HB.out hb)
        replace He := Lib.hid (He.out.below hb)
        replace Hf := Lib.hid (Hf.out.below hb)
        replace Hh := Lib.hid (Hh.out.below hb)
        clear hb
        clear hb0 he
        go_wp2_with fail
        go_ret
        exact ⟨rfl, HB.out⟩
    · rcases L2 with _ | L2
      · simp only [PxTold] at q1 q2 r1 r2 r3
        have HB := Lib.hid (Below.refl w.heap.size w)
        go_enter Try.func20, Try.ntmps20
        go_wp2_with fail
        refine (head4_any w).mono ?_
        rintro e w1 ⟨rfl, hb0⟩
        have hb := hb0
        replace HB := Lib.hid (Below.on HB.out hb)
        clear hb
        clear hb0
        go_wp2_with fail
        refine (p1 w1).mono ?_
        rintro e w2 ⟨rfl, hb0⟩
        have hb := hb0
        replace HB := Lib.hid (Below.on HB.out hb)
        clear hb
        clear hb0
        go_wp2_with fail
        refine (p2 w2).mono ?_
        rintro e w3 ⟨rfl, hb0⟩
        have hb := hb0
        replace HB := Lib.hid (Below.on HB.out hb)
        clear hb
        clear hb0
        go_wp2_with fail
        refine (q1 w3).mono ?_
        rintro e w4 ⟨Ai, ni, ci, li, rfl, gi⟩
        have hb := gi.below
        replace HB := Lib.hid (Below.on HB.out hb)
        clear hb
        have Hi := Lib.hid gi.rg
        have Gi := Lib.hid gi
        have yi := gi.small
        clear gi
        go_wp2_with fail
        refine (q2 w4).mono ?_
        rintro e w5 ⟨Aj, nj, cj, lj, rfl, gj⟩
        have hb := gj.below
        replace HB := Lib.hid (Below.on HB.out hb)
        replace Hi := Lib.hid (Hi.out.below hb)
        clear hb
        have Hj := Lib.hid gj.rg
        have Gj := Lib.hid gj
        have yj := gj.small
        clear gj
        have he := told_other Gi.out Gj.out
        go_wp2_with fail
        refine (other_yes Hi.out Hj.out (by omega) he).mono ?_
        rintro e w6 ⟨rfl, hb0⟩
        have hb := hb0
        replace HB := Lib.hid (Below.on HB.out hb)
        replace Hi := Lib.hid (Hi.out.below hb)
        replace Hj := Lib.hid (Hj.out.below hb)
        clear hb
        clear hb0 he
        clear Hi
        clear Hj
        clear Gi Gj
        go_wp2_with fail
        refine (r1 w6).mono ?_
        rintro e w7 ⟨rfl, hb0⟩
        have hb := hb0
        replace HB := Lib.hid (Below.on HB.out hb)
        clear hb
        clear hb0
        go_wp2_with fail
        refine (r2 w7).mono ?_
        rintro e w8 ⟨rfl, hb0⟩
        have hb := hb0
        replace HB := Lib.hid (Below.on HB.out hb)
        clear hb
        clear hb0
        go_wp2_with fail
        refine (r3 w8).mono ?_
        rintro e w9 ⟨rfl, hb0⟩
        have hb := hb0
        replace HB := Lib.hid (Below.on HB.out hb)
        clear hb
        clear hb0
        go_wp2_with fail
        go_ret
        exact ⟨rfl, HB.out⟩
      · simp only [PxTold] at q1 q2 r1 r2 r3
        have HB := Lib.hid (Below.refl w.heap.size w)
        go_enter Try.func20, Try.ntmps20
        go_wp2_with fail
        refine (head4_any w).mono ?_
        rintro e w1 ⟨rfl, hb0⟩
        have hb := hb0
        replace HB := Lib.hid (Below.on HB.out hb)
        clear hb
        clear hb0
        go_wp2_with fail
        refine (p1 w1).mono ?_
        rintro e w2 ⟨rfl, hb0⟩
        have hb := hb0
        replace HB := Lib.hid (Below.on HB.out hb)
        clear hb
        clear hb0
        go_wp2_with fail
        refine (p2 w2).mono ?_
        rintro e w3 ⟨rfl, hb0⟩
        have hb := hb0
        replace HB := Lib.hid (Below.on HB.out hb)
        clear hb
        clear hb0
        go_wp2_with fail
        refine (q1 w3).mono ?_
        rintro e w4 ⟨Ai, ni, ci, li, rfl, gi⟩
        have hb := gi.below
        replace HB := Lib.hid (Below.on HB.out hb)
        clear hb
        have Hi := Lib.hid gi.rg
        have Gi := Lib.hid gi
        have yi := gi.small
        clear gi
        go_wp2_with fail
        refine (q2 w4).mono ?_
        rintro e w5 ⟨Aj, nj, cj, lj, rfl, gj⟩
        have hb := gj.below
        replace HB := Lib.hid (Below.on HB.out hb)
        replace Hi := Lib.hid (Hi.out.below hb)
        clear hb
        have Hj := Lib.hid gj.rg
        have Gj := Lib.hid gj
        have yj := gj.small
        clear gj
        have he := told_other Gi.out Gj.out
        go_wp2_with fail
        refine (other_yes Hi.out Hj.out (by omega) he).mono ?_
        rintro e w6 ⟨rfl, hb0⟩
        have hb := hb0
        replace HB := Lib.hid (Below.on HB.out hb)
        replace Hi := Lib.hid (Hi.out.below hb)
        replace Hj := Lib.hid (Hj.out.below hb)
        clear hb
        clear hb0 he
        clear Hi
        clear Hj
        clear Gi Gj
        go_wp2_with fail
        refine (r1 w6).mono ?_
        rintro e w7 ⟨Ae, ne, ce, le, rfl, ge⟩
        have hb := ge.below
        replace HB := Lib.hid (Below.on HB.out hb)
        clear hb
        have He := Lib.hid ge.rg
        have Ge := Lib.hid ge
        have ye := ge.small
        clear ge
        go_wp2_with fail
        refine (r2 w7).mono ?_
        rintro e w8 ⟨Af, nf, cf, lf, rfl, gf⟩
        have hb := gf.below
        replace HB := Lib.hid (Below.on HB.out hb)
        replace He := Lib.hid (He.out.below hb)
        clear hb
        have Hf := Lib.hid gf.rg
        have Gf := Lib.hid gf
        have yf := gf.small
        clear gf
        go_wp2_with fail
        refine (r3 w8).mono ?_
        rintro e w9 ⟨Ah, nh, ch, lh, rfl, gh⟩
        have hb := gh.below
        replace HB := Lib.hid (Below.on HB.out hb)
        replace He := Lib.hid (He.out.below hb)
        replace Hf := Lib.hid (Hf.out.below hb)
        clear hb
        have Hh := Lib.hid gh.rg
        have Gh := Lib.hid gh
        have yh := gh.small
        clear gh
        have he := told_other Ge.out Gf.out
        go_wp2_with fail
        refine (other_yes He.out Hf.out (by omega) he).mono ?_
        rintro e w10 ⟨rfl, hb0⟩
        have hb := hb0
        replace HB := Lib.hid (Below.on HB.out hb)
        replace He := Lib.hid (He.out.below hb)
        replace Hf := Lib.hid (Hf.out.below hb)
        replace Hh := Lib.hid (Hh.out.below hb)
        clear hb
        clear hb0 he
        have he : lf = lh := Gf.out.set.unique Gh.out.set (fun _ _ _ => Iff.rfl)
        go_wp2_with fail
        refine (same_yes Hf.out Hh.out he).mono ?_
        rintro e w11 ⟨rfl, hb0⟩
        have hb := hb0
        replace HB := Lib.hid (Below.on HB.out hb)
        replace He := Lib.hid (He.out.below hb)
        replace Hf := Lib.hid (Hf.out.below hb)
        replace Hh := Lib.hid (Hh.out.below hb)
        clear hb
        clear hb0 he
        go_wp2_with fail
        go_ret
        exact ⟨rfl, HB.out⟩
set_option maxRecDepth 20000 in
set_option maxHeartbeats 4000000 in
theorem turned_walk_some {w : World} (c : Int) (x : ByteArray) (n : Bool) (hx9 : x.size ≤ 140737488351232) (k1 : 97 ≤ c) (k2 : c ≤ 122) (L : List Rg) (p1 : ∀ W, Calls Try.prog 43 #[.int .u8 c] W fun e w' => PxTold (some L) false W e w') (p2 : ∀ W, Calls Try.prog 43 #[.int .u8 (c - 32)] W fun e w' => PxTold (some L) true W e w') :
    Calls Try.prog 20 #[.int .u8 c, .string x, .bool n] w fun e w' => e = .returned (.bool true) ∧ Below w.heap.size w w' := by
  have kw : IntKind.u8.wrap (c - 32) = c - 32 := IntWalk.u8_in _ (by omega)
  have ka : decide (97 ≤ c) = true := decide_eq_true k1
  have kb : decide (c ≤ 122) = true := decide_eq_true k2
  simp only [PxTold] at p1 p2
  by_cases h0 : 0 < x.size
  · have hsz : (0 : Int) < (x.size : Int) := by omega
    by_cases h1 : x[0] = 94
    · have hb : ((x[0].toNat : Int) == 94) = true := by rw [h1]; rfl
      clear h1
      have HB := Lib.hid (Below.refl w.heap.size w)
      go_enter Try.func20, Try.ntmps20
      go_wp2_with fail
      refine (head4_any w).mono ?_
      rintro e w1 ⟨rfl, hb0⟩
      have hb := hb0
      replace HB := Lib.hid (Below.on HB.out hb)
      clear hb
      clear hb0
      go_wp2_with fail
      refine (p1 w1).mono ?_
      rintro e w2 ⟨Aa, na, ca, la, rfl, ga⟩
      have hb := ga.below
      replace HB := Lib.hid (Below.on HB.out hb)
      clear hb
      have Ha := Lib.hid ga.rg
      have Ga := Lib.hid ga
      have ya := ga.small
      clear ga
      go_wp2_with fail
      refine (p2 w2).mono ?_
      rintro e w3 ⟨Ab, nb, cb, lb, rfl, gb⟩
      have hb := gb.below
      replace HB := Lib.hid (Below.on HB.out hb)
      replace Ha := Lib.hid (Ha.out.below hb)
      clear hb
      have Hb := Lib.hid gb.rg
      have Gb := Lib.hid gb
      have yb := gb.small
      clear gb
      have he := told_other Ga.out Gb.out
      go_wp2_with fail
      refine (other_yes Ha.out Hb.out (by omega) he).mono ?_
      rintro e w4 ⟨rfl, hb0⟩
      have hb := hb0
      replace HB := Lib.hid (Below.on HB.out hb)
      replace Ha := Lib.hid (Ha.out.below hb)
      replace Hb := Lib.hid (Hb.out.below hb)
      clear hb
      clear hb0 he
      clear Ha
      clear Hb
      clear Ga Gb
      go_wp2_with fail
      go_ret
      exact ⟨rfl, HB.out⟩
    · obtain ⟨e1, e2⟩ := name_B (s := x) (fun _ => h1)
      have hb : ((x[0].toNat : Int) == 94) = false := by
        rw [beq_eq_false_iff_ne]
        intro h
        refine h1 (UInt8.toNat_inj.1 ?_)
        rw [show (94 : UInt8).toNat = 94 from rfl]
        omega
      clear h1
      obtain ⟨f1, f2⟩ := caret_name x
      have q1 := fun W => posix_any x W
      have q2 := fun W => posix_any ((⟨#[94]⟩ : ByteArray) ++ x) W
      have r1 := fun W => property_any x n W
      have r2 := fun W => property_any ((⟨#[94]⟩ : ByteArray) ++ x) n W
      have r3 := fun W => property_any x (!n) W
      rw [e1, e2] at q1 r1 r3
      rw [f1, f2] at q2 r2
      rw [show (false != n) = n by cases n <;> rfl] at r1
      rw [show (true != n) = !n by cases n <;> rfl] at r2
      rw [show (false != !n) = !n by cases n <;> rfl] at r3
      clear e1 e2 f1 f2
      generalize pxOf x = L1 at q1 q2
      generalize prOf x = L2 at r1 r2 r3
      rcases L1 with _ | L1
      · rcases L2 with _ | L2
        · simp only [PxTold] at q1 q2 r1 r2 r3
          have HB := Lib.hid (Below.refl w.heap.size w)
          go_enter Try.func20, Try.ntmps20
          go_wp2_with fail
          refine (head4_any w).mono ?_
          rintro e w1 ⟨rfl, hb0⟩
          have hb := hb0
          replace HB := Lib.hid (Below.on HB.out hb)
          clear hb
          clear hb0
          go_wp2_with fail
          refine (p1 w1).mono ?_
          rintro e w2 ⟨Aa, na, ca, la, rfl, ga⟩
          have hb := ga.below
          replace HB := Lib.hid (Below.on HB.out hb)
          clear hb
          have Ha := Lib.hid ga.rg
          have Ga := Lib.hid ga
          have ya := ga.small
          clear ga
          go_wp2_with fail
          refine (p2 w2).mono ?_
          rintro e w3 ⟨Ab, nb, cb, lb, rfl, gb⟩
          have hb := gb.below
          replace HB := Lib.hid (Below.on HB.out hb)
          replace Ha := Lib.hid (Ha.out.below hb)
          clear hb
          have Hb := Lib.hid gb.rg
          have Gb := Lib.hid gb
          have yb := gb.small
          clear gb
          have he := told_other Ga.out Gb.out
          go_wp2_with fail
          refine (other_yes Ha.out Hb.out (by omega) he).mono ?_
          rintro e w4 ⟨rfl, hb0⟩
          have hb := hb0
          replace HB := Lib.hid (Below.on HB.out hb)
          replace Ha := Lib.hid (Ha.out.below hb)
          replace Hb := Lib.hid (Hb.out.below hb)
          clear hb
          clear hb0 he
          clear Ha
          clear Hb
          clear Ga Gb
          go_wp2_with fail
          refine (q1 w4).mono ?_
          rintro e w5 ⟨rfl, hb0⟩
          have hb := hb0
          replace HB := Lib.hid (Below.on HB.out hb)
          clear hb
          clear hb0
          go_wp2_with fail
          refine (q2 w5).mono ?_
          rintro e w6 ⟨rfl, hb0⟩
          have hb := hb0
          replace HB := Lib.hid (Below.on HB.out hb)
          clear hb
          clear hb0
          go_wp2_with fail
          refine (r1 w6).mono ?_
          rintro e w7 ⟨rfl, hb0⟩
          have hb := hb0
          replace HB := Lib.hid (Below.on HB.out hb)
          clear hb
          clear hb0
          go_wp2_with fail
          refine (r2 w7).mono ?_
          rintro e w8 ⟨rfl, hb0⟩
          have hb := hb0
          replace HB := Lib.hid (Below.on HB.out hb)
          clear hb
          clear hb0
          go_wp2_with fail
          refine (r3 w8).mono ?_
          rintro e w9 ⟨rfl, hb0⟩
          have hb := hb0
          replace HB := Lib.hid (Below.on HB.out hb)
          clear hb
          clear hb0
          go_wp2_with fail
          go_ret
          exact ⟨rfl, HB.out⟩
        · simp only [PxTold] at q1 q2 r1 r2 r3
          have HB := Lib.hid (Below.refl w.heap.size w)
          go_enter Try.func20, Try.ntmps20
          go_wp2_with fail
          refine (head4_any w).mono ?_
          rintro e w1 ⟨rfl, hb0⟩
          have hb := hb0
          replace HB := Lib.hid (Below.on HB.out hb)
          clear hb
          clear hb0
          go_wp2_with fail
          refine (p1 w1).mono ?_
          rintro e w2 ⟨Aa, na, ca, la, rfl, ga⟩
          have hb := ga.below
          replace HB := Lib.hid (Below.on HB.out hb)
          clear hb
          have Ha := Lib.hid ga.rg
          have Ga := Lib.hid ga
          have ya := ga.small
          clear ga
          go_wp2_with fail
          refine (p2 w2).mono ?_
          rintro e w3 ⟨Ab, nb, cb, lb, rfl, gb⟩
          have hb := gb.below
          replace HB := Lib.hid (Below.on HB.out hb)
          replace Ha := Lib.hid (Ha.out.below hb)
          clear hb
          have Hb := Lib.hid gb.rg
          have Gb := Lib.hid gb
          have yb := gb.small
          clear gb
          have he := told_other Ga.out Gb.out
          go_wp2_with fail
          refine (other_yes Ha.out Hb.out (by omega) he).mono ?_
          rintro e w4 ⟨rfl, hb0⟩
          have hb := hb0
          replace HB := Lib.hid (Below.on HB.out hb)
          replace Ha := Lib.hid (Ha.out.below hb)
          replace Hb := Lib.hid (Hb.out.below hb)
          clear hb
          clear hb0 he
          clear Ha
          clear Hb
          clear Ga Gb
          go_wp2_with fail
          refine (q1 w4).mono ?_
          rintro e w5 ⟨rfl, hb0⟩
          have hb := hb0
          replace HB := Lib.hid (Below.on HB.out hb)
          clear hb
          clear hb0
          go_wp2_with fail
          refine (q2 w5).mono ?_
          rintro e w6 ⟨rfl, hb0⟩
          have hb := hb0
          replace HB := Lib.hid (Below.on HB.out hb)
          clear hb
          clear hb0
          go_wp2_with fail
          refine (r1 w6).mono ?_
          rintro e w7 ⟨Ae, ne, ce, le, rfl, ge⟩
          have hb := ge.below
          replace HB := Lib.hid (Below.on HB.out hb)
          clear hb
          have He := Lib.hid ge.rg
          have Ge := Lib.hid ge
          have ye := ge.small
          clear ge
          go_wp2_with fail
          refine (r2 w7).mono ?_
          rintro e w8 ⟨Af, nf, cf, lf, rfl, gf⟩
          have hb := gf.below
          replace HB := Lib.hid (Below.on HB.out hb)
          replace He := Lib.hid (He.out.below hb)
          clear hb
          have Hf := Lib.hid gf.rg
          have Gf := Lib.hid gf
          have yf := gf.small
          clear gf
          go_wp2_with fail
          refine (r3 w8).mono ?_
          rintro e w9 ⟨Ah, nh, ch, lh, rfl, gh⟩
          have hb := gh.below
          replace HB := Lib.hid (Below.on HB.out hb)
          replace He := Lib.hid (He.out.below hb)
          replace Hf := Lib.hid (Hf.out.below hb)
          clear hb
          have Hh := Lib.hid gh.rg
          have Gh := Lib.hid gh
          have yh := gh.small
          clear gh
          have he := told_other Ge.out Gf.out
          go_wp2_with fail
          refine (other_yes He.out Hf.out (by omega) he).mono ?_
          rintro e w10 ⟨rfl, hb0⟩
          have hb := hb0
          replace HB := Lib.hid (Below.on HB.out hb)
          replace He := Lib.hid (He.out.below hb)
          replace Hf := Lib.hid (Hf.out.below hb)
          replace Hh := Lib.hid (Hh.out.below hb)
          clear hb
          clear hb0 he
          have he : lf = lh := Gf.out.set.unique Gh.out.set (fun _ _ _ => Iff.rfl)
          go_wp2_with fail
          refine (same_yes Hf.out Hh.out he).mono ?_
          rintro e w11 ⟨rfl, hb0⟩
          have hb := hb0
          replace HB := Lib.hid (Below.on HB.out hb)
          replace He := Lib.hid (He.out.below hb)
          replace Hf := Lib.hid (Hf.out.below hb)
          replace Hh := Lib.hid (Hh.out.below hb)
          clear hb
          clear hb0 he
          go_wp2_with fail
          go_ret
          exact ⟨rfl, HB.out⟩
      · rcases L2 with _ | L2
        · simp only [PxTold] at q1 q2 r1 r2 r3
          have HB := Lib.hid (Below.refl w.heap.size w)
          go_enter Try.func20, Try.ntmps20
          go_wp2_with fail
          refine (head4_any w).mono ?_
          rintro e w1 ⟨rfl, hb0⟩
          have hb := hb0
          replace HB := Lib.hid (Below.on HB.out hb)
          clear hb
          clear hb0
          go_wp2_with fail
          refine (p1 w1).mono ?_
          rintro e w2 ⟨Aa, na, ca, la, rfl, ga⟩
          have hb := ga.below
          replace HB := Lib.hid (Below.on HB.out hb)
          clear hb
          have Ha := Lib.hid ga.rg
          have Ga := Lib.hid ga
          have ya := ga.small
          clear ga
          go_wp2_with fail
          refine (p2 w2).mono ?_
          rintro e w3 ⟨Ab, nb, cb, lb, rfl, gb⟩
          have hb := gb.below
          replace HB := Lib.hid (Below.on HB.out hb)
          replace Ha := Lib.hid (Ha.out.below hb)
          clear hb
          have Hb := Lib.hid gb.rg
          have Gb := Lib.hid gb
          have yb := gb.small
          clear gb
          have he := told_other Ga.out Gb.out
          go_wp2_with fail
          refine (other_yes Ha.out Hb.out (by omega) he).mono ?_
          rintro e w4 ⟨rfl, hb0⟩
          have hb := hb0
          replace HB := Lib.hid (Below.on HB.out hb)
          replace Ha := Lib.hid (Ha.out.below hb)
          replace Hb := Lib.hid (Hb.out.below hb)
          clear hb
          clear hb0 he
          clear Ha
          clear Hb
          clear Ga Gb
          go_wp2_with fail
          refine (q1 w4).mono ?_
          rintro e w5 ⟨Ai, ni, ci, li, rfl, gi⟩
          have hb := gi.below
          replace HB := Lib.hid (Below.on HB.out hb)
          clear hb
          have Hi := Lib.hid gi.rg
          have Gi := Lib.hid gi
          have yi := gi.small
          clear gi
          go_wp2_with fail
          refine (q2 w5).mono ?_
          rintro e w6 ⟨Aj, nj, cj, lj, rfl, gj⟩
          have hb := gj.below
          replace HB := Lib.hid (Below.on HB.out hb)
          replace Hi := Lib.hid (Hi.out.below hb)
          clear hb
          have Hj := Lib.hid gj.rg
          have Gj := Lib.hid gj
          have yj := gj.small
          clear gj
          have he := told_other Gi.out Gj.out
          go_wp2_with fail
          refine (other_yes Hi.out Hj.out (by omega) he).mono ?_
          rintro e w7 ⟨rfl, hb0⟩
          have hb := hb0
          replace HB := Lib.hid (Below.on HB.out hb)
          replace Hi := Lib.hid (Hi.out.below hb)
          replace Hj := Lib.hid (Hj.out.below hb)
          clear hb
          clear hb0 he
          clear Hi
          clear Hj
          clear Gi Gj
          go_wp2_with fail
          refine (r1 w7).mono ?_
          rintro e w8 ⟨rfl, hb0⟩
          have hb := hb0
          replace HB := Lib.hid (Below.on HB.out hb)
          clear hb
          clear hb0
          go_wp2_with fail
          refine (r2 w8).mono ?_
          rintro e w9 ⟨rfl, hb0⟩
          have hb := hb0
          replace HB := Lib.hid (Below.on HB.out hb)
          clear hb
          clear hb0
          go_wp2_with fail
          refine (r3 w9).mono ?_
          rintro e w10 ⟨rfl, hb0⟩
          have hb := hb0
          replace HB := Lib.hid (Below.on HB.out hb)
          clear hb
          clear hb0
          go_wp2_with fail
          go_ret
          exact ⟨rfl, HB.out⟩
        · simp only [PxTold] at q1 q2 r1 r2 r3
          have HB := Lib.hid (Below.refl w.heap.size w)
          go_enter Try.func20, Try.ntmps20
          go_wp2_with fail
          refine (head4_any w).mono ?_
          rintro e w1 ⟨rfl, hb0⟩
          have hb := hb0
          replace HB := Lib.hid (Below.on HB.out hb)
          clear hb
          clear hb0
          go_wp2_with fail
          refine (p1 w1).mono ?_
          rintro e w2 ⟨Aa, na, ca, la, rfl, ga⟩
          have hb := ga.below
          replace HB := Lib.hid (Below.on HB.out hb)
          clear hb
          have Ha := Lib.hid ga.rg
          have Ga := Lib.hid ga
          have ya := ga.small
          clear ga
          go_wp2_with fail
          refine (p2 w2).mono ?_
          rintro e w3 ⟨Ab, nb, cb, lb, rfl, gb⟩
          have hb := gb.below
          replace HB := Lib.hid (Below.on HB.out hb)
          replace Ha := Lib.hid (Ha.out.below hb)
          clear hb
          have Hb := Lib.hid gb.rg
          have Gb := Lib.hid gb
          have yb := gb.small
          clear gb
          have he := told_other Ga.out Gb.out
          go_wp2_with fail
          refine (other_yes Ha.out Hb.out (by omega) he).mono ?_
          rintro e w4 ⟨rfl, hb0⟩
          have hb := hb0
          replace HB := Lib.hid (Below.on HB.out hb)
          replace Ha := Lib.hid (Ha.out.below hb)
          replace Hb := Lib.hid (Hb.out.below hb)
          clear hb
          clear hb0 he
          clear Ha
          clear Hb
          clear Ga Gb
          go_wp2_with fail
          refine (q1 w4).mono ?_
          rintro e w5 ⟨Ai, ni, ci, li, rfl, gi⟩
          have hb := gi.below
          replace HB := Lib.hid (Below.on HB.out hb)
          clear hb
          have Hi := Lib.hid gi.rg
          have Gi := Lib.hid gi
          have yi := gi.small
          clear gi
          go_wp2_with fail
          refine (q2 w5).mono ?_
          rintro e w6 ⟨Aj, nj, cj, lj, rfl, gj⟩
          have hb := gj.below
          replace HB := Lib.hid (Below.on HB.out hb)
          replace Hi := Lib.hid (Hi.out.below hb)
          clear hb
          have Hj := Lib.hid gj.rg
          have Gj := Lib.hid gj
          have yj := gj.small
          clear gj
          have he := told_other Gi.out Gj.out
          go_wp2_with fail
          refine (other_yes Hi.out Hj.out (by omega) he).mono ?_
          rintro e w7 ⟨rfl, hb0⟩
          have hb := hb0
          replace HB := Lib.hid (Below.on HB.out hb)
          replace Hi := Lib.hid (Hi.out.below hb)
          replace Hj := Lib.hid (Hj.out.below hb)
          clear hb
          clear hb0 he
          clear Hi
          clear Hj
          clear Gi Gj
          go_wp2_with fail
          refine (r1 w7).mono ?_
          rintro e w8 ⟨Ae, ne, ce, le, rfl, ge⟩
          have hb := ge.below
          replace HB := Lib.hid (Below.on HB.out hb)
          clear hb
          have He := Lib.hid ge.rg
          have Ge := Lib.hid ge
          have ye := ge.small
          clear ge
          go_wp2_with fail
          refine (r2 w8).mono ?_
          rintro e w9 ⟨Af, nf, cf, lf, rfl, gf⟩
          have hb := gf.below
          replace HB := Lib.hid (Below.on HB.out hb)
          replace He := Lib.hid (He.out.below hb)
          clear hb
          have Hf := Lib.hid gf.rg
          have Gf := Lib.hid gf
          have yf := gf.small
          clear gf
          go_wp2_with fail
          refine (r3 w9).mono ?_
          rintro e w10 ⟨Ah, nh, ch, lh, rfl, gh⟩
          have hb := gh.below
          replace HB := Lib.hid (Below.on HB.out hb)
          replace He := Lib.hid (He.out.below hb)
          replace Hf := Lib.hid (Hf.out.below hb)
          clear hb
          have Hh := Lib.hid gh.rg
          have Gh := Lib.hid gh
          have yh := gh.small
          clear gh
          have he := told_other Ge.out Gf.out
          go_wp2_with fail
          refine (other_yes He.out Hf.out (by omega) he).mono ?_
          rintro e w11 ⟨rfl, hb0⟩
          have hb := hb0
          replace HB := Lib.hid (Below.on HB.out hb)
          replace He := Lib.hid (He.out.below hb)
          replace Hf := Lib.hid (Hf.out.below hb)
          replace Hh := Lib.hid (Hh.out.below hb)
          clear hb
          clear hb0 he
          have he : lf = lh := Gf.out.set.unique Gh.out.set (fun _ _ _ => Iff.rfl)
          go_wp2_with fail
          refine (same_yes Hf.out Hh.out he).mono ?_
          rintro e w12 ⟨rfl, hb0⟩
          have hb := hb0
          replace HB := Lib.hid (Below.on HB.out hb)
          replace He := Lib.hid (He.out.below hb)
          replace Hf := Lib.hid (Hf.out.below hb)
          replace Hh := Lib.hid (Hh.out.below hb)
          clear hb
          clear hb0 he
          go_wp2_with fail
          go_ret
          exact ⟨rfl, HB.out⟩
  · obtain ⟨e1, e2⟩ := name_B (s := x) (fun h => absurd h h0)
    have hsz : x.size = 0 := by omega
    clear h0
    obtain ⟨f1, f2⟩ := caret_name x
    have q1 := fun W => posix_any x W
    have q2 := fun W => posix_any ((⟨#[94]⟩ : ByteArray) ++ x) W
    have r1 := fun W => property_any x n W
    have r2 := fun W => property_any ((⟨#[94]⟩ : ByteArray) ++ x) n W
    have r3 := fun W => property_any x (!n) W
    rw [e1, e2] at q1 r1 r3
    rw [f1, f2] at q2 r2
    rw [show (false != n) = n by cases n <;> rfl] at r1
    rw [show (true != n) = !n by cases n <;> rfl] at r2
    rw [show (false != !n) = !n by cases n <;> rfl] at r3
    clear e1 e2 f1 f2
    generalize pxOf x = L1 at q1 q2
    generalize prOf x = L2 at r1 r2 r3
    rcases L1 with _ | L1
    · rcases L2 with _ | L2
      · simp only [PxTold] at q1 q2 r1 r2 r3
        have HB := Lib.hid (Below.refl w.heap.size w)
        go_enter Try.func20, Try.ntmps20
        go_wp2_with fail
        refine (head4_any w).mono ?_
        rintro e w1 ⟨rfl, hb0⟩
        have hb := hb0
        replace HB := Lib.hid (Below.on HB.out hb)
        clear hb
        clear hb0
        go_wp2_with fail
        refine (p1 w1).mono ?_
        rintro e w2 ⟨Aa, na, ca, la, rfl, ga⟩
        have hb := ga.below
        replace HB := Lib.hid (Below.on HB.out hb)
        clear hb
        have Ha := Lib.hid ga.rg
        have Ga := Lib.hid ga
        have ya := ga.small
        clear ga
        go_wp2_with fail
        refine (p2 w2).mono ?_
        rintro e w3 ⟨Ab, nb, cb, lb, rfl, gb⟩
        have hb := gb.below
        replace HB := Lib.hid (Below.on HB.out hb)
        replace Ha := Lib.hid (Ha.out.below hb)
        clear hb
        have Hb := Lib.hid gb.rg
        have Gb := Lib.hid gb
        have yb := gb.small
        clear gb
        have he := told_other Ga.out Gb.out
        go_wp2_with fail
        refine (other_yes Ha.out Hb.out (by omega) he).mono ?_
        rintro e w4 ⟨rfl, hb0⟩
        have hb := hb0
        replace HB := Lib.hid (Below.on HB.out hb)
        replace Ha := Lib.hid (Ha.out.below hb)
        replace Hb := Lib.hid (Hb.out.below hb)
        clear hb
        clear hb0 he
        clear Ha
        clear Hb
        clear Ga Gb
        go_wp2_with fail
        refine (q1 w4).mono ?_
        rintro e w5 ⟨rfl, hb0⟩
        have hb := hb0
        replace HB := Lib.hid (Below.on HB.out hb)
        clear hb
        clear hb0
        go_wp2_with fail
        refine (q2 w5).mono ?_
        rintro e w6 ⟨rfl, hb0⟩
        have hb := hb0
        replace HB := Lib.hid (Below.on HB.out hb)
        clear hb
        clear hb0
        go_wp2_with fail
        refine (r1 w6).mono ?_
        rintro e w7 ⟨rfl, hb0⟩
        have hb := hb0
        replace HB := Lib.hid (Below.on HB.out hb)
        clear hb
        clear hb0
        go_wp2_with fail
        refine (r2 w7).mono ?_
        rintro e w8 ⟨rfl, hb0⟩
        have hb := hb0
        replace HB := Lib.hid (Below.on HB.out hb)
        clear hb
        clear hb0
        go_wp2_with fail
        refine (r3 w8).mono ?_
        rintro e w9 ⟨rfl, hb0⟩
        have hb := hb0
        replace HB := Lib.hid (Below.on HB.out hb)
        clear hb
        clear hb0
        go_wp2_with fail
        go_ret
        exact ⟨rfl, HB.out⟩
      · simp only [PxTold] at q1 q2 r1 r2 r3
        have HB := Lib.hid (Below.refl w.heap.size w)
        go_enter Try.func20, Try.ntmps20
        go_wp2_with fail
        refine (head4_any w).mono ?_
        rintro e w1 ⟨rfl, hb0⟩
        have hb := hb0
        replace HB := Lib.hid (Below.on HB.out hb)
        clear hb
        clear hb0
        go_wp2_with fail
        refine (p1 w1).mono ?_
        rintro e w2 ⟨Aa, na, ca, la, rfl, ga⟩
        have hb := ga.below
        replace HB := Lib.hid (Below.on HB.out hb)
        clear hb
        have Ha := Lib.hid ga.rg
        have Ga := Lib.hid ga
        have ya := ga.small
        clear ga
        go_wp2_with fail
        refine (p2 w2).mono ?_
        rintro e w3 ⟨Ab, nb, cb, lb, rfl, gb⟩
        have hb := gb.below
        replace HB := Lib.hid (Below.on HB.out hb)
        replace Ha := Lib.hid (Ha.out.below hb)
        clear hb
        have Hb := Lib.hid gb.rg
        have Gb := Lib.hid gb
        have yb := gb.small
        clear gb
        have he := told_other Ga.out Gb.out
        go_wp2_with fail
        refine (other_yes Ha.out Hb.out (by omega) he).mono ?_
        rintro e w4 ⟨rfl, hb0⟩
        have hb := hb0
        replace HB := Lib.hid (Below.on HB.out hb)
        replace Ha := Lib.hid (Ha.out.below hb)
        replace Hb := Lib.hid (Hb.out.below hb)
        clear hb
        clear hb0 he
        clear Ha
        clear Hb
        clear Ga Gb
        go_wp2_with fail
        refine (q1 w4).mono ?_
        rintro e w5 ⟨rfl, hb0⟩
        have hb := hb0
        replace HB := Lib.hid (Below.on HB.out hb)
        clear hb
        clear hb0
        go_wp2_with fail
        refine (q2 w5).mono ?_
        rintro e w6 ⟨rfl, hb0⟩
        have hb := hb0
        replace HB := Lib.hid (Below.on HB.out hb)
        clear hb
        clear hb0
        go_wp2_with fail
        refine (r1 w6).mono ?_
        rintro e w7 ⟨Ae, ne, ce, le, rfl, ge⟩
        have hb := ge.below
        replace HB := Lib.hid (Below.on HB.out hb)
        clear hb
        have He := Lib.hid ge.rg
        have Ge := Lib.hid ge
        have ye := ge.small
        clear ge
        go_wp2_with fail
        refine (r2 w7).mono ?_
        rintro e w8 ⟨Af, nf, cf, lf, rfl, gf⟩
        have hb := gf.below
        replace HB := Lib.hid (Below.on HB.out hb)
        replace He := Lib.hid (He.out.below hb)
        clear hb
        have Hf := Lib.hid gf.rg
        have Gf := Lib.hid gf
        have yf := gf.small
        clear gf
        go_wp2_with fail
        refine (r3 w8).mono ?_
        rintro e w9 ⟨Ah, nh, ch, lh, rfl, gh⟩
        have hb := gh.below
        replace HB := Lib.hid (Below.on HB.out hb)
        replace He := Lib.hid (He.out.below hb)
        replace Hf := Lib.hid (Hf.out.below hb)
        clear hb
        have Hh := Lib.hid gh.rg
        have Gh := Lib.hid gh
        have yh := gh.small
        clear gh
        have he := told_other Ge.out Gf.out
        go_wp2_with fail
        refine (other_yes He.out Hf.out (by omega) he).mono ?_
        rintro e w10 ⟨rfl, hb0⟩
        have hb := hb0
        replace HB := Lib.hid (Below.on HB.out hb)
        replace He := Lib.hid (He.out.below hb)
        replace Hf := Lib.hid (Hf.out.below hb)
        replace Hh := Lib.hid (Hh.out.below hb)
        clear hb
        clear hb0 he
        have he : lf = lh := Gf.out.set.unique Gh.out.set (fun _ _ _ => Iff.rfl)
        go_wp2_with fail
        refine (same_yes Hf.out Hh.out he).mono ?_
        rintro e w11 ⟨rfl, hb0⟩
        have hb := hb0
        replace HB := Lib.hid (Below.on HB.out hb)
        replace He := Lib.hid (He.out.below hb)
        replace Hf := Lib.hid (Hf.out.below hb)
        replace Hh := Lib.hid (Hh.out.below hb)
        clear hb
        clear hb0 he
        go_wp2_with fail
        go_ret
        exact ⟨rfl, HB.out⟩
    · rcases L2 with _ | L2
      · simp only [PxTold] at q1 q2 r1 r2 r3
        have HB := Lib.hid (Below.refl w.heap.size w)
        go_enter Try.func20, Try.ntmps20
        go_wp2_with fail
        refine (head4_any w).mono ?_
        rintro e w1 ⟨rfl, hb0⟩
        have hb := hb0
        replace HB := Lib.hid (Below.on HB.out hb)
        clear hb
        clear hb0
        go_wp2_with fail
        refine (p1 w1).mono ?_
        rintro e w2 ⟨Aa, na, ca, la, rfl, ga⟩
        have hb := ga.below
        replace HB := Lib.hid (Below.on HB.out hb)
        clear hb
        have Ha := Lib.hid ga.rg
        have Ga := Lib.hid ga
        have ya := ga.small
        clear ga
        go_wp2_with fail
        refine (p2 w2).mono ?_
        rintro e w3 ⟨Ab, nb, cb, lb, rfl, gb⟩
        have hb := gb.below
        replace HB := Lib.hid (Below.on HB.out hb)
        replace Ha := Lib.hid (Ha.out.below hb)
        clear hb
        have Hb := Lib.hid gb.rg
        have Gb := Lib.hid gb
        have yb := gb.small
        clear gb
        have he := told_other Ga.out Gb.out
        go_wp2_with fail
        refine (other_yes Ha.out Hb.out (by omega) he).mono ?_
        rintro e w4 ⟨rfl, hb0⟩
        have hb := hb0
        replace HB := Lib.hid (Below.on HB.out hb)
        replace Ha := Lib.hid (Ha.out.below hb)
        replace Hb := Lib.hid (Hb.out.below hb)
        clear hb
        clear hb0 he
        clear Ha
        clear Hb
        clear Ga Gb
        go_wp2_with fail
        refine (q1 w4).mono ?_
        rintro e w5 ⟨Ai, ni, ci, li, rfl, gi⟩
        have hb := gi.below
        replace HB := Lib.hid (Below.on HB.out hb)
        clear hb
        have Hi := Lib.hid gi.rg
        have Gi := Lib.hid gi
        have yi := gi.small
        clear gi
        go_wp2_with fail
        refine (q2 w5).mono ?_
        rintro e w6 ⟨Aj, nj, cj, lj, rfl, gj⟩
        have hb := gj.below
        replace HB := Lib.hid (Below.on HB.out hb)
        replace Hi := Lib.hid (Hi.out.below hb)
        clear hb
        have Hj := Lib.hid gj.rg
        have Gj := Lib.hid gj
        have yj := gj.small
        clear gj
        have he := told_other Gi.out Gj.out
        go_wp2_with fail
        refine (other_yes Hi.out Hj.out (by omega) he).mono ?_
        rintro e w7 ⟨rfl, hb0⟩
        have hb := hb0
        replace HB := Lib.hid (Below.on HB.out hb)
        replace Hi := Lib.hid (Hi.out.below hb)
        replace Hj := Lib.hid (Hj.out.below hb)
        clear hb
        clear hb0 he
        clear Hi
        clear Hj
        clear Gi Gj
        go_wp2_with fail
        refine (r1 w7).mono ?_
        rintro e w8 ⟨rfl, hb0⟩
        have hb := hb0
        replace HB := Lib.hid (Below.on HB.out hb)
        clear hb
        clear hb0
        go_wp2_with fail
        refine (r2 w8).mono ?_
        rintro e w9 ⟨rfl, hb0⟩
        have hb := hb0
        replace HB := Lib.hid (Below.on HB.out hb)
        clear hb
        clear hb0
        go_wp2_with fail
        refine (r3 w9).mono ?_
        rintro e w10 ⟨rfl, hb0⟩
        have hb := hb0
        replace HB := Lib.hid (Below.on HB.out hb)
        clear hb
        clear hb0
        go_wp2_with fail
        go_ret
        exact ⟨rfl, HB.out⟩
      · simp only [PxTold] at q1 q2 r1 r2 r3
        have HB := Lib.hid (Below.refl w.heap.size w)
        go_enter Try.func20, Try.ntmps20
        go_wp2_with fail
        refine (head4_any w).mono ?_
        rintro e w1 ⟨rfl, hb0⟩
        have hb := hb0
        replace HB := Lib.hid (Below.on HB.out hb)
        clear hb
        clear hb0
        go_wp2_with fail
        refine (p1 w1).mono ?_
        rintro e w2 ⟨Aa, na, ca, la, rfl, ga⟩
        have hb := ga.below
        replace HB := Lib.hid (Below.on HB.out hb)
        clear hb
        have Ha := Lib.hid ga.rg
        have Ga := Lib.hid ga
        have ya := ga.small
        clear ga
        go_wp2_with fail
        refine (p2 w2).mono ?_
        rintro e w3 ⟨Ab, nb, cb, lb, rfl, gb⟩
        have hb := gb.below
        replace HB := Lib.hid (Below.on HB.out hb)
        replace Ha := Lib.hid (Ha.out.below hb)
        clear hb
        have Hb := Lib.hid gb.rg
        have Gb := Lib.hid gb
        have yb := gb.small
        clear gb
        have he := told_other Ga.out Gb.out
        go_wp2_with fail
        refine (other_yes Ha.out Hb.out (by omega) he).mono ?_
        rintro e w4 ⟨rfl, hb0⟩
        have hb := hb0
        replace HB := Lib.hid (Below.on HB.out hb)
        replace Ha := Lib.hid (Ha.out.below hb)
        replace Hb := Lib.hid (Hb.out.below hb)
        clear hb
        clear hb0 he
        clear Ha
        clear Hb
        clear Ga Gb
        go_wp2_with fail
        refine (q1 w4).mono ?_
        rintro e w5 ⟨Ai, ni, ci, li, rfl, gi⟩
        have hb := gi.below
        replace HB := Lib.hid (Below.on HB.out hb)
        clear hb
        have Hi := Lib.hid gi.rg
        have Gi := Lib.hid gi
        have yi := gi.small
        clear gi
        go_wp2_with fail
        refine (q2 w5).mono ?_
        rintro e w6 ⟨Aj, nj, cj, lj, rfl, gj⟩
        have hb := gj.below
        replace HB := Lib.hid (Below.on HB.out hb)
        replace Hi := Lib.hid (Hi.out.below hb)
        clear hb
        have Hj := Lib.hid gj.rg
        have Gj := Lib.hid gj
        have yj := gj.small
        clear gj
        have he := told_other Gi.out Gj.out
        go_wp2_with fail
        refine (other_yes Hi.out Hj.out (by omega) he).mono ?_
        rintro e w7 ⟨rfl, hb0⟩
        have hb := hb0
        replace HB := Lib.hid (Below.on HB.out hb)
        replace Hi := Lib.hid (Hi.out.below hb)
        replace Hj := Lib.hid (Hj.out.below hb)
        clear hb
        clear hb0 he
        clear Hi
        clear Hj
        clear Gi Gj
        go_wp2_with fail
        refine (r1 w7).mono ?_
        rintro e w8 ⟨Ae, ne, ce, le, rfl, ge⟩
        have hb := ge.below
        replace HB := Lib.hid (Below.on HB.out hb)
        clear hb
        have He := Lib.hid ge.rg
        have Ge := Lib.hid ge
        have ye := ge.small
        clear ge
        go_wp2_with fail
        refine (r2 w8).mono ?_
        rintro e w9 ⟨Af, nf, cf, lf, rfl, gf⟩
        have hb := gf.below
        replace HB := Lib.hid (Below.on HB.out hb)
        replace He := Lib.hid (He.out.below hb)
        clear hb
        have Hf := Lib.hid gf.rg
        have Gf := Lib.hid gf
        have yf := gf.small
        clear gf
        go_wp2_with fail
        refine (r3 w9).mono ?_
        rintro e w10 ⟨Ah, nh, ch, lh, rfl, gh⟩
        have hb := gh.below
        replace HB := Lib.hid (Below.on HB.out hb)
        replace He := Lib.hid (He.out.below hb)
        replace Hf := Lib.hid (Hf.out.below hb)
        clear hb
        have Hh := Lib.hid gh.rg
        have Gh := Lib.hid gh
        have yh := gh.small
        clear gh
        have he := told_other Ge.out Gf.out
        go_wp2_with fail
        refine (other_yes He.out Hf.out (by omega) he).mono ?_
        rintro e w11 ⟨rfl, hb0⟩
        have hb := hb0
        replace HB := Lib.hid (Below.on HB.out hb)
        replace He := Lib.hid (He.out.below hb)
        replace Hf := Lib.hid (Hf.out.below hb)
        replace Hh := Lib.hid (Hh.out.below hb)
        clear hb
        clear hb0 he
        have he : lf = lh := Gf.out.set.unique Gh.out.set (fun _ _ _ => Iff.rfl)
        go_wp2_with fail
        refine (same_yes Hf.out Hh.out he).mono ?_
        rintro e w12 ⟨rfl, hb0⟩
        have hb := hb0
        replace HB := Lib.hid (Below.on HB.out hb)
        replace He := Lib.hid (He.out.below hb)
        replace Hf := Lib.hid (Hf.out.below hb)
        replace Hh := Lib.hid (Hh.out.below hb)
        clear hb
        clear hb0 he
        go_wp2_with fail
        go_ret
        exact ⟨rfl, HB.out⟩
theorem classesTurned_walk {w : World} (c : Int) (x : ByteArray) (n : Bool) (hx9 : x.size ≤ 140737488351232) :
    Calls Try.prog 20 #[.int .u8 c, .string x, .bool n] w fun e w' => e = .returned (.bool true) ∧ Below w.heap.size w w' := by
  by_cases h : 97 ≤ c ∧ c ≤ 122
  · obtain ⟨L, p1, p2⟩ := perl_pair c h.1 h.2
    cases L with
    | none => exact turned_walk_none c x n hx9 h.1 h.2 p1 p2
    | some L => exact turned_walk_some c x n hx9 h.1 h.2 L p1 p2
  · exact turned_walk_out c x n hx9 h
end Go.Proofs.Ytoglnankopdohaa
