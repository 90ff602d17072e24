/- The reference's Perl; ClassesPerl: the walk. -/
import Derived.Test.YtoglnankopdohaaCl2
import Derived.Test.YtoglnankopdohaaCl4
namespace Go.Proofs.Ytoglnankopdohaa
open Go.RowKit

theorem RgIn.newT (w : World) (t : TypeId) (L : List Rg) (hl : L.length ≤ 1000) (hf : ∀ p ∈ L, (-2147483648 ≤ p.1 ∧ p.1 ≤ 2147483647) ∧ (-2147483648 ≤ p.2 ∧ p.2 ≤ 2147483647)) :
    RgIn (w.alloc (.cells (rgCells L).toArray t)) (some ⟨w.heap.size, 0, none⟩) L.length L.length L :=
  ⟨Rd.new w (rgCells L) _ _ (Nat.zero_le _) (by simp), rfl, Nat.le_refl _, by unfold maxLen; omega, (fun h => by cases h), hf⟩
theorem told_set {L : List Rg} {w w' : World} {B : Option Addr} {d n : Nat} (hL : Canon L) (hn : L.length = n) {w1 : World} (hb : Below w.heap.size w w1) (ho : w'.ownsRow w1.heap.size 28 2 (.slice B n d) n (rgCells L)) (hb' : Below w1.heap.size w1 w') : Told false L w B n d L w' :=
  ⟨(SetOf.self hL).cong (fun c _ _ => by simp [TP]), RgIn.of_own ho hn (canon_fits hL), Below.on hb hb'⟩
theorem told_turn {L : List Rg} {w w1 w' : World} {B B' : Option Addr} {m d m' d' : Nat} {s s' : List Rg} (h : Told false L w B m d s w1) (g : Got (fun x => ¬ mem s x) w1 B' m' d' s' w') : Told true L w B' m' d' s' w' :=
  ⟨(so_not g.set (so_mm h.set)).cong (fun c _ _ => by simp [TP]), g.rg, Below.on h.below g.below⟩

set_option maxRecDepth 20000 in
set_option maxHeartbeats 2000000 in
theorem refPerl_100 (w : World) : Calls Try.prog 44 #[.int .u8 100] w fun e w' => ∃ B m d s, e = .returned (.tuple #[.slice B m d, .bool true]) ∧ Told false perlD w B m d s w' := by
  have hn := RgIn.newT w 49 perlD (by decide) (canon_fits perlD_ok)
  have hb : Below w.heap.size w (w.alloc (.cells (rgCells perlD).toArray 49)) := (Below.refl _ _).alloc (Nat.le_refl _) _
  have hx := set4_any hn (by decide)
  have hq : ∀ B d w', w'.ownsRow (w.alloc (.cells (rgCells perlD).toArray 49)).heap.size 28 2 (.slice B perlD.length d) perlD.length (rgCells perlD) → Below (w.alloc (.cells (rgCells perlD).toArray 49)).heap.size (w.alloc (.cells (rgCells perlD).toArray 49)) w' → Told false perlD w B perlD.length d perlD w' :=
    fun B d w' ho hb' => told_set perlD_ok rfl hb ho hb'
  have hx2 := hx.mono (R' := fun e w' => ∃ B d, e = .returned (.slice B perlD.length d) ∧ Told false perlD w B perlD.length d perlD w') (fun e w' ⟨B, d, he, ho, hb'⟩ => ⟨B, d, he, hq B d w' ho hb'⟩)
  clear hn hb hx hq
  simp only [rgCells, rgCell, show perlD.length = 1 from rfl] at hx2
  simp only [perlD, List.flatMap_cons, List.flatMap_nil, List.append_nil, List.cons_append, List.nil_append, List.length_cons, List.length_nil, Nat.zero_add, Nat.reduceAdd] at hx2
  go_enter Try.func44, Try.ntmps44
  go_wp2_with (go_at_call 74; refine hx2.mono ?_; rintro e w2 ⟨B', d', rfl, hg⟩)
  go_ret2
  exact ⟨_, _, _, _, rfl, hg⟩
set_option maxRecDepth 20000 in
set_option maxHeartbeats 2000000 in
theorem refPerl_115 (w : World) : Calls Try.prog 44 #[.int .u8 115] w fun e w' => ∃ B m d s, e = .returned (.tuple #[.slice B m d, .bool true]) ∧ Told false perlS w B m d s w' := by
  have hn := RgIn.newT w 49 perlS (by decide) (canon_fits perlS_ok)
  have hb : Below w.heap.size w (w.alloc (.cells (rgCells perlS).toArray 49)) := (Below.refl _ _).alloc (Nat.le_refl _) _
  have hx := set4_any hn (by decide)
  have hq : ∀ B d w', w'.ownsRow (w.alloc (.cells (rgCells perlS).toArray 49)).heap.size 28 2 (.slice B perlS.length d) perlS.length (rgCells perlS) → Below (w.alloc (.cells (rgCells perlS).toArray 49)).heap.size (w.alloc (.cells (rgCells perlS).toArray 49)) w' → Told false perlS w B perlS.length d perlS w' :=
    fun B d w' ho hb' => told_set perlS_ok rfl hb ho hb'
  have hx2 := hx.mono (R' := fun e w' => ∃ B d, e = .returned (.slice B perlS.length d) ∧ Told false perlS w B perlS.length d perlS w') (fun e w' ⟨B, d, he, ho, hb'⟩ => ⟨B, d, he, hq B d w' ho hb'⟩)
  clear hn hb hx hq
  simp only [rgCells, rgCell, show perlS.length = 3 from rfl] at hx2
  simp only [perlS, List.flatMap_cons, List.flatMap_nil, List.append_nil, List.cons_append, List.nil_append, List.length_cons, List.length_nil, Nat.zero_add, Nat.reduceAdd] at hx2
  go_enter Try.func44, Try.ntmps44
  go_wp2_with (go_at_call 74; refine hx2.mono ?_; rintro e w2 ⟨B', d', rfl, hg⟩)
  go_ret2
  exact ⟨_, _, _, _, rfl, hg⟩
set_option maxRecDepth 20000 in
set_option maxHeartbeats 2000000 in
theorem refPerl_119 (w : World) : Calls Try.prog 44 #[.int .u8 119] w fun e w' => ∃ B m d s, e = .returned (.tuple #[.slice B m d, .bool true]) ∧ Told false perlW w B m d s w' := by
  have hn := RgIn.newT w 49 perlW (by decide) (canon_fits perlW_ok)
  have hb : Below w.heap.size w (w.alloc (.cells (rgCells perlW).toArray 49)) := (Below.refl _ _).alloc (Nat.le_refl _) _
  have hx := set4_any hn (by decide)
  have hq : ∀ B d w', w'.ownsRow (w.alloc (.cells (rgCells perlW).toArray 49)).heap.size 28 2 (.slice B perlW.length d) perlW.length (rgCells perlW) → Below (w.alloc (.cells (rgCells perlW).toArray 49)).heap.size (w.alloc (.cells (rgCells perlW).toArray 49)) w' → Told false perlW w B perlW.length d perlW w' :=
    fun B d w' ho hb' => told_set perlW_ok rfl hb ho hb'
  have hx2 := hx.mono (R' := fun e w' => ∃ B d, e = .returned (.slice B perlW.length d) ∧ Told false perlW w B perlW.length d perlW w') (fun e w' ⟨B, d, he, ho, hb'⟩ => ⟨B, d, he, hq B d w' ho hb'⟩)
  clear hn hb hx hq
  simp only [rgCells, rgCell, show perlW.length = 4 from rfl] at hx2
  simp only [perlW, List.flatMap_cons, List.flatMap_nil, List.append_nil, List.cons_append, List.nil_append, List.length_cons, List.length_nil, Nat.zero_add, Nat.reduceAdd] at hx2
  go_enter Try.func44, Try.ntmps44
  go_wp2_with (go_at_call 74; refine hx2.mono ?_; rintro e w2 ⟨B', d', rfl, hg⟩)
  go_ret2
  exact ⟨_, _, _, _, rfl, hg⟩
set_option maxRecDepth 20000 in
set_option maxHeartbeats 2000000 in
theorem refPerl_68 (w : World) : Calls Try.prog 44 #[.int .u8 68] w fun e w' => ∃ B m d s, e = .returned (.tuple #[.slice B m d, .bool true]) ∧ Told true perlD w B m d s w' := by
  have h1 := refPerl_100 w
  go_enter Try.func44, Try.ntmps44
  go_wp2_with fail
  refine h1.mono ?_
  rintro e w1 ⟨B, m, d, s, rfl, hg⟩
  have h2 := refNot_any hg.rg (by have := hg.small; omega)
  clear h1
  go_wp2_with fail
  refine h2.mono ?_
  rintro e w2 ⟨B2, m2, d2, s2, rfl, _, hg2⟩
  have hT := told_turn hg hg2
  clear h2 hg hg2
  go_wp2_with fail
  go_ret2
  exact ⟨_, _, _, _, rfl, hT⟩
set_option maxRecDepth 20000 in
set_option maxHeartbeats 2000000 in
theorem refPerl_83 (w : World) : Calls Try.prog 44 #[.int .u8 83] w fun e w' => ∃ B m d s, e = .returned (.tuple #[.slice B m d, .bool true]) ∧ Told true perlS w B m d s w' := by
  have h1 := refPerl_115 w
  go_enter Try.func44, Try.ntmps44
  go_wp2_with fail
  refine h1.mono ?_
  rintro e w1 ⟨B, m, d, s, rfl, hg⟩
  have h2 := refNot_any hg.rg (by have := hg.small; omega)
  clear h1
  go_wp2_with fail
  refine h2.mono ?_
  rintro e w2 ⟨B2, m2, d2, s2, rfl, _, hg2⟩
  have hT := told_turn hg hg2
  clear h2 hg hg2
  go_wp2_with fail
  go_ret2
  exact ⟨_, _, _, _, rfl, hT⟩
set_option maxRecDepth 20000 in
set_option maxHeartbeats 2000000 in
theorem refPerl_87 (w : World) : Calls Try.prog 44 #[.int .u8 87] w fun e w' => ∃ B m d s, e = .returned (.tuple #[.slice B m d, .bool true]) ∧ Told true perlW w B m d s w' := by
  have h1 := refPerl_119 w
  go_enter Try.func44, Try.ntmps44
  go_wp2_with fail
  refine h1.mono ?_
  rintro e w1 ⟨B, m, d, s, rfl, hg⟩
  have h2 := refNot_any hg.rg (by have := hg.small; omega)
  clear h1
  go_wp2_with fail
  refine h2.mono ?_
  rintro e w2 ⟨B2, m2, d2, s2, rfl, _, hg2⟩
  have hT := told_turn hg hg2
  clear h2 hg hg2
  go_wp2_with fail
  go_ret2
  exact ⟨_, _, _, _, rfl, hT⟩
set_option maxRecDepth 20000 in
set_option maxHeartbeats 2000000 in
theorem refPerl_no (w : World) (c : Int) (h1 : c ≠ 100) (h2 : c ≠ 68) (h3 : c ≠ 115) (h4 : c ≠ 83) (h5 : c ≠ 119) (h6 : c ≠ 87) : Calls Try.prog 44 #[.int .u8 c] w fun e w' => e = .returned (.tuple #[.slice none 0 0, .bool false]) ∧ w' = w := by
  have k1 : (c == 100) = false := beq_eq_false_iff_ne.2 h1
  have k2 : (c == 68) = false := beq_eq_false_iff_ne.2 h2
  have k3 : (c == 115) = false := beq_eq_false_iff_ne.2 h3
  have k4 : (c == 83) = false := beq_eq_false_iff_ne.2 h4
  have k5 : (c == 119) = false := beq_eq_false_iff_ne.2 h5
  have k6 : (c == 87) = false := beq_eq_false_iff_ne.2 h6
  clear h1 h2 h3 h4 h5 h6
  go_enter Try.func44, Try.ntmps44
  go_wp2_with fail
  go_ret2
  exact ⟨rfl, rfl⟩

set_option maxRecDepth 20000 in
set_option maxHeartbeats 4000000 in
theorem classesPerl_walk {w : World} (x : Int) :
    Calls Try.prog 11 #[.int .u8 x] w fun e w' => e = .returned (.bool true) ∧ Below w.heap.size w w' := by
  have HB := Lib.hid (Below.refl w.heap.size w)
  by_cases h100 : x = 100
  · subst h100
    go_enter Try.func11, Try.ntmps11
    go_wp2_with fail
    refine (head4_any w).mono ?_
    rintro e w1 ⟨rfl, hb0⟩
    have hb := hb0
    replace HB := Lib.hid (Below.on HB.out hb)
    clear hb
    clear hb0
    go_wp2_with fail
    refine (perl_100 w1).mono ?_
    rintro e w2 ⟨Aa, na, ca, la, rfl, ga⟩
    have hb := ga.below
    replace HB := Lib.hid (Below.on HB.out hb)
    clear hb
    have Ha := Lib.hid ga.rg
    have Sa := ga.set
    clear ga
    go_wp2_with fail
    refine (refPerl_100 w2).mono ?_
    rintro e w3 ⟨Ab, nb, cb, lb, rfl, gb⟩
    have hb := gb.below
    replace HB := Lib.hid (Below.on HB.out hb)
    replace Ha := Lib.hid (Ha.out.below hb)
    clear hb
    have Hb := Lib.hid gb.rg
    have Sb := gb.set
    clear gb
    have he : la = lb := Sa.unique Sb (fun _ _ _ => Iff.rfl)
    go_wp2_with fail
    refine (same_yes Ha.out Hb.out he).mono ?_
    rintro e w4 ⟨rfl, hb0⟩
    have hb := hb0
    replace HB := Lib.hid (Below.on HB.out hb)
    replace Ha := Lib.hid (Ha.out.below hb)
    replace Hb := Lib.hid (Hb.out.below hb)
    clear hb
    clear hb0 he
    go_wp2_with fail
    go_ret
    exact ⟨rfl, HB.out⟩
  · skip
    by_cases h68 : x = 68
    · subst h68
      go_enter Try.func11, Try.ntmps11
      go_wp2_with fail
      refine (head4_any w).mono ?_
      rintro e w1 ⟨rfl, hb0⟩
      have hb := hb0
      replace HB := Lib.hid (Below.on HB.out hb)
      clear hb
      clear hb0
      go_wp2_with fail
      refine (perl_68 w1).mono ?_
      rintro e w2 ⟨Aa, na, ca, la, rfl, ga⟩
      have hb := ga.below
      replace HB := Lib.hid (Below.on HB.out hb)
      clear hb
      have Ha := Lib.hid ga.rg
      have Sa := ga.set
      clear ga
      go_wp2_with fail
      refine (refPerl_68 w2).mono ?_
      rintro e w3 ⟨Ab, nb, cb, lb, rfl, gb⟩
      have hb := gb.below
      replace HB := Lib.hid (Below.on HB.out hb)
      replace Ha := Lib.hid (Ha.out.below hb)
      clear hb
      have Hb := Lib.hid gb.rg
      have Sb := gb.set
      clear gb
      have he : la = lb := Sa.unique Sb (fun _ _ _ => Iff.rfl)
      go_wp2_with fail
      refine (same_yes Ha.out Hb.out he).mono ?_
      rintro e w4 ⟨rfl, hb0⟩
      have hb := hb0
      replace HB := Lib.hid (Below.on HB.out hb)
      replace Ha := Lib.hid (Ha.out.below hb)
      replace Hb := Lib.hid (Hb.out.below hb)
      clear hb
      clear hb0 he
      go_wp2_with fail
      go_ret
      exact ⟨rfl, HB.out⟩
    · skip
      by_cases h115 : x = 115
      · subst h115
        go_enter Try.func11, Try.ntmps11
        go_wp2_with fail
        refine (head4_any w).mono ?_
        rintro e w1 ⟨rfl, hb0⟩
        have hb := hb0
        replace HB := Lib.hid (Below.on HB.out hb)
        clear hb
        clear hb0
        go_wp2_with fail
        refine (perl_115 w1).mono ?_
        rintro e w2 ⟨Aa, na, ca, la, rfl, ga⟩
        have hb := ga.below
        replace HB := Lib.hid (Below.on HB.out hb)
        clear hb
        have Ha := Lib.hid ga.rg
        have Sa := ga.set
        clear ga
        go_wp2_with fail
        refine (refPerl_115 w2).mono ?_
        rintro e w3 ⟨Ab, nb, cb, lb, rfl, gb⟩
        have hb := gb.below
        replace HB := Lib.hid (Below.on HB.out hb)
        replace Ha := Lib.hid (Ha.out.below hb)
        clear hb
        have Hb := Lib.hid gb.rg
        have Sb := gb.set
        clear gb
        have he : la = lb := Sa.unique Sb (fun _ _ _ => Iff.rfl)
        go_wp2_with fail
        refine (same_yes Ha.out Hb.out he).mono ?_
        rintro e w4 ⟨rfl, hb0⟩
        have hb := hb0
        replace HB := Lib.hid (Below.on HB.out hb)
        replace Ha := Lib.hid (Ha.out.below hb)
        replace Hb := Lib.hid (Hb.out.below hb)
        clear hb
        clear hb0 he
        go_wp2_with fail
        go_ret
        exact ⟨rfl, HB.out⟩
      · skip
        by_cases h83 : x = 83
        · subst h83
          go_enter Try.func11, Try.ntmps11
          go_wp2_with fail
          refine (head4_any w).mono ?_
          rintro e w1 ⟨rfl, hb0⟩
          have hb := hb0
          replace HB := Lib.hid (Below.on HB.out hb)
          clear hb
          clear hb0
          go_wp2_with fail
          refine (perl_83 w1).mono ?_
          rintro e w2 ⟨Aa, na, ca, la, rfl, ga⟩
          have hb := ga.below
          replace HB := Lib.hid (Below.on HB.out hb)
          clear hb
          have Ha := Lib.hid ga.rg
          have Sa := ga.set
          clear ga
          go_wp2_with fail
          refine (refPerl_83 w2).mono ?_
          rintro e w3 ⟨Ab, nb, cb, lb, rfl, gb⟩
          have hb := gb.below
          replace HB := Lib.hid (Below.on HB.out hb)
          replace Ha := Lib.hid (Ha.out.below hb)
          clear hb
          have Hb := Lib.hid gb.rg
          have Sb := gb.set
          clear gb
          have he : la = lb := Sa.unique Sb (fun _ _ _ => Iff.rfl)
          go_wp2_with fail
          refine (same_yes Ha.out Hb.out he).mono ?_
          rintro e w4 ⟨rfl, hb0⟩
          have hb := hb0
          replace HB := Lib.hid (Below.on HB.out hb)
          replace Ha := Lib.hid (Ha.out.below hb)
          replace Hb := Lib.hid (Hb.out.below hb)
          clear hb
          clear hb0 he
          go_wp2_with fail
          go_ret
          exact ⟨rfl, HB.out⟩
        · skip
          by_cases h119 : x = 119
          · subst h119
            go_enter Try.func11, Try.ntmps11
            go_wp2_with fail
            refine (head4_any w).mono ?_
            rintro e w1 ⟨rfl, hb0⟩
            have hb := hb0
            replace HB := Lib.hid (Below.on HB.out hb)
            clear hb
            clear hb0
            go_wp2_with fail
            refine (perl_119 w1).mono ?_
            rintro e w2 ⟨Aa, na, ca, la, rfl, ga⟩
            have hb := ga.below
            replace HB := Lib.hid (Below.on HB.out hb)
            clear hb
            have Ha := Lib.hid ga.rg
            have Sa := ga.set
            clear ga
            go_wp2_with fail
            refine (refPerl_119 w2).mono ?_
            rintro e w3 ⟨Ab, nb, cb, lb, rfl, gb⟩
            have hb := gb.below
            replace HB := Lib.hid (Below.on HB.out hb)
            replace Ha := Lib.hid (Ha.out.below hb)
            clear hb
            have Hb := Lib.hid gb.rg
            have Sb := gb.set
            clear gb
            have he : la = lb := Sa.unique Sb (fun _ _ _ => Iff.rfl)
            go_wp2_with fail
            refine (same_yes Ha.out Hb.out he).mono ?_
            rintro e w4 ⟨rfl, hb0⟩
            have hb := hb0
            replace HB := Lib.hid (Below.on HB.out hb)
            replace Ha := Lib.hid (Ha.out.below hb)
            replace Hb := Lib.hid (Hb.out.below hb)
            clear hb
            clear hb0 he
            go_wp2_with fail
            go_ret
            exact ⟨rfl, HB.out⟩
          · skip
            by_cases h87 : x = 87
            · subst h87
              go_enter Try.func11, Try.ntmps11
              go_wp2_with fail
              refine (head4_any w).mono ?_
              rintro e w1 ⟨rfl, hb0⟩
              have hb := hb0
              replace HB := Lib.hid (Below.on HB.out hb)
              clear hb
              clear hb0
              go_wp2_with fail
              refine (perl_87 w1).mono ?_
              rintro e w2 ⟨Aa, na, ca, la, rfl, ga⟩
              have hb := ga.below
              replace HB := Lib.hid (Below.on HB.out hb)
              clear hb
              have Ha := Lib.hid ga.rg
              have Sa := ga.set
              clear ga
              go_wp2_with fail
              refine (refPerl_87 w2).mono ?_
              rintro e w3 ⟨Ab, nb, cb, lb, rfl, gb⟩
              have hb := gb.below
              replace HB := Lib.hid (Below.on HB.out hb)
              replace Ha := Lib.hid (Ha.out.below hb)
              clear hb
              have Hb := Lib.hid gb.rg
              have Sb := gb.set
              clear gb
              have he : la = lb := Sa.unique Sb (fun _ _ _ => Iff.rfl)
              go_wp2_with fail
              refine (same_yes Ha.out Hb.out he).mono ?_
              rintro e w4 ⟨rfl, hb0⟩
              have hb := hb0
              replace HB := Lib.hid (Below.on HB.out hb)
              replace Ha := Lib.hid (Ha.out.below hb)
              replace Hb := Lib.hid (Hb.out.below hb)
              clear hb
              clear hb0 he
              go_wp2_with fail
              go_ret
              exact ⟨rfl, HB.out⟩
            · skip
              go_enter Try.func11, Try.ntmps11
              go_wp2_with fail
              refine (head4_any w).mono ?_
              rintro e w1 ⟨rfl, hb0⟩
              have hb := hb0
              replace HB := Lib.hid (Below.on HB.out hb)
              clear hb
              clear hb0
              go_wp2_with fail
              refine (perl_no w1 x h100 h68 h115 h83 h119 h87).mono ?_
              rintro e w2 ⟨rfl, hb0⟩
              have hb := hb0
              replace HB := Lib.hid (Below.on HB.out hb)
              clear hb
              clear hb0
              go_wp2_with fail
              refine (refPerl_no _ x h100 h68 h115 h83 h119 h87).mono ?_
              rintro e wl ⟨rfl, hwl⟩
              rw [hwl]
              clear hwl wl
              go_wp2_with fail
              refine (same_yes (RgIn.empty w2) (RgIn.empty w2) rfl).mono ?_
              rintro e w3 ⟨rfl, hb0⟩
              have hb := hb0
              replace HB := Lib.hid (Below.on HB.out hb)
              clear hb
              clear hb0
              go_wp2_with fail
              go_ret
              exact ⟨rfl, HB.out⟩

end Go.Proofs.Ytoglnankopdohaa
