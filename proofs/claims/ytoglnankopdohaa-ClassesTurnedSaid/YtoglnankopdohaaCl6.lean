/- The reference's plain and Posix; ClassesPosix: the walk. -/
import Derived.Test.YtoglnankopdohaaCl3
import Derived.Test.YtoglnankopdohaaCl5
namespace Go.Proofs.Ytoglnankopdohaa
open Go.RowKit

theorem name_cons {s : ByteArray} {x : UInt8} {r : List UInt8} (h : s.data.toList = x :: r) : notOf s = (x == 94) ∧ nameOf s = (if x = 94 then ⟨r.toArray⟩ else s) := by
  unfold notOf nameOf
  rw [h]
  by_cases hx : x = 94
  · subst hx
    refine ⟨by simp [Lib.hasPrefix], ?_⟩
    rw [if_pos rfl]
    simp [Lib.trimPrefix, Lib.hasPrefix]
  · have hx' : ¬ (94 : UInt8) = x := fun h => hx h.symm
    have b1 : (x == (94 : UInt8)) = false := beq_eq_false_iff_ne.2 hx
    have b2 : ((94 : UInt8) == x) = false := beq_eq_false_iff_ne.2 hx'
    refine ⟨by rw [b1]; simp [Lib.hasPrefix, List.isPrefixOf, b2], ?_⟩
    rw [if_neg hx]
    have : Lib.trimPrefix (x :: r) [94] = x :: r := by simp [Lib.trimPrefix, Lib.hasPrefix, List.isPrefixOf, hx']
    rw [this, ← h]
theorem name_nil {s : ByteArray} (h : s.data.toList = []) : notOf s = false ∧ nameOf s = s := by
  unfold notOf nameOf
  rw [h]
  refine ⟨by simp [Lib.hasPrefix], ?_⟩
  apply Go.WideShapes.bytes_inj
  rw [h]
  simp [Lib.trimPrefix]
theorem size_data (s : ByteArray) : s.size = s.data.toList.length := by simp
theorem name_A {s : ByteArray} (h0 : 0 < s.size) (h : s[0] = 94) : notOf s = true ∧ nameOf s = s.extract 1 s.size := by
  cases hd : s.data.toList with
  | nil => rw [size_data, hd] at h0; cases h0
  | cons x r =>
    have hx : x = 94 := by
      rw [← h]
      have e1 : s.data[0]'h0 = x := by
        have e2 : s.data.toList[0]? = some x := by rw [hd]; rfl
        rw [Array.getElem?_toList, Array.getElem?_eq_getElem h0] at e2
        injection e2
      rw [← e1]; rfl
    obtain ⟨a, b⟩ := name_cons hd
    refine ⟨by rw [a, hx]; rfl, ?_⟩
    rw [b, if_pos hx]
    apply Go.WideShapes.bytes_inj
    have hlen : s.size = r.length + 1 := by rw [size_data, hd, List.length_cons]
    simp [hd]
    rw [List.take_of_length_le (by omega)]
theorem name_B {s : ByteArray} (h : ∀ h0 : 0 < s.size, s[0] ≠ 94) : notOf s = false ∧ nameOf s = s := by
  cases hd : s.data.toList with
  | nil => exact name_nil hd
  | cons x r =>
    have h0 : 0 < s.size := by rw [size_data, hd]; simp
    have hx : x ≠ 94 := by
      intro hx
      refine h h0 ?_
      have e1 : s.data[0]'h0 = x := by
        have e2 : s.data.toList[0]? = some x := by rw [hd]; rfl
        rw [Array.getElem?_toList, Array.getElem?_eq_getElem h0] at e2
        injection e2
      rw [← hx, ← e1]; rfl
    obtain ⟨a, b⟩ := name_cons hd
    exact ⟨by rw [a]; simp [hx], by rw [b, if_neg hx]⟩

set_option maxRecDepth 20000 in
set_option maxHeartbeats 2000000 in
theorem plain_alnum (w : World) : Calls Try.prog 77 #[.string nm_alnum] w fun e w' => ∃ B m d s, e = .returned (.tuple #[.slice B m d, .bool true]) ∧ Told false px_alnum w B m d s w' := by
  have hn := RgIn.newT w 49 px_alnum (by decide) (canon_fits px_alnum_ok)
  have hb : Below w.heap.size w (w.alloc (.cells (rgCells px_alnum).toArray 49)) := (Below.refl _ _).alloc (Nat.le_refl _) _
  have hx := set4_any hn (by decide)
  have hx2 := hx.mono (R' := fun e w' => ∃ B d, e = .returned (.slice B px_alnum.length d) ∧ Told false px_alnum w B px_alnum.length d px_alnum w') (fun e w' ⟨B, d, he, ho, hb'⟩ => ⟨B, d, he, told_set px_alnum_ok rfl hb ho hb'⟩)
  clear hn hb hx
  simp only [rgCells, rgCell, show px_alnum.length = 3 from rfl] at hx2
  simp only [px_alnum, List.flatMap_cons, List.flatMap_nil, List.append_nil, List.cons_append, List.nil_append] at hx2
  simp only [nm_alnum]
  go_enter Try.func77, Try.ntmps77
  go_wp2_with (go_at_call 74; refine hx2.mono ?_; rintro e w2 ⟨B', d', rfl, hg⟩)
  go_ret2
  exact ⟨_, _, _, _, rfl, hg⟩
set_option maxRecDepth 20000 in
set_option maxHeartbeats 2000000 in
theorem plain_alpha (w : World) : Calls Try.prog 77 #[.string nm_alpha] w fun e w' => ∃ B m d s, e = .returned (.tuple #[.slice B m d, .bool true]) ∧ Told false px_alpha w B m d s w' := by
  have hn := RgIn.newT w 49 px_alpha (by decide) (canon_fits px_alpha_ok)
  have hb : Below w.heap.size w (w.alloc (.cells (rgCells px_alpha).toArray 49)) := (Below.refl _ _).alloc (Nat.le_refl _) _
  have hx := set4_any hn (by decide)
  have hx2 := hx.mono (R' := fun e w' => ∃ B d, e = .returned (.slice B px_alpha.length d) ∧ Told false px_alpha w B px_alpha.length d px_alpha w') (fun e w' ⟨B, d, he, ho, hb'⟩ => ⟨B, d, he, told_set px_alpha_ok rfl hb ho hb'⟩)
  clear hn hb hx
  simp only [rgCells, rgCell, show px_alpha.length = 2 from rfl] at hx2
  simp only [px_alpha, List.flatMap_cons, List.flatMap_nil, List.append_nil, List.cons_append, List.nil_append] at hx2
  simp only [nm_alpha]
  go_enter Try.func77, Try.ntmps77
  go_wp2_with (go_at_call 74; refine hx2.mono ?_; rintro e w2 ⟨B', d', rfl, hg⟩)
  go_ret2
  exact ⟨_, _, _, _, rfl, hg⟩
set_option maxRecDepth 20000 in
set_option maxHeartbeats 2000000 in
theorem plain_ascii (w : World) : Calls Try.prog 77 #[.string nm_ascii] w fun e w' => ∃ B m d s, e = .returned (.tuple #[.slice B m d, .bool true]) ∧ Told false px_ascii w B m d s w' := by
  have hn := RgIn.newT w 49 px_ascii (by decide) (canon_fits px_ascii_ok)
  have hb : Below w.heap.size w (w.alloc (.cells (rgCells px_ascii).toArray 49)) := (Below.refl _ _).alloc (Nat.le_refl _) _
  have hx := set4_any hn (by decide)
  have hx2 := hx.mono (R' := fun e w' => ∃ B d, e = .returned (.slice B px_ascii.length d) ∧ Told false px_ascii w B px_ascii.length d px_ascii w') (fun e w' ⟨B, d, he, ho, hb'⟩ => ⟨B, d, he, told_set px_ascii_ok rfl hb ho hb'⟩)
  clear hn hb hx
  simp only [rgCells, rgCell, show px_ascii.length = 1 from rfl] at hx2
  simp only [px_ascii, List.flatMap_cons, List.flatMap_nil, List.append_nil, List.cons_append, List.nil_append] at hx2
  simp only [nm_ascii]
  go_enter Try.func77, Try.ntmps77
  go_wp2_with (go_at_call 74; refine hx2.mono ?_; rintro e w2 ⟨B', d', rfl, hg⟩)
  go_ret2
  exact ⟨_, _, _, _, rfl, hg⟩
set_option maxRecDepth 20000 in
set_option maxHeartbeats 2000000 in
theorem plain_blank (w : World) : Calls Try.prog 77 #[.string nm_blank] w fun e w' => ∃ B m d s, e = .returned (.tuple #[.slice B m d, .bool true]) ∧ Told false px_blank w B m d s w' := by
  have hn := RgIn.newT w 49 px_blank (by decide) (canon_fits px_blank_ok)
  have hb : Below w.heap.size w (w.alloc (.cells (rgCells px_blank).toArray 49)) := (Below.refl _ _).alloc (Nat.le_refl _) _
  have hx := set4_any hn (by decide)
  have hx2 := hx.mono (R' := fun e w' => ∃ B d, e = .returned (.slice B px_blank.length d) ∧ Told false px_blank w B px_blank.length d px_blank w') (fun e w' ⟨B, d, he, ho, hb'⟩ => ⟨B, d, he, told_set px_blank_ok rfl hb ho hb'⟩)
  clear hn hb hx
  simp only [rgCells, rgCell, show px_blank.length = 2 from rfl] at hx2
  simp only [px_blank, List.flatMap_cons, List.flatMap_nil, List.append_nil, List.cons_append, List.nil_append] at hx2
  simp only [nm_blank]
  go_enter Try.func77, Try.ntmps77
  go_wp2_with (go_at_call 74; refine hx2.mono ?_; rintro e w2 ⟨B', d', rfl, hg⟩)
  go_ret2
  exact ⟨_, _, _, _, rfl, hg⟩
set_option maxRecDepth 20000 in
set_option maxHeartbeats 2000000 in
theorem plain_cntrl (w : World) : Calls Try.prog 77 #[.string nm_cntrl] w fun e w' => ∃ B m d s, e = .returned (.tuple #[.slice B m d, .bool true]) ∧ Told false px_cntrl w B m d s w' := by
  have hn := RgIn.newT w 49 px_cntrl (by decide) (canon_fits px_cntrl_ok)
  have hb : Below w.heap.size w (w.alloc (.cells (rgCells px_cntrl).toArray 49)) := (Below.refl _ _).alloc (Nat.le_refl _) _
  have hx := set4_any hn (by decide)
  have hx2 := hx.mono (R' := fun e w' => ∃ B d, e = .returned (.slice B px_cntrl.length d) ∧ Told false px_cntrl w B px_cntrl.length d px_cntrl w') (fun e w' ⟨B, d, he, ho, hb'⟩ => ⟨B, d, he, told_set px_cntrl_ok rfl hb ho hb'⟩)
  clear hn hb hx
  simp only [rgCells, rgCell, show px_cntrl.length = 2 from rfl] at hx2
  simp only [px_cntrl, List.flatMap_cons, List.flatMap_nil, List.append_nil, List.cons_append, List.nil_append] at hx2
  simp only [nm_cntrl]
  go_enter Try.func77, Try.ntmps77
  go_wp2_with (go_at_call 74; refine hx2.mono ?_; rintro e w2 ⟨B', d', rfl, hg⟩)
  go_ret2
  exact ⟨_, _, _, _, rfl, hg⟩
set_option maxRecDepth 20000 in
set_option maxHeartbeats 2000000 in
theorem plain_digit (w : World) : Calls Try.prog 77 #[.string nm_digit] w fun e w' => ∃ B m d s, e = .returned (.tuple #[.slice B m d, .bool true]) ∧ Told false px_digit w B m d s w' := by
  have hn := RgIn.newT w 49 px_digit (by decide) (canon_fits px_digit_ok)
  have hb : Below w.heap.size w (w.alloc (.cells (rgCells px_digit).toArray 49)) := (Below.refl _ _).alloc (Nat.le_refl _) _
  have hx := set4_any hn (by decide)
  have hx2 := hx.mono (R' := fun e w' => ∃ B d, e = .returned (.slice B px_digit.length d) ∧ Told false px_digit w B px_digit.length d px_digit w') (fun e w' ⟨B, d, he, ho, hb'⟩ => ⟨B, d, he, told_set px_digit_ok rfl hb ho hb'⟩)
  clear hn hb hx
  simp only [rgCells, rgCell, show px_digit.length = 1 from rfl] at hx2
  simp only [px_digit, List.flatMap_cons, List.flatMap_nil, List.append_nil, List.cons_append, List.nil_append] at hx2
  simp only [nm_digit]
  go_enter Try.func77, Try.ntmps77
  go_wp2_with (go_at_call 74; refine hx2.mono ?_; rintro e w2 ⟨B', d', rfl, hg⟩)
  go_ret2
  exact ⟨_, _, _, _, rfl, hg⟩
set_option maxRecDepth 20000 in
set_option maxHeartbeats 2000000 in
theorem plain_graph (w : World) : Calls Try.prog 77 #[.string nm_graph] w fun e w' => ∃ B m d s, e = .returned (.tuple #[.slice B m d, .bool true]) ∧ Told false px_graph w B m d s w' := by
  have hn := RgIn.newT w 49 px_graph (by decide) (canon_fits px_graph_ok)
  have hb : Below w.heap.size w (w.alloc (.cells (rgCells px_graph).toArray 49)) := (Below.refl _ _).alloc (Nat.le_refl _) _
  have hx := set4_any hn (by decide)
  have hx2 := hx.mono (R' := fun e w' => ∃ B d, e = .returned (.slice B px_graph.length d) ∧ Told false px_graph w B px_graph.length d px_graph w') (fun e w' ⟨B, d, he, ho, hb'⟩ => ⟨B, d, he, told_set px_graph_ok rfl hb ho hb'⟩)
  clear hn hb hx
  simp only [rgCells, rgCell, show px_graph.length = 1 from rfl] at hx2
  simp only [px_graph, List.flatMap_cons, List.flatMap_nil, List.append_nil, List.cons_append, List.nil_append] at hx2
  simp only [nm_graph]
  go_enter Try.func77, Try.ntmps77
  go_wp2_with (go_at_call 74; refine hx2.mono ?_; rintro e w2 ⟨B', d', rfl, hg⟩)
  go_ret2
  exact ⟨_, _, _, _, rfl, hg⟩
set_option maxRecDepth 20000 in
set_option maxHeartbeats 2000000 in
theorem plain_lower (w : World) : Calls Try.prog 77 #[.string nm_lower] w fun e w' => ∃ B m d s, e = .returned (.tuple #[.slice B m d, .bool true]) ∧ Told false px_lower w B m d s w' := by
  have hn := RgIn.newT w 49 px_lower (by decide) (canon_fits px_lower_ok)
  have hb : Below w.heap.size w (w.alloc (.cells (rgCells px_lower).toArray 49)) := (Below.refl _ _).alloc (Nat.le_refl _) _
  have hx := set4_any hn (by decide)
  have hx2 := hx.mono (R' := fun e w' => ∃ B d, e = .returned (.slice B px_lower.length d) ∧ Told false px_lower w B px_lower.length d px_lower w') (fun e w' ⟨B, d, he, ho, hb'⟩ => ⟨B, d, he, told_set px_lower_ok rfl hb ho hb'⟩)
  clear hn hb hx
  simp only [rgCells, rgCell, show px_lower.length = 1 from rfl] at hx2
  simp only [px_lower, List.flatMap_cons, List.flatMap_nil, List.append_nil, List.cons_append, List.nil_append] at hx2
  simp only [nm_lower]
  go_enter Try.func77, Try.ntmps77
  go_wp2_with (go_at_call 74; refine hx2.mono ?_; rintro e w2 ⟨B', d', rfl, hg⟩)
  go_ret2
  exact ⟨_, _, _, _, rfl, hg⟩
set_option maxRecDepth 20000 in
set_option maxHeartbeats 2000000 in
theorem plain_print (w : World) : Calls Try.prog 77 #[.string nm_print] w fun e w' => ∃ B m d s, e = .returned (.tuple #[.slice B m d, .bool true]) ∧ Told false px_print w B m d s w' := by
  have hn := RgIn.newT w 49 px_print (by decide) (canon_fits px_print_ok)
  have hb : Below w.heap.size w (w.alloc (.cells (rgCells px_print).toArray 49)) := (Below.refl _ _).alloc (Nat.le_refl _) _
  have hx := set4_any hn (by decide)
  have hx2 := hx.mono (R' := fun e w' => ∃ B d, e = .returned (.slice B px_print.length d) ∧ Told false px_print w B px_print.length d px_print w') (fun e w' ⟨B, d, he, ho, hb'⟩ => ⟨B, d, he, told_set px_print_ok rfl hb ho hb'⟩)
  clear hn hb hx
  simp only [rgCells, rgCell, show px_print.length = 1 from rfl] at hx2
  simp only [px_print, List.flatMap_cons, List.flatMap_nil, List.append_nil, List.cons_append, List.nil_append] at hx2
  simp only [nm_print]
  go_enter Try.func77, Try.ntmps77
  go_wp2_with (go_at_call 74; refine hx2.mono ?_; rintro e w2 ⟨B', d', rfl, hg⟩)
  go_ret2
  exact ⟨_, _, _, _, rfl, hg⟩
set_option maxRecDepth 20000 in
set_option maxHeartbeats 2000000 in
theorem plain_punct (w : World) : Calls Try.prog 77 #[.string nm_punct] w fun e w' => ∃ B m d s, e = .returned (.tuple #[.slice B m d, .bool true]) ∧ Told false px_punct w B m d s w' := by
  have hn := RgIn.newT w 49 px_punct (by decide) (canon_fits px_punct_ok)
  have hb : Below w.heap.size w (w.alloc (.cells (rgCells px_punct).toArray 49)) := (Below.refl _ _).alloc (Nat.le_refl _) _
  have hx := set4_any hn (by decide)
  have hx2 := hx.mono (R' := fun e w' => ∃ B d, e = .returned (.slice B px_punct.length d) ∧ Told false px_punct w B px_punct.length d px_punct w') (fun e w' ⟨B, d, he, ho, hb'⟩ => ⟨B, d, he, told_set px_punct_ok rfl hb ho hb'⟩)
  clear hn hb hx
  simp only [rgCells, rgCell, show px_punct.length = 4 from rfl] at hx2
  simp only [px_punct, List.flatMap_cons, List.flatMap_nil, List.append_nil, List.cons_append, List.nil_append] at hx2
  simp only [nm_punct]
  go_enter Try.func77, Try.ntmps77
  go_wp2_with (go_at_call 74; refine hx2.mono ?_; rintro e w2 ⟨B', d', rfl, hg⟩)
  go_ret2
  exact ⟨_, _, _, _, rfl, hg⟩
set_option maxRecDepth 20000 in
set_option maxHeartbeats 2000000 in
theorem plain_space (w : World) : Calls Try.prog 77 #[.string nm_space] w fun e w' => ∃ B m d s, e = .returned (.tuple #[.slice B m d, .bool true]) ∧ Told false px_space w B m d s w' := by
  have hn := RgIn.newT w 49 px_space (by decide) (canon_fits px_space_ok)
  have hb : Below w.heap.size w (w.alloc (.cells (rgCells px_space).toArray 49)) := (Below.refl _ _).alloc (Nat.le_refl _) _
  have hx := set4_any hn (by decide)
  have hx2 := hx.mono (R' := fun e w' => ∃ B d, e = .returned (.slice B px_space.length d) ∧ Told false px_space w B px_space.length d px_space w') (fun e w' ⟨B, d, he, ho, hb'⟩ => ⟨B, d, he, told_set px_space_ok rfl hb ho hb'⟩)
  clear hn hb hx
  simp only [rgCells, rgCell, show px_space.length = 2 from rfl] at hx2
  simp only [px_space, List.flatMap_cons, List.flatMap_nil, List.append_nil, List.cons_append, List.nil_append] at hx2
  simp only [nm_space]
  go_enter Try.func77, Try.ntmps77
  go_wp2_with (go_at_call 74; refine hx2.mono ?_; rintro e w2 ⟨B', d', rfl, hg⟩)
  go_ret2
  exact ⟨_, _, _, _, rfl, hg⟩
set_option maxRecDepth 20000 in
set_option maxHeartbeats 2000000 in
theorem plain_upper (w : World) : Calls Try.prog 77 #[.string nm_upper] w fun e w' => ∃ B m d s, e = .returned (.tuple #[.slice B m d, .bool true]) ∧ Told false px_upper w B m d s w' := by
  have hn := RgIn.newT w 49 px_upper (by decide) (canon_fits px_upper_ok)
  have hb : Below w.heap.size w (w.alloc (.cells (rgCells px_upper).toArray 49)) := (Below.refl _ _).alloc (Nat.le_refl _) _
  have hx := set4_any hn (by decide)
  have hx2 := hx.mono (R' := fun e w' => ∃ B d, e = .returned (.slice B px_upper.length d) ∧ Told false px_upper w B px_upper.length d px_upper w') (fun e w' ⟨B, d, he, ho, hb'⟩ => ⟨B, d, he, told_set px_upper_ok rfl hb ho hb'⟩)
  clear hn hb hx
  simp only [rgCells, rgCell, show px_upper.length = 1 from rfl] at hx2
  simp only [px_upper, List.flatMap_cons, List.flatMap_nil, List.append_nil, List.cons_append, List.nil_append] at hx2
  simp only [nm_upper]
  go_enter Try.func77, Try.ntmps77
  go_wp2_with (go_at_call 74; refine hx2.mono ?_; rintro e w2 ⟨B', d', rfl, hg⟩)
  go_ret2
  exact ⟨_, _, _, _, rfl, hg⟩
set_option maxRecDepth 20000 in
set_option maxHeartbeats 2000000 in
theorem plain_word (w : World) : Calls Try.prog 77 #[.string nm_word] w fun e w' => ∃ B m d s, e = .returned (.tuple #[.slice B m d, .bool true]) ∧ Told false px_word w B m d s w' := by
  have hn := RgIn.newT w 49 px_word (by decide) (canon_fits px_word_ok)
  have hb : Below w.heap.size w (w.alloc (.cells (rgCells px_word).toArray 49)) := (Below.refl _ _).alloc (Nat.le_refl _) _
  have hx := set4_any hn (by decide)
  have hx2 := hx.mono (R' := fun e w' => ∃ B d, e = .returned (.slice B px_word.length d) ∧ Told false px_word w B px_word.length d px_word w') (fun e w' ⟨B, d, he, ho, hb'⟩ => ⟨B, d, he, told_set px_word_ok rfl hb ho hb'⟩)
  clear hn hb hx
  simp only [rgCells, rgCell, show px_word.length = 4 from rfl] at hx2
  simp only [px_word, List.flatMap_cons, List.flatMap_nil, List.append_nil, List.cons_append, List.nil_append] at hx2
  simp only [nm_word]
  go_enter Try.func77, Try.ntmps77
  go_wp2_with (go_at_call 74; refine hx2.mono ?_; rintro e w2 ⟨B', d', rfl, hg⟩)
  go_ret2
  exact ⟨_, _, _, _, rfl, hg⟩
set_option maxRecDepth 20000 in
set_option maxHeartbeats 2000000 in
theorem plain_xdigit (w : World) : Calls Try.prog 77 #[.string nm_xdigit] w fun e w' => ∃ B m d s, e = .returned (.tuple #[.slice B m d, .bool true]) ∧ Told false px_xdigit w B m d s w' := by
  have hn := RgIn.newT w 49 px_xdigit (by decide) (canon_fits px_xdigit_ok)
  have hb : Below w.heap.size w (w.alloc (.cells (rgCells px_xdigit).toArray 49)) := (Below.refl _ _).alloc (Nat.le_refl _) _
  have hx := set4_any hn (by decide)
  have hx2 := hx.mono (R' := fun e w' => ∃ B d, e = .returned (.slice B px_xdigit.length d) ∧ Told false px_xdigit w B px_xdigit.length d px_xdigit w') (fun e w' ⟨B, d, he, ho, hb'⟩ => ⟨B, d, he, told_set px_xdigit_ok rfl hb ho hb'⟩)
  clear hn hb hx
  simp only [rgCells, rgCell, show px_xdigit.length = 3 from rfl] at hx2
  simp only [px_xdigit, List.flatMap_cons, List.flatMap_nil, List.append_nil, List.cons_append, List.nil_append] at hx2
  simp only [nm_xdigit]
  go_enter Try.func77, Try.ntmps77
  go_wp2_with (go_at_call 74; refine hx2.mono ?_; rintro e w2 ⟨B', d', rfl, hg⟩)
  go_ret2
  exact ⟨_, _, _, _, rfl, hg⟩
set_option maxRecDepth 20000 in
set_option maxHeartbeats 2000000 in
theorem plain_no (nm : ByteArray) (w : World) (h0 : nm ≠ nm_alnum) (h1 : nm ≠ nm_alpha) (h2 : nm ≠ nm_ascii) (h3 : nm ≠ nm_blank) (h4 : nm ≠ nm_cntrl) (h5 : nm ≠ nm_digit) (h6 : nm ≠ nm_graph) (h7 : nm ≠ nm_lower) (h8 : nm ≠ nm_print) (h9 : nm ≠ nm_punct) (h10 : nm ≠ nm_space) (h11 : nm ≠ nm_upper) (h12 : nm ≠ nm_word) (h13 : nm ≠ nm_xdigit) : Calls Try.prog 77 #[.string nm] w fun e w' => e = .returned (.tuple #[.slice none 0 0, .bool false]) ∧ w' = w := by
  have q0 : (nm.toList == [97, 108, 110, 117, 109]) = false := beq_eq_false_iff_ne.2 fun h => h0 (toList_inj (by rw [h]; exact (ByteArray.toList_mk _).symm))
  have q1 : (nm.toList == [97, 108, 112, 104, 97]) = false := beq_eq_false_iff_ne.2 fun h => h1 (toList_inj (by rw [h]; exact (ByteArray.toList_mk _).symm))
  have q2 : (nm.toList == [97, 115, 99, 105, 105]) = false := beq_eq_false_iff_ne.2 fun h => h2 (toList_inj (by rw [h]; exact (ByteArray.toList_mk _).symm))
  have q3 : (nm.toList == [98, 108, 97, 110, 107]) = false := beq_eq_false_iff_ne.2 fun h => h3 (toList_inj (by rw [h]; exact (ByteArray.toList_mk _).symm))
  have q4 : (nm.toList == [99, 110, 116, 114, 108]) = false := beq_eq_false_iff_ne.2 fun h => h4 (toList_inj (by rw [h]; exact (ByteArray.toList_mk _).symm))
  have q5 : (nm.toList == [100, 105, 103, 105, 116]) = false := beq_eq_false_iff_ne.2 fun h => h5 (toList_inj (by rw [h]; exact (ByteArray.toList_mk _).symm))
  have q6 : (nm.toList == [103, 114, 97, 112, 104]) = false := beq_eq_false_iff_ne.2 fun h => h6 (toList_inj (by rw [h]; exact (ByteArray.toList_mk _).symm))
  have q7 : (nm.toList == [108, 111, 119, 101, 114]) = false := beq_eq_false_iff_ne.2 fun h => h7 (toList_inj (by rw [h]; exact (ByteArray.toList_mk _).symm))
  have q8 : (nm.toList == [112, 114, 105, 110, 116]) = false := beq_eq_false_iff_ne.2 fun h => h8 (toList_inj (by rw [h]; exact (ByteArray.toList_mk _).symm))
  have q9 : (nm.toList == [112, 117, 110, 99, 116]) = false := beq_eq_false_iff_ne.2 fun h => h9 (toList_inj (by rw [h]; exact (ByteArray.toList_mk _).symm))
  have q10 : (nm.toList == [115, 112, 97, 99, 101]) = false := beq_eq_false_iff_ne.2 fun h => h10 (toList_inj (by rw [h]; exact (ByteArray.toList_mk _).symm))
  have q11 : (nm.toList == [117, 112, 112, 101, 114]) = false := beq_eq_false_iff_ne.2 fun h => h11 (toList_inj (by rw [h]; exact (ByteArray.toList_mk _).symm))
  have q12 : (nm.toList == [119, 111, 114, 100]) = false := beq_eq_false_iff_ne.2 fun h => h12 (toList_inj (by rw [h]; exact (ByteArray.toList_mk _).symm))
  have q13 : (nm.toList == [120, 100, 105, 103, 105, 116]) = false := beq_eq_false_iff_ne.2 fun h => h13 (toList_inj (by rw [h]; exact (ByteArray.toList_mk _).symm))
  clear h0 h1 h2 h3 h4 h5 h6 h7 h8 h9 h10 h11 h12 h13
  go_enter Try.func77, Try.ntmps77
  go_wp2_with fail
  go_ret2
  exact ⟨rfl, rfl⟩

/-- What Posix tells of a name's set. -/
def PxTold (l : Option (List Rg)) (nt : Bool) (w : World) (e : Ending) (w' : World) : Prop :=
  match l with
  | some L => ∃ B m d s, e = .returned (.tuple #[.slice B m d, .bool true]) ∧ Told nt L w B m d s w'
  | none => e = .returned (.tuple #[.slice none 0 0, .bool false]) ∧ Below w.heap.size w w'
open Classical in
noncomputable def pxOf (nm : ByteArray) : Option (List Rg) :=
  if nm = nm_alnum then some px_alnum
  else if nm = nm_alpha then some px_alpha
  else if nm = nm_ascii then some px_ascii
  else if nm = nm_blank then some px_blank
  else if nm = nm_cntrl then some px_cntrl
  else if nm = nm_digit then some px_digit
  else if nm = nm_graph then some px_graph
  else if nm = nm_lower then some px_lower
  else if nm = nm_print then some px_print
  else if nm = nm_punct then some px_punct
  else if nm = nm_space then some px_space
  else if nm = nm_upper then some px_upper
  else if nm = nm_word then some px_word
  else if nm = nm_xdigit then some px_xdigit
  else none
theorem posix_any (s : ByteArray) (w : World) : Calls Try.prog 49 #[.string s] w fun e w' => PxTold (pxOf (nameOf s)) (notOf s) w e w' := by
  by_cases h0 : nameOf s = nm_alnum
  · rw [show pxOf (nameOf s) = some px_alnum by unfold pxOf; rw [if_pos h0]]; exact posix_alnum s w h0
  by_cases h1 : nameOf s = nm_alpha
  · rw [show pxOf (nameOf s) = some px_alpha by unfold pxOf; rw [if_neg h0, if_pos h1]]; exact posix_alpha s w h1
  by_cases h2 : nameOf s = nm_ascii
  · rw [show pxOf (nameOf s) = some px_ascii by unfold pxOf; rw [if_neg h0, if_neg h1, if_pos h2]]; exact posix_ascii s w h2
  by_cases h3 : nameOf s = nm_blank
  · rw [show pxOf (nameOf s) = some px_blank by unfold pxOf; rw [if_neg h0, if_neg h1, if_neg h2, if_pos h3]]; exact posix_blank s w h3
  by_cases h4 : nameOf s = nm_cntrl
  · rw [show pxOf (nameOf s) = some px_cntrl by unfold pxOf; rw [if_neg h0, if_neg h1, if_neg h2, if_neg h3, if_pos h4]]; exact posix_cntrl s w h4
  by_cases h5 : nameOf s = nm_digit
  · rw [show pxOf (nameOf s) = some px_digit by unfold pxOf; rw [if_neg h0, if_neg h1, if_neg h2, if_neg h3, if_neg h4, if_pos h5]]; exact posix_digit s w h5
  by_cases h6 : nameOf s = nm_graph
  · rw [show pxOf (nameOf s) = some px_graph by unfold pxOf; rw [if_neg h0, if_neg h1, if_neg h2, if_neg h3, if_neg h4, if_neg h5, if_pos h6]]; exact posix_graph s w h6
  by_cases h7 : nameOf s = nm_lower
  · rw [show pxOf (nameOf s) = some px_lower by unfold pxOf; rw [if_neg h0, if_neg h1, if_neg h2, if_neg h3, if_neg h4, if_neg h5, if_neg h6, if_pos h7]]; exact posix_lower s w h7
  by_cases h8 : nameOf s = nm_print
  · rw [show pxOf (nameOf s) = some px_print by unfold pxOf; rw [if_neg h0, if_neg h1, if_neg h2, if_neg h3, if_neg h4, if_neg h5, if_neg h6, if_neg h7, if_pos h8]]; exact posix_print s w h8
  by_cases h9 : nameOf s = nm_punct
  · rw [show pxOf (nameOf s) = some px_punct by unfold pxOf; rw [if_neg h0, if_neg h1, if_neg h2, if_neg h3, if_neg h4, if_neg h5, if_neg h6, if_neg h7, if_neg h8, if_pos h9]]; exact posix_punct s w h9
  by_cases h10 : nameOf s = nm_space
  · rw [show pxOf (nameOf s) = some px_space by unfold pxOf; rw [if_neg h0, if_neg h1, if_neg h2, if_neg h3, if_neg h4, if_neg h5, if_neg h6, if_neg h7, if_neg h8, if_neg h9, if_pos h10]]; exact posix_space s w h10
  by_cases h11 : nameOf s = nm_upper
  · rw [show pxOf (nameOf s) = some px_upper by unfold pxOf; rw [if_neg h0, if_neg h1, if_neg h2, if_neg h3, if_neg h4, if_neg h5, if_neg h6, if_neg h7, if_neg h8, if_neg h9, if_neg h10, if_pos h11]]; exact posix_upper s w h11
  by_cases h12 : nameOf s = nm_word
  · rw [show pxOf (nameOf s) = some px_word by unfold pxOf; rw [if_neg h0, if_neg h1, if_neg h2, if_neg h3, if_neg h4, if_neg h5, if_neg h6, if_neg h7, if_neg h8, if_neg h9, if_neg h10, if_neg h11, if_pos h12]]; exact posix_word s w h12
  by_cases h13 : nameOf s = nm_xdigit
  · rw [show pxOf (nameOf s) = some px_xdigit by unfold pxOf; rw [if_neg h0, if_neg h1, if_neg h2, if_neg h3, if_neg h4, if_neg h5, if_neg h6, if_neg h7, if_neg h8, if_neg h9, if_neg h10, if_neg h11, if_neg h12, if_pos h13]]; exact posix_xdigit s w h13
  rw [show pxOf (nameOf s) = none by unfold pxOf; rw [if_neg h0, if_neg h1, if_neg h2, if_neg h3, if_neg h4, if_neg h5, if_neg h6, if_neg h7, if_neg h8, if_neg h9, if_neg h10, if_neg h11, if_neg h12, if_neg h13]]
  exact posix_no s w h0 h1 h2 h3 h4 h5 h6 h7 h8 h9 h10 h11 h12 h13
theorem plain_any (nm : ByteArray) (w : World) : Calls Try.prog 77 #[.string nm] w fun e w' => PxTold (pxOf nm) false w e w' := by
  by_cases h0 : nm = nm_alnum
  · rw [show pxOf nm = some px_alnum by unfold pxOf; rw [if_pos h0], h0]; exact plain_alnum w
  by_cases h1 : nm = nm_alpha
  · rw [show pxOf nm = some px_alpha by unfold pxOf; rw [if_neg h0, if_pos h1], h1]; exact plain_alpha w
  by_cases h2 : nm = nm_ascii
  · rw [show pxOf nm = some px_ascii by unfold pxOf; rw [if_neg h0, if_neg h1, if_pos h2], h2]; exact plain_ascii w
  by_cases h3 : nm = nm_blank
  · rw [show pxOf nm = some px_blank by unfold pxOf; rw [if_neg h0, if_neg h1, if_neg h2, if_pos h3], h3]; exact plain_blank w
  by_cases h4 : nm = nm_cntrl
  · rw [show pxOf nm = some px_cntrl by unfold pxOf; rw [if_neg h0, if_neg h1, if_neg h2, if_neg h3, if_pos h4], h4]; exact plain_cntrl w
  by_cases h5 : nm = nm_digit
  · rw [show pxOf nm = some px_digit by unfold pxOf; rw [if_neg h0, if_neg h1, if_neg h2, if_neg h3, if_neg h4, if_pos h5], h5]; exact plain_digit w
  by_cases h6 : nm = nm_graph
  · rw [show pxOf nm = some px_graph by unfold pxOf; rw [if_neg h0, if_neg h1, if_neg h2, if_neg h3, if_neg h4, if_neg h5, if_pos h6], h6]; exact plain_graph w
  by_cases h7 : nm = nm_lower
  · rw [show pxOf nm = some px_lower by unfold pxOf; rw [if_neg h0, if_neg h1, if_neg h2, if_neg h3, if_neg h4, if_neg h5, if_neg h6, if_pos h7], h7]; exact plain_lower w
  by_cases h8 : nm = nm_print
  · rw [show pxOf nm = some px_print by unfold pxOf; rw [if_neg h0, if_neg h1, if_neg h2, if_neg h3, if_neg h4, if_neg h5, if_neg h6, if_neg h7, if_pos h8], h8]; exact plain_print w
  by_cases h9 : nm = nm_punct
  · rw [show pxOf nm = some px_punct by unfold pxOf; rw [if_neg h0, if_neg h1, if_neg h2, if_neg h3, if_neg h4, if_neg h5, if_neg h6, if_neg h7, if_neg h8, if_pos h9], h9]; exact plain_punct w
  by_cases h10 : nm = nm_space
  · rw [show pxOf nm = some px_space by unfold pxOf; rw [if_neg h0, if_neg h1, if_neg h2, if_neg h3, if_neg h4, if_neg h5, if_neg h6, if_neg h7, if_neg h8, if_neg h9, if_pos h10], h10]; exact plain_space w
  by_cases h11 : nm = nm_upper
  · rw [show pxOf nm = some px_upper by unfold pxOf; rw [if_neg h0, if_neg h1, if_neg h2, if_neg h3, if_neg h4, if_neg h5, if_neg h6, if_neg h7, if_neg h8, if_neg h9, if_neg h10, if_pos h11], h11]; exact plain_upper w
  by_cases h12 : nm = nm_word
  · rw [show pxOf nm = some px_word by unfold pxOf; rw [if_neg h0, if_neg h1, if_neg h2, if_neg h3, if_neg h4, if_neg h5, if_neg h6, if_neg h7, if_neg h8, if_neg h9, if_neg h10, if_neg h11, if_pos h12], h12]; exact plain_word w
  by_cases h13 : nm = nm_xdigit
  · rw [show pxOf nm = some px_xdigit by unfold pxOf; rw [if_neg h0, if_neg h1, if_neg h2, if_neg h3, if_neg h4, if_neg h5, if_neg h6, if_neg h7, if_neg h8, if_neg h9, if_neg h10, if_neg h11, if_neg h12, if_pos h13], h13]; exact plain_xdigit w
  rw [show pxOf nm = none by unfold pxOf; rw [if_neg h0, if_neg h1, if_neg h2, if_neg h3, if_neg h4, if_neg h5, if_neg h6, if_neg h7, if_neg h8, if_neg h9, if_neg h10, if_neg h11, if_neg h12, if_neg h13]]
  exact (plain_no nm w h0 h1 h2 h3 h4 h5 h6 h7 h8 h9 h10 h11 h12 h13).mono fun e w' ⟨he, hw⟩ => ⟨he, by rw [hw]; exact Below.refl _ _⟩

set_option maxRecDepth 20000 in
set_option maxHeartbeats 2000000 in
theorem refPosix_any (s : ByteArray) (w : World) : Calls Try.prog 50 #[.string s] w fun e w' => PxTold (pxOf (nameOf s)) (notOf s) w e w' := by
  by_cases h0 : 0 < s.size
  · have hsz : (0 : Int) < (s.size : Int) := by omega
    by_cases h1 : s[0] = 94
    · obtain ⟨e1, e2⟩ := name_A h0 h1
      rw [e1, e2]
      have hb : ((s[0].toNat : Int) == 94) = true := by rw [h1]; rfl
      have hx := plain_any (s.extract 1 s.size) w
      generalize pxOf (s.extract 1 s.size) = L at hx ⊢
      clear e1 e2 h1
      cases L with
      | none =>
        simp only [PxTold] at hx ⊢
        go_enter Try.func50, Try.ntmps50
        go_wp2_with (go_at_call 77; refine hx.mono ?_; rintro e w1 ⟨rfl, hb1⟩)
        go_ret2
        exact ⟨rfl, hb1⟩
      | some L =>
        simp only [PxTold] at hx ⊢
        go_enter Try.func50, Try.ntmps50
        go_wp2_with fail
        refine hx.mono ?_
        rintro e w1 ⟨B, m, d, r, rfl, hg⟩
        have h2 := refNot_any hg.rg (by have := hg.small; omega)
        clear hx
        go_wp2_with fail
        refine h2.mono ?_
        rintro e w2 ⟨B2, m2, d2, s2, rfl, _, hg2⟩
        have hT := told_turn hg hg2
        clear h2 hg hg2
        go_wp2_with fail
        go_ret2
        exact ⟨_, _, _, _, rfl, hT⟩
    · obtain ⟨e1, e2⟩ := name_B (s := s) (fun _ => h1)
      rw [e1, e2]
      have hb : ((s[0].toNat : Int) == 94) = false := by
        rw [beq_eq_false_iff_ne]
        intro h
        refine h1 (UInt8.toNat_inj.1 ?_)
        rw [show (94 : UInt8).toNat = 94 from rfl]
        omega
      have hx := plain_any s w
      clear e1 e2 h1
      generalize hL : pxOf s = L at hx ⊢
      clear hL
      cases L with
      | none =>
        simp only [PxTold] at hx ⊢
        go_enter Try.func50, Try.ntmps50
        go_wp2_with (go_at_call 77; refine hx.mono ?_; rintro e w1 ⟨rfl, hb1⟩)
        go_ret2
        exact ⟨rfl, hb1⟩
      | some L =>
        simp only [PxTold] at hx ⊢
        go_enter Try.func50, Try.ntmps50
        go_wp2_with (go_at_call 77; refine hx.mono ?_; rintro e w1 ⟨B, m, d, r, rfl, hg⟩)
        go_ret2
        exact ⟨_, _, _, _, rfl, hg⟩
  · obtain ⟨e1, e2⟩ := name_B (s := s) (fun h => absurd h h0)
    rw [e1, e2]
    have hsz : s.size = 0 := by omega
    have hx := plain_any s w
    clear e1 e2 h0
    generalize hL : pxOf s = L at hx ⊢
    clear hL
    cases L with
    | none =>
      simp only [PxTold] at hx ⊢
      go_enter Try.func50, Try.ntmps50
      go_wp2_with (go_at_call 77; refine hx.mono ?_; rintro e w1 ⟨rfl, hb1⟩)
      go_ret2
      exact ⟨rfl, hb1⟩
    | some L =>
      simp only [PxTold] at hx ⊢
      go_enter Try.func50, Try.ntmps50
      go_wp2_with (go_at_call 77; refine hx.mono ?_; rintro e w1 ⟨B, m, d, r, rfl, hg⟩)
      go_ret2
      exact ⟨_, _, _, _, rfl, hg⟩

set_option maxRecDepth 20000 in
set_option maxHeartbeats 4000000 in
theorem classesPosix_walk {w : World} (x : ByteArray) :
    Calls Try.prog 17 #[.string x] w fun e w' => e = .returned (.bool true) ∧ Below w.heap.size w w' := by
  have HB := Lib.hid (Below.refl w.heap.size w)
  have h1 := fun W => posix_any x W
  have h2 := fun W => refPosix_any x W
  generalize pxOf (nameOf x) = L at h1 h2
  generalize notOf x = nt at h1 h2
  cases L with
  | none =>
    simp only [PxTold] at h1 h2
    go_enter Try.func17, Try.ntmps17
    go_wp2_with fail
    refine (head4_any w).mono ?_
    rintro e w1 ⟨rfl, hb0⟩
    have hb := hb0
    replace HB := Lib.hid (Below.on HB.out hb)
    clear hb
    clear hb0
    go_wp2_with fail
    refine (h1 w1).mono ?_
    rintro e w2 ⟨rfl, hb0⟩
    have hb := hb0
    replace HB := Lib.hid (Below.on HB.out hb)
    clear hb
    clear hb0
    go_wp2_with fail
    refine (h2 w2).mono ?_
    rintro e w3 ⟨rfl, hb0⟩
    have hb := hb0
    replace HB := Lib.hid (Below.on HB.out hb)
    clear hb
    clear hb0
    go_wp2_with fail
    refine (same_yes (RgIn.empty w3) (RgIn.empty w3) rfl).mono ?_
    rintro e w4 ⟨rfl, hb0⟩
    have hb := hb0
    replace HB := Lib.hid (Below.on HB.out hb)
    clear hb
    clear hb0
    go_wp2_with fail
    go_ret
    exact ⟨rfl, HB.out⟩
  | some L =>
    simp only [PxTold] at h1 h2
    go_enter Try.func17, Try.ntmps17
    go_wp2_with fail
    refine (head4_any w).mono ?_
    rintro e w1 ⟨rfl, hb0⟩
    have hb := hb0
    replace HB := Lib.hid (Below.on HB.out hb)
    clear hb
    clear hb0
    go_wp2_with fail
    refine (h1 w1).mono ?_
    rintro e w2 ⟨Aa, na, ca, la, rfl, ga⟩
    have hb := ga.below
    replace HB := Lib.hid (Below.on HB.out hb)
    clear hb
    have Ha := Lib.hid ga.rg
    have Sa := ga.set
    clear ga
    go_wp2_with fail
    refine (h2 w2).mono ?_
    rintro e w3 ⟨Ab, nb, cb, lb, rfl, gb⟩
    have hb := gb.below
    replace HB := Lib.hid (Below.on HB.out hb)
    replace Ha := Lib.hid (Ha.out.below hb)
    clear hb
    have Hb := Lib.hid gb.rg
    have Sb := gb.set
    clear gb
    have he : la = lb := Sa.unique Sb (fun _ _ _ => Iff.rfl)
    go_wp2_with fail
    refine (same_yes Ha.out Hb.out he).mono ?_
    rintro e w4 ⟨rfl, hb0⟩
    have hb := hb0
    replace HB := Lib.hid (Below.on HB.out hb)
    replace Ha := Lib.hid (Ha.out.below hb)
    replace Hb := Lib.hid (Hb.out.below hb)
    clear hb
    clear hb0 he
    go_wp2_with fail
    go_ret
    exact ⟨rfl, HB.out⟩

end Go.Proofs.Ytoglnankopdohaa
