/- classes.Posix: the walks, name by name. -/
import Derived.Test.YtoglnankopdohaaCl2
import Derived.Test.YtoglnankopdohaaShelfR4
namespace Go.Proofs.Ytoglnankopdohaa
open Go.RowKit

/-- What stands behind a ^, or the whole; and whether there is one. -/
def nameOf (s : ByteArray) : ByteArray := ⟨(Lib.trimPrefix s.data.toList [94]).toArray⟩
def notOf (s : ByteArray) : Bool := Lib.hasPrefix s.data.toList [94]
theorem toList_inj {a b : ByteArray} (h : a.toList = b.toList) : a = b := by
  rw [ByteArray.toList_eq, ByteArray.toList_eq] at h
  exact Go.WideShapes.bytes_inj h
theorem cut_any (s : ByteArray) (w : World) : Calls Try.prog 76 #[.string s, .string ⟨#[94]⟩] w fun e w' => e = .returned (.tuple #[.string (nameOf s), .bool (notOf s)]) ∧ w' = w :=
  Any.strings_CutPrefix Try.cutPrefix s ⟨#[94]⟩ w

def nm_alnum : ByteArray := ⟨#[97, 108, 110, 117, 109]⟩
def px_alnum : List Rg := [(48, 57), (65, 90), (97, 122)]
theorem px_alnum_ok : Canon px_alnum := canonB (by decide) (by decide)
def nm_alpha : ByteArray := ⟨#[97, 108, 112, 104, 97]⟩
def px_alpha : List Rg := [(65, 90), (97, 122)]
theorem px_alpha_ok : Canon px_alpha := canonB (by decide) (by decide)
def nm_ascii : ByteArray := ⟨#[97, 115, 99, 105, 105]⟩
def px_ascii : List Rg := [(0, 127)]
theorem px_ascii_ok : Canon px_ascii := canonB (by decide) (by decide)
def nm_blank : ByteArray := ⟨#[98, 108, 97, 110, 107]⟩
def px_blank : List Rg := [(9, 9), (32, 32)]
theorem px_blank_ok : Canon px_blank := canonB (by decide) (by decide)
def nm_cntrl : ByteArray := ⟨#[99, 110, 116, 114, 108]⟩
def px_cntrl : List Rg := [(0, 31), (127, 127)]
theorem px_cntrl_ok : Canon px_cntrl := canonB (by decide) (by decide)
def nm_digit : ByteArray := ⟨#[100, 105, 103, 105, 116]⟩
def px_digit : List Rg := [(48, 57)]
theorem px_digit_ok : Canon px_digit := canonB (by decide) (by decide)
def nm_graph : ByteArray := ⟨#[103, 114, 97, 112, 104]⟩
def px_graph : List Rg := [(33, 126)]
theorem px_graph_ok : Canon px_graph := canonB (by decide) (by decide)
def nm_lower : ByteArray := ⟨#[108, 111, 119, 101, 114]⟩
def px_lower : List Rg := [(97, 122)]
theorem px_lower_ok : Canon px_lower := canonB (by decide) (by decide)
def nm_print : ByteArray := ⟨#[112, 114, 105, 110, 116]⟩
def px_print : List Rg := [(32, 126)]
theorem px_print_ok : Canon px_print := canonB (by decide) (by decide)
def nm_punct : ByteArray := ⟨#[112, 117, 110, 99, 116]⟩
def px_punct : List Rg := [(33, 47), (58, 64), (91, 96), (123, 126)]
theorem px_punct_ok : Canon px_punct := canonB (by decide) (by decide)
def nm_space : ByteArray := ⟨#[115, 112, 97, 99, 101]⟩
def px_space : List Rg := [(9, 13), (32, 32)]
theorem px_space_ok : Canon px_space := canonB (by decide) (by decide)
def nm_upper : ByteArray := ⟨#[117, 112, 112, 101, 114]⟩
def px_upper : List Rg := [(65, 90)]
theorem px_upper_ok : Canon px_upper := canonB (by decide) (by decide)
def nm_word : ByteArray := ⟨#[119, 111, 114, 100]⟩
def px_word : List Rg := [(48, 57), (65, 90), (95, 95), (97, 122)]
theorem px_word_ok : Canon px_word := canonB (by decide) (by decide)
def nm_xdigit : ByteArray := ⟨#[120, 100, 105, 103, 105, 116]⟩
def px_xdigit : List Rg := [(48, 57), (65, 70), (97, 102)]
theorem px_xdigit_ok : Canon px_xdigit := canonB (by decide) (by decide)
set_option maxRecDepth 20000 in
set_option maxHeartbeats 2000000 in
theorem posix_alnum (s : ByteArray) (w : World) (hs : nameOf s = nm_alnum) : Calls Try.prog 49 #[.string s] w fun e w' => ∃ B m d r, e = .returned (.tuple #[.slice B m d, .bool true]) ∧ Told (notOf s) px_alnum w B m d r w' := by
  have hc := cut_any s w
  rw [hs] at hc
  generalize notOf s = nt at hc ⊢
  have hn := RgIn.new w px_alnum (by decide) (canon_fits px_alnum_ok)
  have hb : Below w.heap.size w (w.alloc (.cells (rgCells px_alnum).toArray 28)) := (Below.refl _ _).alloc (Nat.le_refl _) _
  have hx := turned_any nt hn (by decide) px_alnum_ok
  have HB := Lib.hid hb
  clear hn hb hs
  simp only [nm_alnum] at hc
  simp only [rgCells, rgCell, px_alnum, List.flatMap_cons, List.flatMap_nil, List.append_nil, List.cons_append, List.nil_append, List.length_cons, List.length_nil, Nat.zero_add, Nat.reduceAdd] at hx HB
  go_enter Try.func49, Try.ntmps49
  go_wp2_with (first | (go_at_call 76; refine hc.mono ?_; rintro e w2 ⟨rfl, rfl⟩) | (go_at_call 73; refine hx.mono ?_; rintro e w2 ⟨B', m', d', r, rfl, hg⟩))
  go_ret2
  exact ⟨_, _, _, _, rfl, hg.on HB.out⟩
set_option maxRecDepth 20000 in
set_option maxHeartbeats 2000000 in
theorem posix_alpha (s : ByteArray) (w : World) (hs : nameOf s = nm_alpha) : Calls Try.prog 49 #[.string s] w fun e w' => ∃ B m d r, e = .returned (.tuple #[.slice B m d, .bool true]) ∧ Told (notOf s) px_alpha w B m d r w' := by
  have hc := cut_any s w
  rw [hs] at hc
  generalize notOf s = nt at hc ⊢
  have hn := RgIn.new w px_alpha (by decide) (canon_fits px_alpha_ok)
  have hb : Below w.heap.size w (w.alloc (.cells (rgCells px_alpha).toArray 28)) := (Below.refl _ _).alloc (Nat.le_refl _) _
  have hx := turned_any nt hn (by decide) px_alpha_ok
  have HB := Lib.hid hb
  clear hn hb hs
  simp only [nm_alpha] at hc
  simp only [rgCells, rgCell, px_alpha, List.flatMap_cons, List.flatMap_nil, List.append_nil, List.cons_append, List.nil_append, List.length_cons, List.length_nil, Nat.zero_add, Nat.reduceAdd] at hx HB
  go_enter Try.func49, Try.ntmps49
  go_wp2_with (first | (go_at_call 76; refine hc.mono ?_; rintro e w2 ⟨rfl, rfl⟩) | (go_at_call 73; refine hx.mono ?_; rintro e w2 ⟨B', m', d', r, rfl, hg⟩))
  go_ret2
  exact ⟨_, _, _, _, rfl, hg.on HB.out⟩
set_option maxRecDepth 20000 in
set_option maxHeartbeats 2000000 in
theorem posix_ascii (s : ByteArray) (w : World) (hs : nameOf s = nm_ascii) : Calls Try.prog 49 #[.string s] w fun e w' => ∃ B m d r, e = .returned (.tuple #[.slice B m d, .bool true]) ∧ Told (notOf s) px_ascii w B m d r w' := by
  have hc := cut_any s w
  rw [hs] at hc
  generalize notOf s = nt at hc ⊢
  have hn := RgIn.new w px_ascii (by decide) (canon_fits px_ascii_ok)
  have hb : Below w.heap.size w (w.alloc (.cells (rgCells px_ascii).toArray 28)) := (Below.refl _ _).alloc (Nat.le_refl _) _
  have hx := turned_any nt hn (by decide) px_ascii_ok
  have HB := Lib.hid hb
  clear hn hb hs
  simp only [nm_ascii] at hc
  simp only [rgCells, rgCell, px_ascii, List.flatMap_cons, List.flatMap_nil, List.append_nil, List.cons_append, List.nil_append, List.length_cons, List.length_nil, Nat.zero_add, Nat.reduceAdd] at hx HB
  go_enter Try.func49, Try.ntmps49
  go_wp2_with (first | (go_at_call 76; refine hc.mono ?_; rintro e w2 ⟨rfl, rfl⟩) | (go_at_call 73; refine hx.mono ?_; rintro e w2 ⟨B', m', d', r, rfl, hg⟩))
  go_ret2
  exact ⟨_, _, _, _, rfl, hg.on HB.out⟩
set_option maxRecDepth 20000 in
set_option maxHeartbeats 2000000 in
theorem posix_blank (s : ByteArray) (w : World) (hs : nameOf s = nm_blank) : Calls Try.prog 49 #[.string s] w fun e w' => ∃ B m d r, e = .returned (.tuple #[.slice B m d, .bool true]) ∧ Told (notOf s) px_blank w B m d r w' := by
  have hc := cut_any s w
  rw [hs] at hc
  generalize notOf s = nt at hc ⊢
  have hn := RgIn.new w px_blank (by decide) (canon_fits px_blank_ok)
  have hb : Below w.heap.size w (w.alloc (.cells (rgCells px_blank).toArray 28)) := (Below.refl _ _).alloc (Nat.le_refl _) _
  have hx := turned_any nt hn (by decide) px_blank_ok
  have HB := Lib.hid hb
  clear hn hb hs
  simp only [nm_blank] at hc
  simp only [rgCells, rgCell, px_blank, List.flatMap_cons, List.flatMap_nil, List.append_nil, List.cons_append, List.nil_append, List.length_cons, List.length_nil, Nat.zero_add, Nat.reduceAdd] at hx HB
  go_enter Try.func49, Try.ntmps49
  go_wp2_with (first | (go_at_call 76; refine hc.mono ?_; rintro e w2 ⟨rfl, rfl⟩) | (go_at_call 73; refine hx.mono ?_; rintro e w2 ⟨B', m', d', r, rfl, hg⟩))
  go_ret2
  exact ⟨_, _, _, _, rfl, hg.on HB.out⟩
set_option maxRecDepth 20000 in
set_option maxHeartbeats 2000000 in
theorem posix_cntrl (s : ByteArray) (w : World) (hs : nameOf s = nm_cntrl) : Calls Try.prog 49 #[.string s] w fun e w' => ∃ B m d r, e = .returned (.tuple #[.slice B m d, .bool true]) ∧ Told (notOf s) px_cntrl w B m d r w' := by
  have hc := cut_any s w
  rw [hs] at hc
  generalize notOf s = nt at hc ⊢
  have hn := RgIn.new w px_cntrl (by decide) (canon_fits px_cntrl_ok)
  have hb : Below w.heap.size w (w.alloc (.cells (rgCells px_cntrl).toArray 28)) := (Below.refl _ _).alloc (Nat.le_refl _) _
  have hx := turned_any nt hn (by decide) px_cntrl_ok
  have HB := Lib.hid hb
  clear hn hb hs
  simp only [nm_cntrl] at hc
  simp only [rgCells, rgCell, px_cntrl, List.flatMap_cons, List.flatMap_nil, List.append_nil, List.cons_append, List.nil_append, List.length_cons, List.length_nil, Nat.zero_add, Nat.reduceAdd] at hx HB
  go_enter Try.func49, Try.ntmps49
  go_wp2_with (first | (go_at_call 76; refine hc.mono ?_; rintro e w2 ⟨rfl, rfl⟩) | (go_at_call 73; refine hx.mono ?_; rintro e w2 ⟨B', m', d', r, rfl, hg⟩))
  go_ret2
  exact ⟨_, _, _, _, rfl, hg.on HB.out⟩
set_option maxRecDepth 20000 in
set_option maxHeartbeats 2000000 in
theorem posix_digit (s : ByteArray) (w : World) (hs : nameOf s = nm_digit) : Calls Try.prog 49 #[.string s] w fun e w' => ∃ B m d r, e = .returned (.tuple #[.slice B m d, .bool true]) ∧ Told (notOf s) px_digit w B m d r w' := by
  have hc := cut_any s w
  rw [hs] at hc
  generalize notOf s = nt at hc ⊢
  have hn := RgIn.new w px_digit (by decide) (canon_fits px_digit_ok)
  have hb : Below w.heap.size w (w.alloc (.cells (rgCells px_digit).toArray 28)) := (Below.refl _ _).alloc (Nat.le_refl _) _
  have hx := turned_any nt hn (by decide) px_digit_ok
  have HB := Lib.hid hb
  clear hn hb hs
  simp only [nm_digit] at hc
  simp only [rgCells, rgCell, px_digit, List.flatMap_cons, List.flatMap_nil, List.append_nil, List.cons_append, List.nil_append, List.length_cons, List.length_nil, Nat.zero_add, Nat.reduceAdd] at hx HB
  go_enter Try.func49, Try.ntmps49
  go_wp2_with (first | (go_at_call 76; refine hc.mono ?_; rintro e w2 ⟨rfl, rfl⟩) | (go_at_call 73; refine hx.mono ?_; rintro e w2 ⟨B', m', d', r, rfl, hg⟩))
  go_ret2
  exact ⟨_, _, _, _, rfl, hg.on HB.out⟩
set_option maxRecDepth 20000 in
set_option maxHeartbeats 2000000 in
theorem posix_graph (s : ByteArray) (w : World) (hs : nameOf s = nm_graph) : Calls Try.prog 49 #[.string s] w fun e w' => ∃ B m d r, e = .returned (.tuple #[.slice B m d, .bool true]) ∧ Told (notOf s) px_graph w B m d r w' := by
  have hc := cut_any s w
  rw [hs] at hc
  generalize notOf s = nt at hc ⊢
  have hn := RgIn.new w px_graph (by decide) (canon_fits px_graph_ok)
  have hb : Below w.heap.size w (w.alloc (.cells (rgCells px_graph).toArray 28)) := (Below.refl _ _).alloc (Nat.le_refl _) _
  have hx := turned_any nt hn (by decide) px_graph_ok
  have HB := Lib.hid hb
  clear hn hb hs
  simp only [nm_graph] at hc
  simp only [rgCells, rgCell, px_graph, List.flatMap_cons, List.flatMap_nil, List.append_nil, List.cons_append, List.nil_append, List.length_cons, List.length_nil, Nat.zero_add, Nat.reduceAdd] at hx HB
  go_enter Try.func49, Try.ntmps49
  go_wp2_with (first | (go_at_call 76; refine hc.mono ?_; rintro e w2 ⟨rfl, rfl⟩) | (go_at_call 73; refine hx.mono ?_; rintro e w2 ⟨B', m', d', r, rfl, hg⟩))
  go_ret2
  exact ⟨_, _, _, _, rfl, hg.on HB.out⟩
set_option maxRecDepth 20000 in
set_option maxHeartbeats 2000000 in
theorem posix_lower (s : ByteArray) (w : World) (hs : nameOf s = nm_lower) : Calls Try.prog 49 #[.string s] w fun e w' => ∃ B m d r, e = .returned (.tuple #[.slice B m d, .bool true]) ∧ Told (notOf s) px_lower w B m d r w' := by
  have hc := cut_any s w
  rw [hs] at hc
  generalize notOf s = nt at hc ⊢
  have hn := RgIn.new w px_lower (by decide) (canon_fits px_lower_ok)
  have hb : Below w.heap.size w (w.alloc (.cells (rgCells px_lower).toArray 28)) := (Below.refl _ _).alloc (Nat.le_refl _) _
  have hx := turned_any nt hn (by decide) px_lower_ok
  have HB := Lib.hid hb
  clear hn hb hs
  simp only [nm_lower] at hc
  simp only [rgCells, rgCell, px_lower, List.flatMap_cons, List.flatMap_nil, List.append_nil, List.cons_append, List.nil_append, List.length_cons, List.length_nil, Nat.zero_add, Nat.reduceAdd] at hx HB
  go_enter Try.func49, Try.ntmps49
  go_wp2_with (first | (go_at_call 76; refine hc.mono ?_; rintro e w2 ⟨rfl, rfl⟩) | (go_at_call 73; refine hx.mono ?_; rintro e w2 ⟨B', m', d', r, rfl, hg⟩))
  go_ret2
  exact ⟨_, _, _, _, rfl, hg.on HB.out⟩
set_option maxRecDepth 20000 in
set_option maxHeartbeats 2000000 in
theorem posix_print (s : ByteArray) (w : World) (hs : nameOf s = nm_print) : Calls Try.prog 49 #[.string s] w fun e w' => ∃ B m d r, e = .returned (.tuple #[.slice B m d, .bool true]) ∧ Told (notOf s) px_print w B m d r w' := by
  have hc := cut_any s w
  rw [hs] at hc
  generalize notOf s = nt at hc ⊢
  have hn := RgIn.new w px_print (by decide) (canon_fits px_print_ok)
  have hb : Below w.heap.size w (w.alloc (.cells (rgCells px_print).toArray 28)) := (Below.refl _ _).alloc (Nat.le_refl _) _
  have hx := turned_any nt hn (by decide) px_print_ok
  have HB := Lib.hid hb
  clear hn hb hs
  simp only [nm_print] at hc
  simp only [rgCells, rgCell, px_print, List.flatMap_cons, List.flatMap_nil, List.append_nil, List.cons_append, List.nil_append, List.length_cons, List.length_nil, Nat.zero_add, Nat.reduceAdd] at hx HB
  go_enter Try.func49, Try.ntmps49
  go_wp2_with (first | (go_at_call 76; refine hc.mono ?_; rintro e w2 ⟨rfl, rfl⟩) | (go_at_call 73; refine hx.mono ?_; rintro e w2 ⟨B', m', d', r, rfl, hg⟩))
  go_ret2
  exact ⟨_, _, _, _, rfl, hg.on HB.out⟩
set_option maxRecDepth 20000 in
set_option maxHeartbeats 2000000 in
theorem posix_punct (s : ByteArray) (w : World) (hs : nameOf s = nm_punct) : Calls Try.prog 49 #[.string s] w fun e w' => ∃ B m d r, e = .returned (.tuple #[.slice B m d, .bool true]) ∧ Told (notOf s) px_punct w B m d r w' := by
  have hc := cut_any s w
  rw [hs] at hc
  generalize notOf s = nt at hc ⊢
  have hn := RgIn.new w px_punct (by decide) (canon_fits px_punct_ok)
  have hb : Below w.heap.size w (w.alloc (.cells (rgCells px_punct).toArray 28)) := (Below.refl _ _).alloc (Nat.le_refl _) _
  have hx := turned_any nt hn (by decide) px_punct_ok
  have HB := Lib.hid hb
  clear hn hb hs
  simp only [nm_punct] at hc
  simp only [rgCells, rgCell, px_punct, List.flatMap_cons, List.flatMap_nil, List.append_nil, List.cons_append, List.nil_append, List.length_cons, List.length_nil, Nat.zero_add, Nat.reduceAdd] at hx HB
  go_enter Try.func49, Try.ntmps49
  go_wp2_with (first | (go_at_call 76; refine hc.mono ?_; rintro e w2 ⟨rfl, rfl⟩) | (go_at_call 73; refine hx.mono ?_; rintro e w2 ⟨B', m', d', r, rfl, hg⟩))
  go_ret2
  exact ⟨_, _, _, _, rfl, hg.on HB.out⟩
set_option maxRecDepth 20000 in
set_option maxHeartbeats 2000000 in
theorem posix_space (s : ByteArray) (w : World) (hs : nameOf s = nm_space) : Calls Try.prog 49 #[.string s] w fun e w' => ∃ B m d r, e = .returned (.tuple #[.slice B m d, .bool true]) ∧ Told (notOf s) px_space w B m d r w' := by
  have hc := cut_any s w
  rw [hs] at hc
  generalize notOf s = nt at hc ⊢
  have hn := RgIn.new w px_space (by decide) (canon_fits px_space_ok)
  have hb : Below w.heap.size w (w.alloc (.cells (rgCells px_space).toArray 28)) := (Below.refl _ _).alloc (Nat.le_refl _) _
  have hx := turned_any nt hn (by decide) px_space_ok
  have HB := Lib.hid hb
  clear hn hb hs
  simp only [nm_space] at hc
  simp only [rgCells, rgCell, px_space, List.flatMap_cons, List.flatMap_nil, List.append_nil, List.cons_append, List.nil_append, List.length_cons, List.length_nil, Nat.zero_add, Nat.reduceAdd] at hx HB
  go_enter Try.func49, Try.ntmps49
  go_wp2_with (first | (go_at_call 76; refine hc.mono ?_; rintro e w2 ⟨rfl, rfl⟩) | (go_at_call 73; refine hx.mono ?_; rintro e w2 ⟨B', m', d', r, rfl, hg⟩))
  go_ret2
  exact ⟨_, _, _, _, rfl, hg.on HB.out⟩
set_option maxRecDepth 20000 in
set_option maxHeartbeats 2000000 in
theorem posix_upper (s : ByteArray) (w : World) (hs : nameOf s = nm_upper) : Calls Try.prog 49 #[.string s] w fun e w' => ∃ B m d r, e = .returned (.tuple #[.slice B m d, .bool true]) ∧ Told (notOf s) px_upper w B m d r w' := by
  have hc := cut_any s w
  rw [hs] at hc
  generalize notOf s = nt at hc ⊢
  have hn := RgIn.new w px_upper (by decide) (canon_fits px_upper_ok)
  have hb : Below w.heap.size w (w.alloc (.cells (rgCells px_upper).toArray 28)) := (Below.refl _ _).alloc (Nat.le_refl _) _
  have hx := turned_any nt hn (by decide) px_upper_ok
  have HB := Lib.hid hb
  clear hn hb hs
  simp only [nm_upper] at hc
  simp only [rgCells, rgCell, px_upper, List.flatMap_cons, List.flatMap_nil, List.append_nil, List.cons_append, List.nil_append, List.length_cons, List.length_nil, Nat.zero_add, Nat.reduceAdd] at hx HB
  go_enter Try.func49, Try.ntmps49
  go_wp2_with (first | (go_at_call 76; refine hc.mono ?_; rintro e w2 ⟨rfl, rfl⟩) | (go_at_call 73; refine hx.mono ?_; rintro e w2 ⟨B', m', d', r, rfl, hg⟩))
  go_ret2
  exact ⟨_, _, _, _, rfl, hg.on HB.out⟩
set_option maxRecDepth 20000 in
set_option maxHeartbeats 2000000 in
theorem posix_word (s : ByteArray) (w : World) (hs : nameOf s = nm_word) : Calls Try.prog 49 #[.string s] w fun e w' => ∃ B m d r, e = .returned (.tuple #[.slice B m d, .bool true]) ∧ Told (notOf s) px_word w B m d r w' := by
  have hc := cut_any s w
  rw [hs] at hc
  generalize notOf s = nt at hc ⊢
  have hn := RgIn.new w px_word (by decide) (canon_fits px_word_ok)
  have hb : Below w.heap.size w (w.alloc (.cells (rgCells px_word).toArray 28)) := (Below.refl _ _).alloc (Nat.le_refl _) _
  have hx := turned_any nt hn (by decide) px_word_ok
  have HB := Lib.hid hb
  clear hn hb hs
  simp only [nm_word] at hc
  simp only [rgCells, rgCell, px_word, List.flatMap_cons, List.flatMap_nil, List.append_nil, List.cons_append, List.nil_append, List.length_cons, List.length_nil, Nat.zero_add, Nat.reduceAdd] at hx HB
  go_enter Try.func49, Try.ntmps49
  go_wp2_with (first | (go_at_call 76; refine hc.mono ?_; rintro e w2 ⟨rfl, rfl⟩) | (go_at_call 73; refine hx.mono ?_; rintro e w2 ⟨B', m', d', r, rfl, hg⟩))
  go_ret2
  exact ⟨_, _, _, _, rfl, hg.on HB.out⟩
set_option maxRecDepth 20000 in
set_option maxHeartbeats 2000000 in
theorem posix_xdigit (s : ByteArray) (w : World) (hs : nameOf s = nm_xdigit) : Calls Try.prog 49 #[.string s] w fun e w' => ∃ B m d r, e = .returned (.tuple #[.slice B m d, .bool true]) ∧ Told (notOf s) px_xdigit w B m d r w' := by
  have hc := cut_any s w
  rw [hs] at hc
  generalize notOf s = nt at hc ⊢
  have hn := RgIn.new w px_xdigit (by decide) (canon_fits px_xdigit_ok)
  have hb : Below w.heap.size w (w.alloc (.cells (rgCells px_xdigit).toArray 28)) := (Below.refl _ _).alloc (Nat.le_refl _) _
  have hx := turned_any nt hn (by decide) px_xdigit_ok
  have HB := Lib.hid hb
  clear hn hb hs
  simp only [nm_xdigit] at hc
  simp only [rgCells, rgCell, px_xdigit, List.flatMap_cons, List.flatMap_nil, List.append_nil, List.cons_append, List.nil_append, List.length_cons, List.length_nil, Nat.zero_add, Nat.reduceAdd] at hx HB
  go_enter Try.func49, Try.ntmps49
  go_wp2_with (first | (go_at_call 76; refine hc.mono ?_; rintro e w2 ⟨rfl, rfl⟩) | (go_at_call 73; refine hx.mono ?_; rintro e w2 ⟨B', m', d', r, rfl, hg⟩))
  go_ret2
  exact ⟨_, _, _, _, rfl, hg.on HB.out⟩
set_option maxRecDepth 20000 in
set_option maxHeartbeats 2000000 in
theorem posix_no (s : ByteArray) (w : World) (h0 : nameOf s ≠ nm_alnum) (h1 : nameOf s ≠ nm_alpha) (h2 : nameOf s ≠ nm_ascii) (h3 : nameOf s ≠ nm_blank) (h4 : nameOf s ≠ nm_cntrl) (h5 : nameOf s ≠ nm_digit) (h6 : nameOf s ≠ nm_graph) (h7 : nameOf s ≠ nm_lower) (h8 : nameOf s ≠ nm_print) (h9 : nameOf s ≠ nm_punct) (h10 : nameOf s ≠ nm_space) (h11 : nameOf s ≠ nm_upper) (h12 : nameOf s ≠ nm_word) (h13 : nameOf s ≠ nm_xdigit) : Calls Try.prog 49 #[.string s] w fun e w' => e = .returned (.tuple #[.slice none 0 0, .bool false]) ∧ Below w.heap.size w w' := by
  have hc := cut_any s w
  generalize notOf s = nt at hc
  generalize nameOf s = nm at *
  have hx := fun W => turned_no W (.slice none 0 0) nt none 0 0 rfl
  have q0 : (nm.toList == [97, 108, 110, 117, 109]) = false := beq_eq_false_iff_ne.2 fun h => h0 (toList_inj (by rw [h]; exact (ByteArray.toList_mk _).symm))
  have q1 : (nm.toList == [97, 108, 112, 104, 97]) = false := beq_eq_false_iff_ne.2 fun h => h1 (toList_inj (by rw [h]; exact (ByteArray.toList_mk _).symm))
  have q2 : (nm.toList == [97, 115, 99, 105, 105]) = false := beq_eq_false_iff_ne.2 fun h => h2 (toList_inj (by rw [h]; exact (ByteArray.toList_mk _).symm))
  have q3 : (nm.toList == [98, 108, 97, 110, 107]) = false := beq_eq_false_iff_ne.2 fun h => h3 (toList_inj (by rw [h]; exact (ByteArray.toList_mk _).symm))
  have q4 : (nm.toList == [99, 110, 116, 114, 108]) = false := beq_eq_false_iff_ne.2 fun h => h4 (toList_inj (by rw [h]; exact (ByteArray.toList_mk _).symm))
  have q5 : (nm.toList == [100, 105, 103, 105, 116]) = false := beq_eq_false_iff_ne.2 fun h => h5 (toList_inj (by rw [h]; exact (ByteArray.toList_mk _).symm))
  have q6 : (nm.toList == [103, 114, 97, 112, 104]) = false := beq_eq_false_iff_ne.2 fun h => h6 (toList_inj (by rw [h]; exact (ByteArray.toList_mk _).symm))
  have q7 : (nm.toList == [108, 111, 119, 101, 114]) = false := beq_eq_false_iff_ne.2 fun h => h7 (toList_inj (by rw [h]; exact (ByteArray.toList_mk _).symm))
  have q8 : (nm.toList == [112, 114, 105, 110, 116]) = false := beq_eq_false_iff_ne.2 fun h => h8 (toList_inj (by rw [h]; exact (ByteArray.toList_mk _).symm))
  have q9 : (nm.toList == [112, 117, 110, 99, 116]) = false := beq_eq_false_iff_ne.2 fun h => h9 (toList_inj (by rw [h]; exact (ByteArray.toList_mk _).symm))
  have q10 : (nm.toList == [115, 112, 97, 99, 101]) = false := beq_eq_false_iff_ne.2 fun h => h10 (toList_inj (by rw [h]; exact (ByteArray.toList_mk _).symm))
  have q11 : (nm.toList == [117, 112, 112, 101, 114]) = false := beq_eq_false_iff_ne.2 fun h => h11 (toList_inj (by rw [h]; exact (ByteArray.toList_mk _).symm))
  have q12 : (nm.toList == [119, 111, 114, 100]) = false := beq_eq_false_iff_ne.2 fun h => h12 (toList_inj (by rw [h]; exact (ByteArray.toList_mk _).symm))
  have q13 : (nm.toList == [120, 100, 105, 103, 105, 116]) = false := beq_eq_false_iff_ne.2 fun h => h13 (toList_inj (by rw [h]; exact (ByteArray.toList_mk _).symm))
  clear h0 h1 h2 h3 h4 h5 h6 h7 h8 h9 h10 h11 h12 h13
  go_enter Try.func49, Try.ntmps49
  go_wp2_with (first | (go_at_call 76; refine hc.mono ?_; rintro e w2 ⟨rfl, rfl⟩) | (go_at_call 73; refine (hx _).mono ?_; rintro e w2 ⟨rfl, hb⟩))
  go_ret2
  exact ⟨rfl, hb⟩
end Go.Proofs.Ytoglnankopdohaa
