/- classes: turned, Perl, Dot: the walks. -/
import Derived.Test.YtoglnankopdohaaLawS0
import Derived.Laws.Cover3
namespace Go.Proofs.Ytoglnankopdohaa
open Go.RowKit

theorem RgIn.new (w : World) (L : List Rg) (hl : L.length ≤ 1000) (hf : ∀ p ∈ L, (-2147483648 ≤ p.1 ∧ p.1 ≤ 2147483647) ∧ (-2147483648 ≤ p.2 ∧ p.2 ≤ 2147483647)) :
    RgIn (w.alloc (.cells (rgCells L).toArray 28)) (some ⟨w.heap.size, 0, none⟩) L.length L.length L :=
  ⟨Rd.new w (rgCells L) _ _ (Nat.zero_le _) (by simp), rfl, Nat.le_refl _, by unfold maxLen; omega, (fun h => by cases h), hf⟩

/-- A set, or all that is not in it. -/
def TP (not : Bool) (l : List Rg) : Int → Prop := fun x => if not = true then ¬ mem l x else mem l x
/-- What turned hands back of a set l. -/
structure Told (not : Bool) (l : List Rg) (w : World) (B : Option Addr) (m d : Nat) (s : List Rg) (w' : World) : Prop where
  set : SetOf (TP not l) s
  rg : RgIn w' B m d s
  below : Below w.heap.size w w'
theorem Told.small {not : Bool} {l : List Rg} {w : World} {B : Option Addr} {m d : Nat} {s : List Rg} {w' : World} (h : Told not l w B m d s w') : m ≤ 600000 := by
  rw [← h.rg.len]; exact canon_len h.set.canon
theorem Told.on {not : Bool} {l : List Rg} {w0 w : World} {B : Option Addr} {m d : Nat} {s : List Rg} {w' : World} (h : Told not l w B m d s w') (hb : Below w0.heap.size w0 w) : Told not l w0 B m d s w' := ⟨h.set, h.rg, Below.on hb h.below⟩

set_option maxRecDepth 20000 in
set_option maxHeartbeats 1000000 in
theorem turned1_any {w : World} {b1 b2 : Nat} {A : Option Addr} {n c : Nat} {l : List Rg} (not : Bool) (h1 : w.cell? ⟨b1, 0, none⟩ = some (.bool not)) (h2 : w.cell? ⟨b2, 0, none⟩ = some (.slice A n c)) (hA : RgIn w A n c l) (hn : n ≤ 1000000) (hc : Canon l) :
    Calls Try.prog 86 #[.pointer (some ⟨b1, 0, none⟩), .pointer (some ⟨b2, 0, none⟩)] w fun e w' => ∃ B m d s, e = .returned (.slice B m d) ∧ Told not l w B m d s w' := by
  have hx := not_any hA hn
  cases not with
  | true =>
    clear hA
    go_enter Try.func86, Try.ntmps86
    go_wp2_with (go_at_call 40; refine hx.mono ?_; rintro e w2 ⟨B', m', d', s, rfl, hg⟩)
    go_ret
    exact ⟨_, _, _, _, rfl, hg.set, hg.rg, hg.below⟩
  | false =>
    have HA := Lib.hid hA
    clear hx hA
    go_enter Try.func86, Try.ntmps86
    go_wp2_with fail
    go_ret
    exact ⟨_, _, _, l, rfl, SetOf.self hc, HA.out, Below.refl _ _⟩

set_option maxRecDepth 20000 in
set_option maxHeartbeats 1000000 in
theorem turned_no (w : World) (v : Value) (not : Bool) (A : Option Addr) (n c : Nat) (hv : v = .slice A n c) :
    Calls Try.prog 73 #[v, .bool false, .bool not] w fun e w' => e = .returned (.tuple #[.slice none 0 0, .bool false]) ∧ Below w.heap.size w w' := by
  subst hv
  go_enter Try.func73, Try.ntmps73
  go_wp2_with fail
  go_ret2
  exact ⟨rfl, ((Below.refl _ _).alloc (Nat.le_refl _) _).alloc (by simp) _⟩

set_option maxRecDepth 20000 in
set_option maxHeartbeats 1000000 in
theorem turned_any {w : World} {A : Option Addr} {n c : Nat} {l : List Rg} (not : Bool) (hA : RgIn w A n c l) (hn : n ≤ 1000000) (hc : Canon l) :
    Calls Try.prog 73 #[.slice A n c, .bool true, .bool not] w fun e w' => ∃ B m d s, e = .returned (.tuple #[.slice B m d, .bool true]) ∧ Told not l w B m d s w' := by
  have eg : ∀ args w, (callFunc 86 args).run Try.prog w = .ok (.enter 86 args) w := enters_of Try.func86 (by kernel_rfl) rfl
  have hb : Below w.heap.size w ((w.alloc (.cells #[.slice A n c] 23)).alloc (.cells #[.bool not] 4)) := ((Below.refl _ _).alloc (Nat.le_refl _) _).alloc (by simp) _
  have k1 := (Blk.new (w.alloc (.cells #[.slice A n c] 23)) 4 #[.bool not]).cell 0
  have k2 := ((Blk.new w 23 #[.slice A n c]).alloc (.cells #[.bool not] 4)).cell 0
  simp only [List.getElem?_toArray, List.getElem?_cons_zero, World.size_alloc] at k1 k2
  have hx := turned1_any (w := (w.alloc (.cells #[.slice A n c] 23)).alloc (.cells #[.bool not] 4)) not k1 k2 (hA.below hb) hn hc
  have HB := Lib.hid hb
  clear k1 k2 hA hb
  go_enter Try.func73, Try.ntmps73
  go_wp2_with (go_at_fn 86; refine hx.mono ?_; rintro e w2 ⟨B', m', d', s, rfl, hg⟩)
  go_ret2
  exact ⟨_, _, _, _, rfl, hg.on HB.out⟩

/-! ### Perl -/
def perlD : List Rg := [(48, 57)]
def perlS : List Rg := [(9, 10), (12, 13), (32, 32)]
def perlW : List Rg := [(48, 57), (65, 90), (95, 95), (97, 122)]
theorem canonB {l : List Rg} (h : (l.all fun p => decide (0 ≤ p.1) && decide (p.1 ≤ p.2) && decide (p.2 ≤ maxR)) = true) (h' : decide (l.Pairwise fun p q => p.2 + 2 ≤ q.1) = true) : Canon l :=
  ⟨fun p hp => by have := List.all_eq_true.1 h p hp; simp only [Bool.and_eq_true, decide_eq_true_eq] at this; exact ⟨this.1.1, this.1.2, this.2⟩, of_decide_eq_true h'⟩
theorem canon_fits {l : List Rg} (h : Canon l) : ∀ p ∈ l, (-2147483648 ≤ p.1 ∧ p.1 ≤ 2147483647) ∧ (-2147483648 ≤ p.2 ∧ p.2 ≤ 2147483647) := fun p hp => fitsRg (h.1 p hp)
theorem perlD_ok : Canon perlD := canonB (by decide) (by decide)
theorem perlS_ok : Canon perlS := canonB (by decide) (by decide)
theorem perlW_ok : Canon perlW := canonB (by decide) (by decide)

set_option maxHeartbeats 1000000 in
theorem perl_100 (w : World) : Calls Try.prog 43 #[.int .u8 100] w fun e w' => ∃ B m d s, e = .returned (.tuple #[.slice B m d, .bool true]) ∧ Told false perlD w B m d s w' := by
  have hn := RgIn.new w perlD (by decide) (canon_fits perlD_ok)
  have hb : Below w.heap.size w (w.alloc (.cells (rgCells perlD).toArray 28)) := (Below.refl _ _).alloc (Nat.le_refl _) _
  have hx := turned_any false hn (by decide) perlD_ok
  have HB := Lib.hid hb
  clear hn hb
  simp only [rgCells, rgCell, perlD, List.flatMap_cons, List.flatMap_nil, List.append_nil, List.cons_append, List.nil_append, List.length_cons, List.length_nil, Nat.zero_add, Nat.reduceAdd] at hx HB
  go_enter Try.func43, Try.ntmps43
  go_wp2_with (go_at_call 73; refine hx.mono ?_; rintro e w2 ⟨B', m', d', s, rfl, hg⟩)
  go_ret2
  exact ⟨_, _, _, _, rfl, hg.on HB.out⟩

set_option maxHeartbeats 1000000 in
theorem perl_68 (w : World) : Calls Try.prog 43 #[.int .u8 68] w fun e w' => ∃ B m d s, e = .returned (.tuple #[.slice B m d, .bool true]) ∧ Told true perlD w B m d s w' := by
  have hn := RgIn.new w perlD (by decide) (canon_fits perlD_ok)
  have hb : Below w.heap.size w (w.alloc (.cells (rgCells perlD).toArray 28)) := (Below.refl _ _).alloc (Nat.le_refl _) _
  have hx := turned_any true hn (by decide) perlD_ok
  have HB := Lib.hid hb
  clear hn hb
  simp only [rgCells, rgCell, perlD, List.flatMap_cons, List.flatMap_nil, List.append_nil, List.cons_append, List.nil_append, List.length_cons, List.length_nil, Nat.zero_add, Nat.reduceAdd] at hx HB
  go_enter Try.func43, Try.ntmps43
  go_wp2_with (go_at_call 73; refine hx.mono ?_; rintro e w2 ⟨B', m', d', s, rfl, hg⟩)
  go_ret2
  exact ⟨_, _, _, _, rfl, hg.on HB.out⟩

set_option maxHeartbeats 1000000 in
theorem perl_115 (w : World) : Calls Try.prog 43 #[.int .u8 115] w fun e w' => ∃ B m d s, e = .returned (.tuple #[.slice B m d, .bool true]) ∧ Told false perlS w B m d s w' := by
  have hn := RgIn.new w perlS (by decide) (canon_fits perlS_ok)
  have hb : Below w.heap.size w (w.alloc (.cells (rgCells perlS).toArray 28)) := (Below.refl _ _).alloc (Nat.le_refl _) _
  have hx := turned_any false hn (by decide) perlS_ok
  have HB := Lib.hid hb
  clear hn hb
  simp only [rgCells, rgCell, perlS, List.flatMap_cons, List.flatMap_nil, List.append_nil, List.cons_append, List.nil_append, List.length_cons, List.length_nil, Nat.zero_add, Nat.reduceAdd] at hx HB
  go_enter Try.func43, Try.ntmps43
  go_wp2_with (go_at_call 73; refine hx.mono ?_; rintro e w2 ⟨B', m', d', s, rfl, hg⟩)
  go_ret2
  exact ⟨_, _, _, _, rfl, hg.on HB.out⟩

set_option maxHeartbeats 1000000 in
theorem perl_83 (w : World) : Calls Try.prog 43 #[.int .u8 83] w fun e w' => ∃ B m d s, e = .returned (.tuple #[.slice B m d, .bool true]) ∧ Told true perlS w B m d s w' := by
  have hn := RgIn.new w perlS (by decide) (canon_fits perlS_ok)
  have hb : Below w.heap.size w (w.alloc (.cells (rgCells perlS).toArray 28)) := (Below.refl _ _).alloc (Nat.le_refl _) _
  have hx := turned_any true hn (by decide) perlS_ok
  have HB := Lib.hid hb
  clear hn hb
  simp only [rgCells, rgCell, perlS, List.flatMap_cons, List.flatMap_nil, List.append_nil, List.cons_append, List.nil_append, List.length_cons, List.length_nil, Nat.zero_add, Nat.reduceAdd] at hx HB
  go_enter Try.func43, Try.ntmps43
  go_wp2_with (go_at_call 73; refine hx.mono ?_; rintro e w2 ⟨B', m', d', s, rfl, hg⟩)
  go_ret2
  exact ⟨_, _, _, _, rfl, hg.on HB.out⟩

set_option maxHeartbeats 1000000 in
theorem perl_119 (w : World) : Calls Try.prog 43 #[.int .u8 119] w fun e w' => ∃ B m d s, e = .returned (.tuple #[.slice B m d, .bool true]) ∧ Told false perlW w B m d s w' := by
  have hn := RgIn.new w perlW (by decide) (canon_fits perlW_ok)
  have hb : Below w.heap.size w (w.alloc (.cells (rgCells perlW).toArray 28)) := (Below.refl _ _).alloc (Nat.le_refl _) _
  have hx := turned_any false hn (by decide) perlW_ok
  have HB := Lib.hid hb
  clear hn hb
  simp only [rgCells, rgCell, perlW, List.flatMap_cons, List.flatMap_nil, List.append_nil, List.cons_append, List.nil_append, List.length_cons, List.length_nil, Nat.zero_add, Nat.reduceAdd] at hx HB
  go_enter Try.func43, Try.ntmps43
  go_wp2_with (go_at_call 73; refine hx.mono ?_; rintro e w2 ⟨B', m', d', s, rfl, hg⟩)
  go_ret2
  exact ⟨_, _, _, _, rfl, hg.on HB.out⟩

set_option maxHeartbeats 1000000 in
theorem perl_87 (w : World) : Calls Try.prog 43 #[.int .u8 87] w fun e w' => ∃ B m d s, e = .returned (.tuple #[.slice B m d, .bool true]) ∧ Told true perlW w B m d s w' := by
  have hn := RgIn.new w perlW (by decide) (canon_fits perlW_ok)
  have hb : Below w.heap.size w (w.alloc (.cells (rgCells perlW).toArray 28)) := (Below.refl _ _).alloc (Nat.le_refl _) _
  have hx := turned_any true hn (by decide) perlW_ok
  have HB := Lib.hid hb
  clear hn hb
  simp only [rgCells, rgCell, perlW, List.flatMap_cons, List.flatMap_nil, List.append_nil, List.cons_append, List.nil_append, List.length_cons, List.length_nil, Nat.zero_add, Nat.reduceAdd] at hx HB
  go_enter Try.func43, Try.ntmps43
  go_wp2_with (go_at_call 73; refine hx.mono ?_; rintro e w2 ⟨B', m', d', s, rfl, hg⟩)
  go_ret2
  exact ⟨_, _, _, _, rfl, hg.on HB.out⟩

set_option maxHeartbeats 1000000 in
theorem perl_no (w : World) (c : Int) (h1 : c ≠ 100) (h2 : c ≠ 68) (h3 : c ≠ 115) (h4 : c ≠ 83) (h5 : c ≠ 119) (h6 : c ≠ 87) : Calls Try.prog 43 #[.int .u8 c] w fun e w' => e = .returned (.tuple #[.slice none 0 0, .bool false]) ∧ Below w.heap.size w w' := by
  have hx := fun b W => turned_no W (.slice none 0 0) b none 0 0 rfl
  have k1 : (c == 100) = false := beq_eq_false_iff_ne.2 h1
  have k2 : (c == 68) = false := beq_eq_false_iff_ne.2 h2
  have k3 : (c == 115) = false := beq_eq_false_iff_ne.2 h3
  have k4 : (c == 83) = false := beq_eq_false_iff_ne.2 h4
  have k5 : (c == 119) = false := beq_eq_false_iff_ne.2 h5
  have k6 : (c == 87) = false := beq_eq_false_iff_ne.2 h6
  clear h1 h2 h3 h4 h5 h6
  go_enter Try.func43, Try.ntmps43
  go_wp2_with (go_at_call 73; refine (hx _ _).mono ?_; rintro e w2 ⟨rfl, hb⟩)
  go_ret2
  exact ⟨rfl, hb⟩

/-! ### Dot -/
def dotL : List Rg := [(10, 10)]
theorem dotL_ok : Canon dotL := canonB (by decide) (by decide)
set_option maxRecDepth 20000 in
set_option maxHeartbeats 1000000 in
theorem dot_any (w : World) (all : Bool) : Calls Try.prog 53 #[.bool all] w fun e w' => ∃ B m d s, e = .returned (.slice B m d) ∧ Got (fun x => ¬ mem (if all = true then [] else dotL) x) w B m d s w' := by
  cases all with
  | true =>
    have hx := not_any (RgIn.empty w) (Nat.zero_le _)
    go_enter Try.func53, Try.ntmps53
    go_wp2_with (go_at_call 40; refine hx.mono ?_; rintro e w2 ⟨B', m', d', s, rfl, hg⟩)
    go_ret
    exact ⟨_, _, _, rfl, _, hg⟩
  | false =>
    have hn := RgIn.new w dotL (by decide) (canon_fits dotL_ok)
    have hb : Below w.heap.size w (w.alloc (.cells (rgCells dotL).toArray 28)) := (Below.refl _ _).alloc (Nat.le_refl _) _
    have hx := not_any hn (by decide)
    have HB := Lib.hid hb
    have hq : ∀ B m d s w', Got (fun x => ¬ mem dotL x) (w.alloc (.cells (rgCells dotL).toArray 28)) B m d s w' → Got (fun x => ¬ mem (if false = true then [] else dotL) x) w B m d s w' := fun B m d s w' h =>
      ⟨h.set, h.len, ownsRow_base h.own hb.size, Below.on hb h.below⟩
    have HQ := Lib.hid hq
    clear hn hb hq
    simp only [rgCells, rgCell, dotL, List.flatMap_cons, List.flatMap_nil, List.append_nil, List.cons_append, List.nil_append, List.length_cons, List.length_nil, Nat.zero_add] at hx
    go_enter Try.func53, Try.ntmps53
    go_wp2_with (go_at_call 40; refine hx.mono ?_; rintro e w2 ⟨B', m', d', s, rfl, hg⟩)
    go_ret
    exact ⟨_, _, _, rfl, _, HQ.out _ _ _ _ _ hg⟩
end Go.Proofs.Ytoglnankopdohaa
