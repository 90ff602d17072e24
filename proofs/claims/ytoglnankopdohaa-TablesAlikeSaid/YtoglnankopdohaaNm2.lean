/- The reference's Named: the walks, name by name. -/
import Derived.Test.YtoglnankopdohaaNm1
import Derived.Test.YtoglnankopdohaaCl5
namespace Go.Proofs.Ytoglnankopdohaa
open Go.RowKit

set_option maxRecDepth 40000 in
set_option maxHeartbeats 2000000 in
theorem refNamed_Lu (w : World) : Calls Try.prog 25 #[.string tn_Lu] w fun e w' => ∃ B d, e = .returned (.tuple #[.slice B 6 d, .bool true]) ∧ Told false tx_Lu w B 6 d tx_Lu w' := by
  have hn := RgIn.newT w 49 tx_Lu (by decide) (canon_fits tx_Lu_ok)
  have hb : Below w.heap.size w (w.alloc (.cells (rgCells tx_Lu).toArray 49)) := (Below.refl _ _).alloc (Nat.le_refl _) _
  have hx := set3_any hn (by decide)
  have hx2 := hx.mono (R' := fun e w' => ∃ B d, e = .returned (.slice B tx_Lu.length d) ∧ Told false tx_Lu w B tx_Lu.length d tx_Lu w') (fun e w' ⟨B, d, he, ho, hb'⟩ => ⟨B, d, he, told_set tx_Lu_ok rfl hb ho hb'⟩)
  clear hn hb hx
  simp only [rgCells, rgCell, show tx_Lu.length = 6 from rfl] at hx2
  simp only [tx_Lu, List.flatMap_cons, List.flatMap_nil, List.append_nil, List.cons_append, List.nil_append] at hx2
  simp only [tn_Lu]
  go_enter Try.func25, Try.ntmps25
  go_wp2_with (go_at_call 58; refine hx2.mono ?_; rintro e w2 ⟨B', d', rfl, hg⟩)
  go_ret2
  exact ⟨_, _, rfl, hg⟩
set_option maxRecDepth 40000 in
set_option maxHeartbeats 2000000 in
theorem refNamed_Ll (w : World) : Calls Try.prog 25 #[.string tn_Ll] w fun e w' => ∃ B d, e = .returned (.tuple #[.slice B 5 d, .bool true]) ∧ Told false tx_Ll w B 5 d tx_Ll w' := by
  have hn := RgIn.newT w 49 tx_Ll (by decide) (canon_fits tx_Ll_ok)
  have hb : Below w.heap.size w (w.alloc (.cells (rgCells tx_Ll).toArray 49)) := (Below.refl _ _).alloc (Nat.le_refl _) _
  have hx := set3_any hn (by decide)
  have hx2 := hx.mono (R' := fun e w' => ∃ B d, e = .returned (.slice B tx_Ll.length d) ∧ Told false tx_Ll w B tx_Ll.length d tx_Ll w') (fun e w' ⟨B, d, he, ho, hb'⟩ => ⟨B, d, he, told_set tx_Ll_ok rfl hb ho hb'⟩)
  clear hn hb hx
  simp only [rgCells, rgCell, show tx_Ll.length = 5 from rfl] at hx2
  simp only [tx_Ll, List.flatMap_cons, List.flatMap_nil, List.append_nil, List.cons_append, List.nil_append] at hx2
  simp only [tn_Ll]
  go_enter Try.func25, Try.ntmps25
  go_wp2_with (go_at_call 58; refine hx2.mono ?_; rintro e w2 ⟨B', d', rfl, hg⟩)
  go_ret2
  exact ⟨_, _, rfl, hg⟩
set_option maxRecDepth 40000 in
set_option maxHeartbeats 2000000 in
theorem refNamed_L (w : World) : Calls Try.prog 25 #[.string tn_L] w fun e w' => ∃ B d, e = .returned (.tuple #[.slice B 12 d, .bool true]) ∧ Told false tx_L w B 12 d tx_L w' := by
  have hn := RgIn.newT w 49 tx_L (by decide) (canon_fits tx_L_ok)
  have hb : Below w.heap.size w (w.alloc (.cells (rgCells tx_L).toArray 49)) := (Below.refl _ _).alloc (Nat.le_refl _) _
  have hx := set3_any hn (by decide)
  have hx2 := hx.mono (R' := fun e w' => ∃ B d, e = .returned (.slice B tx_L.length d) ∧ Told false tx_L w B tx_L.length d tx_L w') (fun e w' ⟨B, d, he, ho, hb'⟩ => ⟨B, d, he, told_set tx_L_ok rfl hb ho hb'⟩)
  clear hn hb hx
  simp only [rgCells, rgCell, show tx_L.length = 12 from rfl] at hx2
  simp only [tx_L, List.flatMap_cons, List.flatMap_nil, List.append_nil, List.cons_append, List.nil_append] at hx2
  simp only [tn_L]
  go_enter Try.func25, Try.ntmps25
  go_wp2_with (go_at_call 58; refine hx2.mono ?_; rintro e w2 ⟨B', d', rfl, hg⟩)
  go_ret2
  exact ⟨_, _, rfl, hg⟩
set_option maxRecDepth 40000 in
set_option maxHeartbeats 2000000 in
theorem refNamed_Nd (w : World) : Calls Try.prog 25 #[.string tn_Nd] w fun e w' => ∃ B d, e = .returned (.tuple #[.slice B 2 d, .bool true]) ∧ Told false tx_Nd w B 2 d tx_Nd w' := by
  have hn := RgIn.newT w 49 tx_Nd (by decide) (canon_fits tx_Nd_ok)
  have hb : Below w.heap.size w (w.alloc (.cells (rgCells tx_Nd).toArray 49)) := (Below.refl _ _).alloc (Nat.le_refl _) _
  have hx := set3_any hn (by decide)
  have hx2 := hx.mono (R' := fun e w' => ∃ B d, e = .returned (.slice B tx_Nd.length d) ∧ Told false tx_Nd w B tx_Nd.length d tx_Nd w') (fun e w' ⟨B, d, he, ho, hb'⟩ => ⟨B, d, he, told_set tx_Nd_ok rfl hb ho hb'⟩)
  clear hn hb hx
  simp only [rgCells, rgCell, show tx_Nd.length = 2 from rfl] at hx2
  simp only [tx_Nd, List.flatMap_cons, List.flatMap_nil, List.append_nil, List.cons_append, List.nil_append] at hx2
  simp only [tn_Nd]
  go_enter Try.func25, Try.ntmps25
  go_wp2_with (go_at_call 58; refine hx2.mono ?_; rintro e w2 ⟨B', d', rfl, hg⟩)
  go_ret2
  exact ⟨_, _, rfl, hg⟩
set_option maxRecDepth 40000 in
set_option maxHeartbeats 2000000 in
theorem refNamed_N (w : World) : Calls Try.prog 25 #[.string tn_N] w fun e w' => ∃ B d, e = .returned (.tuple #[.slice B 6 d, .bool true]) ∧ Told false tx_N w B 6 d tx_N w' := by
  have hn := RgIn.newT w 49 tx_N (by decide) (canon_fits tx_N_ok)
  have hb : Below w.heap.size w (w.alloc (.cells (rgCells tx_N).toArray 49)) := (Below.refl _ _).alloc (Nat.le_refl _) _
  have hx := set3_any hn (by decide)
  have hx2 := hx.mono (R' := fun e w' => ∃ B d, e = .returned (.slice B tx_N.length d) ∧ Told false tx_N w B tx_N.length d tx_N w') (fun e w' ⟨B, d, he, ho, hb'⟩ => ⟨B, d, he, told_set tx_N_ok rfl hb ho hb'⟩)
  clear hn hb hx
  simp only [rgCells, rgCell, show tx_N.length = 6 from rfl] at hx2
  simp only [tx_N, List.flatMap_cons, List.flatMap_nil, List.append_nil, List.cons_append, List.nil_append] at hx2
  simp only [tn_N]
  go_enter Try.func25, Try.ntmps25
  go_wp2_with (go_at_call 58; refine hx2.mono ?_; rintro e w2 ⟨B', d', rfl, hg⟩)
  go_ret2
  exact ⟨_, _, rfl, hg⟩
set_option maxRecDepth 40000 in
set_option maxHeartbeats 2000000 in
theorem refNamed_P (w : World) : Calls Try.prog 25 #[.string tn_P] w fun e w' => ∃ B d, e = .returned (.tuple #[.slice B 15 d, .bool true]) ∧ Told false tx_P w B 15 d tx_P w' := by
  have hn := RgIn.newT w 49 tx_P (by decide) (canon_fits tx_P_ok)
  have hb : Below w.heap.size w (w.alloc (.cells (rgCells tx_P).toArray 49)) := (Below.refl _ _).alloc (Nat.le_refl _) _
  have hx := set3_any hn (by decide)
  have hx2 := hx.mono (R' := fun e w' => ∃ B d, e = .returned (.slice B tx_P.length d) ∧ Told false tx_P w B tx_P.length d tx_P w') (fun e w' ⟨B, d, he, ho, hb'⟩ => ⟨B, d, he, told_set tx_P_ok rfl hb ho hb'⟩)
  clear hn hb hx
  simp only [rgCells, rgCell, show tx_P.length = 15 from rfl] at hx2
  simp only [tx_P, List.flatMap_cons, List.flatMap_nil, List.append_nil, List.cons_append, List.nil_append] at hx2
  simp only [tn_P]
  go_enter Try.func25, Try.ntmps25
  go_wp2_with (go_at_call 58; refine hx2.mono ?_; rintro e w2 ⟨B', d', rfl, hg⟩)
  go_ret2
  exact ⟨_, _, rfl, hg⟩
set_option maxRecDepth 40000 in
set_option maxHeartbeats 2000000 in
theorem refNamed_S (w : World) : Calls Try.prog 25 #[.string tn_S] w fun e w' => ∃ B d, e = .returned (.tuple #[.slice B 15 d, .bool true]) ∧ Told false tx_S w B 15 d tx_S w' := by
  have hn := RgIn.newT w 49 tx_S (by decide) (canon_fits tx_S_ok)
  have hb : Below w.heap.size w (w.alloc (.cells (rgCells tx_S).toArray 49)) := (Below.refl _ _).alloc (Nat.le_refl _) _
  have hx := set3_any hn (by decide)
  have hx2 := hx.mono (R' := fun e w' => ∃ B d, e = .returned (.slice B tx_S.length d) ∧ Told false tx_S w B tx_S.length d tx_S w') (fun e w' ⟨B, d, he, ho, hb'⟩ => ⟨B, d, he, told_set tx_S_ok rfl hb ho hb'⟩)
  clear hn hb hx
  simp only [rgCells, rgCell, show tx_S.length = 15 from rfl] at hx2
  simp only [tx_S, List.flatMap_cons, List.flatMap_nil, List.append_nil, List.cons_append, List.nil_append] at hx2
  simp only [tn_S]
  go_enter Try.func25, Try.ntmps25
  go_wp2_with (go_at_call 58; refine hx2.mono ?_; rintro e w2 ⟨B', d', rfl, hg⟩)
  go_ret2
  exact ⟨_, _, rfl, hg⟩
set_option maxRecDepth 40000 in
set_option maxHeartbeats 2000000 in
theorem refNamed_Z (w : World) : Calls Try.prog 25 #[.string tn_Z] w fun e w' => ∃ B d, e = .returned (.tuple #[.slice B 6 d, .bool true]) ∧ Told false tx_Z w B 6 d tx_Z w' := by
  have hn := RgIn.newT w 49 tx_Z (by decide) (canon_fits tx_Z_ok)
  have hb : Below w.heap.size w (w.alloc (.cells (rgCells tx_Z).toArray 49)) := (Below.refl _ _).alloc (Nat.le_refl _) _
  have hx := set3_any hn (by decide)
  have hx2 := hx.mono (R' := fun e w' => ∃ B d, e = .returned (.slice B tx_Z.length d) ∧ Told false tx_Z w B tx_Z.length d tx_Z w') (fun e w' ⟨B, d, he, ho, hb'⟩ => ⟨B, d, he, told_set tx_Z_ok rfl hb ho hb'⟩)
  clear hn hb hx
  simp only [rgCells, rgCell, show tx_Z.length = 6 from rfl] at hx2
  simp only [tx_Z, List.flatMap_cons, List.flatMap_nil, List.append_nil, List.cons_append, List.nil_append] at hx2
  simp only [tn_Z]
  go_enter Try.func25, Try.ntmps25
  go_wp2_with (go_at_call 58; refine hx2.mono ?_; rintro e w2 ⟨B', d', rfl, hg⟩)
  go_ret2
  exact ⟨_, _, rfl, hg⟩
set_option maxRecDepth 40000 in
set_option maxHeartbeats 2000000 in
theorem refNamed_Cc (w : World) : Calls Try.prog 25 #[.string tn_Cc] w fun e w' => ∃ B d, e = .returned (.tuple #[.slice B 2 d, .bool true]) ∧ Told false tx_Cc w B 2 d tx_Cc w' := by
  have hn := RgIn.newT w 49 tx_Cc (by decide) (canon_fits tx_Cc_ok)
  have hb : Below w.heap.size w (w.alloc (.cells (rgCells tx_Cc).toArray 49)) := (Below.refl _ _).alloc (Nat.le_refl _) _
  have hx := set3_any hn (by decide)
  have hx2 := hx.mono (R' := fun e w' => ∃ B d, e = .returned (.slice B tx_Cc.length d) ∧ Told false tx_Cc w B tx_Cc.length d tx_Cc w') (fun e w' ⟨B, d, he, ho, hb'⟩ => ⟨B, d, he, told_set tx_Cc_ok rfl hb ho hb'⟩)
  clear hn hb hx
  simp only [rgCells, rgCell, show tx_Cc.length = 2 from rfl] at hx2
  simp only [tx_Cc, List.flatMap_cons, List.flatMap_nil, List.append_nil, List.cons_append, List.nil_append] at hx2
  simp only [tn_Cc]
  go_enter Try.func25, Try.ntmps25
  go_wp2_with (go_at_call 58; refine hx2.mono ?_; rintro e w2 ⟨B', d', rfl, hg⟩)
  go_ret2
  exact ⟨_, _, rfl, hg⟩
set_option maxRecDepth 40000 in
set_option maxHeartbeats 2000000 in
theorem refNamed_Latin (w : World) : Calls Try.prog 25 #[.string tn_Latin] w fun e w' => ∃ B d, e = .returned (.tuple #[.slice B 8 d, .bool true]) ∧ Told false tx_Latin w B 8 d tx_Latin w' := by
  have hn := RgIn.newT w 49 tx_Latin (by decide) (canon_fits tx_Latin_ok)
  have hb : Below w.heap.size w (w.alloc (.cells (rgCells tx_Latin).toArray 49)) := (Below.refl _ _).alloc (Nat.le_refl _) _
  have hx := set3_any hn (by decide)
  have hx2 := hx.mono (R' := fun e w' => ∃ B d, e = .returned (.slice B tx_Latin.length d) ∧ Told false tx_Latin w B tx_Latin.length d tx_Latin w') (fun e w' ⟨B, d, he, ho, hb'⟩ => ⟨B, d, he, told_set tx_Latin_ok rfl hb ho hb'⟩)
  clear hn hb hx
  simp only [rgCells, rgCell, show tx_Latin.length = 8 from rfl] at hx2
  simp only [tx_Latin, List.flatMap_cons, List.flatMap_nil, List.append_nil, List.cons_append, List.nil_append] at hx2
  simp only [tn_Latin]
  go_enter Try.func25, Try.ntmps25
  go_wp2_with (go_at_call 58; refine hx2.mono ?_; rintro e w2 ⟨B', d', rfl, hg⟩)
  go_ret2
  exact ⟨_, _, rfl, hg⟩
set_option maxRecDepth 40000 in
set_option maxHeartbeats 2000000 in
theorem refNamed_Greek (w : World) : Calls Try.prog 25 #[.string tn_Greek] w fun e w' => ∃ B d, e = .returned (.tuple #[.slice B 10 d, .bool true]) ∧ Told false tx_Greek w B 10 d tx_Greek w' := by
  have hn := RgIn.newT w 49 tx_Greek (by decide) (canon_fits tx_Greek_ok)
  have hb : Below w.heap.size w (w.alloc (.cells (rgCells tx_Greek).toArray 49)) := (Below.refl _ _).alloc (Nat.le_refl _) _
  have hx := set3_any hn (by decide)
  have hx2 := hx.mono (R' := fun e w' => ∃ B d, e = .returned (.slice B tx_Greek.length d) ∧ Told false tx_Greek w B tx_Greek.length d tx_Greek w') (fun e w' ⟨B, d, he, ho, hb'⟩ => ⟨B, d, he, told_set tx_Greek_ok rfl hb ho hb'⟩)
  clear hn hb hx
  simp only [rgCells, rgCell, show tx_Greek.length = 10 from rfl] at hx2
  simp only [tx_Greek, List.flatMap_cons, List.flatMap_nil, List.append_nil, List.cons_append, List.nil_append] at hx2
  simp only [tn_Greek]
  go_enter Try.func25, Try.ntmps25
  go_wp2_with (go_at_call 58; refine hx2.mono ?_; rintro e w2 ⟨B', d', rfl, hg⟩)
  go_ret2
  exact ⟨_, _, rfl, hg⟩
set_option maxRecDepth 40000 in
set_option maxHeartbeats 2000000 in
theorem refNamed_Cyrillic (w : World) : Calls Try.prog 25 #[.string tn_Cyrillic] w fun e w' => ∃ B d, e = .returned (.tuple #[.slice B 2 d, .bool true]) ∧ Told false tx_Cyrillic w B 2 d tx_Cyrillic w' := by
  have hn := RgIn.newT w 49 tx_Cyrillic (by decide) (canon_fits tx_Cyrillic_ok)
  have hb : Below w.heap.size w (w.alloc (.cells (rgCells tx_Cyrillic).toArray 49)) := (Below.refl _ _).alloc (Nat.le_refl _) _
  have hx := set3_any hn (by decide)
  have hx2 := hx.mono (R' := fun e w' => ∃ B d, e = .returned (.slice B tx_Cyrillic.length d) ∧ Told false tx_Cyrillic w B tx_Cyrillic.length d tx_Cyrillic w') (fun e w' ⟨B, d, he, ho, hb'⟩ => ⟨B, d, he, told_set tx_Cyrillic_ok rfl hb ho hb'⟩)
  clear hn hb hx
  simp only [rgCells, rgCell, show tx_Cyrillic.length = 2 from rfl] at hx2
  simp only [tx_Cyrillic, List.flatMap_cons, List.flatMap_nil, List.append_nil, List.cons_append, List.nil_append] at hx2
  simp only [tn_Cyrillic]
  go_enter Try.func25, Try.ntmps25
  go_wp2_with (go_at_call 58; refine hx2.mono ?_; rintro e w2 ⟨B', d', rfl, hg⟩)
  go_ret2
  exact ⟨_, _, rfl, hg⟩
set_option maxRecDepth 40000 in
set_option maxHeartbeats 2000000 in
theorem refNamed_Han (w : World) : Calls Try.prog 25 #[.string tn_Han] w fun e w' => ∃ B d, e = .returned (.tuple #[.slice B 1 d, .bool true]) ∧ Told false tx_Han w B 1 d tx_Han w' := by
  have hn := RgIn.newT w 49 tx_Han (by decide) (canon_fits tx_Han_ok)
  have hb : Below w.heap.size w (w.alloc (.cells (rgCells tx_Han).toArray 49)) := (Below.refl _ _).alloc (Nat.le_refl _) _
  have hx := set3_any hn (by decide)
  have hx2 := hx.mono (R' := fun e w' => ∃ B d, e = .returned (.slice B tx_Han.length d) ∧ Told false tx_Han w B tx_Han.length d tx_Han w') (fun e w' ⟨B, d, he, ho, hb'⟩ => ⟨B, d, he, told_set tx_Han_ok rfl hb ho hb'⟩)
  clear hn hb hx
  simp only [rgCells, rgCell, show tx_Han.length = 1 from rfl] at hx2
  simp only [tx_Han, List.flatMap_cons, List.flatMap_nil, List.append_nil, List.cons_append, List.nil_append] at hx2
  simp only [tn_Han]
  go_enter Try.func25, Try.ntmps25
  go_wp2_with (go_at_call 58; refine hx2.mono ?_; rintro e w2 ⟨B', d', rfl, hg⟩)
  go_ret2
  exact ⟨_, _, rfl, hg⟩
set_option maxRecDepth 40000 in
set_option maxHeartbeats 2000000 in
theorem refNamed_no (nm : ByteArray) (w : World) (h0 : nm ≠ tn_Lu) (h1 : nm ≠ tn_Ll) (h2 : nm ≠ tn_L) (h3 : nm ≠ tn_Nd) (h4 : nm ≠ tn_N) (h5 : nm ≠ tn_P) (h6 : nm ≠ tn_S) (h7 : nm ≠ tn_Z) (h8 : nm ≠ tn_Cc) (h9 : nm ≠ tn_Latin) (h10 : nm ≠ tn_Greek) (h11 : nm ≠ tn_Cyrillic) (h12 : nm ≠ tn_Han) : Calls Try.prog 25 #[.string nm] w fun e w' => e = .returned (.tuple #[.slice none 0 0, .bool false]) ∧ w' = w := by
  have q0 : (nm.toList == [76, 117]) = false := beq_eq_false_iff_ne.2 fun h => h0 (toList_inj (by rw [h]; exact (ByteArray.toList_mk _).symm))
  have q1 : (nm.toList == [76, 108]) = false := beq_eq_false_iff_ne.2 fun h => h1 (toList_inj (by rw [h]; exact (ByteArray.toList_mk _).symm))
  have q2 : (nm.toList == [76]) = false := beq_eq_false_iff_ne.2 fun h => h2 (toList_inj (by rw [h]; exact (ByteArray.toList_mk _).symm))
  have q3 : (nm.toList == [78, 100]) = false := beq_eq_false_iff_ne.2 fun h => h3 (toList_inj (by rw [h]; exact (ByteArray.toList_mk _).symm))
  have q4 : (nm.toList == [78]) = false := beq_eq_false_iff_ne.2 fun h => h4 (toList_inj (by rw [h]; exact (ByteArray.toList_mk _).symm))
  have q5 : (nm.toList == [80]) = false := beq_eq_false_iff_ne.2 fun h => h5 (toList_inj (by rw [h]; exact (ByteArray.toList_mk _).symm))
  have q6 : (nm.toList == [83]) = false := beq_eq_false_iff_ne.2 fun h => h6 (toList_inj (by rw [h]; exact (ByteArray.toList_mk _).symm))
  have q7 : (nm.toList == [90]) = false := beq_eq_false_iff_ne.2 fun h => h7 (toList_inj (by rw [h]; exact (ByteArray.toList_mk _).symm))
  have q8 : (nm.toList == [67, 99]) = false := beq_eq_false_iff_ne.2 fun h => h8 (toList_inj (by rw [h]; exact (ByteArray.toList_mk _).symm))
  have q9 : (nm.toList == [76, 97, 116, 105, 110]) = false := beq_eq_false_iff_ne.2 fun h => h9 (toList_inj (by rw [h]; exact (ByteArray.toList_mk _).symm))
  have q10 : (nm.toList == [71, 114, 101, 101, 107]) = false := beq_eq_false_iff_ne.2 fun h => h10 (toList_inj (by rw [h]; exact (ByteArray.toList_mk _).symm))
  have q11 : (nm.toList == [67, 121, 114, 105, 108, 108, 105, 99]) = false := beq_eq_false_iff_ne.2 fun h => h11 (toList_inj (by rw [h]; exact (ByteArray.toList_mk _).symm))
  have q12 : (nm.toList == [72, 97, 110]) = false := beq_eq_false_iff_ne.2 fun h => h12 (toList_inj (by rw [h]; exact (ByteArray.toList_mk _).symm))
  clear h0 h1 h2 h3 h4 h5 h6 h7 h8 h9 h10 h11 h12
  go_enter Try.func25, Try.ntmps25
  go_wp2_with fail
  go_ret2
  exact ⟨rfl, rfl⟩

open Classical in
noncomputable def txOf (nm : ByteArray) : Option (List Rg) :=
  if nm = tn_Lu then some tx_Lu
  else if nm = tn_Ll then some tx_Ll
  else if nm = tn_L then some tx_L
  else if nm = tn_Nd then some tx_Nd
  else if nm = tn_N then some tx_N
  else if nm = tn_P then some tx_P
  else if nm = tn_S then some tx_S
  else if nm = tn_Z then some tx_Z
  else if nm = tn_Cc then some tx_Cc
  else if nm = tn_Latin then some tx_Latin
  else if nm = tn_Greek then some tx_Greek
  else if nm = tn_Cyrillic then some tx_Cyrillic
  else if nm = tn_Han then some tx_Han
  else none
theorem told_lit {w : World} {L : List Rg} {k : Nat} (hL : Canon L) (hk : L.length = k) (h1 : L.length ≤ 1000) : Told false L w (some ⟨w.heap.size, 0, none⟩) k k L (w.alloc (.cells (rgCells L).toArray 28)) := by
  subst hk
  exact ⟨(SetOf.self hL).cong (fun c _ _ => by simp [TP]), RgIn.new w L h1 (canon_fits hL), (Below.refl _ _).alloc (Nat.le_refl _) _⟩
/-- What Named tells. -/
def NmTold (l : Option (List Rg)) (w : World) (e : Ending) (w' : World) : Prop :=
  match l with
  | some L => Canon L ∧ ∃ B m d, e = .returned (.tuple #[.slice B m d, .bool true]) ∧ Told false L w B m d L w'
  | none => e = .returned (.tuple #[.slice none 0 0, .bool false]) ∧ w' = w
theorem named_any (nm : ByteArray) (w : World) : Calls Try.prog 24 #[.string nm] w fun e w' => NmTold (txOf nm) w e w' := by
  by_cases h0 : nm = tn_Lu
  · rw [show txOf nm = some tx_Lu by unfold txOf; rw [if_pos h0], h0]; exact (named_Lu w).mono fun e w' ⟨he, hw⟩ => ⟨tx_Lu_ok, _, _, _, he, by rw [hw]; exact told_lit tx_Lu_ok rfl (by decide)⟩
  by_cases h1 : nm = tn_Ll
  · rw [show txOf nm = some tx_Ll by unfold txOf; rw [if_neg h0, if_pos h1], h1]; exact (named_Ll w).mono fun e w' ⟨he, hw⟩ => ⟨tx_Ll_ok, _, _, _, he, by rw [hw]; exact told_lit tx_Ll_ok rfl (by decide)⟩
  by_cases h2 : nm = tn_L
  · rw [show txOf nm = some tx_L by unfold txOf; rw [if_neg h0, if_neg h1, if_pos h2], h2]; exact (named_L w).mono fun e w' ⟨he, hw⟩ => ⟨tx_L_ok, _, _, _, he, by rw [hw]; exact told_lit tx_L_ok rfl (by decide)⟩
  by_cases h3 : nm = tn_Nd
  · rw [show txOf nm = some tx_Nd by unfold txOf; rw [if_neg h0, if_neg h1, if_neg h2, if_pos h3], h3]; exact (named_Nd w).mono fun e w' ⟨he, hw⟩ => ⟨tx_Nd_ok, _, _, _, he, by rw [hw]; exact told_lit tx_Nd_ok rfl (by decide)⟩
  by_cases h4 : nm = tn_N
  · rw [show txOf nm = some tx_N by unfold txOf; rw [if_neg h0, if_neg h1, if_neg h2, if_neg h3, if_pos h4], h4]; exact (named_N w).mono fun e w' ⟨he, hw⟩ => ⟨tx_N_ok, _, _, _, he, by rw [hw]; exact told_lit tx_N_ok rfl (by decide)⟩
  by_cases h5 : nm = tn_P
  · rw [show txOf nm = some tx_P by unfold txOf; rw [if_neg h0, if_neg h1, if_neg h2, if_neg h3, if_neg h4, if_pos h5], h5]; exact (named_P w).mono fun e w' ⟨he, hw⟩ => ⟨tx_P_ok, _, _, _, he, by rw [hw]; exact told_lit tx_P_ok rfl (by decide)⟩
  by_cases h6 : nm = tn_S
  · rw [show txOf nm = some tx_S by unfold txOf; rw [if_neg h0, if_neg h1, if_neg h2, if_neg h3, if_neg h4, if_neg h5, if_pos h6], h6]; exact (named_S w).mono fun e w' ⟨he, hw⟩ => ⟨tx_S_ok, _, _, _, he, by rw [hw]; exact told_lit tx_S_ok rfl (by decide)⟩
  by_cases h7 : nm = tn_Z
  · rw [show txOf nm = some tx_Z by unfold txOf; rw [if_neg h0, if_neg h1, if_neg h2, if_neg h3, if_neg h4, if_neg h5, if_neg h6, if_pos h7], h7]; exact (named_Z w).mono fun e w' ⟨he, hw⟩ => ⟨tx_Z_ok, _, _, _, he, by rw [hw]; exact told_lit tx_Z_ok rfl (by decide)⟩
  by_cases h8 : nm = tn_Cc
  · rw [show txOf nm = some tx_Cc by unfold txOf; rw [if_neg h0, if_neg h1, if_neg h2, if_neg h3, if_neg h4, if_neg h5, if_neg h6, if_neg h7, if_pos h8], h8]; exact (named_Cc w).mono fun e w' ⟨he, hw⟩ => ⟨tx_Cc_ok, _, _, _, he, by rw [hw]; exact told_lit tx_Cc_ok rfl (by decide)⟩
  by_cases h9 : nm = tn_Latin
  · rw [show txOf nm = some tx_Latin by unfold txOf; rw [if_neg h0, if_neg h1, if_neg h2, if_neg h3, if_neg h4, if_neg h5, if_neg h6, if_neg h7, if_neg h8, if_pos h9], h9]; exact (named_Latin w).mono fun e w' ⟨he, hw⟩ => ⟨tx_Latin_ok, _, _, _, he, by rw [hw]; exact told_lit tx_Latin_ok rfl (by decide)⟩
  by_cases h10 : nm = tn_Greek
  · rw [show txOf nm = some tx_Greek by unfold txOf; rw [if_neg h0, if_neg h1, if_neg h2, if_neg h3, if_neg h4, if_neg h5, if_neg h6, if_neg h7, if_neg h8, if_neg h9, if_pos h10], h10]; exact (named_Greek w).mono fun e w' ⟨he, hw⟩ => ⟨tx_Greek_ok, _, _, _, he, by rw [hw]; exact told_lit tx_Greek_ok rfl (by decide)⟩
  by_cases h11 : nm = tn_Cyrillic
  · rw [show txOf nm = some tx_Cyrillic by unfold txOf; rw [if_neg h0, if_neg h1, if_neg h2, if_neg h3, if_neg h4, if_neg h5, if_neg h6, if_neg h7, if_neg h8, if_neg h9, if_neg h10, if_pos h11], h11]; exact (named_Cyrillic w).mono fun e w' ⟨he, hw⟩ => ⟨tx_Cyrillic_ok, _, _, _, he, by rw [hw]; exact told_lit tx_Cyrillic_ok rfl (by decide)⟩
  by_cases h12 : nm = tn_Han
  · rw [show txOf nm = some tx_Han by unfold txOf; rw [if_neg h0, if_neg h1, if_neg h2, if_neg h3, if_neg h4, if_neg h5, if_neg h6, if_neg h7, if_neg h8, if_neg h9, if_neg h10, if_neg h11, if_pos h12], h12]; exact (named_Han w).mono fun e w' ⟨he, hw⟩ => ⟨tx_Han_ok, _, _, _, he, by rw [hw]; exact told_lit tx_Han_ok rfl (by decide)⟩
  rw [show txOf nm = none by unfold txOf; rw [if_neg h0, if_neg h1, if_neg h2, if_neg h3, if_neg h4, if_neg h5, if_neg h6, if_neg h7, if_neg h8, if_neg h9, if_neg h10, if_neg h11, if_neg h12]]
  exact named_no nm w h0 h1 h2 h3 h4 h5 h6 h7 h8 h9 h10 h11 h12
theorem refNamed_any (nm : ByteArray) (w : World) : Calls Try.prog 25 #[.string nm] w fun e w' => NmTold (txOf nm) w e w' := by
  by_cases h0 : nm = tn_Lu
  · rw [show txOf nm = some tx_Lu by unfold txOf; rw [if_pos h0], h0]; exact (refNamed_Lu w).mono fun e w' ⟨B, d, he, ht⟩ => ⟨tx_Lu_ok, B, _, d, he, ht⟩
  by_cases h1 : nm = tn_Ll
  · rw [show txOf nm = some tx_Ll by unfold txOf; rw [if_neg h0, if_pos h1], h1]; exact (refNamed_Ll w).mono fun e w' ⟨B, d, he, ht⟩ => ⟨tx_Ll_ok, B, _, d, he, ht⟩
  by_cases h2 : nm = tn_L
  · rw [show txOf nm = some tx_L by unfold txOf; rw [if_neg h0, if_neg h1, if_pos h2], h2]; exact (refNamed_L w).mono fun e w' ⟨B, d, he, ht⟩ => ⟨tx_L_ok, B, _, d, he, ht⟩
  by_cases h3 : nm = tn_Nd
  · rw [show txOf nm = some tx_Nd by unfold txOf; rw [if_neg h0, if_neg h1, if_neg h2, if_pos h3], h3]; exact (refNamed_Nd w).mono fun e w' ⟨B, d, he, ht⟩ => ⟨tx_Nd_ok, B, _, d, he, ht⟩
  by_cases h4 : nm = tn_N
  · rw [show txOf nm = some tx_N by unfold txOf; rw [if_neg h0, if_neg h1, if_neg h2, if_neg h3, if_pos h4], h4]; exact (refNamed_N w).mono fun e w' ⟨B, d, he, ht⟩ => ⟨tx_N_ok, B, _, d, he, ht⟩
  by_cases h5 : nm = tn_P
  · rw [show txOf nm = some tx_P by unfold txOf; rw [if_neg h0, if_neg h1, if_neg h2, if_neg h3, if_neg h4, if_pos h5], h5]; exact (refNamed_P w).mono fun e w' ⟨B, d, he, ht⟩ => ⟨tx_P_ok, B, _, d, he, ht⟩
  by_cases h6 : nm = tn_S
  · rw [show txOf nm = some tx_S by unfold txOf; rw [if_neg h0, if_neg h1, if_neg h2, if_neg h3, if_neg h4, if_neg h5, if_pos h6], h6]; exact (refNamed_S w).mono fun e w' ⟨B, d, he, ht⟩ => ⟨tx_S_ok, B, _, d, he, ht⟩
  by_cases h7 : nm = tn_Z
  · rw [show txOf nm = some tx_Z by unfold txOf; rw [if_neg h0, if_neg h1, if_neg h2, if_neg h3, if_neg h4, if_neg h5, if_neg h6, if_pos h7], h7]; exact (refNamed_Z w).mono fun e w' ⟨B, d, he, ht⟩ => ⟨tx_Z_ok, B, _, d, he, ht⟩
  by_cases h8 : nm = tn_Cc
  · rw [show txOf nm = some tx_Cc by unfold txOf; rw [if_neg h0, if_neg h1, if_neg h2, if_neg h3, if_neg h4, if_neg h5, if_neg h6, if_neg h7, if_pos h8], h8]; exact (refNamed_Cc w).mono fun e w' ⟨B, d, he, ht⟩ => ⟨tx_Cc_ok, B, _, d, he, ht⟩
  by_cases h9 : nm = tn_Latin
  · rw [show txOf nm = some tx_Latin by unfold txOf; rw [if_neg h0, if_neg h1, if_neg h2, if_neg h3, if_neg h4, if_neg h5, if_neg h6, if_neg h7, if_neg h8, if_pos h9], h9]; exact (refNamed_Latin w).mono fun e w' ⟨B, d, he, ht⟩ => ⟨tx_Latin_ok, B, _, d, he, ht⟩
  by_cases h10 : nm = tn_Greek
  · rw [show txOf nm = some tx_Greek by unfold txOf; rw [if_neg h0, if_neg h1, if_neg h2, if_neg h3, if_neg h4, if_neg h5, if_neg h6, if_neg h7, if_neg h8, if_neg h9, if_pos h10], h10]; exact (refNamed_Greek w).mono fun e w' ⟨B, d, he, ht⟩ => ⟨tx_Greek_ok, B, _, d, he, ht⟩
  by_cases h11 : nm = tn_Cyrillic
  · rw [show txOf nm = some tx_Cyrillic by unfold txOf; rw [if_neg h0, if_neg h1, if_neg h2, if_neg h3, if_neg h4, if_neg h5, if_neg h6, if_neg h7, if_neg h8, if_neg h9, if_neg h10, if_pos h11], h11]; exact (refNamed_Cyrillic w).mono fun e w' ⟨B, d, he, ht⟩ => ⟨tx_Cyrillic_ok, B, _, d, he, ht⟩
  by_cases h12 : nm = tn_Han
  · rw [show txOf nm = some tx_Han by unfold txOf; rw [if_neg h0, if_neg h1, if_neg h2, if_neg h3, if_neg h4, if_neg h5, if_neg h6, if_neg h7, if_neg h8, if_neg h9, if_neg h10, if_neg h11, if_pos h12], h12]; exact (refNamed_Han w).mono fun e w' ⟨B, d, he, ht⟩ => ⟨tx_Han_ok, B, _, d, he, ht⟩
  rw [show txOf nm = none by unfold txOf; rw [if_neg h0, if_neg h1, if_neg h2, if_neg h3, if_neg h4, if_neg h5, if_neg h6, if_neg h7, if_neg h8, if_neg h9, if_neg h10, if_neg h11, if_neg h12]]
  exact refNamed_no nm w h0 h1 h2 h3 h4 h5 h6 h7 h8 h9 h10 h11 h12
end Go.Proofs.Ytoglnankopdohaa
