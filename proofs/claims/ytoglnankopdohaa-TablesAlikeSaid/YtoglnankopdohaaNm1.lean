/- tables.Named: the walks, name by name. -/
import Derived.Test.YtoglnankopdohaaCl3
namespace Go.Proofs.Ytoglnankopdohaa
open Go.RowKit

def tn_Lu : ByteArray := ⟨#[76, 117]⟩
def tx_Lu : List Rg := [(65, 90), (192, 214), (216, 222), (913, 929), (931, 937), (1040, 1071)]
theorem tx_Lu_ok : Canon tx_Lu := canonB (by decide) (by decide)
def tn_Ll : ByteArray := ⟨#[76, 108]⟩
def tx_Ll : List Rg := [(97, 122), (223, 246), (248, 255), (945, 969), (1072, 1103)]
theorem tx_Ll_ok : Canon tx_Ll := canonB (by decide) (by decide)
def tn_L : ByteArray := ⟨#[76]⟩
def tx_L : List Rg := [(65, 90), (97, 122), (170, 170), (186, 186), (192, 214), (216, 246), (248, 255), (913, 929), (931, 937), (945, 969), (1040, 1103), (19968, 40959)]
theorem tx_L_ok : Canon tx_L := canonB (by decide) (by decide)
def tn_Nd : ByteArray := ⟨#[78, 100]⟩
def tx_Nd : List Rg := [(48, 57), (1632, 1641)]
theorem tx_Nd_ok : Canon tx_Nd := canonB (by decide) (by decide)
def tn_N : ByteArray := ⟨#[78]⟩
def tx_N : List Rg := [(48, 57), (178, 179), (185, 185), (188, 190), (1632, 1641), (8544, 8584)]
theorem tx_N_ok : Canon tx_N := canonB (by decide) (by decide)
def tn_P : ByteArray := ⟨#[80]⟩
def tx_P : List Rg := [(33, 35), (37, 42), (44, 47), (58, 59), (63, 64), (91, 93), (95, 95), (123, 123), (125, 125), (161, 161), (167, 167), (171, 171), (182, 183), (187, 187), (191, 191)]
theorem tx_P_ok : Canon tx_P := canonB (by decide) (by decide)
def tn_S : ByteArray := ⟨#[83]⟩
def tx_S : List Rg := [(36, 36), (43, 43), (60, 62), (94, 94), (96, 96), (124, 124), (126, 126), (162, 166), (168, 169), (172, 172), (174, 177), (180, 180), (184, 184), (215, 215), (247, 247)]
theorem tx_S_ok : Canon tx_S := canonB (by decide) (by decide)
def tn_Z : ByteArray := ⟨#[90]⟩
def tx_Z : List Rg := [(32, 32), (160, 160), (8192, 8202), (8232, 8233), (8239, 8239), (12288, 12288)]
theorem tx_Z_ok : Canon tx_Z := canonB (by decide) (by decide)
def tn_Cc : ByteArray := ⟨#[67, 99]⟩
def tx_Cc : List Rg := [(0, 31), (127, 159)]
theorem tx_Cc_ok : Canon tx_Cc := canonB (by decide) (by decide)
def tn_Latin : ByteArray := ⟨#[76, 97, 116, 105, 110]⟩
def tx_Latin : List Rg := [(65, 90), (97, 122), (170, 170), (186, 186), (192, 214), (216, 246), (248, 591), (8490, 8491)]
theorem tx_Latin_ok : Canon tx_Latin := canonB (by decide) (by decide)
def tn_Greek : ByteArray := ⟨#[71, 114, 101, 101, 107]⟩
def tx_Greek : List Rg := [(880, 883), (885, 887), (890, 893), (895, 895), (900, 900), (902, 902), (904, 906), (908, 908), (910, 929), (931, 993)]
theorem tx_Greek_ok : Canon tx_Greek := canonB (by decide) (by decide)
def tn_Cyrillic : ByteArray := ⟨#[67, 121, 114, 105, 108, 108, 105, 99]⟩
def tx_Cyrillic : List Rg := [(1024, 1156), (1159, 1327)]
theorem tx_Cyrillic_ok : Canon tx_Cyrillic := canonB (by decide) (by decide)
def tn_Han : ByteArray := ⟨#[72, 97, 110]⟩
def tx_Han : List Rg := [(19968, 40959)]
theorem tx_Han_ok : Canon tx_Han := canonB (by decide) (by decide)
set_option maxRecDepth 40000 in
set_option maxHeartbeats 2000000 in
theorem named_Lu (w : World) : Calls Try.prog 24 #[.string tn_Lu] w fun e w' => e = .returned (.tuple #[.slice (some ⟨w.heap.size, 0, none⟩) 6 6, .bool true]) ∧ w' = w.alloc (.cells (rgCells tx_Lu).toArray 28) := by
  simp only [rgCells, rgCell, tx_Lu, tn_Lu, List.flatMap_cons, List.flatMap_nil, List.append_nil, List.cons_append, List.nil_append]
  go_enter Try.func24, Try.ntmps24
  go_wp2_with fail
  go_ret2
  exact ⟨rfl, rfl⟩
set_option maxRecDepth 40000 in
set_option maxHeartbeats 2000000 in
theorem named_Ll (w : World) : Calls Try.prog 24 #[.string tn_Ll] w fun e w' => e = .returned (.tuple #[.slice (some ⟨w.heap.size, 0, none⟩) 5 5, .bool true]) ∧ w' = w.alloc (.cells (rgCells tx_Ll).toArray 28) := by
  simp only [rgCells, rgCell, tx_Ll, tn_Ll, List.flatMap_cons, List.flatMap_nil, List.append_nil, List.cons_append, List.nil_append]
  go_enter Try.func24, Try.ntmps24
  go_wp2_with fail
  go_ret2
  exact ⟨rfl, rfl⟩
set_option maxRecDepth 40000 in
set_option maxHeartbeats 2000000 in
theorem named_L (w : World) : Calls Try.prog 24 #[.string tn_L] w fun e w' => e = .returned (.tuple #[.slice (some ⟨w.heap.size, 0, none⟩) 12 12, .bool true]) ∧ w' = w.alloc (.cells (rgCells tx_L).toArray 28) := by
  simp only [rgCells, rgCell, tx_L, tn_L, List.flatMap_cons, List.flatMap_nil, List.append_nil, List.cons_append, List.nil_append]
  go_enter Try.func24, Try.ntmps24
  go_wp2_with fail
  go_ret2
  exact ⟨rfl, rfl⟩
set_option maxRecDepth 40000 in
set_option maxHeartbeats 2000000 in
theorem named_Nd (w : World) : Calls Try.prog 24 #[.string tn_Nd] w fun e w' => e = .returned (.tuple #[.slice (some ⟨w.heap.size, 0, none⟩) 2 2, .bool true]) ∧ w' = w.alloc (.cells (rgCells tx_Nd).toArray 28) := by
  simp only [rgCells, rgCell, tx_Nd, tn_Nd, List.flatMap_cons, List.flatMap_nil, List.append_nil, List.cons_append, List.nil_append]
  go_enter Try.func24, Try.ntmps24
  go_wp2_with fail
  go_ret2
  exact ⟨rfl, rfl⟩
set_option maxRecDepth 40000 in
set_option maxHeartbeats 2000000 in
theorem named_N (w : World) : Calls Try.prog 24 #[.string tn_N] w fun e w' => e = .returned (.tuple #[.slice (some ⟨w.heap.size, 0, none⟩) 6 6, .bool true]) ∧ w' = w.alloc (.cells (rgCells tx_N).toArray 28) := by
  simp only [rgCells, rgCell, tx_N, tn_N, List.flatMap_cons, List.flatMap_nil, List.append_nil, List.cons_append, List.nil_append]
  go_enter Try.func24, Try.ntmps24
  go_wp2_with fail
  go_ret2
  exact ⟨rfl, rfl⟩
set_option maxRecDepth 40000 in
set_option maxHeartbeats 2000000 in
theorem named_P (w : World) : Calls Try.prog 24 #[.string tn_P] w fun e w' => e = .returned (.tuple #[.slice (some ⟨w.heap.size, 0, none⟩) 15 15, .bool true]) ∧ w' = w.alloc (.cells (rgCells tx_P).toArray 28) := by
  simp only [rgCells, rgCell, tx_P, tn_P, List.flatMap_cons, List.flatMap_nil, List.append_nil, List.cons_append, List.nil_append]
  go_enter Try.func24, Try.ntmps24
  go_wp2_with fail
  go_ret2
  exact ⟨rfl, rfl⟩
set_option maxRecDepth 40000 in
set_option maxHeartbeats 2000000 in
theorem named_S (w : World) : Calls Try.prog 24 #[.string tn_S] w fun e w' => e = .returned (.tuple #[.slice (some ⟨w.heap.size, 0, none⟩) 15 15, .bool true]) ∧ w' = w.alloc (.cells (rgCells tx_S).toArray 28) := by
  simp only [rgCells, rgCell, tx_S, tn_S, List.flatMap_cons, List.flatMap_nil, List.append_nil, List.cons_append, List.nil_append]
  go_enter Try.func24, Try.ntmps24
  go_wp2_with fail
  go_ret2
  exact ⟨rfl, rfl⟩
set_option maxRecDepth 40000 in
set_option maxHeartbeats 2000000 in
theorem named_Z (w : World) : Calls Try.prog 24 #[.string tn_Z] w fun e w' => e = .returned (.tuple #[.slice (some ⟨w.heap.size, 0, none⟩) 6 6, .bool true]) ∧ w' = w.alloc (.cells (rgCells tx_Z).toArray 28) := by
  simp only [rgCells, rgCell, tx_Z, tn_Z, List.flatMap_cons, List.flatMap_nil, List.append_nil, List.cons_append, List.nil_append]
  go_enter Try.func24, Try.ntmps24
  go_wp2_with fail
  go_ret2
  exact ⟨rfl, rfl⟩
set_option maxRecDepth 40000 in
set_option maxHeartbeats 2000000 in
theorem named_Cc (w : World) : Calls Try.prog 24 #[.string tn_Cc] w fun e w' => e = .returned (.tuple #[.slice (some ⟨w.heap.size, 0, none⟩) 2 2, .bool true]) ∧ w' = w.alloc (.cells (rgCells tx_Cc).toArray 28) := by
  simp only [rgCells, rgCell, tx_Cc, tn_Cc, List.flatMap_cons, List.flatMap_nil, List.append_nil, List.cons_append, List.nil_append]
  go_enter Try.func24, Try.ntmps24
  go_wp2_with fail
  go_ret2
  exact ⟨rfl, rfl⟩
set_option maxRecDepth 40000 in
set_option maxHeartbeats 2000000 in
theorem named_Latin (w : World) : Calls Try.prog 24 #[.string tn_Latin] w fun e w' => e = .returned (.tuple #[.slice (some ⟨w.heap.size, 0, none⟩) 8 8, .bool true]) ∧ w' = w.alloc (.cells (rgCells tx_Latin).toArray 28) := by
  simp only [rgCells, rgCell, tx_Latin, tn_Latin, List.flatMap_cons, List.flatMap_nil, List.append_nil, List.cons_append, List.nil_append]
  go_enter Try.func24, Try.ntmps24
  go_wp2_with fail
  go_ret2
  exact ⟨rfl, rfl⟩
set_option maxRecDepth 40000 in
set_option maxHeartbeats 2000000 in
theorem named_Greek (w : World) : Calls Try.prog 24 #[.string tn_Greek] w fun e w' => e = .returned (.tuple #[.slice (some ⟨w.heap.size, 0, none⟩) 10 10, .bool true]) ∧ w' = w.alloc (.cells (rgCells tx_Greek).toArray 28) := by
  simp only [rgCells, rgCell, tx_Greek, tn_Greek, List.flatMap_cons, List.flatMap_nil, List.append_nil, List.cons_append, List.nil_append]
  go_enter Try.func24, Try.ntmps24
  go_wp2_with fail
  go_ret2
  exact ⟨rfl, rfl⟩
set_option maxRecDepth 40000 in
set_option maxHeartbeats 2000000 in
theorem named_Cyrillic (w : World) : Calls Try.prog 24 #[.string tn_Cyrillic] w fun e w' => e = .returned (.tuple #[.slice (some ⟨w.heap.size, 0, none⟩) 2 2, .bool true]) ∧ w' = w.alloc (.cells (rgCells tx_Cyrillic).toArray 28) := by
  simp only [rgCells, rgCell, tx_Cyrillic, tn_Cyrillic, List.flatMap_cons, List.flatMap_nil, List.append_nil, List.cons_append, List.nil_append]
  go_enter Try.func24, Try.ntmps24
  go_wp2_with fail
  go_ret2
  exact ⟨rfl, rfl⟩
set_option maxRecDepth 40000 in
set_option maxHeartbeats 2000000 in
theorem named_Han (w : World) : Calls Try.prog 24 #[.string tn_Han] w fun e w' => e = .returned (.tuple #[.slice (some ⟨w.heap.size, 0, none⟩) 1 1, .bool true]) ∧ w' = w.alloc (.cells (rgCells tx_Han).toArray 28) := by
  simp only [rgCells, rgCell, tx_Han, tn_Han, List.flatMap_cons, List.flatMap_nil, List.append_nil, List.cons_append, List.nil_append]
  go_enter Try.func24, Try.ntmps24
  go_wp2_with fail
  go_ret2
  exact ⟨rfl, rfl⟩
set_option maxRecDepth 40000 in
set_option maxHeartbeats 2000000 in
theorem named_no (nm : ByteArray) (w : World) (h0 : nm ≠ tn_Lu) (h1 : nm ≠ tn_Ll) (h2 : nm ≠ tn_L) (h3 : nm ≠ tn_Nd) (h4 : nm ≠ tn_N) (h5 : nm ≠ tn_P) (h6 : nm ≠ tn_S) (h7 : nm ≠ tn_Z) (h8 : nm ≠ tn_Cc) (h9 : nm ≠ tn_Latin) (h10 : nm ≠ tn_Greek) (h11 : nm ≠ tn_Cyrillic) (h12 : nm ≠ tn_Han) : Calls Try.prog 24 #[.string nm] w fun e w' => e = .returned (.tuple #[.slice none 0 0, .bool false]) ∧ w' = w := by
  have q0 : (nm.toList == [76, 117]) = false := beq_eq_false_iff_ne.2 fun h => h0 (toList_inj (by rw [h]; exact (ByteArray.toList_mk _).symm))
  have q1 : (nm.toList == [76, 108]) = false := beq_eq_false_iff_ne.2 fun h => h1 (toList_inj (by rw [h]; exact (ByteArray.toList_mk _).symm))
  have q2 : (nm.toList == [76]) = false := beq_eq_false_iff_ne.2 fun h => h2 (toList_inj (by rw [h]; exact (ByteArray.toList_mk _).symm))
  have q3 : (nm.toList == [78, 100]) = false := beq_eq_false_iff_ne.2 fun h => h3 (toList_inj (by rw [h]; exact (ByteArray.toList_mk _).symm))
  have q4 : (nm.toList == [78]) = false := beq_eq_false_iff_ne.2 fun h => h4 (toList_inj (by rw [h]; exact (ByteArray.toList_mk _).symm))
  have q5 : (nm.toList == [80]) = false := beq_eq_false_iff_ne.2 fun h => h5 (toList_inj (by rw [h]; exact (ByteArray.toList_mk _).symm))
  have q6 : (nm.toList == [83]) = false := beq_eq_false_iff_ne.2 fun h => h6 (toList_inj (by rw [h]; exact (ByteArray.toList_mk _).symm))
  have q7 : (nm.toList == [90]) = false := beq_eq_false_iff_ne.2 fun h => h7 (toList_inj (by rw [h]; exact (ByteArray.toList_mk _).symm))
  have q8 : (nm.toList == [67, 99]) = false := beq_eq_false_iff_ne.2 fun h => h8 (toList_inj (by rw [h]; exact (ByteArray.toList_mk _).symm))
  have q9 : (nm.toList == [76, 97, 116, 105, 110]) = false := beq_eq_false_iff_ne.2 fun h => h9 (toList_inj (by rw [h]; exact (ByteArray.toList_mk _).symm))
  have q10 : (nm.toList == [71, 114, 101, 101, 107]) = false := beq_eq_false_iff_ne.2 fun h => h10 (toList_inj (by rw [h]; exact (ByteArray.toList_mk _).symm))
  have q11 : (nm.toList == [67, 121, 114, 105, 108, 108, 105, 99]) = false := beq_eq_false_iff_ne.2 fun h => h11 (toList_inj (by rw [h]; exact (ByteArray.toList_mk _).symm))
  have q12 : (nm.toList == [72, 97, 110]) = false := beq_eq_false_iff_ne.2 fun h => h12 (toList_inj (by rw [h]; exact (ByteArray.toList_mk _).symm))
  clear h0 h1 h2 h3 h4 h5 h6 h7 h8 h9 h10 h11 h12
  go_enter Try.func24, Try.ntmps24
  go_wp2_with fail
  go_ret2
  exact ⟨rfl, rfl⟩
end Go.Proofs.Ytoglnankopdohaa
