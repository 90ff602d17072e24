/- What Named and the reference's Named tell lies in new memory. -/
import Derived.Test.YtoglnankopdohaaNm2
namespace Go.Proofs.Ytoglnankopdohaa
open Go.RowKit

/-- A set told in new memory. -/
structure OwnT (L : List Rg) (w : World) (B : Option Addr) (m d : Nat) (w' : World) : Prop where
  canon : Canon L
  len : L.length = m
  own : w'.ownsRow w.heap.size 28 2 (.slice B m d) m (rgCells L)
  below : Below w.heap.size w w'
theorem OwnT.rg {L : List Rg} {w : World} {B : Option Addr} {m d : Nat} {w' : World} (h : OwnT L w B m d w') : RgIn w' B m d L := RgIn.of_own h.own h.len (canon_fits h.canon)
theorem OwnT.lit (L : List Rg) (w : World) (hL : Canon L) (h1 : L.length ≤ 1000) : OwnT L w (some ⟨w.heap.size, 0, none⟩) L.length L.length (w.alloc (.cells (rgCells L).toArray 28)) :=
  ⟨hL, rfl, World.ownsRow_lit (base := w.heap.size) (size := 2) (e := 28) w (rgCells L).toArray L.length (Nat.le_refl _) (by unfold maxLen; omega) (by simp [rgCells_length]), (Below.refl _ _).alloc (Nat.le_refl _) _⟩
/-- What Named tells, in new memory. -/
def NmOwn (l : Option (List Rg)) (w : World) (e : Ending) (w' : World) : Prop :=
  match l with
  | some L => L.length ≤ 15 ∧ ∃ B m d, e = .returned (.tuple #[.slice B m d, .bool true]) ∧ OwnT L w B m d w'
  | none => e = .returned (.tuple #[.slice none 0 0, .bool false]) ∧ w' = w

set_option maxRecDepth 40000 in
set_option maxHeartbeats 2000000 in
theorem refOwn_Lu (w : World) : Calls Try.prog 25 #[.string tn_Lu] w fun e w' => ∃ B d, e = .returned (.tuple #[.slice B 6 d, .bool true]) ∧ OwnT tx_Lu w B 6 d w' := by
  have hn := RgIn.newT w 49 tx_Lu (by decide) (canon_fits tx_Lu_ok)
  have hb : Below w.heap.size w (w.alloc (.cells (rgCells tx_Lu).toArray 49)) := (Below.refl _ _).alloc (Nat.le_refl _) _
  have hx := set3_any hn (by decide)
  have hx2 := hx.mono (R' := fun e w' => ∃ B d, e = .returned (.slice B tx_Lu.length d) ∧ OwnT tx_Lu w B tx_Lu.length d w') (fun e w' ⟨B, d, he, ho, hb'⟩ => ⟨B, d, he, tx_Lu_ok, rfl, ownsRow_base ho hb.size, hb.trans (hb'.mono hb.size)⟩)
  clear hn hb hx
  simp only [rgCells, rgCell, show tx_Lu.length = 6 from rfl] at hx2
  simp only [tx_Lu, List.flatMap_cons, List.flatMap_nil, List.append_nil, List.cons_append, List.nil_append] at hx2
  simp only [tn_Lu]
  go_enter Try.func25, Try.ntmps25
  go_wp2_with (go_at_call 58; refine hx2.mono ?_; rintro e w2 ⟨B', d', rfl, hg⟩)
  go_ret2
  exact ⟨_, _, rfl, hg⟩
set_option maxRecDepth 40000 in
set_option maxHeartbeats 2000000 in
theorem refOwn_Ll (w : World) : Calls Try.prog 25 #[.string tn_Ll] w fun e w' => ∃ B d, e = .returned (.tuple #[.slice B 5 d, .bool true]) ∧ OwnT tx_Ll w B 5 d w' := by
  have hn := RgIn.newT w 49 tx_Ll (by decide) (canon_fits tx_Ll_ok)
  have hb : Below w.heap.size w (w.alloc (.cells (rgCells tx_Ll).toArray 49)) := (Below.refl _ _).alloc (Nat.le_refl _) _
  have hx := set3_any hn (by decide)
  have hx2 := hx.mono (R' := fun e w' => ∃ B d, e = .returned (.slice B tx_Ll.length d) ∧ OwnT tx_Ll w B tx_Ll.length d w') (fun e w' ⟨B, d, he, ho, hb'⟩ => ⟨B, d, he, tx_Ll_ok, rfl, ownsRow_base ho hb.size, hb.trans (hb'.mono hb.size)⟩)
  clear hn hb hx
  simp only [rgCells, rgCell, show tx_Ll.length = 5 from rfl] at hx2
  simp only [tx_Ll, List.flatMap_cons, List.flatMap_nil, List.append_nil, List.cons_append, List.nil_append] at hx2
  simp only [tn_Ll]
  go_enter Try.func25, Try.ntmps25
  go_wp2_with (go_at_call 58; refine hx2.mono ?_; rintro e w2 ⟨B', d', rfl, hg⟩)
  go_ret2
  exact ⟨_, _, rfl, hg⟩
set_option maxRecDepth 40000 in
set_option maxHeartbeats 2000000 in
theorem refOwn_L (w : World) : Calls Try.prog 25 #[.string tn_L] w fun e w' => ∃ B d, e = .returned (.tuple #[.slice B 12 d, .bool true]) ∧ OwnT tx_L w B 12 d w' := by
  have hn := RgIn.newT w 49 tx_L (by decide) (canon_fits tx_L_ok)
  have hb : Below w.heap.size w (w.alloc (.cells (rgCells tx_L).toArray 49)) := (Below.refl _ _).alloc (Nat.le_refl _) _
  have hx := set3_any hn (by decide)
  have hx2 := hx.mono (R' := fun e w' => ∃ B d, e = .returned (.slice B tx_L.length d) ∧ OwnT tx_L w B tx_L.length d w') (fun e w' ⟨B, d, he, ho, hb'⟩ => ⟨B, d, he, tx_L_ok, rfl, ownsRow_base ho hb.size, hb.trans (hb'.mono hb.size)⟩)
  clear hn hb hx
  simp only [rgCells, rgCell, show tx_L.length = 12 from rfl] at hx2
  simp only [tx_L, List.flatMap_cons, List.flatMap_nil, List.append_nil, List.cons_append, List.nil_append] at hx2
  simp only [tn_L]
  go_enter Try.func25, Try.ntmps25
  go_wp2_with (go_at_call 58; refine hx2.mono ?_; rintro e w2 ⟨B', d', rfl, hg⟩)
  go_ret2
  exact ⟨_, _, rfl, hg⟩
set_option maxRecDepth 40000 in
set_option maxHeartbeats 2000000 in
theorem refOwn_Nd (w : World) : Calls Try.prog 25 #[.string tn_Nd] w fun e w' => ∃ B d, e = .returned (.tuple #[.slice B 2 d, .bool true]) ∧ OwnT tx_Nd w B 2 d w' := by
  have hn := RgIn.newT w 49 tx_Nd (by decide) (canon_fits tx_Nd_ok)
  have hb : Below w.heap.size w (w.alloc (.cells (rgCells tx_Nd).toArray 49)) := (Below.refl _ _).alloc (Nat.le_refl _) _
  have hx := set3_any hn (by decide)
  have hx2 := hx.mono (R' := fun e w' => ∃ B d, e = .returned (.slice B tx_Nd.length d) ∧ OwnT tx_Nd w B tx_Nd.length d w') (fun e w' ⟨B, d, he, ho, hb'⟩ => ⟨B, d, he, tx_Nd_ok, rfl, ownsRow_base ho hb.size, hb.trans (hb'.mono hb.size)⟩)
  clear hn hb hx
  simp only [rgCells, rgCell, show tx_Nd.length = 2 from rfl] at hx2
  simp only [tx_Nd, List.flatMap_cons, List.flatMap_nil, List.append_nil, List.cons_append, List.nil_append] at hx2
  simp only [tn_Nd]
  go_enter Try.func25, Try.ntmps25
  go_wp2_with (go_at_call 58; refine hx2.mono ?_; rintro e w2 ⟨B', d', rfl, hg⟩)
  go_ret2
  exact ⟨_, _, rfl, hg⟩
set_option maxRecDepth 40000 in
set_option maxHeartbeats 2000000 in
theorem refOwn_N (w : World) : Calls Try.prog 25 #[.string tn_N] w fun e w' => ∃ B d, e = .returned (.tuple #[.slice B 6 d, .bool true]) ∧ OwnT tx_N w B 6 d w' := by
  have hn := RgIn.newT w 49 tx_N (by decide) (canon_fits tx_N_ok)
  have hb : Below w.heap.size w (w.alloc (.cells (rgCells tx_N).toArray 49)) := (Below.refl _ _).alloc (Nat.le_refl _) _
  have hx := set3_any hn (by decide)
  have hx2 := hx.mono (R' := fun e w' => ∃ B d, e = .returned (.slice B tx_N.length d) ∧ OwnT tx_N w B tx_N.length d w') (fun e w' ⟨B, d, he, ho, hb'⟩ => ⟨B, d, he, tx_N_ok, rfl, ownsRow_base ho hb.size, hb.trans (hb'.mono hb.size)⟩)
  clear hn hb hx
  simp only [rgCells, rgCell, show tx_N.length = 6 from rfl] at hx2
  simp only [tx_N, List.flatMap_cons, List.flatMap_nil, List.append_nil, List.cons_append, List.nil_append] at hx2
  simp only [tn_N]
  go_enter Try.func25, Try.ntmps25
  go_wp2_with (go_at_call 58; refine hx2.mono ?_; rintro e w2 ⟨B', d', rfl, hg⟩)
  go_ret2
  exact ⟨_, _, rfl, hg⟩
set_option maxRecDepth 40000 in
set_option maxHeartbeats 2000000 in
theorem refOwn_P (w : World) : Calls Try.prog 25 #[.string tn_P] w fun e w' => ∃ B d, e = .returned (.tuple #[.slice B 15 d, .bool true]) ∧ OwnT tx_P w B 15 d w' := by
  have hn := RgIn.newT w 49 tx_P (by decide) (canon_fits tx_P_ok)
  have hb : Below w.heap.size w (w.alloc (.cells (rgCells tx_P).toArray 49)) := (Below.refl _ _).alloc (Nat.le_refl _) _
  have hx := set3_any hn (by decide)
  have hx2 := hx.mono (R' := fun e w' => ∃ B d, e = .returned (.slice B tx_P.length d) ∧ OwnT tx_P w B tx_P.length d w') (fun e w' ⟨B, d, he, ho, hb'⟩ => ⟨B, d, he, tx_P_ok, rfl, ownsRow_base ho hb.size, hb.trans (hb'.mono hb.size)⟩)
  clear hn hb hx
  simp only [rgCells, rgCell, show tx_P.length = 15 from rfl] at hx2
  simp only [tx_P, List.flatMap_cons, List.flatMap_nil, List.append_nil, List.cons_append, List.nil_append] at hx2
  simp only [tn_P]
  go_enter Try.func25, Try.ntmps25
  go_wp2_with (go_at_call 58; refine hx2.mono ?_; rintro e w2 ⟨B', d', rfl, hg⟩)
  go_ret2
  exact ⟨_, _, rfl, hg⟩
set_option maxRecDepth 40000 in
set_option maxHeartbeats 2000000 in
theorem refOwn_S (w : World) : Calls Try.prog 25 #[.string tn_S] w fun e w' => ∃ B d, e = .returned (.tuple #[.slice B 15 d, .bool true]) ∧ OwnT tx_S w B 15 d w' := by
  have hn := RgIn.newT w 49 tx_S (by decide) (canon_fits tx_S_ok)
  have hb : Below w.heap.size w (w.alloc (.cells (rgCells tx_S).toArray 49)) := (Below.refl _ _).alloc (Nat.le_refl _) _
  have hx := set3_any hn (by decide)
  have hx2 := hx.mono (R' := fun e w' => ∃ B d, e = .returned (.slice B tx_S.length d) ∧ OwnT tx_S w B tx_S.length d w') (fun e w' ⟨B, d, he, ho, hb'⟩ => ⟨B, d, he, tx_S_ok, rfl, ownsRow_base ho hb.size, hb.trans (hb'.mono hb.size)⟩)
  clear hn hb hx
  simp only [rgCells, rgCell, show tx_S.length = 15 from rfl] at hx2
  simp only [tx_S, List.flatMap_cons, List.flatMap_nil, List.append_nil, List.cons_append, List.nil_append] at hx2
  simp only [tn_S]
  go_enter Try.func25, Try.ntmps25
  go_wp2_with (go_at_call 58; refine hx2.mono ?_; rintro e w2 ⟨B', d', rfl, hg⟩)
  go_ret2
  exact ⟨_, _, rfl, hg⟩
set_option maxRecDepth 40000 in
set_option maxHeartbeats 2000000 in
theorem refOwn_Z (w : World) : Calls Try.prog 25 #[.string tn_Z] w fun e w' => ∃ B d, e = .returned (.tuple #[.slice B 6 d, .bool true]) ∧ OwnT tx_Z w B 6 d w' := by
  have hn := RgIn.newT w 49 tx_Z (by decide) (canon_fits tx_Z_ok)
  have hb : Below w.heap.size w (w.alloc (.cells (rgCells tx_Z).toArray 49)) := (Below.refl _ _).alloc (Nat.le_refl _) _
  have hx := set3_any hn (by decide)
  have hx2 := hx.mono (R' := fun e w' => ∃ B d, e = .returned (.slice B tx_Z.length d) ∧ OwnT tx_Z w B tx_Z.length d w') (fun e w' ⟨B, d, he, ho, hb'⟩ => ⟨B, d, he, tx_Z_ok, rfl, ownsRow_base ho hb.size, hb.trans (hb'.mono hb.size)⟩)
  clear hn hb hx
  simp only [rgCells, rgCell, show tx_Z.length = 6 from rfl] at hx2
  simp only [tx_Z, List.flatMap_cons, List.flatMap_nil, List.append_nil, List.cons_append, List.nil_append] at hx2
  simp only [tn_Z]
  go_enter Try.func25, Try.ntmps25
  go_wp2_with (go_at_call 58; refine hx2.mono ?_; rintro e w2 ⟨B', d', rfl, hg⟩)
  go_ret2
  exact ⟨_, _, rfl, hg⟩
set_option maxRecDepth 40000 in
set_option maxHeartbeats 2000000 in
theorem refOwn_Cc (w : World) : Calls Try.prog 25 #[.string tn_Cc] w fun e w' => ∃ B d, e = .returned (.tuple #[.slice B 2 d, .bool true]) ∧ OwnT tx_Cc w B 2 d w' := by
  have hn := RgIn.newT w 49 tx_Cc (by decide) (canon_fits tx_Cc_ok)
  have hb : Below w.heap.size w (w.alloc (.cells (rgCells tx_Cc).toArray 49)) := (Below.refl _ _).alloc (Nat.le_refl _) _
  have hx := set3_any hn (by decide)
  have hx2 := hx.mono (R' := fun e w' => ∃ B d, e = .returned (.slice B tx_Cc.length d) ∧ OwnT tx_Cc w B tx_Cc.length d w') (fun e w' ⟨B, d, he, ho, hb'⟩ => ⟨B, d, he, tx_Cc_ok, rfl, ownsRow_base ho hb.size, hb.trans (hb'.mono hb.size)⟩)
  clear hn hb hx
  simp only [rgCells, rgCell, show tx_Cc.length = 2 from rfl] at hx2
  simp only [tx_Cc, List.flatMap_cons, List.flatMap_nil, List.append_nil, List.cons_append, List.nil_append] at hx2
  simp only [tn_Cc]
  go_enter Try.func25, Try.ntmps25
  go_wp2_with (go_at_call 58; refine hx2.mono ?_; rintro e w2 ⟨B', d', rfl, hg⟩)
  go_ret2
  exact ⟨_, _, rfl, hg⟩
set_option maxRecDepth 40000 in
set_option maxHeartbeats 2000000 in
theorem refOwn_Latin (w : World) : Calls Try.prog 25 #[.string tn_Latin] w fun e w' => ∃ B d, e = .returned (.tuple #[.slice B 8 d, .bool true]) ∧ OwnT tx_Latin w B 8 d w' := by
  have hn := RgIn.newT w 49 tx_Latin (by decide) (canon_fits tx_Latin_ok)
  have hb : Below w.heap.size w (w.alloc (.cells (rgCells tx_Latin).toArray 49)) := (Below.refl _ _).alloc (Nat.le_refl _) _
  have hx := set3_any hn (by decide)
  have hx2 := hx.mono (R' := fun e w' => ∃ B d, e = .returned (.slice B tx_Latin.length d) ∧ OwnT tx_Latin w B tx_Latin.length d w') (fun e w' ⟨B, d, he, ho, hb'⟩ => ⟨B, d, he, tx_Latin_ok, rfl, ownsRow_base ho hb.size, hb.trans (hb'.mono hb.size)⟩)
  clear hn hb hx
  simp only [rgCells, rgCell, show tx_Latin.length = 8 from rfl] at hx2
  simp only [tx_Latin, List.flatMap_cons, List.flatMap_nil, List.append_nil, List.cons_append, List.nil_append] at hx2
  simp only [tn_Latin]
  go_enter Try.func25, Try.ntmps25
  go_wp2_with (go_at_call 58; refine hx2.mono ?_; rintro e w2 ⟨B', d', rfl, hg⟩)
  go_ret2
  exact ⟨_, _, rfl, hg⟩
set_option maxRecDepth 40000 in
set_option maxHeartbeats 2000000 in
theorem refOwn_Greek (w : World) : Calls Try.prog 25 #[.string tn_Greek] w fun e w' => ∃ B d, e = .returned (.tuple #[.slice B 10 d, .bool true]) ∧ OwnT tx_Greek w B 10 d w' := by
  have hn := RgIn.newT w 49 tx_Greek (by decide) (canon_fits tx_Greek_ok)
  have hb : Below w.heap.size w (w.alloc (.cells (rgCells tx_Greek).toArray 49)) := (Below.refl _ _).alloc (Nat.le_refl _) _
  have hx := set3_any hn (by decide)
  have hx2 := hx.mono (R' := fun e w' => ∃ B d, e = .returned (.slice B tx_Greek.length d) ∧ OwnT tx_Greek w B tx_Greek.length d w') (fun e w' ⟨B, d, he, ho, hb'⟩ => ⟨B, d, he, tx_Greek_ok, rfl, ownsRow_base ho hb.size, hb.trans (hb'.mono hb.size)⟩)
  clear hn hb hx
  simp only [rgCells, rgCell, show tx_Greek.length = 10 from rfl] at hx2
  simp only [tx_Greek, List.flatMap_cons, List.flatMap_nil, List.append_nil, List.cons_append, List.nil_append] at hx2
  simp only [tn_Greek]
  go_enter Try.func25, Try.ntmps25
  go_wp2_with (go_at_call 58; refine hx2.mono ?_; rintro e w2 ⟨B', d', rfl, hg⟩)
  go_ret2
  exact ⟨_, _, rfl, hg⟩
set_option maxRecDepth 40000 in
set_option maxHeartbeats 2000000 in
theorem refOwn_Cyrillic (w : World) : Calls Try.prog 25 #[.string tn_Cyrillic] w fun e w' => ∃ B d, e = .returned (.tuple #[.slice B 2 d, .bool true]) ∧ OwnT tx_Cyrillic w B 2 d w' := by
  have hn := RgIn.newT w 49 tx_Cyrillic (by decide) (canon_fits tx_Cyrillic_ok)
  have hb : Below w.heap.size w (w.alloc (.cells (rgCells tx_Cyrillic).toArray 49)) := (Below.refl _ _).alloc (Nat.le_refl _) _
  have hx := set3_any hn (by decide)
  have hx2 := hx.mono (R' := fun e w' => ∃ B d, e = .returned (.slice B tx_Cyrillic.length d) ∧ OwnT tx_Cyrillic w B tx_Cyrillic.length d w') (fun e w' ⟨B, d, he, ho, hb'⟩ => ⟨B, d, he, tx_Cyrillic_ok, rfl, ownsRow_base ho hb.size, hb.trans (hb'.mono hb.size)⟩)
  clear hn hb hx
  simp only [rgCells, rgCell, show tx_Cyrillic.length = 2 from rfl] at hx2
  simp only [tx_Cyrillic, List.flatMap_cons, List.flatMap_nil, List.append_nil, List.cons_append, List.nil_append] at hx2
  simp only [tn_Cyrillic]
  go_enter Try.func25, Try.ntmps25
  go_wp2_with (go_at_call 58; refine hx2.mono ?_; rintro e w2 ⟨B', d', rfl, hg⟩)
  go_ret2
  exact ⟨_, _, rfl, hg⟩
set_option maxRecDepth 40000 in
set_option maxHeartbeats 2000000 in
theorem refOwn_Han (w : World) : Calls Try.prog 25 #[.string tn_Han] w fun e w' => ∃ B d, e = .returned (.tuple #[.slice B 1 d, .bool true]) ∧ OwnT tx_Han w B 1 d w' := by
  have hn := RgIn.newT w 49 tx_Han (by decide) (canon_fits tx_Han_ok)
  have hb : Below w.heap.size w (w.alloc (.cells (rgCells tx_Han).toArray 49)) := (Below.refl _ _).alloc (Nat.le_refl _) _
  have hx := set3_any hn (by decide)
  have hx2 := hx.mono (R' := fun e w' => ∃ B d, e = .returned (.slice B tx_Han.length d) ∧ OwnT tx_Han w B tx_Han.length d w') (fun e w' ⟨B, d, he, ho, hb'⟩ => ⟨B, d, he, tx_Han_ok, rfl, ownsRow_base ho hb.size, hb.trans (hb'.mono hb.size)⟩)
  clear hn hb hx
  simp only [rgCells, rgCell, show tx_Han.length = 1 from rfl] at hx2
  simp only [tx_Han, List.flatMap_cons, List.flatMap_nil, List.append_nil, List.cons_append, List.nil_append] at hx2
  simp only [tn_Han]
  go_enter Try.func25, Try.ntmps25
  go_wp2_with (go_at_call 58; refine hx2.mono ?_; rintro e w2 ⟨B', d', rfl, hg⟩)
  go_ret2
  exact ⟨_, _, rfl, hg⟩
theorem namedOwn_any (nm : ByteArray) (w : World) : Calls Try.prog 24 #[.string nm] w fun e w' => NmOwn (txOf nm) w e w' := by
  by_cases h0 : nm = tn_Lu
  · rw [show txOf nm = some tx_Lu by unfold txOf; rw [if_pos h0], h0]; exact (named_Lu w).mono fun e w' ⟨he, hw⟩ => ⟨by decide, _, _, _, he, by rw [hw]; exact OwnT.lit tx_Lu w tx_Lu_ok (by decide)⟩
  by_cases h1 : nm = tn_Ll
  · rw [show txOf nm = some tx_Ll by unfold txOf; rw [if_neg h0, if_pos h1], h1]; exact (named_Ll w).mono fun e w' ⟨he, hw⟩ => ⟨by decide, _, _, _, he, by rw [hw]; exact OwnT.lit tx_Ll w tx_Ll_ok (by decide)⟩
  by_cases h2 : nm = tn_L
  · rw [show txOf nm = some tx_L by unfold txOf; rw [if_neg h0, if_neg h1, if_pos h2], h2]; exact (named_L w).mono fun e w' ⟨he, hw⟩ => ⟨by decide, _, _, _, he, by rw [hw]; exact OwnT.lit tx_L w tx_L_ok (by decide)⟩
  by_cases h3 : nm = tn_Nd
  · rw [show txOf nm = some tx_Nd by unfold txOf; rw [if_neg h0, if_neg h1, if_neg h2, if_pos h3], h3]; exact (named_Nd w).mono fun e w' ⟨he, hw⟩ => ⟨by decide, _, _, _, he, by rw [hw]; exact OwnT.lit tx_Nd w tx_Nd_ok (by decide)⟩
  by_cases h4 : nm = tn_N
  · rw [show txOf nm = some tx_N by unfold txOf; rw [if_neg h0, if_neg h1, if_neg h2, if_neg h3, if_pos h4], h4]; exact (named_N w).mono fun e w' ⟨he, hw⟩ => ⟨by decide, _, _, _, he, by rw [hw]; exact OwnT.lit tx_N w tx_N_ok (by decide)⟩
  by_cases h5 : nm = tn_P
  · rw [show txOf nm = some tx_P by unfold txOf; rw [if_neg h0, if_neg h1, if_neg h2, if_neg h3, if_neg h4, if_pos h5], h5]; exact (named_P w).mono fun e w' ⟨he, hw⟩ => ⟨by decide, _, _, _, he, by rw [hw]; exact OwnT.lit tx_P w tx_P_ok (by decide)⟩
  by_cases h6 : nm = tn_S
  · rw [show txOf nm = some tx_S by unfold txOf; rw [if_neg h0, if_neg h1, if_neg h2, if_neg h3, if_neg h4, if_neg h5, if_pos h6], h6]; exact (named_S w).mono fun e w' ⟨he, hw⟩ => ⟨by decide, _, _, _, he, by rw [hw]; exact OwnT.lit tx_S w tx_S_ok (by decide)⟩
  by_cases h7 : nm = tn_Z
  · rw [show txOf nm = some tx_Z by unfold txOf; rw [if_neg h0, if_neg h1, if_neg h2, if_neg h3, if_neg h4, if_neg h5, if_neg h6, if_pos h7], h7]; exact (named_Z w).mono fun e w' ⟨he, hw⟩ => ⟨by decide, _, _, _, he, by rw [hw]; exact OwnT.lit tx_Z w tx_Z_ok (by decide)⟩
  by_cases h8 : nm = tn_Cc
  · rw [show txOf nm = some tx_Cc by unfold txOf; rw [if_neg h0, if_neg h1, if_neg h2, if_neg h3, if_neg h4, if_neg h5, if_neg h6, if_neg h7, if_pos h8], h8]; exact (named_Cc w).mono fun e w' ⟨he, hw⟩ => ⟨by decide, _, _, _, he, by rw [hw]; exact OwnT.lit tx_Cc w tx_Cc_ok (by decide)⟩
  by_cases h9 : nm = tn_Latin
  · rw [show txOf nm = some tx_Latin by unfold txOf; rw [if_neg h0, if_neg h1, if_neg h2, if_neg h3, if_neg h4, if_neg h5, if_neg h6, if_neg h7, if_neg h8, if_pos h9], h9]; exact (named_Latin w).mono fun e w' ⟨he, hw⟩ => ⟨by decide, _, _, _, he, by rw [hw]; exact OwnT.lit tx_Latin w tx_Latin_ok (by decide)⟩
  by_cases h10 : nm = tn_Greek
  · rw [show txOf nm = some tx_Greek by unfold txOf; rw [if_neg h0, if_neg h1, if_neg h2, if_neg h3, if_neg h4, if_neg h5, if_neg h6, if_neg h7, if_neg h8, if_neg h9, if_pos h10], h10]; exact (named_Greek w).mono fun e w' ⟨he, hw⟩ => ⟨by decide, _, _, _, he, by rw [hw]; exact OwnT.lit tx_Greek w tx_Greek_ok (by decide)⟩
  by_cases h11 : nm = tn_Cyrillic
  · rw [show txOf nm = some tx_Cyrillic by unfold txOf; rw [if_neg h0, if_neg h1, if_neg h2, if_neg h3, if_neg h4, if_neg h5, if_neg h6, if_neg h7, if_neg h8, if_neg h9, if_neg h10, if_pos h11], h11]; exact (named_Cyrillic w).mono fun e w' ⟨he, hw⟩ => ⟨by decide, _, _, _, he, by rw [hw]; exact OwnT.lit tx_Cyrillic w tx_Cyrillic_ok (by decide)⟩
  by_cases h12 : nm = tn_Han
  · rw [show txOf nm = some tx_Han by unfold txOf; rw [if_neg h0, if_neg h1, if_neg h2, if_neg h3, if_neg h4, if_neg h5, if_neg h6, if_neg h7, if_neg h8, if_neg h9, if_neg h10, if_neg h11, if_pos h12], h12]; exact (named_Han w).mono fun e w' ⟨he, hw⟩ => ⟨by decide, _, _, _, he, by rw [hw]; exact OwnT.lit tx_Han w tx_Han_ok (by decide)⟩
  rw [show txOf nm = none by unfold txOf; rw [if_neg h0, if_neg h1, if_neg h2, if_neg h3, if_neg h4, if_neg h5, if_neg h6, if_neg h7, if_neg h8, if_neg h9, if_neg h10, if_neg h11, if_neg h12]]
  exact named_no nm w h0 h1 h2 h3 h4 h5 h6 h7 h8 h9 h10 h11 h12
theorem refOwn_any (nm : ByteArray) (w : World) : Calls Try.prog 25 #[.string nm] w fun e w' => NmOwn (txOf nm) w e w' := by
  by_cases h0 : nm = tn_Lu
  · rw [show txOf nm = some tx_Lu by unfold txOf; rw [if_pos h0], h0]; exact (refOwn_Lu w).mono fun e w' ⟨B, d, he, ht⟩ => ⟨by decide, B, _, d, he, ht⟩
  by_cases h1 : nm = tn_Ll
  · rw [show txOf nm = some tx_Ll by unfold txOf; rw [if_neg h0, if_pos h1], h1]; exact (refOwn_Ll w).mono fun e w' ⟨B, d, he, ht⟩ => ⟨by decide, B, _, d, he, ht⟩
  by_cases h2 : nm = tn_L
  · rw [show txOf nm = some tx_L by unfold txOf; rw [if_neg h0, if_neg h1, if_pos h2], h2]; exact (refOwn_L w).mono fun e w' ⟨B, d, he, ht⟩ => ⟨by decide, B, _, d, he, ht⟩
  by_cases h3 : nm = tn_Nd
  · rw [show txOf nm = some tx_Nd by unfold txOf; rw [if_neg h0, if_neg h1, if_neg h2, if_pos h3], h3]; exact (refOwn_Nd w).mono fun e w' ⟨B, d, he, ht⟩ => ⟨by decide, B, _, d, he, ht⟩
  by_cases h4 : nm = tn_N
  · rw [show txOf nm = some tx_N by unfold txOf; rw [if_neg h0, if_neg h1, if_neg h2, if_neg h3, if_pos h4], h4]; exact (refOwn_N w).mono fun e w' ⟨B, d, he, ht⟩ => ⟨by decide, B, _, d, he, ht⟩
  by_cases h5 : nm = tn_P
  · rw [show txOf nm = some tx_P by unfold txOf; rw [if_neg h0, if_neg h1, if_neg h2, if_neg h3, if_neg h4, if_pos h5], h5]; exact (refOwn_P w).mono fun e w' ⟨B, d, he, ht⟩ => ⟨by decide, B, _, d, he, ht⟩
  by_cases h6 : nm = tn_S
  · rw [show txOf nm = some tx_S by unfold txOf; rw [if_neg h0, if_neg h1, if_neg h2, if_neg h3, if_neg h4, if_neg h5, if_pos h6], h6]; exact (refOwn_S w).mono fun e w' ⟨B, d, he, ht⟩ => ⟨by decide, B, _, d, he, ht⟩
  by_cases h7 : nm = tn_Z
  · rw [show txOf nm = some tx_Z by unfold txOf; rw [if_neg h0, if_neg h1, if_neg h2, if_neg h3, if_neg h4, if_neg h5, if_neg h6, if_pos h7], h7]; exact (refOwn_Z w).mono fun e w' ⟨B, d, he, ht⟩ => ⟨by decide, B, _, d, he, ht⟩
  by_cases h8 : nm = tn_Cc
  · rw [show txOf nm = some tx_Cc by unfold txOf; rw [if_neg h0, if_neg h1, if_neg h2, if_neg h3, if_neg h4, if_neg h5, if_neg h6, if_neg h7, if_pos h8], h8]; exact (refOwn_Cc w).mono fun e w' ⟨B, d, he, ht⟩ => ⟨by decide, B, _, d, he, ht⟩
  by_cases h9 : nm = tn_Latin
  · rw [show txOf nm = some tx_Latin by unfold txOf; rw [if_neg h0, if_neg h1, if_neg h2, if_neg h3, if_neg h4, if_neg h5, if_neg h6, if_neg h7, if_neg h8, if_pos h9], h9]; exact (refOwn_Latin w).mono fun e w' ⟨B, d, he, ht⟩ => ⟨by decide, B, _, d, he, ht⟩
  by_cases h10 : nm = tn_Greek
  · rw [show txOf nm = some tx_Greek by unfold txOf; rw [if_neg h0, if_neg h1, if_neg h2, if_neg h3, if_neg h4, if_neg h5, if_neg h6, if_neg h7, if_neg h8, if_neg h9, if_pos h10], h10]; exact (refOwn_Greek w).mono fun e w' ⟨B, d, he, ht⟩ => ⟨by decide, B, _, d, he, ht⟩
  by_cases h11 : nm = tn_Cyrillic
  · rw [show txOf nm = some tx_Cyrillic by unfold txOf; rw [if_neg h0, if_neg h1, if_neg h2, if_neg h3, if_neg h4, if_neg h5, if_neg h6, if_neg h7, if_neg h8, if_neg h9, if_neg h10, if_pos h11], h11]; exact (refOwn_Cyrillic w).mono fun e w' ⟨B, d, he, ht⟩ => ⟨by decide, B, _, d, he, ht⟩
  by_cases h12 : nm = tn_Han
  · rw [show txOf nm = some tx_Han by unfold txOf; rw [if_neg h0, if_neg h1, if_neg h2, if_neg h3, if_neg h4, if_neg h5, if_neg h6, if_neg h7, if_neg h8, if_neg h9, if_neg h10, if_neg h11, if_pos h12], h12]; exact (refOwn_Han w).mono fun e w' ⟨B, d, he, ht⟩ => ⟨by decide, B, _, d, he, ht⟩
  rw [show txOf nm = none by unfold txOf; rw [if_neg h0, if_neg h1, if_neg h2, if_neg h3, if_neg h4, if_neg h5, if_neg h6, if_neg h7, if_neg h8, if_neg h9, if_neg h10, if_neg h11, if_neg h12]]
  exact refNamed_no nm w h0 h1 h2 h3 h4 h5 h6 h7 h8 h9 h10 h11 h12
end Go.Proofs.Ytoglnankopdohaa
