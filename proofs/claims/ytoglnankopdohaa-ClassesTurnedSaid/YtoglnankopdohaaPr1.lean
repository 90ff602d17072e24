/- Property and the reference's; ClassesProperty: the walk. -/
import Derived.Test.YtoglnankopdohaaCl6
import Derived.Test.YtoglnankopdohaaNm2
namespace Go.Proofs.Ytoglnankopdohaa
open Go.RowKit

def nm_Any : ByteArray := ⟨#[65, 110, 121]⟩
def allL : List Rg := [(0, 1114111)]
theorem allL_ok : Canon allL := canonB (by decide) (by decide)
theorem mem_all (c : Int) (h0 : 0 ≤ c) (h1 : c ≤ maxR) : mem allL c := by
  simp only [allL, mem_cons, mem_nil, or_false]
  unfold maxR at *; omega
open Classical in
noncomputable def prOf (nm : ByteArray) : Option (List Rg) := if nm = nm_Any then some allL else txOf nm
theorem txOf_Any : txOf nm_Any = none := by
  unfold txOf
  simp [nm_Any, tn_Lu, tn_Ll, tn_L, tn_Nd, tn_N, tn_P, tn_S, tn_Z, tn_Cc, tn_Latin, tn_Greek, tn_Cyrillic, tn_Han]
theorem told_cong {nt : Bool} {l l' : List Rg} {w : World} {B : Option Addr} {m d : Nat} {s : List Rg} {w' : World} (h : Told nt l w B m d s w') (hl : ∀ c, 0 ≤ c → c ≤ maxR → (mem l c ↔ mem l' c)) : Told nt l' w B m d s w' :=
  ⟨h.set.cong (fun c a b => by unfold TP; rw [hl c a b]), h.rg, h.below⟩
theorem got_all {w : World} {B : Option Addr} {m d : Nat} {s : List Rg} {w' : World} (h : Got (fun x => ¬ mem [] x) w B m d s w') : ∀ c, 0 ≤ c → c ≤ maxR → (mem s c ↔ mem allL c) := fun c a b =>
  ⟨fun _ => mem_all c a b, fun _ => (h.set.mem c).2 ⟨a, b, by simp [mem_nil]⟩⟩
theorem notb (a b : Bool) : (a != b) = (a ^^ b) := by cases a <;> cases b <;> rfl

set_option maxRecDepth 20000 in
set_option maxHeartbeats 2000000 in
theorem property_any_ff (s : ByteArray) (w : World) (hs : notOf s = false) : Calls Try.prog 51 #[.string s, .bool false] w fun e w' => PxTold (prOf (nameOf s)) false w e w' := by
  have hc := cut_any s w
  rw [hs] at hc
  clear hs
  by_cases ha : nameOf s = nm_Any
  · rw [show prOf (nameOf s) = some allL by unfold prOf; rw [if_pos ha]]
    rw [ha] at hc
    clear ha
    have hx := dot_any w true
    simp only [PxTold]
    simp only [nm_Any] at hc
    rw [if_pos rfl] at hx
    go_enter Try.func51, Try.ntmps51
    go_wp2_with (go_at_call 76; refine hc.mono ?_; rintro e w2 ⟨rfl, rfl⟩)
    refine hx.mono ?_
    rintro e w2 ⟨B, m, d, s1, rfl, hg⟩
    have hy := turned_any false hg.rg (by rw [← hg.len]; have := hg.small; omega) hg.set.canon
    have hm := Lib.hid (got_all hg)
    have hb := Lib.hid hg.below
    clear hg hx
    go_wp2_with fail
    refine hy.mono ?_
    rintro e w3 ⟨B', m', d', s', rfl, hg⟩
    clear hy
    go_wp2_with fail
    go_ret2
    exact ⟨_, _, _, _, rfl, told_cong (hg.on hb.out) hm.out⟩
  · have q : ((nameOf s).toList == [65, 110, 121]) = false := beq_eq_false_iff_ne.2 fun h => ha (toList_inj (by rw [h]; exact (ByteArray.toList_mk _).symm))
    rw [show prOf (nameOf s) = txOf (nameOf s) by unfold prOf; rw [if_neg ha]]
    clear ha
    have hx := named_any (nameOf s) w
    generalize nameOf s = nm at hx hc q ⊢
    generalize txOf nm = L at hx ⊢
    cases L with
    | none =>
      simp only [PxTold, NmTold] at hx ⊢
      have hy := turned_no w (.slice none 0 0) false none 0 0 rfl
      go_enter Try.func51, Try.ntmps51
      go_wp2_with (go_at_call 76; refine hc.mono ?_; rintro e w2 ⟨rfl, rfl⟩)
      refine hx.mono ?_
      rintro e w2 ⟨rfl, hw⟩
      rw [hw]
      clear hw hx
      go_wp2_with fail
      refine hy.mono ?_
      rintro e w3 ⟨rfl, hb⟩
      go_wp2_with fail
      go_ret2
      exact ⟨rfl, hb⟩
    | some L =>
      simp only [PxTold, NmTold] at hx ⊢
      go_enter Try.func51, Try.ntmps51
      go_wp2_with (go_at_call 76; refine hc.mono ?_; rintro e w2 ⟨rfl, rfl⟩)
      refine hx.mono ?_
      rintro e w2 ⟨hL, B, m, d, rfl, hg⟩
      have hy := turned_any false hg.rg (by have := hg.small; omega) hL
      have hb := Lib.hid hg.below
      clear hg hx
      go_wp2_with fail
      refine hy.mono ?_
      rintro e w3 ⟨B', m', d', s', rfl, hg⟩
      clear hy
      go_wp2_with fail
      go_ret2
      exact ⟨_, _, _, _, rfl, hg.on hb.out⟩
set_option maxRecDepth 20000 in
set_option maxHeartbeats 2000000 in
theorem property_any_ft (s : ByteArray) (w : World) (hs : notOf s = false) : Calls Try.prog 51 #[.string s, .bool true] w fun e w' => PxTold (prOf (nameOf s)) true w e w' := by
  have hc := cut_any s w
  rw [hs] at hc
  clear hs
  by_cases ha : nameOf s = nm_Any
  · rw [show prOf (nameOf s) = some allL by unfold prOf; rw [if_pos ha]]
    rw [ha] at hc
    clear ha
    have hx := dot_any w true
    simp only [PxTold]
    simp only [nm_Any] at hc
    rw [if_pos rfl] at hx
    go_enter Try.func51, Try.ntmps51
    go_wp2_with (go_at_call 76; refine hc.mono ?_; rintro e w2 ⟨rfl, rfl⟩)
    refine hx.mono ?_
    rintro e w2 ⟨B, m, d, s1, rfl, hg⟩
    have hy := turned_any true hg.rg (by rw [← hg.len]; have := hg.small; omega) hg.set.canon
    have hm := Lib.hid (got_all hg)
    have hb := Lib.hid hg.below
    clear hg hx
    go_wp2_with fail
    refine hy.mono ?_
    rintro e w3 ⟨B', m', d', s', rfl, hg⟩
    clear hy
    go_wp2_with fail
    go_ret2
    exact ⟨_, _, _, _, rfl, told_cong (hg.on hb.out) hm.out⟩
  · have q : ((nameOf s).toList == [65, 110, 121]) = false := beq_eq_false_iff_ne.2 fun h => ha (toList_inj (by rw [h]; exact (ByteArray.toList_mk _).symm))
    rw [show prOf (nameOf s) = txOf (nameOf s) by unfold prOf; rw [if_neg ha]]
    clear ha
    have hx := named_any (nameOf s) w
    generalize nameOf s = nm at hx hc q ⊢
    generalize txOf nm = L at hx ⊢
    cases L with
    | none =>
      simp only [PxTold, NmTold] at hx ⊢
      have hy := turned_no w (.slice none 0 0) true none 0 0 rfl
      go_enter Try.func51, Try.ntmps51
      go_wp2_with (go_at_call 76; refine hc.mono ?_; rintro e w2 ⟨rfl, rfl⟩)
      refine hx.mono ?_
      rintro e w2 ⟨rfl, hw⟩
      rw [hw]
      clear hw hx
      go_wp2_with fail
      refine hy.mono ?_
      rintro e w3 ⟨rfl, hb⟩
      go_wp2_with fail
      go_ret2
      exact ⟨rfl, hb⟩
    | some L =>
      simp only [PxTold, NmTold] at hx ⊢
      go_enter Try.func51, Try.ntmps51
      go_wp2_with (go_at_call 76; refine hc.mono ?_; rintro e w2 ⟨rfl, rfl⟩)
      refine hx.mono ?_
      rintro e w2 ⟨hL, B, m, d, rfl, hg⟩
      have hy := turned_any true hg.rg (by have := hg.small; omega) hL
      have hb := Lib.hid hg.below
      clear hg hx
      go_wp2_with fail
      refine hy.mono ?_
      rintro e w3 ⟨B', m', d', s', rfl, hg⟩
      clear hy
      go_wp2_with fail
      go_ret2
      exact ⟨_, _, _, _, rfl, hg.on hb.out⟩
set_option maxRecDepth 20000 in
set_option maxHeartbeats 2000000 in
theorem property_any_tf (s : ByteArray) (w : World) (hs : notOf s = true) : Calls Try.prog 51 #[.string s, .bool false] w fun e w' => PxTold (prOf (nameOf s)) true w e w' := by
  have hc := cut_any s w
  rw [hs] at hc
  clear hs
  by_cases ha : nameOf s = nm_Any
  · rw [show prOf (nameOf s) = some allL by unfold prOf; rw [if_pos ha]]
    rw [ha] at hc
    clear ha
    have hx := dot_any w true
    simp only [PxTold]
    simp only [nm_Any] at hc
    rw [if_pos rfl] at hx
    go_enter Try.func51, Try.ntmps51
    go_wp2_with (go_at_call 76; refine hc.mono ?_; rintro e w2 ⟨rfl, rfl⟩)
    refine hx.mono ?_
    rintro e w2 ⟨B, m, d, s1, rfl, hg⟩
    have hy := turned_any true hg.rg (by rw [← hg.len]; have := hg.small; omega) hg.set.canon
    have hm := Lib.hid (got_all hg)
    have hb := Lib.hid hg.below
    clear hg hx
    go_wp2_with fail
    refine hy.mono ?_
    rintro e w3 ⟨B', m', d', s', rfl, hg⟩
    clear hy
    go_wp2_with fail
    go_ret2
    exact ⟨_, _, _, _, rfl, told_cong (hg.on hb.out) hm.out⟩
  · have q : ((nameOf s).toList == [65, 110, 121]) = false := beq_eq_false_iff_ne.2 fun h => ha (toList_inj (by rw [h]; exact (ByteArray.toList_mk _).symm))
    rw [show prOf (nameOf s) = txOf (nameOf s) by unfold prOf; rw [if_neg ha]]
    clear ha
    have hx := named_any (nameOf s) w
    generalize nameOf s = nm at hx hc q ⊢
    generalize txOf nm = L at hx ⊢
    cases L with
    | none =>
      simp only [PxTold, NmTold] at hx ⊢
      have hy := turned_no w (.slice none 0 0) true none 0 0 rfl
      go_enter Try.func51, Try.ntmps51
      go_wp2_with (go_at_call 76; refine hc.mono ?_; rintro e w2 ⟨rfl, rfl⟩)
      refine hx.mono ?_
      rintro e w2 ⟨rfl, hw⟩
      rw [hw]
      clear hw hx
      go_wp2_with fail
      refine hy.mono ?_
      rintro e w3 ⟨rfl, hb⟩
      go_wp2_with fail
      go_ret2
      exact ⟨rfl, hb⟩
    | some L =>
      simp only [PxTold, NmTold] at hx ⊢
      go_enter Try.func51, Try.ntmps51
      go_wp2_with (go_at_call 76; refine hc.mono ?_; rintro e w2 ⟨rfl, rfl⟩)
      refine hx.mono ?_
      rintro e w2 ⟨hL, B, m, d, rfl, hg⟩
      have hy := turned_any true hg.rg (by have := hg.small; omega) hL
      have hb := Lib.hid hg.below
      clear hg hx
      go_wp2_with fail
      refine hy.mono ?_
      rintro e w3 ⟨B', m', d', s', rfl, hg⟩
      clear hy
      go_wp2_with fail
      go_ret2
      exact ⟨_, _, _, _, rfl, hg.on hb.out⟩
set_option maxRecDepth 20000 in
set_option maxHeartbeats 2000000 in
theorem property_any_tt (s : ByteArray) (w : World) (hs : notOf s = true) : Calls Try.prog 51 #[.string s, .bool true] w fun e w' => PxTold (prOf (nameOf s)) false w e w' := by
  have hc := cut_any s w
  rw [hs] at hc
  clear hs
  by_cases ha : nameOf s = nm_Any
  · rw [show prOf (nameOf s) = some allL by unfold prOf; rw [if_pos ha]]
    rw [ha] at hc
    clear ha
    have hx := dot_any w true
    simp only [PxTold]
    simp only [nm_Any] at hc
    rw [if_pos rfl] at hx
    go_enter Try.func51, Try.ntmps51
    go_wp2_with (go_at_call 76; refine hc.mono ?_; rintro e w2 ⟨rfl, rfl⟩)
    refine hx.mono ?_
    rintro e w2 ⟨B, m, d, s1, rfl, hg⟩
    have hy := turned_any false hg.rg (by rw [← hg.len]; have := hg.small; omega) hg.set.canon
    have hm := Lib.hid (got_all hg)
    have hb := Lib.hid hg.below
    clear hg hx
    go_wp2_with fail
    refine hy.mono ?_
    rintro e w3 ⟨B', m', d', s', rfl, hg⟩
    clear hy
    go_wp2_with fail
    go_ret2
    exact ⟨_, _, _, _, rfl, told_cong (hg.on hb.out) hm.out⟩
  · have q : ((nameOf s).toList == [65, 110, 121]) = false := beq_eq_false_iff_ne.2 fun h => ha (toList_inj (by rw [h]; exact (ByteArray.toList_mk _).symm))
    rw [show prOf (nameOf s) = txOf (nameOf s) by unfold prOf; rw [if_neg ha]]
    clear ha
    have hx := named_any (nameOf s) w
    generalize nameOf s = nm at hx hc q ⊢
    generalize txOf nm = L at hx ⊢
    cases L with
    | none =>
      simp only [PxTold, NmTold] at hx ⊢
      have hy := turned_no w (.slice none 0 0) false none 0 0 rfl
      go_enter Try.func51, Try.ntmps51
      go_wp2_with (go_at_call 76; refine hc.mono ?_; rintro e w2 ⟨rfl, rfl⟩)
      refine hx.mono ?_
      rintro e w2 ⟨rfl, hw⟩
      rw [hw]
      clear hw hx
      go_wp2_with fail
      refine hy.mono ?_
      rintro e w3 ⟨rfl, hb⟩
      go_wp2_with fail
      go_ret2
      exact ⟨rfl, hb⟩
    | some L =>
      simp only [PxTold, NmTold] at hx ⊢
      go_enter Try.func51, Try.ntmps51
      go_wp2_with (go_at_call 76; refine hc.mono ?_; rintro e w2 ⟨rfl, rfl⟩)
      refine hx.mono ?_
      rintro e w2 ⟨hL, B, m, d, rfl, hg⟩
      have hy := turned_any false hg.rg (by have := hg.small; omega) hL
      have hb := Lib.hid hg.below
      clear hg hx
      go_wp2_with fail
      refine hy.mono ?_
      rintro e w3 ⟨B', m', d', s', rfl, hg⟩
      clear hy
      go_wp2_with fail
      go_ret2
      exact ⟨_, _, _, _, rfl, hg.on hb.out⟩
theorem property_any (s : ByteArray) (n : Bool) (w : World) : Calls Try.prog 51 #[.string s, .bool n] w fun e w' => PxTold (prOf (nameOf s)) (notOf s != n) w e w' := by
  cases h : notOf s <;> cases n
  · exact property_any_ff s w h
  · exact property_any_ft s w h
  · exact property_any_tf s w h
  · exact property_any_tt s w h
theorem named0 (nm : ByteArray) (w : World) (h : nm = nm_Any) : Calls Try.prog 25 #[.string nm] w fun e w' => e = .returned (.tuple #[.slice none 0 0, .bool false]) ∧ w' = w := by
  have hx := refNamed_any nm w
  rw [h, txOf_Any] at hx
  rw [h]
  exact hx

set_option maxRecDepth 20000 in
set_option maxHeartbeats 2000000 in
theorem refProperty_f (s : ByteArray) (w : World) : Calls Try.prog 52 #[.string s, .bool false] w fun e w' => PxTold (prOf (nameOf s)) (notOf s != false) w e w' := by
  by_cases h0 : 0 < s.size
  · have hsz : (0 : Int) < (s.size : Int) := by omega
    by_cases h1 : s[0] = 94
    · obtain ⟨e1, e2⟩ := name_A h0 h1
      rw [e1, e2]
      have hb : ((s[0].toNat : Int) == 94) = true := by rw [h1]; rfl
      clear e1 e2 h1
      rw [show (true != false) = true from rfl]
      by_cases ha : s.extract 1 s.size = nm_Any
      · rw [show prOf (s.extract 1 s.size) = some allL by unfold prOf; rw [if_pos ha]]
        have hx := named0 (s.extract 1 s.size) w ha
        have q : ((s.extract 1 s.size).toList == [65, 110, 121]) = true := by rw [ha]; exact beq_iff_eq.2 (ByteArray.toList_mk _)
        have hz := refNot_any (RgIn.empty w) (Nat.zero_le _)
        clear ha
        simp only [PxTold]
        go_enter Try.func52, Try.ntmps52
        go_wp2_with fail
        refine hx.mono ?_
        rintro e w1 ⟨rfl, hw⟩
        rw [hw]
        clear hw hx
        go_wp2_with fail
        refine hz.mono ?_
        rintro e w2 ⟨B, m, d, s1, rfl, _, hg⟩
        have hm := Lib.hid (got_all hg)
        have hT : Told false allL w B m d s1 w2 := ⟨hg.set.cong (fun c a b => by simp only [TP, Bool.false_eq_true, if_false]; exact ⟨fun _ => mem_all c a b, fun _ => by simp [mem_nil]⟩), hg.rg, hg.below⟩
        have h3 := refNot_any hg.rg (by rw [← hg.len]; have := hg.small; omega)
        clear hg hz
        go_wp2_with fail
        refine h3.mono ?_
        rintro e w3 ⟨B2, m2, d2, s2, rfl, _, hg2⟩
        have hT2 := told_turn hT hg2
        clear h3 hg2 hT
        go_wp2_with fail
        go_ret2
        exact ⟨_, _, _, _, rfl, hT2⟩
      · have q : ((s.extract 1 s.size).toList == [65, 110, 121]) = false := beq_eq_false_iff_ne.2 fun h => ha (toList_inj (by rw [h]; exact (ByteArray.toList_mk _).symm))
        rw [show prOf (s.extract 1 s.size) = txOf (s.extract 1 s.size) by unfold prOf; rw [if_neg ha]]
        clear ha
        have hx := refNamed_any (s.extract 1 s.size) w
        generalize hL : txOf (s.extract 1 s.size) = L at hx ⊢
        clear hL
        cases L with
        | none =>
          simp only [PxTold, NmTold] at hx ⊢
          go_enter Try.func52, Try.ntmps52
          go_wp2_with fail
          refine hx.mono ?_
          rintro e w1 ⟨rfl, hw⟩
          rw [hw]
          clear hw hx
          go_wp2_with fail
          go_ret2
          exact ⟨rfl, Below.refl _ _⟩
        | some L =>
          simp only [PxTold, NmTold] at hx ⊢
          go_enter Try.func52, Try.ntmps52
          go_wp2_with fail
          refine hx.mono ?_
          rintro e w1 ⟨hL, B, m, d, rfl, hg⟩
          have h2 := refNot_any hg.rg (by have := hg.small; omega)
          clear hx
          go_wp2_with fail
          refine h2.mono ?_
          rintro e w2 ⟨B2, m2, d2, s2, rfl, _, hg2⟩
          have hT := told_turn hg hg2
          clear h2 hg hg2
          go_wp2_with fail
          go_ret2
          exact ⟨_, _, _, _, rfl, hT⟩
    · obtain ⟨e1, e2⟩ := name_B (s := s) (fun _ => h1)
      rw [e1, e2]
      have hb : ((s[0].toNat : Int) == 94) = false := by
        rw [beq_eq_false_iff_ne]
        intro h
        refine h1 (UInt8.toNat_inj.1 ?_)
        rw [show (94 : UInt8).toNat = 94 from rfl]
        omega
      clear e1 e2 h1
      rw [show (false != false) = false from rfl]
      by_cases ha : s = nm_Any
      · rw [show prOf (s) = some allL by unfold prOf; rw [if_pos ha]]
        have hx := named0 (s) w ha
        have q : ((s).toList == [65, 110, 121]) = true := by rw [ha]; exact beq_iff_eq.2 (ByteArray.toList_mk _)
        have hz := refNot_any (RgIn.empty w) (Nat.zero_le _)
        clear ha
        simp only [PxTold]
        go_enter Try.func52, Try.ntmps52
        go_wp2_with fail
        refine hx.mono ?_
        rintro e w1 ⟨rfl, hw⟩
        rw [hw]
        clear hw hx
        go_wp2_with fail
        refine hz.mono ?_
        rintro e w2 ⟨B, m, d, s1, rfl, _, hg⟩
        have hT : Told false allL w B m d s1 w2 := ⟨hg.set.cong (fun c a b => by simp only [TP, Bool.false_eq_true, if_false]; exact ⟨fun _ => mem_all c a b, fun _ => by simp [mem_nil]⟩), hg.rg, hg.below⟩
        clear hg hz
        go_wp2_with fail
        go_ret2
        exact ⟨_, _, _, _, rfl, hT⟩
      · have q : ((s).toList == [65, 110, 121]) = false := beq_eq_false_iff_ne.2 fun h => ha (toList_inj (by rw [h]; exact (ByteArray.toList_mk _).symm))
        rw [show prOf (s) = txOf (s) by unfold prOf; rw [if_neg ha]]
        clear ha
        have hx := refNamed_any (s) w
        generalize hL : txOf (s) = L at hx ⊢
        clear hL
        cases L with
        | none =>
          simp only [PxTold, NmTold] at hx ⊢
          go_enter Try.func52, Try.ntmps52
          go_wp2_with fail
          refine hx.mono ?_
          rintro e w1 ⟨rfl, hw⟩
          rw [hw]
          clear hw hx
          go_wp2_with fail
          go_ret2
          exact ⟨rfl, Below.refl _ _⟩
        | some L =>
          simp only [PxTold, NmTold] at hx ⊢
          go_enter Try.func52, Try.ntmps52
          go_wp2_with fail
          refine hx.mono ?_
          rintro e w1 ⟨hL, B, m, d, rfl, hg⟩
          clear hx
          go_wp2_with fail
          go_ret2
          exact ⟨_, _, _, _, rfl, hg⟩
  · obtain ⟨e1, e2⟩ := name_B (s := s) (fun h => absurd h h0)
    rw [e1, e2]
    have hsz : s.size = 0 := by omega
    clear e1 e2 h0
    rw [show (false != false) = false from rfl]
    by_cases ha : s = nm_Any
    · rw [show prOf (s) = some allL by unfold prOf; rw [if_pos ha]]
      have hx := named0 (s) w ha
      have q : ((s).toList == [65, 110, 121]) = true := by rw [ha]; exact beq_iff_eq.2 (ByteArray.toList_mk _)
      have hz := refNot_any (RgIn.empty w) (Nat.zero_le _)
      clear ha
      simp only [PxTold]
      go_enter Try.func52, Try.ntmps52
      go_wp2_with fail
      refine hx.mono ?_
      rintro e w1 ⟨rfl, hw⟩
      rw [hw]
      clear hw hx
      go_wp2_with fail
      refine hz.mono ?_
      rintro e w2 ⟨B, m, d, s1, rfl, _, hg⟩
      have hT : Told false allL w B m d s1 w2 := ⟨hg.set.cong (fun c a b => by simp only [TP, Bool.false_eq_true, if_false]; exact ⟨fun _ => mem_all c a b, fun _ => by simp [mem_nil]⟩), hg.rg, hg.below⟩
      clear hg hz
      go_wp2_with fail
      go_ret2
      exact ⟨_, _, _, _, rfl, hT⟩
    · have q : ((s).toList == [65, 110, 121]) = false := beq_eq_false_iff_ne.2 fun h => ha (toList_inj (by rw [h]; exact (ByteArray.toList_mk _).symm))
      rw [show prOf (s) = txOf (s) by unfold prOf; rw [if_neg ha]]
      clear ha
      have hx := refNamed_any (s) w
      generalize hL : txOf (s) = L at hx ⊢
      clear hL
      cases L with
      | none =>
        simp only [PxTold, NmTold] at hx ⊢
        go_enter Try.func52, Try.ntmps52
        go_wp2_with fail
        refine hx.mono ?_
        rintro e w1 ⟨rfl, hw⟩
        rw [hw]
        clear hw hx
        go_wp2_with fail
        go_ret2
        exact ⟨rfl, Below.refl _ _⟩
      | some L =>
        simp only [PxTold, NmTold] at hx ⊢
        go_enter Try.func52, Try.ntmps52
        go_wp2_with fail
        refine hx.mono ?_
        rintro e w1 ⟨hL, B, m, d, rfl, hg⟩
        clear hx
        go_wp2_with fail
        go_ret2
        exact ⟨_, _, _, _, rfl, hg⟩
set_option maxRecDepth 20000 in
set_option maxHeartbeats 2000000 in
theorem refProperty_t (s : ByteArray) (w : World) : Calls Try.prog 52 #[.string s, .bool true] w fun e w' => PxTold (prOf (nameOf s)) (notOf s != true) w e w' := by
  by_cases h0 : 0 < s.size
  · have hsz : (0 : Int) < (s.size : Int) := by omega
    by_cases h1 : s[0] = 94
    · obtain ⟨e1, e2⟩ := name_A h0 h1
      rw [e1, e2]
      have hb : ((s[0].toNat : Int) == 94) = true := by rw [h1]; rfl
      clear e1 e2 h1
      rw [show (true != true) = false from rfl]
      by_cases ha : s.extract 1 s.size = nm_Any
      · rw [show prOf (s.extract 1 s.size) = some allL by unfold prOf; rw [if_pos ha]]
        have hx := named0 (s.extract 1 s.size) w ha
        have q : ((s.extract 1 s.size).toList == [65, 110, 121]) = true := by rw [ha]; exact beq_iff_eq.2 (ByteArray.toList_mk _)
        have hz := refNot_any (RgIn.empty w) (Nat.zero_le _)
        clear ha
        simp only [PxTold]
        go_enter Try.func52, Try.ntmps52
        go_wp2_with fail
        refine hx.mono ?_
        rintro e w1 ⟨rfl, hw⟩
        rw [hw]
        clear hw hx
        go_wp2_with fail
        refine hz.mono ?_
        rintro e w2 ⟨B, m, d, s1, rfl, _, hg⟩
        have hT : Told false allL w B m d s1 w2 := ⟨hg.set.cong (fun c a b => by simp only [TP, Bool.false_eq_true, if_false]; exact ⟨fun _ => mem_all c a b, fun _ => by simp [mem_nil]⟩), hg.rg, hg.below⟩
        clear hg hz
        go_wp2_with fail
        go_ret2
        exact ⟨_, _, _, _, rfl, hT⟩
      · have q : ((s.extract 1 s.size).toList == [65, 110, 121]) = false := beq_eq_false_iff_ne.2 fun h => ha (toList_inj (by rw [h]; exact (ByteArray.toList_mk _).symm))
        rw [show prOf (s.extract 1 s.size) = txOf (s.extract 1 s.size) by unfold prOf; rw [if_neg ha]]
        clear ha
        have hx := refNamed_any (s.extract 1 s.size) w
        generalize hL : txOf (s.extract 1 s.size) = L at hx ⊢
        clear hL
        cases L with
        | none =>
          simp only [PxTold, NmTold] at hx ⊢
          go_enter Try.func52, Try.ntmps52
          go_wp2_with fail
          refine hx.mono ?_
          rintro e w1 ⟨rfl, hw⟩
          rw [hw]
          clear hw hx
          go_wp2_with fail
          go_ret2
          exact ⟨rfl, Below.refl _ _⟩
        | some L =>
          simp only [PxTold, NmTold] at hx ⊢
          go_enter Try.func52, Try.ntmps52
          go_wp2_with fail
          refine hx.mono ?_
          rintro e w1 ⟨hL, B, m, d, rfl, hg⟩
          clear hx
          go_wp2_with fail
          go_ret2
          exact ⟨_, _, _, _, rfl, hg⟩
    · obtain ⟨e1, e2⟩ := name_B (s := s) (fun _ => h1)
      rw [e1, e2]
      have hb : ((s[0].toNat : Int) == 94) = false := by
        rw [beq_eq_false_iff_ne]
        intro h
        refine h1 (UInt8.toNat_inj.1 ?_)
        rw [show (94 : UInt8).toNat = 94 from rfl]
        omega
      clear e1 e2 h1
      rw [show (false != true) = true from rfl]
      by_cases ha : s = nm_Any
      · rw [show prOf (s) = some allL by unfold prOf; rw [if_pos ha]]
        have hx := named0 (s) w ha
        have q : ((s).toList == [65, 110, 121]) = true := by rw [ha]; exact beq_iff_eq.2 (ByteArray.toList_mk _)
        have hz := refNot_any (RgIn.empty w) (Nat.zero_le _)
        clear ha
        simp only [PxTold]
        go_enter Try.func52, Try.ntmps52
        go_wp2_with fail
        refine hx.mono ?_
        rintro e w1 ⟨rfl, hw⟩
        rw [hw]
        clear hw hx
        go_wp2_with fail
        refine hz.mono ?_
        rintro e w2 ⟨B, m, d, s1, rfl, _, hg⟩
        have hm := Lib.hid (got_all hg)
        have hT : Told false allL w B m d s1 w2 := ⟨hg.set.cong (fun c a b => by simp only [TP, Bool.false_eq_true, if_false]; exact ⟨fun _ => mem_all c a b, fun _ => by simp [mem_nil]⟩), hg.rg, hg.below⟩
        have h3 := refNot_any hg.rg (by rw [← hg.len]; have := hg.small; omega)
        clear hg hz
        go_wp2_with fail
        refine h3.mono ?_
        rintro e w3 ⟨B2, m2, d2, s2, rfl, _, hg2⟩
        have hT2 := told_turn hT hg2
        clear h3 hg2 hT
        go_wp2_with fail
        go_ret2
        exact ⟨_, _, _, _, rfl, hT2⟩
      · have q : ((s).toList == [65, 110, 121]) = false := beq_eq_false_iff_ne.2 fun h => ha (toList_inj (by rw [h]; exact (ByteArray.toList_mk _).symm))
        rw [show prOf (s) = txOf (s) by unfold prOf; rw [if_neg ha]]
        clear ha
        have hx := refNamed_any (s) w
        generalize hL : txOf (s) = L at hx ⊢
        clear hL
        cases L with
        | none =>
          simp only [PxTold, NmTold] at hx ⊢
          go_enter Try.func52, Try.ntmps52
          go_wp2_with fail
          refine hx.mono ?_
          rintro e w1 ⟨rfl, hw⟩
          rw [hw]
          clear hw hx
          go_wp2_with fail
          go_ret2
          exact ⟨rfl, Below.refl _ _⟩
        | some L =>
          simp only [PxTold, NmTold] at hx ⊢
          go_enter Try.func52, Try.ntmps52
          go_wp2_with fail
          refine hx.mono ?_
          rintro e w1 ⟨hL, B, m, d, rfl, hg⟩
          have h2 := refNot_any hg.rg (by have := hg.small; omega)
          clear hx
          go_wp2_with fail
          refine h2.mono ?_
          rintro e w2 ⟨B2, m2, d2, s2, rfl, _, hg2⟩
          have hT := told_turn hg hg2
          clear h2 hg hg2
          go_wp2_with fail
          go_ret2
          exact ⟨_, _, _, _, rfl, hT⟩
  · obtain ⟨e1, e2⟩ := name_B (s := s) (fun h => absurd h h0)
    rw [e1, e2]
    have hsz : s.size = 0 := by omega
    clear e1 e2 h0
    rw [show (false != true) = true from rfl]
    by_cases ha : s = nm_Any
    · rw [show prOf (s) = some allL by unfold prOf; rw [if_pos ha]]
      have hx := named0 (s) w ha
      have q : ((s).toList == [65, 110, 121]) = true := by rw [ha]; exact beq_iff_eq.2 (ByteArray.toList_mk _)
      have hz := refNot_any (RgIn.empty w) (Nat.zero_le _)
      clear ha
      simp only [PxTold]
      go_enter Try.func52, Try.ntmps52
      go_wp2_with fail
      refine hx.mono ?_
      rintro e w1 ⟨rfl, hw⟩
      rw [hw]
      clear hw hx
      go_wp2_with fail
      refine hz.mono ?_
      rintro e w2 ⟨B, m, d, s1, rfl, _, hg⟩
      have hm := Lib.hid (got_all hg)
      have hT : Told false allL w B m d s1 w2 := ⟨hg.set.cong (fun c a b => by simp only [TP, Bool.false_eq_true, if_false]; exact ⟨fun _ => mem_all c a b, fun _ => by simp [mem_nil]⟩), hg.rg, hg.below⟩
      have h3 := refNot_any hg.rg (by rw [← hg.len]; have := hg.small; omega)
      clear hg hz
      go_wp2_with fail
      refine h3.mono ?_
      rintro e w3 ⟨B2, m2, d2, s2, rfl, _, hg2⟩
      have hT2 := told_turn hT hg2
      clear h3 hg2 hT
      go_wp2_with fail
      go_ret2
      exact ⟨_, _, _, _, rfl, hT2⟩
    · have q : ((s).toList == [65, 110, 121]) = false := beq_eq_false_iff_ne.2 fun h => ha (toList_inj (by rw [h]; exact (ByteArray.toList_mk _).symm))
      rw [show prOf (s) = txOf (s) by unfold prOf; rw [if_neg ha]]
      clear ha
      have hx := refNamed_any (s) w
      generalize hL : txOf (s) = L at hx ⊢
      clear hL
      cases L with
      | none =>
        simp only [PxTold, NmTold] at hx ⊢
        go_enter Try.func52, Try.ntmps52
        go_wp2_with fail
        refine hx.mono ?_
        rintro e w1 ⟨rfl, hw⟩
        rw [hw]
        clear hw hx
        go_wp2_with fail
        go_ret2
        exact ⟨rfl, Below.refl _ _⟩
      | some L =>
        simp only [PxTold, NmTold] at hx ⊢
        go_enter Try.func52, Try.ntmps52
        go_wp2_with fail
        refine hx.mono ?_
        rintro e w1 ⟨hL, B, m, d, rfl, hg⟩
        have h2 := refNot_any hg.rg (by have := hg.small; omega)
        clear hx
        go_wp2_with fail
        refine h2.mono ?_
        rintro e w2 ⟨B2, m2, d2, s2, rfl, _, hg2⟩
        have hT := told_turn hg hg2
        clear h2 hg hg2
        go_wp2_with fail
        go_ret2
        exact ⟨_, _, _, _, rfl, hT⟩
theorem refProperty_any (s : ByteArray) (n : Bool) (w : World) : Calls Try.prog 52 #[.string s, .bool n] w fun e w' => PxTold (prOf (nameOf s)) (notOf s != n) w e w' := by
  cases n
  · exact refProperty_f s w
  · exact refProperty_t s w

/-! ### The reference's Dot -/
set_option maxRecDepth 20000 in
set_option maxHeartbeats 1000000 in
theorem refDot_any (w : World) (all : Bool) : Calls Try.prog 54 #[.bool all] w fun e w' => ∃ B m d s, e = .returned (.slice B m d) ∧ Got (fun x => ¬ mem (if all = true then [] else dotL) x) w B m d s w' := by
  cases all with
  | true =>
    have hx := refNot_any (RgIn.empty w) (Nat.zero_le _)
    go_enter Try.func54, Try.ntmps54
    go_wp2_with (go_at_call 41; refine hx.mono ?_; rintro e w2 ⟨B', m', d', s, rfl, _, hg⟩)
    go_ret
    exact ⟨_, _, _, rfl, _, hg⟩
  | false =>
    have hn := RgIn.new w dotL (by decide) (canon_fits dotL_ok)
    have hb : Below w.heap.size w (w.alloc (.cells (rgCells dotL).toArray 28)) := (Below.refl _ _).alloc (Nat.le_refl _) _
    have hx := refNot_any hn (by decide)
    have HB := Lib.hid hb
    have hq : ∀ B m d s w', Got (fun x => ¬ mem dotL x) (w.alloc (.cells (rgCells dotL).toArray 28)) B m d s w' → Got (fun x => ¬ mem (if false = true then [] else dotL) x) w B m d s w' := fun B m d s w' h =>
      ⟨h.set, h.len, ownsRow_base h.own hb.size, Below.on hb h.below⟩
    have HQ := Lib.hid hq
    clear hn hb hq
    simp only [rgCells, rgCell, dotL, List.flatMap_cons, List.flatMap_nil, List.append_nil, List.cons_append, List.nil_append, List.length_cons, List.length_nil, Nat.zero_add] at hx
    go_enter Try.func54, Try.ntmps54
    go_wp2_with (go_at_call 41; refine hx.mono ?_; rintro e w2 ⟨B', m', d', s, rfl, _, hg⟩)
    go_ret
    exact ⟨_, _, _, rfl, _, HQ.out _ _ _ _ _ hg⟩

set_option maxRecDepth 20000 in
set_option maxHeartbeats 4000000 in
theorem classesProperty_walk {w : World} (x : ByteArray) (n : Bool) :
    Calls Try.prog 19 #[.string x, .bool n] w fun e w' => e = .returned (.bool true) ∧ Below w.heap.size w w' := by
  have HB := Lib.hid (Below.refl w.heap.size w)
  have h1 := fun W => property_any x n W
  have h2 := fun W => refProperty_any x n W
  generalize prOf (nameOf x) = L at h1 h2
  generalize (notOf x != n) = nt at h1 h2
  have h3 := fun W => dot_any W n
  have h4 := fun W => refDot_any W n
  generalize (if n = true then [] else dotL) = D at h3 h4
  cases L with
  | none =>
    simp only [PxTold] at h1 h2
    go_enter Try.func19, Try.ntmps19
    go_wp2_with fail
    refine (head4_any w).mono ?_
    rintro e w1 ⟨rfl, hb0⟩
    have hb := hb0
    replace HB := Lib.hid (Below.on HB.out hb)
    clear hb
    clear hb0
    go_wp2_with fail
    refine (h1 w1).mono ?_
    rintro e w2 ⟨rfl, hb0⟩
    have hb := hb0
    replace HB := Lib.hid (Below.on HB.out hb)
    clear hb
    clear hb0
    go_wp2_with fail
    refine (h2 w2).mono ?_
    rintro e w3 ⟨rfl, hb0⟩
    have hb := hb0
    replace HB := Lib.hid (Below.on HB.out hb)
    clear hb
    clear hb0
    go_wp2_with fail
    refine (same_yes (RgIn.empty w3) (RgIn.empty w3) rfl).mono ?_
    rintro e w4 ⟨rfl, hb0⟩
    have hb := hb0
    replace HB := Lib.hid (Below.on HB.out hb)
    clear hb
    clear hb0
    go_wp2_with fail
    refine (h3 w4).mono ?_
    rintro e w5 ⟨Ad, nd, cd, ld, rfl, gd⟩
    have hb := gd.below
    replace HB := Lib.hid (Below.on HB.out hb)
    clear hb
    have Hd := Lib.hid gd.rg
    have Sd := gd.set
    clear gd
    go_wp2_with fail
    refine (h4 w5).mono ?_
    rintro e w6 ⟨Ae, ne, ce, le, rfl, ge⟩
    have hb := ge.below
    replace HB := Lib.hid (Below.on HB.out hb)
    replace Hd := Lib.hid (Hd.out.below hb)
    clear hb
    have He := Lib.hid ge.rg
    have Se := ge.set
    clear ge
    have he : ld = le := Sd.unique Se (fun _ _ _ => Iff.rfl)
    go_wp2_with fail
    refine (same_yes Hd.out He.out he).mono ?_
    rintro e w7 ⟨rfl, hb0⟩
    have hb := hb0
    replace HB := Lib.hid (Below.on HB.out hb)
    replace Hd := Lib.hid (Hd.out.below hb)
    replace He := Lib.hid (He.out.below hb)
    clear hb
    clear hb0 he
    go_wp2_with fail
    go_ret
    exact ⟨rfl, HB.out⟩
  | some L =>
    simp only [PxTold] at h1 h2
    go_enter Try.func19, Try.ntmps19
    go_wp2_with fail
    refine (head4_any w).mono ?_
    rintro e w1 ⟨rfl, hb0⟩
    have hb := hb0
    replace HB := Lib.hid (Below.on HB.out hb)
    clear hb
    clear hb0
    go_wp2_with fail
    refine (h1 w1).mono ?_
    rintro e w2 ⟨Aa, na, ca, la, rfl, ga⟩
    have hb := ga.below
    replace HB := Lib.hid (Below.on HB.out hb)
    clear hb
    have Ha := Lib.hid ga.rg
    have Sa := ga.set
    clear ga
    go_wp2_with fail
    refine (h2 w2).mono ?_
    rintro e w3 ⟨Ab, nb, cb, lb, rfl, gb⟩
    have hb := gb.below
    replace HB := Lib.hid (Below.on HB.out hb)
    replace Ha := Lib.hid (Ha.out.below hb)
    clear hb
    have Hb := Lib.hid gb.rg
    have Sb := gb.set
    clear gb
    have he : la = lb := Sa.unique Sb (fun _ _ _ => Iff.rfl)
    go_wp2_with fail
    refine (same_yes Ha.out Hb.out he).mono ?_
    rintro e w4 ⟨rfl, hb0⟩
    have hb := hb0
    replace HB := Lib.hid (Below.on HB.out hb)
    replace Ha := Lib.hid (Ha.out.below hb)
    replace Hb := Lib.hid (Hb.out.below hb)
    clear hb
    clear hb0 he
    go_wp2_with fail
    refine (h3 w4).mono ?_
    rintro e w5 ⟨Ad, nd, cd, ld, rfl, gd⟩
    have hb := gd.below
    replace HB := Lib.hid (Below.on HB.out hb)
    replace Ha := Lib.hid (Ha.out.below hb)
    replace Hb := Lib.hid (Hb.out.below hb)
    clear hb
    have Hd := Lib.hid gd.rg
    have Sd := gd.set
    clear gd
    go_wp2_with fail
    refine (h4 w5).mono ?_
    rintro e w6 ⟨Ae, ne, ce, le, rfl, ge⟩
    have hb := ge.below
    replace HB := Lib.hid (Below.on HB.out hb)
    replace Ha := Lib.hid (Ha.out.below hb)
    replace Hb := Lib.hid (Hb.out.below hb)
    replace Hd := Lib.hid (Hd.out.below hb)
    clear hb
    have He := Lib.hid ge.rg
    have Se := ge.set
    clear ge
    have he : ld = le := Sd.unique Se (fun _ _ _ => Iff.rfl)
    go_wp2_with fail
    refine (same_yes Hd.out He.out he).mono ?_
    rintro e w7 ⟨rfl, hb0⟩
    have hb := hb0
    replace HB := Lib.hid (Below.on HB.out hb)
    replace Ha := Lib.hid (Ha.out.below hb)
    replace Hb := Lib.hid (Hb.out.below hb)
    replace Hd := Lib.hid (Hd.out.below hb)
    replace He := Lib.hid (He.out.below hb)
    clear hb
    clear hb0 he
    go_wp2_with fail
    go_ret
    exact ⟨rfl, HB.out⟩

end Go.Proofs.Ytoglnankopdohaa
