/- The reference's Norm, Union, Not, Meet, Count: the walks. -/
import Derived.Test.YtoglnankopdohaaSetW3
import Derived.Test.YtoglnankopdohaaLawS0
namespace Go.Proofs.Ytoglnankopdohaa
open Go.RowKit

theorem refNorm_got {w : World} {A : Option Addr} {n c : Nat} {l : List Rg} (hA : RgIn w A n c l) (hn : n ≤ 1000000) :
    Calls Try.prog 37 #[.slice A n c] w fun e w' => ∃ B m d r, e = .returned (.slice B m d) ∧ m ≤ n ∧ Got (mem l) w B m d r w' :=
  (refNorm_any hA hn).mono fun e w' ⟨B, m, d, r, he, hs, hm, ho, hb⟩ => ⟨B, m, d, r, he, hm, hs, by have := ho.1; rw [rgCells_length] at this; omega, ho, hb⟩

set_option maxRecDepth 20000 in
set_option maxHeartbeats 2000000 in
theorem refUnion_any {w : World} {A B : Option Addr} {n c m d : Nat} {l r : List Rg} (hA : RgIn w A n c l) (hB : RgIn w B m d r) (hn : n + m ≤ 1000000) :
    Calls Try.prog 39 #[.slice A n c, .slice B m d] w fun e w' => ∃ B' m' d' s, e = .returned (.slice B' m' d') ∧ m' ≤ n + m ∧ Got (fun x => mem l x ∨ mem r x) w B' m' d' s w' := by
  have hmade := World.ownsRow_made (base := w.heap.size) (size := 2) (e := 28) w #[] 0 (Nat.le_refl _) (Nat.zero_le _) rfl
  have hab0 := own_above' hmade
  have hb1 : Below w.heap.size w (w.alloc (.cells #[] 28)) := (Below.refl _ _).alloc (Nat.le_refl _) _
  have hR1 := (hA.below hb1).rd
  have hn1 := hA.nil
  have hl1 : (rgCells l).length = n * 2 := by rw [rgCells_length, hA.len]
  have hl2 : (rgCells r).length = m * 2 := by rw [rgCells_length, hB.len]
  have h1e := rgCells_one l
  have h2e := rgCells_one r
  have HA := Lib.hid hA
  have HB := Lib.hid hB
  clear hA hB
  go_enter Try.func39, Try.ntmps39
  go_wp2_with (at_builtin; first
    | (refine wpList_app _ rfl _ _ 23 rfl w.heap.size 28 elG _ _ _ rfl hmade 0 _ A n c (rgCells l) rfl hn1 hl1 hR1 h1e (by unfold maxLen; omega) (by omega) (by simp) ?_; intro v1 V1 hv1 hg1 _ _; obtain ⟨B1, d1, rfl, hd1, hd1'⟩ := own_form hv1; simp only [Nat.zero_add, List.nil_append] at hv1; clear hmade; have hb2 : Below w.heap.size w V1 := hb1.grown hg1 (by simp) hab0; have hR2 := (HB.out.below hb2).rd; have hn2 := HB.out.nil)
    | (refine wpList_app _ rfl _ _ 23 rfl w.heap.size 28 elG _ _ _ rfl hv1 0 _ B m d (rgCells r) rfl hn2 hl2 hR2 h2e (by unfold maxLen; omega) (by omega) hb2.size ?_; intro v2 V2 hv2 hg2 _ _; obtain ⟨B2, d2, rfl, hd2, hd2'⟩ := own_form hv2; have hb3 : Below w.heap.size w V2 := hb2.grown hg2 hb2.size (own_above' hv1)))
  have hI : RgIn V2 B2 (n + m) d2 (l ++ r) := RgIn.of_own (by rw [rgCells_append]; exact hv2) (by rw [List.length_append, HA.out.len, HB.out.len]) (fun p hp => (List.mem_append.1 hp).elim (HA.out.fits p) (HB.out.fits p))
  have hq : ∀ B' m' d' s w', Got (mem (l ++ r)) V2 B' m' d' s w' → Got (fun x => mem l x ∨ mem r x) w B' m' d' s w' := fun B' m' d' s w' h =>
    ⟨h.set.cong fun c _ _ => mem_append l r c, h.len, ownsRow_base h.own hb3.size, Below.on hb3 h.below⟩
  have hN := refNorm_got hI (by omega)
  refine hN.mono ?_
  rintro e w3 ⟨B', m', d', s, rfl, hm', hg⟩
  clear hN hI
  go_wp2_with fail
  go_ret
  exact ⟨_, _, _, _, rfl, hm', hq _ _ _ _ _ hg⟩

/-! ### Not -/
def notF : Int → List Rg → List Rg
  | f, [] => if f ≤ maxR then [(f, maxR)] else []
  | f, p :: r => (if f < p.1 then [(f, p.1 - 1)] else []) ++ notF (p.2 + 1) r
theorem notF_ok : ∀ (s : List Rg) (f : Int), Canon s → (∀ p ∈ s, f ≤ p.1) → 0 ≤ f →
    Canon (notF f s) ∧ (∀ p ∈ notF f s, f ≤ p.1) ∧ ∀ c, mem (notF f s) c ↔ (f ≤ c ∧ c ≤ maxR ∧ ¬ mem s c)
  | [], f, _, _, h0 => by
    unfold notF
    by_cases hf : f ≤ maxR
    · rw [if_pos hf]
      exact ⟨canon_append (l := []) canon_nil ⟨h0, hf, Int.le_refl _⟩ (fun _ h => by cases h), fun p hp => by obtain rfl := List.mem_singleton.1 hp; exact Int.le_refl _, fun c => by rw [mem_one]; simp [mem_nil]⟩
    · rw [if_neg hf]
      exact ⟨canon_nil, (fun _ h => by cases h), fun c => ⟨fun h => absurd h (mem_nil c), fun h => by omega⟩⟩
  | p :: r, f, hc, hf, h0 => by
    obtain ⟨h1, h2, h3⟩ := canon_cons.1 hc
    have hfp := hf p (.head _)
    obtain ⟨i1, i2, i3⟩ := notF_ok r (p.2 + 1) h3 (fun q hq => by have := h2 q hq; omega) (by omega)
    have hr : ∀ c, mem r c → p.2 + 2 ≤ c := by rintro c ⟨q, hq, a, b⟩; have := h2 q hq; omega
    unfold notF
    by_cases hlt : f < p.1
    · rw [if_pos hlt]
      simp only [List.singleton_append]
      refine ⟨canon_cons.2 ⟨⟨h0, by dsimp only; omega, by dsimp only; omega⟩, fun q hq => by have := i2 q hq; dsimp only; omega, i1⟩, fun q hq => ?_, fun c => ?_⟩
      · rcases List.mem_cons.1 hq with rfl | hq
        · exact Int.le_refl _
        · have := i2 q hq; omega
      · rw [mem_cons, i3, mem_cons]
        dsimp only
        constructor
        · rintro (h | ⟨a, b, d⟩)
          · refine ⟨h.1, by omega, ?_⟩
            rintro (h' | h')
            · omega
            · have := hr c h'; omega
          · exact ⟨by omega, b, fun h' => h'.elim (fun h' => by omega) d⟩
        · rintro ⟨a, b, d⟩
          by_cases hcp : c < p.1
          · exact .inl ⟨a, by omega⟩
          · refine .inr ⟨?_, b, fun h' => d (.inr h')⟩
            rcases Int.lt_or_le p.2 c with h' | h'
            · omega
            · exact absurd (Or.inl ⟨by omega, h'⟩) d
    · rw [if_neg hlt]
      simp only [List.nil_append]
      refine ⟨i1, fun q hq => by have := i2 q hq; omega, fun c => ?_⟩
      rw [i3, mem_cons]
      constructor
      · rintro ⟨a, b, d⟩
        exact ⟨by omega, b, fun h' => h'.elim (fun h' => by omega) d⟩
      · rintro ⟨a, b, d⟩
        refine ⟨?_, b, fun h' => d (.inr h')⟩
        rcases Int.lt_or_le p.2 c with h' | h'
        · omega
        · exact absurd (Or.inl ⟨by omega, h'⟩) d
theorem notF_setOf {s : List Rg} (h : Canon s) : SetOf (fun c => ¬ mem s c) (notF 0 s) := by
  obtain ⟨a, _, b⟩ := notF_ok s 0 h (fun p hp => (h.1 p hp).1) (Int.le_refl _)
  exact ⟨a, b⟩
theorem notF_len : ∀ (s : List Rg) (f : Int), (notF f s).length ≤ s.length + 1
  | [], f => by unfold notF; split <;> simp
  | p :: r, f => by
    have := notF_len r (p.2 + 1)
    simp only [notF, List.length_append, List.length_cons]
    split <;> simp only [List.length_cons, List.length_nil] <;> omega

structure NotRel (wo W : World) (s r : List Rg) (k : Nat) (f : Int) (v : Value) : Prop where
  own : W.ownsRow wo.heap.size 28 2 v r.length (rgCells r)
  below : Below wo.heap.size wo W
  eq : r ++ notF f (s.drop k) = notF 0 s
  len : r.length ≤ k
  f : 0 ≤ f ∧ f ≤ maxR + 1

set_option maxRecDepth 20000 in
set_option maxHeartbeats 2000000 in
theorem refNot_any {w : World} {A : Option Addr} {n c : Nat} {l : List Rg} (hA : RgIn w A n c l) (hn : n ≤ 1000000) :
    Calls Try.prog 41 #[.slice A n c] w fun e w' => ∃ B' m' d' s, e = .returned (.slice B' m' d') ∧ m' ≤ n + 1 ∧ Got (fun x => ¬ mem l x) w B' m' d' s w' := by
  have h1 := refNorm_got hA hn
  have hlen := hA.len
  clear hA
  go_enter Try.func41, Try.ntmps41
  go_wp2_with fail
  refine h1.mono ?_
  rintro e wo ⟨B, m, d, s, rfl, hmn, hg⟩
  clear h1
  have hsl := hg.len
  have hcan := hg.set.canon
  have HGO := Lib.hid hg
  have HRG := Lib.hid hg.rg
  have hmi : (m : Int) ≤ 9223372036854775807 := by omega
  clear hg
  go_wp2_with fail
  go_loopg [4, 5, 6] (m + 1) (fun q v fv i W => ∃ (k : Nat) (f : Int) (r : List Rg), q = m + 1 - k ∧ k ≤ m ∧ i = .int .i64 (k : Int) ∧ fv = .int .i32 f ∧ Hid (NotRel wo W s r k f v))
  case atStart => exact ⟨0, 0, [], rfl, by omega, rfl, rfl, Lib.hid ⟨World.ownsRow_nil _ _ _ _, Below.refl _ _, rfl, Nat.le_refl _, by decide⟩⟩
  case round =>
    obtain ⟨k, f, r, hgk2, hk, rfl, rfl, HI⟩ := hrel
    have HG2 := Lib.hid hgk2
    clear hgk2
    have hf := HI.out.f
    unfold maxR at hf
    obtain ⟨rB, rd, rfl, hrd1, hrd2⟩ := own_form HI.out.own
    have hrl := HI.out.len
    have hown := HI.out.own
    have hbel := HI.out.below
    have hsz := hbel.size
    generalize hrm : r.length = rm at hown hrd1 hrl HI ⊢
    have HRM := Lib.hid hrm
    have hab := own_above' hown
    clear hrm
    by_cases hlt2 : k < m
    · obtain ⟨b, o, p, rfl, hb, hp, hcc, _⟩ := HRG.out.at hlt2
      obtain ⟨u1, u2⟩ := hcc wr (.of_below hbel (Nat.le_refl _))
      have hpf := hcan.1 p (List.mem_of_getElem? hp)
      unfold maxR at hpf
      have hi2 : (k : Int) < (m : Int) := by omega
      have hd : s.drop k = p :: s.drop (k + 1) := by
        rw [List.drop_eq_getElem_cons (by omega)]
        rw [List.getElem?_eq_getElem (by omega)] at hp
        injection hp with hp
        rw [hp]
      have heq := HI.out.eq
      rw [hd, notF] at heq
      have HEQ := Lib.hid heq
      have HLT2 := Lib.hid hlt2
      have HCC := Lib.hid hcc
      clear hcc hp hd heq hlt2 HRG HGO hcan
      by_cases hfp : f < p.1
      · rw [if_pos hfp] at HEQ
        have hw1 : IntKind.i32.wrap (p.1 - 1) = p.1 - 1 := IntWalk.i32_in _ (by omega)
        have hw2 : IntKind.i32.wrap (p.2 + 1) = p.2 + 1 := IntWalk.i32_in _ (by omega)
        go_wp2_with (at_builtin; refine wpList_app _ rfl _ _ 23 rfl wo.heap.size 28 elG _ _ _ rfl (hown.alloc _) 0 (wr.heap.size + 1) _ 1 1 [.int .i32 f, .int .i32 (p.1 - 1)] rfl (fun h => by cases h) rfl (Rd.new wr _ _ _ (Nat.zero_le _) (by omega)) (by simp [Value.oneCell']) (by unfold maxLen; omega) (by omega) (by simp; omega) ?_; intro v2 V2 hv2 hg2 _ _; obtain ⟨B2, d2, rfl, hd2, hd2'⟩ := own_form hv2; have hbv : Below wo.heap.size wo V2 := (hbel.alloc hsz _).grown hg2 (by simp; omega) hab; obtain ⟨u3, u4⟩ := HCC.out V2 (.of_below hbv (Nat.le_refl _)); clear u1 u2)
        go_roundg (m + 1 - (k + 1))
        case measure => have := HG2.out; have := HLT2.out; omega
        case rel =>
          refine ⟨k + 1, p.2 + 1, r ++ [(f, p.1 - 1)], rfl, by have := HLT2.out; omega, by go_num, rfl, Lib.hid ⟨?_, hbv, ?_, ?_, ?_⟩⟩
          · rw [List.length_append, List.length_singleton, HRM.out, rgCells_append]; exact hv2
          · rw [← HEQ.out, List.append_assoc]
          · rw [List.length_append, List.length_singleton, HRM.out]; omega
          · unfold maxR; omega
      · rw [if_neg hfp, List.nil_append] at HEQ
        have hw2 : IntKind.i32.wrap (p.2 + 1) = p.2 + 1 := IntWalk.i32_in _ (by omega)
        have HOW := Lib.hid hown
        clear hown
        go_wp2_with fail
        go_roundg (m + 1 - (k + 1))
        case measure => have := HG2.out; have := HLT2.out; omega
        case rel =>
          refine ⟨k + 1, p.2 + 1, r, rfl, by have := HLT2.out; omega, by go_num, rfl, Lib.hid ⟨?_, hbel, HEQ.out, ?_, ?_⟩⟩
          · rw [HRM.out]; exact HOW.out
          · rw [HRM.out]; omega
          · unfold maxR; omega
    · have hkm : k = m := by omega
      subst hkm
      have hi2 : ¬ (k : Int) < (k : Int) := by omega
      have heq := HI.out.eq
      rw [List.drop_eq_nil_of_le (by omega), notF] at heq
      have hfin : ∀ (V : World) (v : Value) (t : List Rg), V.ownsRow wo.heap.size 28 2 v t.length (rgCells t) → Below wo.heap.size wo V → t = notF 0 s → ∃ B' m' d' s', v = .slice B' m' d' ∧ m' ≤ n + 1 ∧ Got (fun x => ¬ mem l x) w B' m' d' s' V := by
        intro V v t ho hb ht
        subst ht
        obtain ⟨B', d', rfl, _, _⟩ := own_form ho
        have hG := HGO.out
        refine ⟨B', _, d', notF 0 s, rfl, by have := notF_len s 0; omega, so_not (notF_setOf hG.set.canon) (so_mm hG.set), rfl, ownsRow_base ho hG.below.size, Below.on hG.below hb⟩
      have HFIN := Lib.hid hfin
      have HEQ := Lib.hid heq
      clear hfin heq HRG HGO hcan HI hlt2
      by_cases hfm : f ≤ 1114111
      · go_wp2_with (at_builtin; refine wpList_app _ rfl _ _ 23 rfl wo.heap.size 28 elG _ _ _ rfl (hown.alloc _) 0 (wr.heap.size + 1) _ 1 1 [.int .i32 f, .int .i32 1114111] rfl (fun h => by cases h) rfl (Rd.new wr _ _ _ (Nat.zero_le _) (by omega)) (by simp [Value.oneCell']) (by unfold maxLen; omega) (by omega) (by simp; omega) ?_; intro v2 V2 hv2 hg2 _ _; obtain ⟨B2, d2, rfl, hd2, hd2'⟩ := own_form hv2; have hbv : Below wo.heap.size wo V2 := (hbel.alloc hsz _).grown hg2 (by simp; omega) hab)
        go_ret
        obtain ⟨B', m', d', s', h1, h2, h3⟩ := HFIN.out V2 (.slice B2 (rm + 1) d2) (r ++ [(f, maxR)]) (by rw [List.length_append, List.length_singleton, HRM.out, rgCells_append]; exact hv2) hbv (by rw [← HEQ.out, if_pos (show f ≤ maxR by unfold maxR; omega)])
        exact ⟨B', m', d', by rw [← h1]; rfl, h2, s', h3⟩
      · have HOW := Lib.hid hown
        clear hown
        go_wp2_with fail
        go_ret
        obtain ⟨B', m', d', s', h1, h2, h3⟩ := HFIN.out wr (.slice rB rm rd) r (by rw [HRM.out]; exact HOW.out) hbel (by rw [← HEQ.out, if_neg (show ¬ f ≤ maxR by unfold maxR; omega), List.append_nil])
        exact ⟨B', m', d', by rw [← h1]; rfl, h2, s', h3⟩

/-! ### Meet -/
set_option maxHeartbeats 2000000 in
theorem refMeet_any {w : World} {A B : Option Addr} {n c m d : Nat} {l r : List Rg} (hA : RgIn w A n c l) (hB : RgIn w B m d r) (hn : n + m ≤ 900000) :
    Calls Try.prog 46 #[.slice A n c, .slice B m d] w fun e w' => ∃ B' m' d' s, e = .returned (.slice B' m' d') ∧ Got (fun x => mem l x ∧ mem r x) w B' m' d' s w' := by
  have h1 := refNot_any hA (by omega)
  have h2 := fun w1 (hb : Below w.heap.size w w1) => refNot_any (hB.below hb) (show m ≤ 1000000 by omega)
  clear hA hB
  go_enter Try.func46, Try.ntmps46
  go_wp2_with fail
  refine h1.mono ?_
  rintro e w1 ⟨A1, n1, c1, l1, rfl, k1, g1⟩
  have h2 := h2 w1 g1.below
  clear h1
  go_wp2_with fail
  refine h2.mono ?_
  rintro e w2 ⟨A2, n2, c2, l2, rfl, k2, g2⟩
  have h3 := refUnion_any (g1.rg.below g2.below) g2.rg (by omega)
  clear h2
  go_wp2_with fail
  refine h3.mono ?_
  rintro e w3 ⟨A3, n3, c3, l3, rfl, k3, g3⟩
  have h4 := refNot_any g3.rg (by omega)
  have hs : ∀ s, SetOf (fun x => ¬ mem l3 x) s → SetOf (fun x => mem l x ∧ mem r x) s := fun s h =>
    (so_not h (so_mm (so_or g3.set (so_mm g1.set) (so_mm g2.set)))).cong fun x _ _ => by by_cases q1 : mem l x <;> by_cases q2 : mem r x <;> simp [q1, q2]
  have hb := Below.on (Below.on g1.below g2.below) g3.below
  clear h3 g1 g2 g3
  go_wp2_with fail
  refine h4.mono ?_
  rintro e w4 ⟨A4, n4, c4, l4, rfl, k4, g4⟩
  have hG : Got (fun x => mem l x ∧ mem r x) w A4 n4 c4 l4 w4 := ⟨hs _ g4.set, g4.len, ownsRow_base g4.own hb.size, Below.on hb g4.below⟩
  clear h4 g4 hs
  go_wp2_with fail
  go_ret
  exact ⟨_, _, _, _, rfl, hG⟩

/-! ### Count -/
set_option maxHeartbeats 2000000 in
theorem refCount_any {w : World} {A : Option Addr} {n c : Nat} {l : List Rg} (hA : RgIn w A n c l) (hn : n ≤ 1000000) :
    Calls Try.prog 48 #[.slice A n c] w fun e w' => (∃ s, SetOf (mem l) s ∧ e = .returned (.int .i64 (countR s))) ∧ Below w.heap.size w w' := by
  have h1 := refNorm_got hA hn
  clear hA
  go_enter Try.func48, Try.ntmps48
  go_wp2_with fail
  refine h1.mono ?_
  rintro e w1 ⟨B, m, d, s, rfl, hmn, hg⟩
  clear h1
  have hmi : (m : Int) ≤ 9223372036854775807 := by omega
  have HS := Lib.hid hg.rg
  have HGo := Lib.hid hg
  clear hg
  go_wp2_with fail
  go_loopg [3, 5] (m + 1) (fun q v i wr => ∃ (j : Nat), q = m + 1 - j ∧ j ≤ m ∧ i = .int .i64 (j : Int) ∧ v = .int .i64 (countR (s.take j)) ∧ Hid (∃ dd, wr = w1.drewN dd))
  case atStart => exact ⟨0, rfl, by omega, rfl, rfl, Lib.hid ⟨0, rfl⟩⟩
  case round =>
    obtain ⟨j, hgk, hj, rfl, rfl, HR⟩ := hrel
    have HG := Lib.hid hgk
    clear hgk
    obtain ⟨hc0, hc1⟩ := countR_take HGo.out.set.canon j
    by_cases hlt : j < m
    · obtain ⟨b, o, x, rfl, hb, hx, hc, _⟩ := HS.out.at hlt
      obtain ⟨c1, c2⟩ := hc wr (by obtain ⟨dd, rfl⟩ := HR.out; exact (Same.refl _ _ _).drewN dd)
      have hi : (j : Int) < (m : Int) := by omega
      have hxr := HGo.out.set.canon.1 x (List.mem_of_getElem? hx)
      unfold maxR at hxr
      have hnext : countR (s.take (j + 1)) = countR (s.take j) + (x.2 - x.1 + 1) := by
        rw [List.take_add_one, hx, countR_append]; simp [countR]
      have HX := Lib.hid hnext
      have HLT := Lib.hid hlt
      have hw1 : IntKind.i32.wrap (x.2 - x.1) = x.2 - x.1 := IntWalk.i32_in _ (by omega)
      have hw2 : IntKind.i64.wrap (x.2 - x.1) = x.2 - x.1 := IntWalk.i64_in _ (by omega)
      clear hc hb hx hlt HS HGo hnext
      generalize countR (s.take j) = C at hc0 hc1 HX ⊢
      go_wp2_with fail
      go_big_quiet (fail)
      go_wp2_with fail
      go_roundg (m + 1 - (j + 1))
      case measure => have := HG.out; have := HLT.out; omega
      case rel =>
        refine ⟨j + 1, rfl, by have := HLT.out; omega, by go_num, ?_, ?_⟩
        · rw [HX.out, ← Int.add_assoc]
        · obtain ⟨dd, rfl⟩ := HR.out
          exact Lib.hid ⟨_, World.drewN_drewN _ _ _⟩
    · have hjm : j = m := by omega
      subst hjm
      have hi : ¬ (j : Int) < (j : Int) := by omega
      have hre : s.take j = s := by rw [List.take_of_length_le (by have := HGo.out.len; omega)]
      have HRE := Lib.hid hre
      clear hre hlt
      go_wp2_with fail
      go_ret
      refine ⟨⟨s, HGo.out.set, retI (by rw [HRE.out])⟩, ?_⟩
      obtain ⟨dd, rfl⟩ := HR.out
      exact HGo.out.below.drewN
end Go.Proofs.Ytoglnankopdohaa
