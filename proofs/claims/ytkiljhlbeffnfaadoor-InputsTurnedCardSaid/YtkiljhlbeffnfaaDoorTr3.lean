/- The reference's Turned. -/
import Derived.Test.YtkiljhlbeffnfaaDoorTr2
namespace Go.Proofs.YtkiljhlbeffnfaaDoor
open Go.RowKit
attribute [local go_sem ↓] Go.wp_at_zero Go.wp_at_succ

structure TuRel (w wr : World) (g : Nat) (k : Int) (bs : List UInt8) (rs os : List Int) (bv rv ov : Value) : Prop where
  blk : Blk wr g 52 #[.int .i64 k, bv, rv, ov]
  txt : wr.ownsRow w.heap.size 5 1 bv bs.length (byteVals bs)
  ownR : wr.ownsRow w.heap.size 21 1 rv rs.length (i32s rs)
  ownO : wr.ownsRow w.heap.size 3 1 ov os.length (i64s os)
  below : Below w.heap.size w wr
  hg : w.heap.size ≤ g
section
variable {w wr w2 : World} {g : Nat} {k : Int} {bs : List UInt8} {rs os : List Int} {bv rv ov : Value}
theorem TuRel.drew (h : TuRel w wr g k bs rs os bv rv ov) : TuRel w wr.drew g k bs rs os bv rv ov := ⟨h.blk.drew, h.txt.drew, h.ownR.drew, h.ownO.drew, h.below.drew, h.hg⟩
theorem TuRel.alloc (h : TuRel w wr g k bs rs os bv rv ov) (o : Obj) : TuRel w (wr.alloc o) g k bs rs os bv rv ov := ⟨h.blk.alloc o, h.txt.alloc o, h.ownR.alloc o, h.ownO.alloc o, h.below.alloc h.below.size o, h.hg⟩
theorem grown_undrew {w w' : World} {row : Option Nat} (h : w.drew.grownBy w' row) : w.grownBy w' row := ⟨h.os, h.tape, h.output, h.size, h.block⟩
theorem TuRel.putB {v' : Value} {d : List UInt8} {o : Obj} (h : TuRel w wr g k bs rs os bv rv ov) (hown : w2.ownsRow w.heap.size 5 1 v' (bs.length + d.length) (byteVals (bs ++ d))) (hgr : (wr.alloc o).grownBy w2 bv.ownBlock) :
    w2.cell? ⟨g, 1, none⟩ = some bv ∧ w2.frozen? ⟨g, 1, none⟩ = false ∧ Hid (TuRel w (w2.setCell ⟨g, 1, none⟩ v') g k (bs ++ d) rs os v' rv ov) := by
  have hb : ∀ k, bv.ownBlock = some k → w.heap.size ≤ k := fun k hk => (h.txt.lt k hk).1
  have h3 := (h.blk.alloc o).grown hgr (own_ne_blk (h.txt.alloc o) (h.blk.alloc o) (by decide))
  have h4 := (h.ownR.alloc o).kept hgr (own_ne_own (h.ownR.alloc o) (h.txt.alloc o) (by decide))
  have h5 := (h.ownO.alloc o).kept hgr (own_ne_own (h.ownO.alloc o) (h.txt.alloc o) (by decide))
  refine ⟨by rw [h3.cell]; rfl, h3.frozen 1, Lib.hid ⟨h3.set 1 v', ?_, ?_, ?_, ?_, h.hg⟩⟩
  · have := ownsRow_far (w' := w2.setCell ⟨g, 1, none⟩ v') hown fun k hk => Below.heap_setCell _ _ _ _ (fun e => own_ne_blk hown h3 (by decide) (by rw [hk, e]))
    rw [List.length_append]
    exact this
  · exact ownsRow_far h4 fun k hk => Below.heap_setCell _ _ _ _ (fun e => own_ne_blk h4 h3 (by decide) (by rw [hk, e]))
  · exact ownsRow_far h5 fun k hk => Below.heap_setCell _ _ _ _ (fun e => own_ne_blk h5 h3 (by decide) (by rw [hk, e]))
  · exact ((h.below.alloc h.below.size o).grown hgr (by have := h.below.size; simp; omega) hb).setCell h.hg _
theorem TuRel.putR {v' : Value} {r : Int} {o : Obj} (h : TuRel w wr g k bs rs os bv rv ov) (hown : w2.ownsRow w.heap.size 21 1 v' (rs.length + 1) (i32s rs ++ [.int .i32 r])) (hgr : (wr.alloc o).grownBy w2 rv.ownBlock) :
    w2.cell? ⟨g, 2, none⟩ = some rv ∧ w2.frozen? ⟨g, 2, none⟩ = false ∧ Hid (TuRel w (w2.setCell ⟨g, 2, none⟩ v') g k bs (rs ++ [r]) os bv v' ov) := by
  have hb : ∀ k, rv.ownBlock = some k → w.heap.size ≤ k := fun k hk => (h.ownR.lt k hk).1
  have h3 := (h.blk.alloc o).grown hgr (own_ne_blk (h.ownR.alloc o) (h.blk.alloc o) (by decide))
  have h4 := (h.txt.alloc o).kept hgr (own_ne_own (h.txt.alloc o) (h.ownR.alloc o) (by decide))
  have h5 := (h.ownO.alloc o).kept hgr (own_ne_own (h.ownO.alloc o) (h.ownR.alloc o) (by decide))
  refine ⟨by rw [h3.cell]; rfl, h3.frozen 2, Lib.hid ⟨h3.set 2 v', ?_, ?_, ?_, ?_, h.hg⟩⟩
  · exact ownsRow_far h4 fun k hk => Below.heap_setCell _ _ _ _ (fun e => own_ne_blk h4 h3 (by decide) (by rw [hk, e]))
  · have := ownsRow_far (w' := w2.setCell ⟨g, 2, none⟩ v') hown fun k hk => Below.heap_setCell _ _ _ _ (fun e => own_ne_blk hown h3 (by decide) (by rw [hk, e]))
    simpa [i32s] using this
  · exact ownsRow_far h5 fun k hk => Below.heap_setCell _ _ _ _ (fun e => own_ne_blk h5 h3 (by decide) (by rw [hk, e]))
  · exact ((h.below.alloc h.below.size o).grown hgr (by have := h.below.size; simp; omega) hb).setCell h.hg _
theorem TuRel.putO {v' : Value} {r : Int} {o : Obj} (h : TuRel w wr g k bs rs os bv rv ov) (hown : w2.ownsRow w.heap.size 3 1 v' (os.length + 1) (i64s os ++ [.int .i64 r])) (hgr : (wr.alloc o).grownBy w2 ov.ownBlock) :
    w2.cell? ⟨g, 3, none⟩ = some ov ∧ w2.frozen? ⟨g, 3, none⟩ = false ∧ Hid (TuRel w (w2.setCell ⟨g, 3, none⟩ v') g k bs rs (os ++ [r]) bv rv v') := by
  have hb : ∀ k, ov.ownBlock = some k → w.heap.size ≤ k := fun k hk => (h.ownO.lt k hk).1
  have h3 := (h.blk.alloc o).grown hgr (own_ne_blk (h.ownO.alloc o) (h.blk.alloc o) (by decide))
  have h4 := (h.txt.alloc o).kept hgr (own_ne_own (h.txt.alloc o) (h.ownO.alloc o) (by decide))
  have h5 := (h.ownR.alloc o).kept hgr (own_ne_own (h.ownR.alloc o) (h.ownO.alloc o) (by decide))
  refine ⟨by rw [h3.cell]; rfl, h3.frozen 3, Lib.hid ⟨h3.set 3 v', ?_, ?_, ?_, ?_, h.hg⟩⟩
  · exact ownsRow_far h4 fun k hk => Below.heap_setCell _ _ _ _ (fun e => own_ne_blk h4 h3 (by decide) (by rw [hk, e]))
  · exact ownsRow_far h5 fun k hk => Below.heap_setCell _ _ _ _ (fun e => own_ne_blk h5 h3 (by decide) (by rw [hk, e]))
  · have := ownsRow_far (w' := w2.setCell ⟨g, 3, none⟩ v') hown fun k hk => Below.heap_setCell _ _ _ _ (fun e => own_ne_blk hown h3 (by decide) (by rw [hk, e]))
    simpa [i64s] using this
  · exact ((h.below.alloc h.below.size o).grown hgr (by have := h.below.size; simp; omega) hb).setCell h.hg _
theorem TuRel.refAt {e m U : Nat} {s : ByteArray} (h : TuRel w wr g k s.data.toList (runesOf s m) (offsOf (pre s m) e) bv rv ov) (hU : wr.heap.size ≤ U) : RefAt wr w.heap.size U g (pre s m) e s.data.toList := by
  obtain ⟨A, c, rfl, h3, h4⟩ := own_form h.txt
  obtain ⟨R, rc, rfl, h5, h6⟩ := own_form h.ownR
  obtain ⟨O, oc, rfl, h7, h8⟩ := own_form h.ownO
  rw [offsOf_length] at h7
  have hr := Rd.of_own (lo := w.heap.size) (U := U) h.ownR (Nat.le_refl _) hU
  have ho := Rd.of_own (lo := w.heap.size) (U := U) h.ownO (Nat.le_refl _) hU
  exact ⟨h.hg, Nat.lt_of_lt_of_le h.blk.lt hU, A, c, R, rc, O, oc, by rw [h.blk.cell]; rfl, by rw [h.blk.cell, pre_length]; simp [runesOf_len], by rw [h.blk.cell]; simp [offsOf_length], Rd.of_own h.txt (Nat.le_refl _) hU, hr, ho, h3, h4, h7, h8⟩
end

set_option maxRecDepth 20000 in
set_option maxHeartbeats 4000000 in
theorem refTurned_any {w : World} {lo U g : Nat} {k : Int} {s : ByteArray} {m : Nat} (hr : RefAt w lo U g (pre s m) s.size s.data.toList) (h0 : w.cell? ⟨g, 0, none⟩ = some (.int .i64 k)) (hU : U ≤ w.heap.size) (hm : m ≤ 65536) :
    Calls Tryd.prog 27 #[.pointer (some ⟨g, 0, none⟩)] w fun e w' => ∃ g', e = .returned (.pointer (some ⟨g', 0, none⟩)) ∧ RefAt w' w.heap.size w'.heap.size g' (pre (encS (revR s m)) m) (encS (revR s m)).size (encS (revR s m)).data.toList ∧ Below w.heap.size w w' := by
  obtain ⟨h1, h2, B, bc, R, rc, O, oc, hc1, hc2, hc3, hB, hR, hO, r1, r2, r3, r4⟩ := hr
  rw [pre_length] at hc2
  have hgl : g < w.heap.size := Nat.lt_of_lt_of_le h2 hU
  have HR := Lib.hid hR
  clear hB hO hR hc1 hc3 r1 r2 r3 r4
  go_enter Tryd.func27, Tryd.ntmps27
  go_wp2_with fail
  have hst : TuRel w ((w.alloc (.cells #[.int .i64 0] 3)).alloc (.cells #[.int .i64 k, .slice none 0 0, .slice none 0 0, .slice (some ⟨w.heap.size, 0, none⟩) 1 1] 52)) (w.heap.size + 1) k (encL ((revR s m).take 0)) ((revR s m).take 0) (offsOf [] 0) (.slice none 0 0) (.slice none 0 0) (.slice (some ⟨w.heap.size, 0, none⟩) 1 1) := by
    refine ⟨?_, World.ownsRow_nil _ _ _ _, World.ownsRow_nil _ _ _ _, ?_, ((Below.refl _ _).alloc (Nat.le_refl _) _).alloc (by simp) _, by omega⟩
    · have := Blk.new (w.alloc (.cells #[.int .i64 0] 3)) 52 #[.int .i64 k, .slice none 0 0, .slice none 0 0, .slice (some ⟨w.heap.size, 0, none⟩) 1 1]
      simpa using this
    · have := (World.ownsRow_lit (base := w.heap.size) (size := 1) (e := 3) w #[.int .i64 0] 1 (Nat.le_refl _) (by unfold maxLen; omega) rfl).alloc (.cells #[.int .i64 k, .slice none 0 0, .slice none 0 0, .slice (some ⟨w.heap.size, 0, none⟩) 1 1] 52)
      exact this
  have HST := Lib.hid hst
  clear hst
  go_loopg [4] (m + 1) (fun q i wr => ∃ (j : Nat) (bv rv ov : Value), q = m + 1 - j ∧ j ≤ m ∧ i = .int .i64 ((m : Int) - 1 - (j : Int)) ∧ Hid (TuRel w wr (w.heap.size + 1) k (encL ((revR s m).take j)) ((revR s m).take j) (((List.range (j + 1)).map fun t => ((encL ((revR s m).take t)).length : Int))) bv rv ov))
  case atStart => exact ⟨0, _, _, _, rfl, by omega, by go_num, HST⟩
  case round =>
    clear HST
    obtain ⟨j, bv, rv, ov, hgk, hj, rfl, HT⟩ := hrel
    have HG := Lib.hid hgk
    clear hgk
    by_cases hlt : j < m
    · obtain ⟨t, ht⟩ : ∃ t : Nat, (m : Int) - 1 - (j : Int) = (t : Int) := ⟨m - 1 - j, by omega⟩
      rw [ht]
      have hra := revR_at s m j hlt
      rw [ht] at hra
      have hrc := runes_at (pre s m) s.size t (by rw [pre_length]; omega)
      obtain ⟨b, o, hRe, _, hbU, hcell⟩ := HR.out (by simp [i32s, pre_length]; omega)
      have c3 := hcell _ _ (i32s_at hrc)
      generalize runeAt (full (pre s m) s.size) (t : Int) = r at hra c3
      subst hRe
      have hbl : b < w.heap.size := Nat.lt_of_lt_of_le hbU hU
      have hsc : Scalar r := revR_scalar s m r (List.mem_of_getElem? hra)
      have c3' : ∀ W, Below w.heap.size w W → W.cell? ⟨b, o + t, none⟩ = some (.int .i32 r) := fun W hW => (hW.cell (p := ⟨b, o + t, none⟩) hbl).trans c3
      have c2' : ∀ W, Below w.heap.size w W → W.cell? ⟨g, 2, none⟩ = some (.slice (some ⟨b, o, none⟩) m rc) := fun W hW => (hW.cell (p := ⟨g, 2, none⟩) hgl).trans hc2
      have HC3 := Lib.hid c3'
      have HC2 := Lib.hid c2'
      have htk : (revR s m).take (j + 1) = (revR s m).take j ++ [r] := by rw [List.take_add_one, hra]; rfl
      have HTK := Lib.hid htk
      have HLT := Lib.hid hlt
      have hi0 : (0 : Int) ≤ (t : Int) := by omega
      have hi1 : (t : Int) < (m : Int) := by omega
      have HHT := Lib.hid ht
      have hl1 : ((revR s m).take j).length = j := by rw [List.length_take, revR_len]; omega
      have hl2 := (encL_len ((revR s m).take j)).2
      rw [hl1] at hl2
      have hl3 : (((List.range (j + 1)).map fun t => ((encL ((revR s m).take t)).length : Int))).length = j + 1 := by simp
      have hosr : ((List.range (j + 1 + 1)).map fun t => ((encL ((revR s m).take t)).length : Int)) = ((List.range (j + 1)).map fun t => ((encL ((revR s m).take t)).length : Int)) ++ [((encL ((revR s m).take (j + 1))).length : Int)] := by rw [List.range_succ]; simp
      have HOS := Lib.hid hosr
      clear hra hrc hcell c3 c3' c2' htk hlt ht hosr HR hc2 h0
      generalize ((List.range (j + 1)).map fun t => ((encL ((revR s m).take t)).length : Int)) = os at HT hl3 HOS
      have HL1 := Lib.hid hl1
      generalize hrs : (revR s m).take j = rs at HT hl1 hl2 HTK HL1
      have HRS := Lib.hid hrs
      generalize hbs : encL rs = bs at HT hl2
      have HBS := Lib.hid hbs
      clear hrs hbs hl1
      go_wp2_with fail
      go_upto_region 5 with fail
      go_cut [] from 18 to 66 (fun wx => ∃ v', Hid (TuRel w wx (w.heap.size + 1) k (bs ++ Lib.encodeRune r) rs os v' rv ov))
      case first =>
        have q1 := HT.out.blk.cell 1
        have q2 := HC2.out wr HT.out.below
        have q3 := HC3.out wr HT.out.below
        simp only [List.getElem?_toArray, List.getElem?_cons_succ, List.getElem?_cons_zero] at q1
        have hap := appR_any HT.out.drew.txt hsc (by omega) HT.out.below.size
        go_region_with (first | (go_at_call 28; refine hap.mono ?_; rintro e W2 ⟨v', rfl, ho, hg⟩; obtain ⟨ob, hg'⟩ := hg.out; obtain ⟨A', c', rfl, _, _⟩ := own_form ho.out; obtain ⟨k1, k2, HP⟩ := HT.out.drew.putB ho.out hg'; clear hg' ho hg))
        all_goals (go_wp2_with fail; go_meet; exact ⟨_, HP⟩)
      case rest =>
        obtain ⟨v', HT2⟩ := hcut
        clear HT
        have hen := encRune_len r
        have hl4 : (bs ++ Lib.encodeRune r).length = bs.length + (Lib.encodeRune r).length := List.length_append
        have HDL := Lib.hid hl4
        generalize hbs2 : bs ++ Lib.encodeRune r = bs2 at HT2 hl4 HDL
        have HBS2 := Lib.hid hbs2
        clear hbs2
        go_upto_region 6 with fail
        go_cut [] from 18 to 66 (fun wx => ∃ v2, Hid (TuRel w wx (w.heap.size + 1) k bs2 (rs ++ [r]) os v' v2 ov))
        case first =>
          have q1 := HT2.out.blk.cell 2
          have q2 := HC2.out wc HT2.out.below
          have q3 := HC3.out wc HT2.out.below
          have hsz := HT2.out.below.size
          simp only [List.getElem?_toArray, List.getElem?_cons_succ, List.getElem?_cons_zero] at q1
          have hjr : rs.length ≤ 65536 := by have := HL1.out; omega
          have q4 := (HT2.out.alloc (.cells #[.int .i32 r] 21)).blk.cell 2
          simp only [List.getElem?_toArray, List.getElem?_cons_succ, List.getElem?_cons_zero] at q4
          go_region_law ((refine wp_app _ (.tmp 41) (.tmp 49) 49 (by rfl) w.heap.size 21 elR rv rs.length (i32s rs) (by rfl) (HT2.out.ownR.alloc _).drew 0 (wc.heap.size + 1) (some ⟨wc.heap.size, 0, none⟩) 1 1 [.int .i32 r] (by rfl) (fun h => by cases h) rfl (Rd.new wc _ _ _ (Nat.zero_le _) (by omega)) (by simp [Value.oneCell']) (by unfold maxLen; omega) (by omega) (by simp; omega) ?_; intro v2 W2 ho hg _ _; obtain ⟨A', c', rfl, _, _⟩ := own_form ho; obtain ⟨k1, k2, HP⟩ := HT2.out.putR ho (grown_undrew hg); clear hg ho))
          all_goals (go_wp2_with fail; go_meet; exact ⟨_, HP⟩)
        case rest =>
          obtain ⟨v2, HT3⟩ := hcut
          clear HT2
          have hRs : rs ++ [r] = (revR s m).take (j + 1) := HTK.out.symm
          have hb4 : bs2.length ≤ 300000 := by omega
          generalize hrs2 : rs ++ [r] = rs2 at HT3 hRs
          clear hrs2
          go_upto_region 7 with fail
          obtain ⟨A1, c1, rfl, hn1, _⟩ := own_form HT3.out.txt
          have q1 := HT3.out.blk.cell 3
          have q2 := HT3.out.blk.cell 1
          have hsz := HT3.out.below.size
          simp only [List.getElem?_toArray, List.getElem?_cons_succ, List.getElem?_cons_zero] at q1 q2
          have q4 := (HT3.out.alloc (.cells #[.int .i64 (bs2.length : Int)] 3)).blk.cell 3
          simp only [List.getElem?_toArray, List.getElem?_cons_succ, List.getElem?_cons_zero] at q4
          have hbb : bs2 = encL ((revR s m).take (j + 1)) := by rw [HTK.out, encL_append, encL_one, HBS.out, HBS2.out]
          have HBB := Lib.hid hbb
          have HRS2 := Lib.hid hRs
          have hol : os.length ≤ 65537 := by omega
          clear hbb hRs hl4 HDL hl3
          go_region_law ((refine wp_app _ (.tmp 57) (.tmp 63) 50 (by rfl) w.heap.size 3 elI ov os.length (i64s os) (by rfl) (HT3.out.ownO.alloc _).drew 0 (wc.heap.size + 1) (some ⟨wc.heap.size, 0, none⟩) 1 1 [.int .i64 (bs2.length : Int)] (by rfl) (fun h => by cases h) rfl (Rd.new wc _ _ _ (Nat.zero_le _) (by omega)) (by simp [Value.oneCell']) (by unfold maxLen; omega) (by omega) (by simp; omega) ?_; intro v3 W2 ho hg _ _; obtain ⟨A', c', rfl, _, _⟩ := own_form ho; obtain ⟨k1, k2, HP⟩ := HT3.out.putO ho (grown_undrew hg); clear hg ho))
          all_goals
            have hfin : Hid (TuRel w _ (w.heap.size + 1) k (encL ((revR s m).take (j + 1))) ((revR s m).take (j + 1)) ((List.range (j + 1 + 1)).map fun t => ((encL ((revR s m).take t)).length : Int)) _ _ _) := Lib.hid (by
              rw [HOS.out, ← HBB.out, ← HRS2.out]
              exact HP.out)
            clear HP HT3 q1 q2 q4
            go_wp2_with fail
            go_roundg (m + 1 - (j + 1))
            case measure => have := HG.out; have := HLT.out; omega
            case rel => exact ⟨j + 1, _, _, _, rfl, by have := HLT.out; omega, by have := HHT.out; go_num, hfin⟩
    · have hjm : j = m := by omega
      subst hjm
      have hi : ¬ (0 : Int) ≤ (j : Int) - 1 - (j : Int) := by omega
      have hS := revR_scalar s j
      have hl := revR_len s j
      have hfin : TuRel w wr (w.heap.size + 1) k (encS (revR s j)).data.toList (runesOf (encS (revR s j)) j) (offsOf (pre (encS (revR s j)) j) (encS (revR s j)).size) bv rv ov := by
        have e1 := enc_runes hS
        rw [hl] at e1
        have e2 : (List.range (j + 1)).map (fun t => ((encL ((revR s j).take t)).length : Int)) = offsOf (pre (encS (revR s j)) j) (encS (revR s j)).size := by
          refine List.ext_getElem (by simp [offsOf_length, pre_length]) fun t h1 h2 => ?_
          rw [List.length_map, List.length_range] at h1
          have h3 := offsOf_at (pre (encS (revR s j)) j) (encS (revR s j)).size t (by rw [pre_length]; exact h1)
          have hc := enc_cnt hS
          rw [hl] at hc
          rw [offAt_full hc (by omega), enc_pos hS t (by omega)] at h3
          rw [List.getElem?_eq_getElem h2] at h3
          injection h3 with h3
          rw [h3]
          simp
        have h := HT.out
        rw [List.take_of_length_le (by omega), e2] at h
        rw [encS_list, runesOf, e1]
        exact h
      have HF := Lib.hid (hfin.refAt (Nat.le_refl _))
      have HBE := Lib.hid HT.out.below
      clear hfin HT hS hl hlt
      go_wp2_with fail
      go_ret
      exact ⟨_, rfl, HF.out, HBE.out⟩
end Go.Proofs.YtkiljhlbeffnfaaDoor
