/- progs.Closure: the walk. -/
import Derived.Test.YtbhcgjahlfpjoaaPc3
namespace Go.Proofs.Ytbhcgjahlfpjoaa
open Go.RowKit


theorem nil_or_snoc {α : Type} (l : List α) : l = [] ∨ ∃ k p, l = k ++ [p] := by
  rcases List.eq_nil_or_concat l with h | ⟨k, p, h⟩
  · exact .inl h
  · exact .inr ⟨k, p, by rw [h, List.concat_eq_append]⟩
theorem take_one_drop {α : Type} {l : List α} {j : Nat} {x : α} (h : l[j]? = some x) : l.take j ++ ([x] ++ l.drop (j + 1)) = l := by
  obtain ⟨hlt, he⟩ := List.getElem?_eq_some_iff.1 h
  rw [List.singleton_append, ← he, ← List.drop_eq_getElem_cons hlt, List.take_append_drop]
/-- Does an instruction's place hold, where at_ holds? -/
def AtT (at_ : Int) (x : MI) : Bool := bits .and .i64 at_ x.at_ != 0
set_option maxRecDepth 20000 in
set_option maxHeartbeats 1000000 in
theorem closure_go {w : World} {A : Option Addr} {n c : Nat} {st cp : Int} {L : List MI} (hA : PgIn w A n c L) (hs : ∀ x ∈ L, x.n ≤ 1000000) {B : Option Addr} {m d : Nat} {l : List Int} (hI : IlIn w B m d l) (at_ : Int) (lng : Bool) (hyes : PgOK n st cp L) (hin : InL n l) :
    Calls Try.prog 40 #[.agg #[.slice A n c, .int .i64 st, .int .i64 cp], .slice B m d, .int .i64 at_, .bool lng] w fun e w' => ∃ s, Runs L (AtT at_) lng l (CS.start n) s ∧ ∃ O oc, e = .returned (.tuple #[.slice O s.out.length oc, .bool s.mt]) ∧ w'.ownsRow w.heap.size 3 1 (.slice O s.out.length oc) s.out.length (i64s s.out) ∧ Below w.heap.size w w' := by
  have hb : Below w.heap.size w (w.alloc (.cells #[.slice A n c, .int .i64 st, .int .i64 cp] 38)) := (Below.refl _ _).alloc (Nat.le_refl _) _
  have hB := Blk.new w 38 #[.slice A n c, .int .i64 st, .int .i64 cp]
  have hcon := pcheck_any (hA.below hb) (st := st) (cp := cp) hs
  have hn := Nat.le_trans hA.le hA.max
  have HB := Lib.hid hb
  have HBK := Lib.hid hB
  have HIN := Lib.hid hin
  have HYES := Lib.hid hyes
  have HI := Lib.hid hI
  have HA := Lib.hid hA
  have HN := Lib.hid hn
  have eg : ∀ args w, (callFunc 74 args).run Try.prog w = .ok (.enter 74 args) w := enters_of Try.func74 (by kernel_rfl) rfl
  clear hA hs hb hin hyes hI hB hn
  go_enter Try.func40, Try.ntmps40
  go_wp2_with fail
  refine hcon.mono ?_
  rintro e w2 ⟨v, rfl, hv, hb2⟩
  obtain ⟨rfl⟩ : v = 0 := by
    rcases hv with ⟨h, _⟩ | ⟨_, h⟩
    · exact h
    · exact absurd HYES.out h
  have hb3 := HB.out.trans (hb2.mono HB.out.size)
  have hB2 := HBK.out.below hb2 HBK.out.lt
  have hcal := containsI_any (HI.out.below hb3) (fun x => !hereB n x) 74 #[.pointer (some ⟨w.heap.size, 0, none⟩)] eg (fun W x hW => (out_any (hB2.below hW hB2.lt) HN.out x).mono fun e w' ⟨h1, h2⟩ => ⟨h1, h2 ▸ Below.refl _ _⟩)
  rw [(any_notI n l).2 HIN.out] at hcal
  have HB2 := Lib.hid hb3
  have HBK2 := Lib.hid hB2
  clear hcon hb2 hv hb3 hB2 HBK HB eg
  go_wp2_with (go_at_call 73; refine hcal.mono ?_; rintro e w3 ⟨rfl, hb4⟩; have HB3 := Lib.hid (HB2.out.trans (hb4.mono HB2.out.size)); have hB3 := HBK2.out.below hb4 HBK2.out.lt; clear hb4 HB2; have HBK3 := Lib.hid hB3; have c1 := hB3.cell 0; simp only [List.getElem?_toArray, List.getElem?_cons_zero] at c1; clear hB3 HBK2)
  simp only [mkSeen _ HYES.out.2.1, Result.andThen_ok]
  go_wp2_with fail
  obtain ⟨gs, hgs⟩ : ∃ gs, gs = w3.heap.size := ⟨_, rfl⟩
  have h0 : ClM w (w3.alloc (.cells ((List.replicate n false).map Value.bool).toArray 4)) A n c st cp gs (List.replicate n false) none 0 [] none 0 [] :=
    ⟨HB3.out.alloc HB3.out.size _, HBK3.out.alloc _, hgs ▸ Blk.new w3 _ _, World.ownsRow_nil _ _ _ _, World.ownsRow_nil _ _ _ _, .inl rfl, hgs ▸ HB3.out.size⟩
  rw [← hgs]
  have hmm : (m : Int) ≤ 9223372036854775807 := by have h1 := HI.out.max; have h2 := HI.out.le; unfold maxLen at h1; omega
  have hL : Leads L := .of_ok HYES.out HA.out.len
  have HL := Lib.hid hL
  have hn := HYES.out.2.1
  have HNN := Lib.hid hn
  clear hcal HB3 HBK3 c1 HN hL hn hgs
  rw [show ((List.replicate n false).map Value.bool).toArray = Array.replicate n (Value.bool false) by simp] at h0
  have H0 := Lib.hid h0
  clear h0
  generalize w3.alloc (.cells (Array.replicate n (Value.bool false)) 4) = w4 at H0 ⊢
  go_loopg [32, 10, 11, 13] (m + 1) (fun q i o k b W => ∃ (j oc kc : Nat) (O K : Option Addr) (s : CS), q = m + 1 - j ∧ j ≤ m ∧ i = .int .i64 (j : Int) ∧ o = .slice O s.out.length oc ∧ k = .slice K 0 kc ∧ b = .bool s.mt ∧
    Hid (ClM w W A n c st cp gs s.seen O oc s.out K kc [] ∧ s.seen.length = n ∧ s.out.length + s.left ≤ n ∧ s.done lng = false ∧ Runs L (AtT at_) lng (l.take j) (CS.start n) s))
  case atStart => exact ⟨0, 0, 0, none, none, CS.start n, rfl, Nat.zero_le _, rfl, rfl, rfl, rfl, Lib.hid ⟨H0.out, by simp [CS.start], by simp [CS.start, CS.left], rfl, .nil _⟩⟩
  case round =>
    obtain ⟨j, oc, kc, O, K, s, hgk, hj, rfl, rfl, rfl, rfl, HR⟩ := hrel
    have HG := Lib.hid hgk
    have HJ := Lib.hid hj
    clear hgk hj
    by_cases hlt : j < m
    · obtain ⟨b, o, x, rfl, hb, hx, hc⟩ := HI.out.at hlt
      have c1 := hc wr (.of_below HR.out.1.below (Nat.le_refl _))
      have hi : (j : Int) < (m : Int) := by omega
      have HX := Lib.hid hx
      have HLT := Lib.hid hlt
      clear hc hb hx hlt
      go_wp2_with fail
      refine wp_scope_two (fun lab q a' W => ∃ (v8 v9 v10 v11 v12 v13 v17 v36 v37 v38 v39 v40 v41 v42 v43 v44 v45 v46 v47 v48 v49 v50 v51 v52 v53 v54 v55 v56 v57 v58 v59 v60 v61 v62 v63 v64 v65 v66 v67 v68 v69 v70 v71 v72 v73 v74 v75 v76 v77 v78 v79 v80 v81 v82 v83 v84 v85 v86 v87 v88 v89 v90 v91 v92 v93 v94 v95 v96 v97 v98 v99 v100 : Value), (∃ (oc kc : Nat) (O K : Option Addr) (s' : CS) (ks r : List Int), v10 = .slice O s'.out.length oc ∧ v11 = .slice K ks.length kc ∧ v13 = .bool s'.mt ∧
        ((lab = 0 ∧ r = ks.reverse) ∨ (lab = 1 ∧ ∃ p : Int, v12 = .int .i64 p ∧ r = p :: ks.reverse)) ∧ q = 4 * s'.left + 2 * ks.length + lab ∧
        Hid (ClM w W A n c st cp gs s'.seen O oc s'.out K kc ks ∧ s'.seen.length = n ∧ s'.out.length + s'.left ≤ n ∧ ks.length + s'.left ≤ n + 1 ∧ s'.done lng = false ∧ InL n r ∧ ∀ e, Runs L (AtT at_) lng r s' e → Runs L (AtT at_) lng [x] s e)) ∧ a' = { tmps := #[.agg #[.slice A n c, .int .i64 st, .int .i64 cp], .slice (some ⟨b, o, none⟩) m d, .int .i64 at_, .bool lng, .pointer (some ⟨w.heap.size, 0, none⟩), undef, undef, undef, v8, v9, v10, v11, v12, v13, .slice (some ⟨gs, 0, none⟩) n n, undef, .int .i64 x, v17, .agg #[.slice A n c, .int .i64 st, .int .i64 cp], .int .i64 0, .bool false, .bool false, .slice (some ⟨b, o, none⟩) m d, .func (.func 74) #[] #[.pointer (some ⟨w.heap.size, 0, none⟩)], .bool false, .bool false, .pointer (some ⟨w.heap.size, 0, none⟩), .slice A n c, .int .i64 (n : Int), .slice (some ⟨gs, 0, none⟩) n n, .slice (some ⟨b, o, none⟩) m d, .int .i64 (m : Int), .int .i64 (j : Int), .bool true, .pointer (some ⟨b, o + j, none⟩), .int .i64 x, v36, v37, v38, v39, v40, v41, v42, v43, v44, v45, v46, v47, v48, v49, v50, v51, v52, v53, v54, v55, v56, v57, v58, v59, v60, v61, v62, v63, v64, v65, v66, v67, v68, v69, v70, v71, v72, v73, v74, v75, v76, v77, v78, v79, v80, v81, v82, v83, v84, v85, v86, v87, v88, v89, v90, v91, v92, v93, v94, v95, v96, v97, v98, v99, v100, u101, undef, undef], defers := [] }) rfl rfl ?_ ?_ ?_
      · intro gk _ wr hinv
        obtain ⟨u8, hinv⟩ := hinv
        obtain ⟨u9, hinv⟩ := hinv
        obtain ⟨u10, hinv⟩ := hinv
        obtain ⟨u11, hinv⟩ := hinv
        obtain ⟨u12, hinv⟩ := hinv
        obtain ⟨u13, hinv⟩ := hinv
        obtain ⟨u17, hinv⟩ := hinv
        obtain ⟨u36, hinv⟩ := hinv
        obtain ⟨u37, hinv⟩ := hinv
        obtain ⟨u38, hinv⟩ := hinv
        obtain ⟨u39, hinv⟩ := hinv
        obtain ⟨u40, hinv⟩ := hinv
        obtain ⟨u41, hinv⟩ := hinv
        obtain ⟨u42, hinv⟩ := hinv
        obtain ⟨u43, hinv⟩ := hinv
        obtain ⟨u44, hinv⟩ := hinv
        obtain ⟨u45, hinv⟩ := hinv
        obtain ⟨u46, hinv⟩ := hinv
        obtain ⟨u47, hinv⟩ := hinv
        obtain ⟨u48, hinv⟩ := hinv
        obtain ⟨u49, hinv⟩ := hinv
        obtain ⟨u50, hinv⟩ := hinv
        obtain ⟨u51, hinv⟩ := hinv
        obtain ⟨u52, hinv⟩ := hinv
        obtain ⟨u53, hinv⟩ := hinv
        obtain ⟨u54, hinv⟩ := hinv
        obtain ⟨u55, hinv⟩ := hinv
        obtain ⟨u56, hinv⟩ := hinv
        obtain ⟨u57, hinv⟩ := hinv
        obtain ⟨u58, hinv⟩ := hinv
        obtain ⟨u59, hinv⟩ := hinv
        obtain ⟨u60, hinv⟩ := hinv
        obtain ⟨u61, hinv⟩ := hinv
        obtain ⟨u62, hinv⟩ := hinv
        obtain ⟨u63, hinv⟩ := hinv
        obtain ⟨u64, hinv⟩ := hinv
        obtain ⟨u65, hinv⟩ := hinv
        obtain ⟨u66, hinv⟩ := hinv
        obtain ⟨u67, hinv⟩ := hinv
        obtain ⟨u68, hinv⟩ := hinv
        obtain ⟨u69, hinv⟩ := hinv
        obtain ⟨u70, hinv⟩ := hinv
        obtain ⟨u71, hinv⟩ := hinv
        obtain ⟨u72, hinv⟩ := hinv
        obtain ⟨u73, hinv⟩ := hinv
        obtain ⟨u74, hinv⟩ := hinv
        obtain ⟨u75, hinv⟩ := hinv
        obtain ⟨u76, hinv⟩ := hinv
        obtain ⟨u77, hinv⟩ := hinv
        obtain ⟨u78, hinv⟩ := hinv
        obtain ⟨u79, hinv⟩ := hinv
        obtain ⟨u80, hinv⟩ := hinv
        obtain ⟨u81, hinv⟩ := hinv
        obtain ⟨u82, hinv⟩ := hinv
        obtain ⟨u83, hinv⟩ := hinv
        obtain ⟨u84, hinv⟩ := hinv
        obtain ⟨u85, hinv⟩ := hinv
        obtain ⟨u86, hinv⟩ := hinv
        obtain ⟨u87, hinv⟩ := hinv
        obtain ⟨u88, hinv⟩ := hinv
        obtain ⟨u89, hinv⟩ := hinv
        obtain ⟨u90, hinv⟩ := hinv
        obtain ⟨u91, hinv⟩ := hinv
        obtain ⟨u92, hinv⟩ := hinv
        obtain ⟨u93, hinv⟩ := hinv
        obtain ⟨u94, hinv⟩ := hinv
        obtain ⟨u95, hinv⟩ := hinv
        obtain ⟨u96, hinv⟩ := hinv
        obtain ⟨u97, hinv⟩ := hinv
        obtain ⟨u98, hinv⟩ := hinv
        obtain ⟨u99, hinv⟩ := hinv
        obtain ⟨u100, hinv⟩ := hinv
        obtain ⟨hrel, ha⟩ := hinv
        subst ha
        intro J HJ HFALL
        replace HJ := Lib.hid HJ
        replace HFALL := Lib.hid HFALL
        obtain ⟨oc2, kc2, O2, K2, s2, ks, r, rfl, rfl, rfl, hr, hgk, HR2⟩ := hrel
        obtain rfl : r = ks.reverse := by
          rcases hr with ⟨_, h⟩ | ⟨h, _⟩
          · exact h
          · cases h
        have HGK := Lib.hid hgk
        clear hr hgk
        rcases nil_or_snoc ks with rfl | ⟨k, p, rfl⟩
        · go_wp2_with fail
          simp only [Exit.two, Exit.inBlock, Exit.then, if_true]
          go_wp2_with fail
          go_roundg (m + 1 - (j + 1))
          case measure => have := HG.out; have := HLT.out; omega
          case rel =>
            obtain ⟨q1, q2, q3, q4, q5, q6, q7⟩ := HR2.out
            refine ⟨j + 1, oc2, kc2, O2, K2, s2, rfl, by have := HLT.out; omega, by go_num, rfl, rfl, rfl, Lib.hid ⟨q1, q2, q3, q5, ?_⟩⟩
            rw [List.take_add_one, HX.out]
            exact HR.out.2.2.2.2.app (q7 s2 (.nil s2))
        · obtain ⟨g, rfl, hS0⟩ := HR2.out.1.top
          have e1 : (k ++ [p]).length = k.length + 1 := by simp
          rw [e1]
          have hkl : k.length ≤ 20000 := by have := HR2.out.2.2.2.1; have := HNN.out; omega
          have e2 : ((k.length + 1 : Nat) : Int) = (k.length : Int) + 1 := by omega
          have e3 : IntKind.i64.wrap ((k.length : Int) + 1 - 1) = (k.length : Int) := by rw [IntKind.wrap_i64]; omega
          have e4 : ((k.length : Int) + 1 == 0) = false := beq_eq_false_iff_ne.2 (by omega)
          have hnc : k.length + 1 ≤ kc2 := by
            obtain ⟨_, _, hof, h1, _⟩ := own_form HR2.out.1.stk
            injection hof with _ _ hof
            subst hof
            rwa [e1] at h1
          have e5 : k.length ≤ kc2 := by omega
          have e6 : (k.length : Int) ≤ (kc2 : Int) := by omega
          have e7 : (0 : Int) ≤ (k.length : Int) := by omega
          clear HR HX HJ
          go_upto_region 12 with fail
          go_region
          go_wp2_with fail
          go_step3
          go_step
          go_step
          refine HFALL.out (4 * s2.left + 2 * k.length + 1) _ _ (by have := HGK.out; rw [e1] at this; omega) ?_
          (repeat apply Exists.intro)
          refine ⟨?_, rfl⟩
          obtain ⟨q1, q2, q3, q4, q5, q6, q7⟩ := HR2.out
          rw [e1] at q4
          exact ⟨oc2, kc2, O2, some ⟨g, 0, none⟩, s2, k, p :: k.reverse, rfl, rfl, rfl, .inr ⟨by trivial, p, rfl, rfl⟩, rfl, Lib.hid ⟨q1.pop.drew, q2, q3, by omega, q5, by rw [List.reverse_append] at q6; exact q6, fun e he => q7 e (by rw [List.reverse_append]; exact he)⟩⟩
      · intro gk _ wr hinv
        obtain ⟨u8, hinv⟩ := hinv
        obtain ⟨u9, hinv⟩ := hinv
        obtain ⟨u10, hinv⟩ := hinv
        obtain ⟨u11, hinv⟩ := hinv
        obtain ⟨u12, hinv⟩ := hinv
        obtain ⟨u13, hinv⟩ := hinv
        obtain ⟨u17, hinv⟩ := hinv
        obtain ⟨u36, hinv⟩ := hinv
        obtain ⟨u37, hinv⟩ := hinv
        obtain ⟨u38, hinv⟩ := hinv
        obtain ⟨u39, hinv⟩ := hinv
        obtain ⟨u40, hinv⟩ := hinv
        obtain ⟨u41, hinv⟩ := hinv
        obtain ⟨u42, hinv⟩ := hinv
        obtain ⟨u43, hinv⟩ := hinv
        obtain ⟨u44, hinv⟩ := hinv
        obtain ⟨u45, hinv⟩ := hinv
        obtain ⟨u46, hinv⟩ := hinv
        obtain ⟨u47, hinv⟩ := hinv
        obtain ⟨u48, hinv⟩ := hinv
        obtain ⟨u49, hinv⟩ := hinv
        obtain ⟨u50, hinv⟩ := hinv
        obtain ⟨u51, hinv⟩ := hinv
        obtain ⟨u52, hinv⟩ := hinv
        obtain ⟨u53, hinv⟩ := hinv
        obtain ⟨u54, hinv⟩ := hinv
        obtain ⟨u55, hinv⟩ := hinv
        obtain ⟨u56, hinv⟩ := hinv
        obtain ⟨u57, hinv⟩ := hinv
        obtain ⟨u58, hinv⟩ := hinv
        obtain ⟨u59, hinv⟩ := hinv
        obtain ⟨u60, hinv⟩ := hinv
        obtain ⟨u61, hinv⟩ := hinv
        obtain ⟨u62, hinv⟩ := hinv
        obtain ⟨u63, hinv⟩ := hinv
        obtain ⟨u64, hinv⟩ := hinv
        obtain ⟨u65, hinv⟩ := hinv
        obtain ⟨u66, hinv⟩ := hinv
        obtain ⟨u67, hinv⟩ := hinv
        obtain ⟨u68, hinv⟩ := hinv
        obtain ⟨u69, hinv⟩ := hinv
        obtain ⟨u70, hinv⟩ := hinv
        obtain ⟨u71, hinv⟩ := hinv
        obtain ⟨u72, hinv⟩ := hinv
        obtain ⟨u73, hinv⟩ := hinv
        obtain ⟨u74, hinv⟩ := hinv
        obtain ⟨u75, hinv⟩ := hinv
        obtain ⟨u76, hinv⟩ := hinv
        obtain ⟨u77, hinv⟩ := hinv
        obtain ⟨u78, hinv⟩ := hinv
        obtain ⟨u79, hinv⟩ := hinv
        obtain ⟨u80, hinv⟩ := hinv
        obtain ⟨u81, hinv⟩ := hinv
        obtain ⟨u82, hinv⟩ := hinv
        obtain ⟨u83, hinv⟩ := hinv
        obtain ⟨u84, hinv⟩ := hinv
        obtain ⟨u85, hinv⟩ := hinv
        obtain ⟨u86, hinv⟩ := hinv
        obtain ⟨u87, hinv⟩ := hinv
        obtain ⟨u88, hinv⟩ := hinv
        obtain ⟨u89, hinv⟩ := hinv
        obtain ⟨u90, hinv⟩ := hinv
        obtain ⟨u91, hinv⟩ := hinv
        obtain ⟨u92, hinv⟩ := hinv
        obtain ⟨u93, hinv⟩ := hinv
        obtain ⟨u94, hinv⟩ := hinv
        obtain ⟨u95, hinv⟩ := hinv
        obtain ⟨u96, hinv⟩ := hinv
        obtain ⟨u97, hinv⟩ := hinv
        obtain ⟨u98, hinv⟩ := hinv
        obtain ⟨u99, hinv⟩ := hinv
        obtain ⟨u100, hinv⟩ := hinv
        obtain ⟨hrel, ha⟩ := hinv
        subst ha
        intro J HJ
        replace HJ := Lib.hid HJ
        obtain ⟨oc2, kc2, O2, K2, s2, ks, r, rfl, rfl, rfl, hr, hgk, HR2⟩ := hrel
        obtain ⟨p, rfl, rfl⟩ : ∃ p : Int, u12 = .int .i64 p ∧ r = p :: ks.reverse := by
          rcases hr with ⟨h, _⟩ | ⟨_, h⟩
          · cases h
          · exact h
        have HGK := Lib.hid hgk
        clear hr hgk
        obtain ⟨hp0, hp1⟩ := HR2.out.2.2.2.2.2.1 p (List.mem_cons_self ..)
        obtain ⟨q, rfl⟩ : ∃ q : Nat, p = (q : Int) := ⟨p.toNat, by omega⟩
        have hqn : q < n := by omega
        have hslen := HR2.out.2.1
        have hsq : s2.seen[q]? = some (s2.seen[q]'(by omega)) := List.getElem?_eq_getElem _
        have c2 := HR2.out.1.seenAt hsq
        have f2 := HR2.out.1.seenB.frozen q
        have hqi : (q : Int) < (n : Int) := by omega
        cases hb : s2.seen[q]'(by omega) with
        | true =>
          rw [hb] at hsq c2
          have HSQ := Lib.hid hsq
          clear hb hsq hqn hslen hp0 hp1
          go_wp2_with fail
          go_step3
          simp only [Exit.two, Exit.then]
          refine HJ.out 0 (4 * s2.left + 2 * ks.length) _ _ (by decide) ?_ ?_
          · rw [HGK.out]; omega
          · (repeat apply Exists.intro)
            refine ⟨?_, rfl⟩
            obtain ⟨q1, q2, q3, q4, q5, q6, q7⟩ := HR2.out
            exact ⟨oc2, kc2, O2, K2, s2, ks, ks.reverse, rfl, rfl, rfl, .inl ⟨by trivial, rfl⟩, by omega, Lib.hid ⟨q1, q2, q3, q4, q5, fun a ha => q6 a (List.mem_cons_of_mem _ ha), fun e he => q7 e (.skip (.inl HSQ.out) he)⟩⟩
        | false =>
          rw [hb] at hsq c2
          have HSQ := Lib.hid hsq
          obtain ⟨bA, oA, y, rfl, hbA, hy, hyI, hyc⟩ := HA.out.at hqn
          have hM1 := HR2.out.1.setSeen q
          have c3 := hM1.box.cell 0
          simp only [List.getElem?_toArray, List.getElem?_cons_zero] at c3
          obtain ⟨c4, c5, c6, c7, c8⟩ := hyc _ (.of_below hM1.below (Nat.le_refl _))
          have HM1 := Lib.hid hM1
          have HY := Lib.hid hy
          have HQN := Lib.hid hqn
          clear hb hsq hqn hslen hp0 hp1 hyc hM1 hy hbA hyI
          go_upto_region 15 with fail
          generalize wr.setCell ⟨gs, q, none⟩ (.bool true) = W1 at HM1 c3 c4 c5 c6 c7 c8 ⊢
          go_upto_region 16 with fail
          have hbx := Blk.new W1 60 #[.int .i64 y.op, .int .i64 y.out, .int .i64 y.arg, .slice y.A y.n y.c, .int .i64 y.at_]
          have d0 := hbx.cell 0
          have d1 := hbx.cell 1
          have d2 := hbx.cell 2
          have d4 := hbx.cell 4
          simp only [List.getElem?_toArray, List.getElem?_cons_zero, List.getElem?_cons_succ] at d0 d1 d2 d4
          have HBX := Lib.hid hbx
          have HM2 := Lib.hid (HM1.out.alloc (.cells #[.int .i64 y.op, .int .i64 y.out, .int .i64 y.arg, .slice y.A y.n y.c, .int .i64 y.at_] 60))
          obtain ⟨hla, hlo, h1, h6⟩ := HL.out y (List.mem_of_getElem? HY.out)
          rw [HA.out.len] at hla hlo
          have hks : ks.length ≤ 10001 := by have := HR2.out.2.2.2.1; have := HNN.out; omega
          have hos : s2.out.length ≤ 10000 := by have := HR2.out.2.2.1; have := HNN.out; omega
          clear hbx HM1 c2 f2 c3 c4 c5 c6 c7 c8
          generalize W1.alloc (.cells #[.int .i64 y.op, .int .i64 y.out, .int .i64 y.arg, .slice y.A y.n y.c, .int .i64 y.at_] 60) = W2 at d0 d1 d2 d4 HM2 HBX ⊢
          generalize W1.heap.size = gx at d0 d1 d2 d4 HBX ⊢
          rcases (show y.op = 1 ∨ y.op = 2 ∨ y.op = 3 ∨ y.op = 4 ∨ y.op = 5 ∨ y.op = 6 by omega) with hop | hop | hop | hop | hop | hop
          · have hop : y.op = 1 := hop
            rw [hop] at d0
            clear hlo hla h6 h1
            obtain hl | hl := Bool.eq_false_or_eq_true lng
            · have hll : (!lng) = false := by rw [hl]; rfl
              have HLL := Lib.hid hl
              clear hl
              have hm : s2.mark y (q : Int) = ⟨s2.seen.set q true, s2.out, true⟩ := by simp [CS.mark, hop]
              have hl3 := CS.left_mark (x := y) (pc := (q : Int)) HSQ.out
              rw [hm] at hl3
              have HL3 := Lib.hid hl3
              have HM := Lib.hid hm
              clear hl3 hm
              go_wp2_with fail
              go_step3
              simp only [Exit.two]
              refine HJ.out 0 (4 * CS.left ⟨s2.seen.set q true, s2.out, true⟩ + 2 * ks.length + 0) _ _ (by decide) ?_ ?_
              · have h1 := HGK.out; have h2 := HL3.out; first | omega | (simp only [List.length_append, List.length_cons, List.length_nil] at *; omega)
              · (repeat apply Exists.intro)
                refine ⟨?_, rfl⟩
                obtain ⟨q1, q2, q3, q4, q5, q6, q7⟩ := HR2.out
                have h2 := HL3.out
                refine ⟨oc2, kc2, O2, K2, ⟨s2.seen.set q true, s2.out, true⟩, ks, ks.reverse, by simp, by simp, by simp, .inl ⟨by trivial, rfl⟩, by first | rfl | simp | omega, Lib.hid ⟨HM2.out, by simp [q2], ?_, ?_, by simp [CS.done, HLL.out], ?_, fun e he => q7 e (.step y HY.out HSQ.out q5 ?_)⟩⟩
                · first | omega | (dsimp only; omega)
                · first | omega | (simp only [List.length_append, List.length_cons, List.length_nil]; omega)
                · intro a ha
                  have hq6 : ∀ a ∈ ks.reverse, 0 ≤ a ∧ a < (n : Int) := fun a h => q6 a (List.mem_cons_of_mem _ h)
                  try simp only [List.mem_cons, List.reverse_append, List.reverse_cons, List.reverse_nil, List.nil_append, List.singleton_append] at ha
                  first | exact hq6 a ha | (rcases ha with rfl | rfl | ha <;> first | exact HO.out | exact HAR.out | exact hq6 a ha) | (rcases ha with rfl | ha <;> first | exact HO.out | exact hq6 a ha)
                · rw [HM.out]
                  simpa [succs, hop] using he
            · have hll : (!lng) = true := by rw [hl]; rfl
              have HLL := Lib.hid hl
              clear hl
              have hm : s2.mark y (q : Int) = ⟨s2.seen.set q true, s2.out, true⟩ := by simp [CS.mark, hop]
              have hl3 := CS.left_mark (x := y) (pc := (q : Int)) HSQ.out
              rw [hm] at hl3
              have HL3 := Lib.hid hl3
              have HM := Lib.hid hm
              clear hl3 hm
              go_wp2_with fail
              simp only [Exit.two, Exit.inBlock, Exit.then]
              go_ret2
              obtain ⟨q1, q2, q3, q4, q5, q6, q7⟩ := HR2.out
              have hfin := q7 _ (.step y HY.out HSQ.out q5 (by rw [HM.out]; exact Runs.stuck (by simp [CS.done, HLL.out]) _))
              refine ⟨⟨s2.seen.set q true, s2.out, true⟩, ?_, O2, oc2, rfl, HM2.out.own, HM2.out.below⟩
              have h0 := HR.out.2.2.2.2.app (hfin.app (Runs.stuck (by simp [CS.done, HLL.out]) (l.drop (j + 1))))
              rwa [take_one_drop HX.out] at h0
          · have hop : y.op = 2 := hop
            rw [hop] at d0
            have HO := Lib.hid (hlo (by omega))
            clear hlo hla h6 h1
            have hm : s2.mark y (q : Int) = ⟨s2.seen.set q true, s2.out ++ [(q : Int)], s2.mt⟩ := by simp [CS.mark, hop]
            have hl3 := CS.left_mark (x := y) (pc := (q : Int)) HSQ.out
            rw [hm] at hl3
            have HL3 := Lib.hid hl3
            have HM := Lib.hid hm
            clear hl3 hm
            go_wp2_with (at_builtin; refine wpList_app _ rfl _ _ 42 rfl w.heap.size 3 elI (.slice O2 s2.out.length oc2) _ _ rfl (HM2.out.own.alloc _) 0 (W2.heap.size + 1) _ 1 1 [.int .i64 (q : Int)] rfl (fun h => by cases h) rfl (Rd.new W2 _ _ _ (Nat.zero_le _) (by omega)) (by simp [Value.oneCell']) (by unfold maxLen; omega) (by omega) (by have := HM2.out.below.size; simp; omega) ?_; intro v' W3 hO hg hb _; obtain ⟨O3, oc3, rfl, hM3⟩ := (HM2.out.alloc _).putOut hO hg hb; have HM3 := Lib.hid hM3; clear hO hg hb hM3)
            go_step3
            simp only [Exit.two]
            refine HJ.out 0 (4 * CS.left ⟨s2.seen.set q true, s2.out ++ [(q : Int)], s2.mt⟩ + 2 * ks.length + 0) _ _ (by decide) ?_ ?_
            · have h1 := HGK.out; have h2 := HL3.out; first | omega | (simp only [List.length_append, List.length_cons, List.length_nil] at *; omega)
            · (repeat apply Exists.intro)
              refine ⟨?_, rfl⟩
              obtain ⟨q1, q2, q3, q4, q5, q6, q7⟩ := HR2.out
              have h2 := HL3.out
              refine ⟨oc3, kc2, O3, K2, ⟨s2.seen.set q true, s2.out ++ [(q : Int)], s2.mt⟩, ks, ks.reverse, by simp, by simp, by simp, .inl ⟨by trivial, rfl⟩, by first | rfl | simp | omega, Lib.hid ⟨HM3.out, by simp [q2], ?_, ?_, q5, ?_, fun e he => q7 e (.step y HY.out HSQ.out q5 ?_)⟩⟩
              · first | omega | (simp only [List.length_append, List.length_cons, List.length_nil]; omega)
              · first | omega | (simp only [List.length_append, List.length_cons, List.length_nil]; omega)
              · intro a ha
                have hq6 : ∀ a ∈ ks.reverse, 0 ≤ a ∧ a < (n : Int) := fun a h => q6 a (List.mem_cons_of_mem _ h)
                try simp only [List.mem_cons, List.reverse_append, List.reverse_cons, List.reverse_nil, List.nil_append, List.singleton_append] at ha
                first | exact hq6 a ha | (rcases ha with rfl | rfl | ha <;> first | exact HO.out | exact HAR.out | exact hq6 a ha) | (rcases ha with rfl | ha <;> first | exact HO.out | exact hq6 a ha)
              · rw [HM.out]
                simpa [succs, hop] using he
          · have hop : y.op = 3 := hop
            rw [hop] at d0
            have HO := Lib.hid (hlo (by omega))
            have HAR := Lib.hid (hla hop)
            clear hlo hla h6 h1
            have hm : s2.mark y (q : Int) = ⟨s2.seen.set q true, s2.out, s2.mt⟩ := by simp [CS.mark, hop]
            have hl3 := CS.left_mark (x := y) (pc := (q : Int)) HSQ.out
            rw [hm] at hl3
            have HL3 := Lib.hid hl3
            have HM := Lib.hid hm
            clear hl3 hm
            go_wp2_with (at_builtin; refine wpList_app _ rfl _ _ 42 rfl w.heap.size 3 elI (.slice K2 ks.length kc2) _ _ rfl (HM2.out.stk.alloc _) 0 (W2.heap.size + 1) _ 1 1 [.int .i64 y.arg] rfl (fun h => by cases h) rfl (Rd.new W2 _ _ _ (Nat.zero_le _) (by omega)) (by simp [Value.oneCell']) (by unfold maxLen; omega) (by omega) (by have := HM2.out.below.size; simp; omega) ?_; intro v' W3 hO hg hb _; have d1 := ((HBX.out.alloc _).grown hg (own_ne_blk HM2.out.stk HBX.out (by decide))).cell 1; simp only [List.getElem?_toArray, List.getElem?_cons_zero, List.getElem?_cons_succ] at d1; obtain ⟨K3, kc3, rfl, hM3⟩ := (HM2.out.alloc _).push hO hg hb; have HM3 := Lib.hid hM3; clear hO hg hb hM3)
            go_step3
            simp only [Exit.two, Exit.inBlock, Exit.then]
            refine HJ.out 1 (4 * CS.left ⟨s2.seen.set q true, s2.out, s2.mt⟩ + 2 * (ks ++ [y.arg]).length + 1) _ _ (by decide) ?_ ?_
            · have h1 := HGK.out; have h2 := HL3.out; first | omega | (simp only [List.length_append, List.length_cons, List.length_nil] at *; omega)
            · (repeat apply Exists.intro)
              refine ⟨?_, rfl⟩
              obtain ⟨q1, q2, q3, q4, q5, q6, q7⟩ := HR2.out
              have h2 := HL3.out
              refine ⟨oc2, kc3, O2, K3, ⟨s2.seen.set q true, s2.out, s2.mt⟩, (ks ++ [y.arg]), (y.out :: (ks ++ [y.arg]).reverse), by simp, by simp, by simp, .inr ⟨by trivial, y.out, rfl, rfl⟩, by first | rfl | simp | omega, Lib.hid ⟨HM3.out, by simp [q2], ?_, ?_, q5, ?_, fun e he => q7 e (.step y HY.out HSQ.out q5 ?_)⟩⟩
              · first | omega | (dsimp only; omega)
              · first | omega | (simp only [List.length_append, List.length_cons, List.length_nil]; omega)
              · intro a ha
                have hq6 : ∀ a ∈ ks.reverse, 0 ≤ a ∧ a < (n : Int) := fun a h => q6 a (List.mem_cons_of_mem _ h)
                try simp only [List.mem_cons, List.reverse_append, List.reverse_cons, List.reverse_nil, List.nil_append, List.singleton_append] at ha
                first | exact hq6 a ha | (rcases ha with rfl | rfl | ha <;> first | exact HO.out | exact HAR.out | exact hq6 a ha) | (rcases ha with rfl | ha <;> first | exact HO.out | exact hq6 a ha)
              · rw [HM.out]
                simpa [succs, hop] using he
          · have hop : y.op = 4 := hop
            rw [hop] at d0
            have HO := Lib.hid (hlo (by omega))
            clear hlo hla h6 h1
            have hm : s2.mark y (q : Int) = ⟨s2.seen.set q true, s2.out, s2.mt⟩ := by simp [CS.mark, hop]
            have hl3 := CS.left_mark (x := y) (pc := (q : Int)) HSQ.out
            rw [hm] at hl3
            have HL3 := Lib.hid hl3
            have HM := Lib.hid hm
            clear hl3 hm
            go_wp2_with fail
            go_step3
            simp only [Exit.two, Exit.inBlock, Exit.then]
            refine HJ.out 1 (4 * CS.left ⟨s2.seen.set q true, s2.out, s2.mt⟩ + 2 * ks.length + 1) _ _ (by decide) ?_ ?_
            · have h1 := HGK.out; have h2 := HL3.out; first | omega | (simp only [List.length_append, List.length_cons, List.length_nil] at *; omega)
            · (repeat apply Exists.intro)
              refine ⟨?_, rfl⟩
              obtain ⟨q1, q2, q3, q4, q5, q6, q7⟩ := HR2.out
              have h2 := HL3.out
              refine ⟨oc2, kc2, O2, K2, ⟨s2.seen.set q true, s2.out, s2.mt⟩, ks, (y.out :: ks.reverse), by simp, by simp, by simp, .inr ⟨by trivial, y.out, rfl, rfl⟩, by first | rfl | simp | omega, Lib.hid ⟨HM2.out, by simp [q2], ?_, ?_, q5, ?_, fun e he => q7 e (.step y HY.out HSQ.out q5 ?_)⟩⟩
              · first | omega | (dsimp only; omega)
              · first | omega | (simp only [List.length_append, List.length_cons, List.length_nil]; omega)
              · intro a ha
                have hq6 : ∀ a ∈ ks.reverse, 0 ≤ a ∧ a < (n : Int) := fun a h => q6 a (List.mem_cons_of_mem _ h)
                try simp only [List.mem_cons] at ha
                first | exact hq6 a ha | (rcases ha with rfl | rfl | ha <;> first | exact HO.out | exact HAR.out | exact hq6 a ha) | (rcases ha with rfl | ha <;> first | exact HO.out | exact hq6 a ha)
              · rw [HM.out]
                simpa [succs, hop] using he
          · have hop : y.op = 5 := hop
            rw [hop] at d0
            have HO := Lib.hid (hlo (by omega))
            clear hlo hla h6 h1
            cases hT : AtT at_ y with
            | true =>
              have hTT : (bits .and .i64 at_ y.at_ == 0) = false := by have := hT; unfold AtT bne at this; simpa using this
              have hm : s2.mark y (q : Int) = ⟨s2.seen.set q true, s2.out, s2.mt⟩ := by simp [CS.mark, hop]
              have hl3 := CS.left_mark (x := y) (pc := (q : Int)) HSQ.out
              rw [hm] at hl3
              have HL3 := Lib.hid hl3
              have HM := Lib.hid hm
              clear hl3 hm
              go_wp2_with fail
              go_step3
              simp only [Exit.two, Exit.inBlock, Exit.then]
              refine HJ.out 1 (4 * CS.left ⟨s2.seen.set q true, s2.out, s2.mt⟩ + 2 * ks.length + 1) _ _ (by decide) ?_ ?_
              · have h1 := HGK.out; have h2 := HL3.out; first | omega | (simp only [List.length_append, List.length_cons, List.length_nil] at *; omega)
              · (repeat apply Exists.intro)
                refine ⟨?_, rfl⟩
                obtain ⟨q1, q2, q3, q4, q5, q6, q7⟩ := HR2.out
                have h2 := HL3.out
                refine ⟨oc2, kc2, O2, K2, ⟨s2.seen.set q true, s2.out, s2.mt⟩, ks, (y.out :: ks.reverse), by simp, by simp, by simp, .inr ⟨by trivial, y.out, rfl, rfl⟩, by first | rfl | simp | omega, Lib.hid ⟨HM2.out, by simp [q2], ?_, ?_, q5, ?_, fun e he => q7 e (.step y HY.out HSQ.out q5 ?_)⟩⟩
                · first | omega | (dsimp only; omega)
                · first | omega | (simp only [List.length_append, List.length_cons, List.length_nil]; omega)
                · intro a ha
                  have hq6 : ∀ a ∈ ks.reverse, 0 ≤ a ∧ a < (n : Int) := fun a h => q6 a (List.mem_cons_of_mem _ h)
                  try simp only [List.mem_cons] at ha
                  first | exact hq6 a ha | (rcases ha with rfl | rfl | ha <;> first | exact HO.out | exact HAR.out | exact hq6 a ha) | (rcases ha with rfl | ha <;> first | exact HO.out | exact hq6 a ha)
                · rw [HM.out]
                  simpa [succs, hop, hT] using he
            | false =>
              have hTT : (bits .and .i64 at_ y.at_ == 0) = true := by have := hT; unfold AtT bne at this; simpa using this
              have hm : s2.mark y (q : Int) = ⟨s2.seen.set q true, s2.out, s2.mt⟩ := by simp [CS.mark, hop]
              have hl3 := CS.left_mark (x := y) (pc := (q : Int)) HSQ.out
              rw [hm] at hl3
              have HL3 := Lib.hid hl3
              have HM := Lib.hid hm
              clear hl3 hm
              go_wp2_with fail
              go_step3
              simp only [Exit.two]
              refine HJ.out 0 (4 * CS.left ⟨s2.seen.set q true, s2.out, s2.mt⟩ + 2 * ks.length + 0) _ _ (by decide) ?_ ?_
              · have h1 := HGK.out; have h2 := HL3.out; first | omega | (simp only [List.length_append, List.length_cons, List.length_nil] at *; omega)
              · (repeat apply Exists.intro)
                refine ⟨?_, rfl⟩
                obtain ⟨q1, q2, q3, q4, q5, q6, q7⟩ := HR2.out
                have h2 := HL3.out
                refine ⟨oc2, kc2, O2, K2, ⟨s2.seen.set q true, s2.out, s2.mt⟩, ks, ks.reverse, by simp, by simp, by simp, .inl ⟨by trivial, rfl⟩, by first | rfl | simp | omega, Lib.hid ⟨HM2.out, by simp [q2], ?_, ?_, q5, ?_, fun e he => q7 e (.step y HY.out HSQ.out q5 ?_)⟩⟩
                · first | omega | (dsimp only; omega)
                · first | omega | (simp only [List.length_append, List.length_cons, List.length_nil]; omega)
                · intro a ha
                  have hq6 : ∀ a ∈ ks.reverse, 0 ≤ a ∧ a < (n : Int) := fun a h => q6 a (List.mem_cons_of_mem _ h)
                  try simp only [List.mem_cons, List.reverse_append, List.reverse_cons, List.reverse_nil, List.nil_append, List.singleton_append] at ha
                  first | exact hq6 a ha | (rcases ha with rfl | rfl | ha <;> first | exact HO.out | exact HAR.out | exact hq6 a ha) | (rcases ha with rfl | ha <;> first | exact HO.out | exact hq6 a ha)
                · rw [HM.out]
                  simpa [succs, hop, hT] using he
          · have hop : y.op = 6 := hop
            rw [hop] at d0
            clear hlo hla h6 h1
            have hm : s2.mark y (q : Int) = ⟨s2.seen.set q true, s2.out, s2.mt⟩ := by simp [CS.mark, hop]
            have hl3 := CS.left_mark (x := y) (pc := (q : Int)) HSQ.out
            rw [hm] at hl3
            have HL3 := Lib.hid hl3
            have HM := Lib.hid hm
            clear hl3 hm
            go_wp2_with fail
            go_step3
            simp only [Exit.two]
            refine HJ.out 0 (4 * CS.left ⟨s2.seen.set q true, s2.out, s2.mt⟩ + 2 * ks.length + 0) _ _ (by decide) ?_ ?_
            · have h1 := HGK.out; have h2 := HL3.out; first | omega | (simp only [List.length_append, List.length_cons, List.length_nil] at *; omega)
            · (repeat apply Exists.intro)
              refine ⟨?_, rfl⟩
              obtain ⟨q1, q2, q3, q4, q5, q6, q7⟩ := HR2.out
              have h2 := HL3.out
              refine ⟨oc2, kc2, O2, K2, ⟨s2.seen.set q true, s2.out, s2.mt⟩, ks, ks.reverse, by simp, by simp, by simp, .inl ⟨by trivial, rfl⟩, by first | rfl | simp | omega, Lib.hid ⟨HM2.out, by simp [q2], ?_, ?_, q5, ?_, fun e he => q7 e (.step y HY.out HSQ.out q5 ?_)⟩⟩
              · first | omega | (dsimp only; omega)
              · first | omega | (simp only [List.length_append, List.length_cons, List.length_nil]; omega)
              · intro a ha
                have hq6 : ∀ a ∈ ks.reverse, 0 ≤ a ∧ a < (n : Int) := fun a h => q6 a (List.mem_cons_of_mem _ h)
                try simp only [List.mem_cons, List.reverse_append, List.reverse_cons, List.reverse_nil, List.nil_append, List.singleton_append] at ha
                first | exact hq6 a ha | (rcases ha with rfl | rfl | ha <;> first | exact HO.out | exact HAR.out | exact hq6 a ha) | (rcases ha with rfl | ha <;> first | exact HO.out | exact hq6 a ha)
              · rw [HM.out]
                simpa [succs, hop] using he
      · intro J HFALL
        replace HFALL := Lib.hid HFALL
        have HW := Lib.hid HR.out.1
        have hos : s.out.length ≤ 10000 := by have := HR.out.2.2.1; have := HNN.out; omega
        go_wp2_with (at_builtin; refine wpList_app _ rfl _ _ 42 rfl w.heap.size 3 elI (.slice K 0 kc) _ _ rfl (HW.out.stk.alloc _) 0 (wr.heap.size + 1) _ 1 1 [.int .i64 x] rfl (fun h => by cases h) rfl (Rd.new wr _ _ _ (Nat.zero_le _) (by omega)) (by simp [Value.oneCell']) (by unfold maxLen; simp) (by simp) (by have := HW.out.below.size; simp; omega) ?_; intro v' W3 hO hg hb _; obtain ⟨K3, kc3, rfl, hM3⟩ := (HW.out.alloc _).push hO hg hb; have HM3 := Lib.hid hM3; clear hO hg hb hM3)
        go_step3
        go_step
        go_step
        refine HFALL.out (4 * s.left + 2 * 1) _ _ ?_
        (repeat apply Exists.intro)
        refine ⟨?_, rfl⟩
        obtain ⟨q1, q2, q3, q4, q5⟩ := HR.out
        exact ⟨oc, kc3, O, K3, s, [x], [x], rfl, rfl, rfl, .inl ⟨by trivial, rfl⟩, rfl, Lib.hid ⟨HM3.out, q2, q3, by simp only [List.length_cons, List.length_nil]; omega, q4, fun a ha => HIN.out a (by rw [List.mem_singleton] at ha; subst ha; exact List.mem_of_getElem? HX.out), fun e he => he⟩⟩
    · have hi : ¬ (j : Int) < (m : Int) := by omega
      have hjm : j = m := by have := HJ.out; omega
      have HF : Hid (Runs L (AtT at_) lng l (CS.start n) s) := Lib.hid (by have := HR.out.2.2.2.2; rw [hjm, ← HI.out.len, List.take_length] at this; exact this)
      clear hlt hjm
      go_wp2_with fail
      go_ret2
      exact ⟨s, HF.out, O, oc, rfl, HR.out.1.own, HR.out.1.below⟩
end Go.Proofs.Ytbhcgjahlfpjoaa
