/- Fold: what it is; the program's walk. -/
import Derived.Test.YtoglnankopdohaaRo2
import Derived.Test.YtoglnankopdohaaRn4
namespace Go.Proofs.Ytoglnankopdohaa
open Go.RowKit

/-- What is alike to what a list has. -/
def FoldP (l : List Rg) (x : Int) : Prop := ∃ c, (0 ≤ c ∧ c ≤ maxR ∧ mem l c) ∧ x ∈ orbR c
/-- What stands in a stretch. -/
def Dom (c : Int) : Prop := ∃ s ∈ ST, (s.1 ≤ c ∧ c ≤ s.2.1) ∨ (s.1 ≤ c - s.2.2 ∧ c - s.2.2 ≤ s.2.1)
theorem grp_dom (c : Int) (h : GrP c) : ∃ s ∈ ST, s.2.2 = 32 ∧ s.1 ≤ c ∧ c ≤ s.2.1 := by
  obtain ⟨h1 | h1 | h1 | h1 | h1 | h1, _⟩ := h
  · exact ⟨(65, 90, 32), by simp [ST], rfl, h1⟩
  · exact ⟨(192, 214, 32), by simp [ST], rfl, h1⟩
  · exact ⟨(216, 222, 32), by simp [ST], rfl, h1⟩
  · exact ⟨(913, 929, 32), by simp [ST], rfl, h1⟩
  · exact ⟨(931, 937, 32), by simp [ST], rfl, by show (931 : Int) ≤ c; omega, h1.2⟩
  · exact ⟨(1040, 1071, 32), by simp [ST], rfl, h1⟩
theorem g3_dom : ∀ g ∈ G3, ∀ c ∈ g, ∃ s ∈ ST, (s.1 ≤ c ∧ c ≤ s.2.1) ∨ (s.1 ≤ c - s.2.2 ∧ c - s.2.2 ≤ s.2.1) := by decide
/-- A rune in no stretch is alike to itself alone. -/
theorem dom_or (c : Int) : Dom c ∨ orbR c = [c] := by
  rcases orb_cases c with ⟨g, hg, hc, _⟩ | ⟨_, ⟨hg, _⟩ | ⟨_, _, hg, _⟩ | ⟨_, _, he⟩⟩
  · exact .inl (g3_dom g hg c hc)
  · obtain ⟨s, hs, _, h1, h2⟩ := grp_dom c hg
    exact .inl ⟨s, hs, .inl ⟨h1, h2⟩⟩
  · obtain ⟨s, hs, hu, h1, h2⟩ := grp_dom _ hg
    exact .inl ⟨s, hs, .inr (by rw [hu]; exact ⟨h1, h2⟩)⟩
  · exact .inr he
/-- What is put beside a set: nothing but what is alike. -/
structure FM (s M : List Rg) : Prop where
  only : ∀ x, mem M x → ∃ c, mem s c ∧ x ∈ orbR c
  fit : ∀ p ∈ M, 0 ≤ p.1 ∧ p.1 ≤ p.2 ∧ p.2 ≤ maxR
theorem FM.nil (s : List Rg) : FM s [] := ⟨fun x h => absurd h (mem_nil x), fun p h => by cases h⟩
theorem FM.put {s M : List Rg} {c x : Int} (h : FM s M) (hs : Canon s) (hc : mem s c) (hx : x ∈ orbR c) : FM s (M ++ [(x, x)]) := by
  have hr := mem_range hs hc
  have hb := orb_bound hr.1 hr.2 hx
  refine ⟨fun y hy => ?_, fun p hp => ?_⟩
  · rw [mem_append, mem_one] at hy
    rcases hy with hy | hy
    · exact h.only y hy
    · have : y = x := by simp only at hy; omega
      subst this
      exact ⟨c, hc, hx⟩
  · rcases List.mem_append.1 hp with hp | hp
    · exact h.fit p hp
    · rw [List.mem_singleton] at hp
      subst hp
      exact ⟨hb.1, Int.le_refl _, hb.2⟩
/-- c is seen to. -/
def Cov (s M : List Rg) (c : Int) : Prop := mem s c → ∀ x ∈ orbR c, mem M x
theorem Cov.more {s M : List Rg} {c : Int} (h : Cov s M c) (N : List Rg) : Cov s (M ++ N) c := fun hc x hx => (mem_append _ _ _).2 (.inl (h hc x hx))
/-- The stretches below k are seen to. -/
def CovK (s M : List Rg) (k : Nat) : Prop := ∀ j st, j < k → ST[j]? = some st → ∀ c, ((st.1 ≤ c ∧ c ≤ st.2.1) ∨ (st.1 ≤ c - st.2.2 ∧ c - st.2.2 ≤ st.2.1)) → Cov s M c
theorem CovK.more {s M : List Rg} {k : Nat} (h : CovK s M k) (N : List Rg) : CovK s (M ++ N) k := fun j st hj hs c hc => (h j st hj hs c hc).more N
/-- Of the stretch st the first i. -/
def CovI (s M : List Rg) (st : Int × Int × Int) (i : Nat) : Prop := ∀ t : Nat, t < i → Cov s M (st.1 + t) ∧ Cov s M (st.1 + t + st.2.2)
theorem CovI.more {s M : List Rg} {st : Int × Int × Int} {i : Nat} (h : CovI s M st i) (N : List Rg) : CovI s (M ++ N) st i := fun t ht => ⟨(h t ht).1.more N, (h t ht).2.more N⟩
theorem CovI.up {s M : List Rg} {st : Int × Int × Int} {i : Nat} (h : CovI s M st i) (h1 : Cov s M (st.1 + i)) (h2 : Cov s M (st.1 + i + st.2.2)) : CovI s M st (i + 1) := fun t ht => by
  rcases Nat.lt_succ_iff_lt_or_eq.1 ht with h' | h'
  · exact h t h'
  · subst h'; exact ⟨h1, h2⟩
theorem CovK.up {s M : List Rg} {k n : Nat} {st : Int × Int × Int} (h : CovK s M k) (hs : ST[k]? = some st) (hi : CovI s M st n) (hn : (n : Int) = st.2.1 - st.1 + 1) : CovK s M (k + 1) := fun j st' hj hs' c hc => by
  rcases Nat.lt_succ_iff_lt_or_eq.1 hj with h' | h'
  · exact h j st' h' hs' c hc
  · subst h'
    rw [hs] at hs'
    injection hs' with hs'
    subst hs'
    rcases hc with hc | hc
    · have := (hi (c - st.1).toNat (by omega)).1
      rwa [show st.1 + ((c - st.1).toNat : Int) = c by omega] at this
    · have := (hi (c - st.2.2 - st.1).toNat (by omega)).2
      rwa [show st.1 + ((c - st.2.2 - st.1).toNat : Int) + st.2.2 = c by omega] at this
theorem fold_end {l s M : List Rg} (hs : SetOf (mem l) s) (h : FM s M) (hk : CovK s M 13) (x : Int) (h0 : 0 ≤ x) (h1 : x ≤ maxR) : (mem s x ∨ mem M x) ↔ FoldP l x := by
  constructor
  · rintro (h2 | h2)
    · exact ⟨x, (hs.mem x).1 h2, orb_self x⟩
    · obtain ⟨c, hc, hx⟩ := h.only x h2
      exact ⟨c, (hs.mem c).1 hc, hx⟩
  · rintro ⟨c, hc, hx⟩
    have hc' := (hs.mem c).2 hc
    rcases dom_or c with ⟨st, hst, hd⟩ | he
    · obtain ⟨k, hk13, rfl⟩ := List.getElem_of_mem hst
      exact .inr (hk k _ (by simpa [ST] using hk13) (List.getElem?_eq_getElem hk13) c hd hc' x hx)
    · rw [he, List.mem_singleton] at hx
      rw [hx]; exact .inl hc'

theorem st_wide {s : Int × Int × Int} (h : s ∈ ST) : s.1 ≤ s.2.1 ∧ s.2.1 - s.1 + 1 ≤ 32 := by
  have hd : ∀ s ∈ ST, s.1 ≤ s.2.1 ∧ s.2.1 - s.1 + 1 ≤ 32 := by decide
  exact hd s h
structure FW (w W : World) (M : List Rg) (A : Option Addr) (d : Nat) : Prop where
  own : W.ownsRow w.heap.size 28 2 (.slice A M.length d) M.length (rgCells M)
  below : Below w.heap.size w W
set_option maxRecDepth 20000 in
set_option maxHeartbeats 8000000 in
theorem fold_any {w : World} {A : Option Addr} {n c : Nat} {l : List Rg} (hA : RgIn w A n c l) (hn : n ≤ 1000000) :
    Calls Try.prog 56 #[.slice A n c] w fun e w' => ∃ B m d s, e = .returned (.slice B m d) ∧ Got (FoldP l) w B m d s w' := by
  have hN := norm_any hA hn
  clear hA hn
  go_enter Try.func56, Try.ntmps56
  go_wp2_with fail
  refine hN.mono ?_
  rintro e w1 ⟨B, m, d, s, rfl, hG⟩
  have hst := stretches_any w1
  have HGT := Lib.hid hG
  clear hN hG
  go_wp2_with fail
  refine hst.mono ?_
  rintro e w2 ⟨rfl, hw2⟩
  have hsb : Blk w2 w1.heap.size 56 stCells.toArray := by rw [hw2]; exact Blk.new _ _ _
  have hb12 : Below w1.heap.size w1 w2 := by rw [hw2]; exact (Below.refl _ _).alloc (Nat.le_refl _) _
  have HSB := Lib.hid hsb
  have HB12 := Lib.hid hb12
  clear hst hw2 hsb hb12
  go_wp2_with fail
  go_loopg [4, 16] 14 (fun q mv i W => ∃ (k : Nat) (M : List Rg) (F : Option Addr) (f : Nat), q = 14 - k ∧ k ≤ 13 ∧ mv = .slice F M.length f ∧ i = .int .i64 (k : Int) ∧ M.length ≤ 192 * k ∧ Hid (FM s M) ∧ Hid (CovK s M k) ∧ Hid (FW w2 W M F f))
  case atStart => exact ⟨0, [], _, _, rfl, by omega, rfl, rfl, by simp, Lib.hid (FM.nil s), Lib.hid (fun j st hj => by omega), Lib.hid ⟨World.ownsRow_nil _ _ _ _, Below.refl _ _⟩⟩
  case round =>
    obtain ⟨k, M, F, f, hgk, hk, rfl, rfl, hml, HFM, HCK, HFW⟩ := hrel
    obtain ⟨wo, hwo⟩ : ∃ wo, wo = wr := ⟨_, rfl⟩
    subst hwo
    have HG := Lib.hid hgk
    clear hgk
    by_cases hlt : k < 13
    · have hi : (k : Int) < 13 := by omega
      have hs : ST[k]? = some ST[k] := List.getElem?_eq_getElem (by simpa [ST] using hlt)
      generalize ST[k] = st at hs
      have hsm : st ∈ ST := List.mem_of_getElem? hs
      have hb := st_bound hsm
      have hwd := st_wide hsm
      obtain ⟨u1, u2, u3⟩ := st_at hs
      have hsb2 := HSB.out.below HFW.out.below HSB.out.lt
      have v1 := hsb2.cell (k * 3)
      have v2 := hsb2.cell (k * 3 + 1)
      have v3 := hsb2.cell (k * 3 + 2)
      rw [List.getElem?_toArray, u1] at v1
      rw [List.getElem?_toArray, u2] at v2
      rw [List.getElem?_toArray, u3] at v3
      obtain ⟨lo, hi3, up⟩ := st
      simp only at hb v1 v2 v3 hwd
      have hw1 : IntKind.i32.wrap (hi3 - lo) = hi3 - lo := IntWalk.i32_in _ (by omega)
      have hw2 : IntKind.i64.wrap (hi3 - lo) = hi3 - lo := IntWalk.i64_in _ (by omega)
      have hw3 : IntKind.i64.wrap (hi3 - lo + 1) = hi3 - lo + 1 := IntWalk.i64_in _ (by omega)
      have HS := Lib.hid hs
      have HLT := Lib.hid hlt
      have HK13 := Lib.hid hk
      clear hs hsm hlt u1 u2 u3 hsb2 hk
      have hbx : Blk (wo.alloc (.cells #[.int .i32 lo, .int .i32 hi3, .int .i32 up] 56)) wo.heap.size 56 #[.int .i32 lo, .int .i32 hi3, .int .i32 up] := Blk.new _ _ _
      have HBX := Lib.hid hbx
      have HFW1 : Hid (FW w2 (wo.alloc (.cells #[.int .i32 lo, .int .i32 hi3, .int .i32 up] 56)) M F f) := Lib.hid ⟨HFW.out.own.alloc _, HFW.out.below.alloc HFW.out.below.size _⟩
      obtain ⟨x1, x2, x3⟩ := blk3 hbx
      clear hbx HFW
      obtain ⟨N, hN⟩ : ∃ N : Nat, hi3 - lo + 1 = (N : Int) := ⟨(hi3 - lo + 1).toNat, by omega⟩
      have hN32 : N ≤ 32 := by omega
      rw [hN] at hw3
      have HN := Lib.hid hN
      go_wp2_with fail
      try rw [HN.out]
      have hbxl : wo.heap.size < (wo.alloc (.cells #[.int .i32 lo, .int .i32 hi3, .int .i32 up] 56)).heap.size := by simp
      have HCI0 : Hid (CovI s M (lo, hi3, up) 0) := Lib.hid (fun t ht => by omega)
      generalize wo.alloc (.cells #[.int .i32 lo, .int .i32 hi3, .int .i32 up] 56) = V at HBX HFW1 hbxl ⊢
      generalize wo.heap.size = bx at HBX hbxl ⊢
      clear x1 x2 x3 v1 v2 v3 hN
      go_loopg [4, 27] (N + 1) (fun q mv iv W => ∃ (i : Nat) (M : List Rg) (F : Option Addr) (f : Nat), q = N + 1 - i ∧ i ≤ N ∧ mv = .slice F M.length f ∧ iv = .int .i64 (i : Int) ∧ M.length ≤ 192 * k + 6 * i ∧ Hid (FM s M) ∧ Hid (CovK s M k) ∧ Hid (CovI s M (lo, hi3, up) i) ∧ Hid (FW w2 W M F f) ∧ Hid (Blk W bx 56 #[.int .i32 lo, .int .i32 hi3, .int .i32 up]))
      case atStart => exact ⟨0, M, F, f, rfl, by omega, rfl, rfl, by omega, HFM, HCK, HCI0, HFW1, HBX⟩
      case round =>
        clear HFM HCK HCI0 HFW1 HBX hbxl
        clear hml
        obtain ⟨i, M, F, f, hgk, hi2, rfl, rfl, hml, HFM, HCK, HCI, HFW, HBX⟩ := hrel
        have HG2 := Lib.hid hgk
        clear hgk
        by_cases hlt : i < N
        · have hiN : (i : Int) < (N : Int) := by omega
          have hcv : IntKind.i32.wrap (i : Int) = (i : Int) := IntWalk.i32_in _ (by omega)
          have hs1 : IntKind.i32.wrap (lo + (i : Int)) = lo + (i : Int) := IntWalk.i32_in _ (by omega)
          have hs2 : IntKind.i32.wrap (lo + (i : Int) + up) = lo + (i : Int) + up := IntWalk.i32_in _ (by omega)
          obtain ⟨x1, x2, x3⟩ := blk3 HBX.out
          have HLT2 := Lib.hid hlt
          clear hlt
          go_wp2_with fail
          obtain ⟨cs, hcs0, hcs1⟩ : ∃ cs : Nat → Int, cs 0 = lo + (i : Int) ∧ cs 1 = lo + (i : Int) + up := ⟨fun q => if q = 0 then lo + (i : Int) else lo + (i : Int) + up, rfl, rfl⟩
          rw [← hcs1, ← hcs0]
          have HCS := Lib.hid (And.intro hcs0 hcs1)
          clear hcs0 hcs1 hs1 hs2 hcv
          go_loopg [4, 44] 3 (fun g mv qv W => ∃ (q : Nat) (M : List Rg) (F : Option Addr) (f : Nat), g = 3 - q ∧ q ≤ 2 ∧ mv = .slice F M.length f ∧ qv = .int .i64 (q : Int) ∧ M.length ≤ 192 * k + 6 * i + 3 * q ∧ Hid (FM s M) ∧ Hid (CovK s M k) ∧ Hid (CovI s M (lo, hi3, up) i) ∧ Hid (∀ t, t < q → Cov s M (cs t)) ∧ Hid (FW w2 W M F f) ∧ Hid (Blk W bx 56 #[.int .i32 lo, .int .i32 hi3, .int .i32 up]))
          case atStart => exact ⟨0, M, F, f, rfl, by omega, rfl, rfl, by omega, HFM, HCK, HCI, Lib.hid (fun t ht => by omega), HFW, HBX⟩
          case round =>
            clear HFM HCK HCI HFW HBX x1 x2 x3 hml
            obtain ⟨q, M, F, f, hgk, hq, rfl, rfl, hml, HFM, HCK, HCI, HCQ, HFW, HBX⟩ := hrel
            obtain ⟨wo3, hwo3⟩ : ∃ wo3, wo3 = wr := ⟨_, rfl⟩
            subst hwo3
            have HG3 := Lib.hid hgk
            clear hgk
            by_cases hlt : q < 2
            · have hq2 : (q : Int) < 2 := by omega
              have hix : ∀ w : World, (Instr.index 49 (.agg #[.int .i32 (cs 0), .int .i32 (cs 1)]) (.int .i64 (q : Int))).run Try.prog w = .ok (.int .i32 (cs q)) w := by
                intro w
                rcases q with _ | _ | q
                · kernel_rfl
                · kernel_rfl
                · omega
              have hh := has_any ((HGT.out.rg.below HB12.out).below HFW.out.below) (cs q)
              have HLT3 := Lib.hid hlt
              clear hlt
              have hz2 := HFW.out.below.size
              by_cases hhas : hasB s (cs q) = true
              · have hmem := (hasB_iff s (cs q)).1 hhas
                rw [hhas] at hh
                have ho := fun W => orbit_own (cs q) W hmem.1.1 hmem.1.2
                have HM := Lib.hid hmem
                clear hhas hmem
                go_wp2_with fail
                refine hh.mono ?_
                rintro e w5 ⟨rfl, hb5⟩
                have HFW5 : Hid (FW w2 w5 M F f) := Lib.hid ⟨ownsRow_below' HFW.out.own hb5, HFW.out.below.trans (hb5.mono hz2)⟩
                have HBX5 : Hid (Blk w5 bx 56 #[.int .i32 lo, .int .i32 hi3, .int .i32 up]) := Lib.hid (HBX.out.below hb5 HBX.out.lt)
                clear hh hb5 HFW HBX hix
                go_wp2_with fail
                refine (ho w5).mono ?_
                rintro e w6 ⟨Bo, mo, dd, rfl, hown, hb6⟩
                have HFW6 : Hid (FW w2 w6 M F f) := Lib.hid ⟨ownsRow_below' HFW5.out.own hb6, HFW5.out.below.trans (hb6.mono HFW5.out.below.size)⟩
                have HBX6 : Hid (Blk w6 bx 56 #[.int .i32 lo, .int .i32 hi3, .int .i32 up]) := Lib.hid (HBX5.out.below hb6 HBX5.out.lt)
                have HOW := Lib.hid hown
                have hmo : mo = (orbR (cs q)).length := by have := hown.1; rw [i32s_length] at this; omega
                have hmo3 := orb_len (cs q)
                rw [← hmo] at hmo3
                have HMO := Lib.hid hmo
                clear ho hown hb6 HFW5 HBX5 hmo
                go_wp2_with fail
                go_loopg [4, 54] 4 (fun g mv rv W => ∃ (r : Nat) (N : List Rg) (F : Option Addr) (f : Nat), g = 4 - r ∧ r ≤ mo ∧ mv = .slice F (M ++ N).length f ∧ rv = .int .i64 (r : Int) ∧ N.length = r ∧ Hid (FM s (M ++ N)) ∧ Hid (∀ t x, t < r → (orbR (cs q))[t]? = some x → mem (M ++ N) x) ∧ Hid (FW w2 W (M ++ N) F f) ∧ Hid (W.ownsRow w5.heap.size 21 1 (.slice Bo mo dd) mo (i32s (orbR (cs q)))) ∧ Hid (Blk W bx 56 #[.int .i32 lo, .int .i32 hi3, .int .i32 up]))
                case atStart => exact ⟨0, [], F, f, rfl, by omega, by rw [List.append_nil], rfl, rfl, by rw [List.append_nil]; exact HFM, Lib.hid (fun t x ht => by omega), by rw [List.append_nil]; exact HFW6, HOW, HBX6⟩
                case round =>
                  clear HFW6 HOW HBX6
                  obtain ⟨r, L, F, f, hgk, hr, rfl, rfl, hLr, HFM2, HCR, HFW, HOW, HBX⟩ := hrel
                  have HG4 := Lib.hid hgk
                  clear hgk
                  by_cases hlt : r < mo
                  · have hri : (r : Int) < (mo : Int) := by omega
                    obtain ⟨b7, o7, x, hBe, _, hx, hcx⟩ := (RnIn.of_own HOW.out HMO.out.symm).at hlt
                    have c1 := hcx wr (Same.refl _ _ _)
                    have HX := Lib.hid hx
                    have HLT4 := Lib.hid hlt
                    have hMlen : (M ++ L).length ≤ 4000 := by rw [List.length_append]; omega
                    have hown := HFW.out.own
                    have hwz := HFW.out.below.size
                    subst hBe
                    clear hx hcx hlt
                    have HP : ∀ (v' : Value) (W2 : World) (F' : Option Addr) (f' : Nat), v' = .slice F' ((M ++ L).length + 1) f' → W2.ownsRow w2.heap.size 28 2 v' ((M ++ L).length + 1) (rgCells (M ++ L) ++ [.int .i32 x, .int .i32 x]) → (wr.alloc (.cells #[.int .i32 x, .int .i32 x] 28)).grownBy W2 (Value.slice F (M ++ L).length f).ownBlock →
                        Hid (FW w2 W2 (M ++ (L ++ [(x, x)])) F' f' ∧ W2.ownsRow w5.heap.size 21 1 (.slice (some ⟨b7, o7, none⟩) mo dd) mo (i32s (orbR (cs q))) ∧ Blk W2 bx 56 #[.int .i32 lo, .int .i32 hi3, .int .i32 up]) := by
                      intro v' W2 F' f' hv' ho hg
                      subst hv'
                      refine Lib.hid ⟨⟨?_, ?_⟩, ?_, ?_⟩
                      · rw [← List.append_assoc, List.length_append, rgCells_append]
                        exact ho
                      · exact (HFW.out.below.alloc HFW.out.below.size _).grown hg (by have := HFW.out.below.size; simp; omega) (own_above HFW.out.own)
                      · exact (HOW.out.alloc _).kept hg (own_ne_own HOW.out HFW.out.own (by decide))
                      · exact (HBX.out.alloc _).grown hg (own_ne_blk HFW.out.own HBX.out (by decide))
                    have HPH := Lib.hid HP
                    clear HP
                    go_wp2_with (at_builtin; refine wpList_app _ rfl _ _ 23 rfl w2.heap.size 28 elRg _ _ _ rfl (hown.alloc _) 0 (wr.heap.size + 1) _ 1 1 [.int .i32 x, .int .i32 x] rfl (fun h => by cases h) rfl (Rd.new wr _ _ _ (Nat.zero_le _) (by omega)) (by simp [Value.oneCell']) (by unfold maxLen; omega) (by omega) (by simp; omega) ?_; intro v' W2 hv2 hg2 _ _; obtain ⟨F', f', hve, _, _⟩ := own_form hv2)
                    have HQ := HPH.out _ _ _ _ hve hv2 hg2
                    subst hve
                    have hfm : FM s (M ++ (L ++ [(x, x)])) := by rw [← List.append_assoc]; exact HFM2.out.put HGT.out.set.canon HM.out.2 (List.mem_of_getElem? HX.out)
                    have hcr : ∀ t y, t < r + 1 → (orbR (cs q))[t]? = some y → mem (M ++ (L ++ [(x, x)])) y := by
                      intro t y ht hy
                      rw [← List.append_assoc, mem_append]
                      rcases Nat.lt_succ_iff_lt_or_eq.1 ht with h | h
                      · exact .inl (HCR.out t y h hy)
                      · subst h
                        rw [HX.out] at hy
                        injection hy with hy
                        subst hy
                        exact .inr ((mem_one _ _).2 ⟨Int.le_refl _, Int.le_refl _⟩)
                    have hll : (L ++ [(x, x)]).length = r + 1 := by rw [List.length_append, hLr]; rfl
                    have hsl : (M ++ (L ++ [(x, x)])).length = (M ++ L).length + 1 := by simp; omega
                    have HFM3 := Lib.hid hfm
                    have HCR3 := Lib.hid hcr
                    have HLL := Lib.hid hll
                    have HSL := Lib.hid hsl
                    clear hfm hcr hll hsl hv2 hg2 hown
                    go_wp2_with fail
                    go_roundg (4 - (r + 1))
                    case measure => have := HG4.out; have := HLT4.out; omega
                    case rel => exact ⟨r + 1, L ++ [(x, x)], F', f', rfl, by have := HLT4.out; omega, by rw [HSL.out, List.length_append, hLr], by go_num, HLL.out, HFM3, HCR3, Lib.hid HQ.out.1, Lib.hid HQ.out.2.1, Lib.hid HQ.out.2.2⟩
                  · have hrm : r = mo := by omega
                    subst hrm
                    have hri : ¬ (r : Int) < (r : Int) := by omega
                    have hcv : Cov s (M ++ L) (cs q) := fun _ x hx => by
                      obtain ⟨t, ht, rfl⟩ := List.getElem_of_mem hx
                      exact HCR.out t _ (by have := HMO.out; omega) (List.getElem?_eq_getElem ht)
                    have hcq : ∀ t, t < q + 1 → Cov s (M ++ L) (cs t) := fun t ht => by
                      rcases Nat.lt_succ_iff_lt_or_eq.1 ht with h | h
                      · exact (HCQ.out t h).more L
                      · subst h; exact hcv
                    have HCQ2 := Lib.hid hcq
                    have HCK2 := Lib.hid (HCK.out.more L)
                    have HCI2 := Lib.hid (HCI.out.more L)
                    have hmL : (M ++ L).length ≤ 192 * k + 6 * i + 3 * (q + 1) := by rw [List.length_append]; omega
                    have HML := Lib.hid hmL
                    clear hcv hcq hlt hmL
                    go_wp2_with fail
                    go_roundg (3 - (q + 1))
                    case measure => have := HG3.out; have := HLT3.out; omega
                    case rel => exact ⟨q + 1, M ++ L, F, f, rfl, by have := HLT3.out; omega, by rw [List.length_append, hLr], by go_num, HML.out, HFM2, HCK2, HCI2, HCQ2, HFW, HBX⟩
              · have hno : ¬ mem s (cs q) := fun h => hhas ((hasB_iff s (cs q)).2 ⟨mem_range HGT.out.set.canon h, h⟩)
                have hf : hasB s (cs q) = false := by simpa using hhas
                rw [hf] at hh
                have HNO := Lib.hid hno
                clear hhas hno hf
                go_wp2_with fail
                refine hh.mono ?_
                rintro e w5 ⟨rfl, hb5⟩
                have HFW5 : Hid (FW w2 w5 M F f) := Lib.hid ⟨ownsRow_below' HFW.out.own hb5, HFW.out.below.trans (hb5.mono hz2)⟩
                have HBX5 : Hid (Blk w5 bx 56 #[.int .i32 lo, .int .i32 hi3, .int .i32 up]) := Lib.hid (HBX.out.below hb5 HBX.out.lt)
                have HCQ2 : Hid (∀ t, t < q + 1 → Cov s M (cs t)) := Lib.hid fun t ht => by
                  rcases Nat.lt_succ_iff_lt_or_eq.1 ht with h | h
                  · exact HCQ.out t h
                  · subst h; exact fun h => absurd h HNO.out
                clear hh hb5 HFW HBX hix
                go_wp2_with fail
                go_roundg (3 - (q + 1))
                case measure => have := HG3.out; have := HLT3.out; omega
                case rel => exact ⟨q + 1, M, F, f, rfl, by have := HLT3.out; omega, rfl, by go_num, by omega, HFM, HCK, HCI, HCQ2, HFW5, HBX5⟩
            · have hq2 : q = 2 := by omega
              subst hq2
              have hqi : ¬ ((2 : Nat) : Int) < 2 := by omega
              have h0 := HCQ.out 0 (by omega)
              have h1 := HCQ.out 1 (by omega)
              rw [HCS.out.1] at h0
              rw [HCS.out.2] at h1
              have HCI2 := Lib.hid (HCI.out.up h0 h1)
              clear h0 h1 hlt
              go_wp2_with fail
              go_roundg (N + 1 - (i + 1))
              case measure => have := HG2.out; have := HLT2.out; omega
              case rel => exact ⟨i + 1, M, F, f, rfl, by have := HLT2.out; omega, rfl, by go_num, by omega, HFM, HCK, HCI2, HFW, HBX⟩
        · have hiN2 : i = N := by omega
          subst hiN2
          have hiN : ¬ (i : Int) < (i : Int) := by omega
          have HCK2 := Lib.hid (HCK.out.up HS.out HCI.out (by have := HN.out; simp only; omega))
          clear hlt
          go_wp2_with fail
          go_roundg (14 - (k + 1))
          case measure => have := HG.out; have := HLT.out; omega
          case rel => exact ⟨k + 1, M, F, f, rfl, by have := HLT.out; omega, rfl, by go_num, by omega, HFM, HCK2, HFW⟩
    · have hk13 : k = 13 := by omega
      subst hk13
      have hi : ¬ ((13 : Nat) : Int) < 13 := by omega
      have hR1 := (HGT.out.rg.below HB12.out).below HFW.out.below
      have hR2 : RgIn wo F M.length f M := RgIn.of_own HFW.out.own rfl (fun p hp => fitsRg (HFM.out.fit p hp))
      have hu := union_any hR1 hR2 (by rw [← HGT.out.len]; have := HGT.out.small; omega) (by omega)
      have hbw : Below w.heap.size w wo := (HGT.out.below.trans (HB12.out.mono HGT.out.below.size)).trans (HFW.out.below.mono (by have := HGT.out.below.size; have := HB12.out.size; omega))
      have HBW := Lib.hid hbw
      clear hR1 hR2 hbw hlt
      go_wp2_with fail
      refine hu.mono ?_
      rintro e w7 ⟨B7, m7, d7, s7, rfl, hG⟩
      have hfin : Got (FoldP l) w B7 m7 d7 s7 w7 := ⟨hG.set.cong (fun x a b => fold_end HGT.out.set HFM.out HCK.out x a b), hG.len, ownsRow_base hG.own HBW.out.size, HBW.out.trans (hG.below.mono HBW.out.size)⟩
      have HFIN := Lib.hid hfin
      clear hu hG hfin
      go_wp2_with fail
      go_ret
      exact ⟨_, _, _, _, rfl, HFIN.out⟩
end Go.Proofs.Ytoglnankopdohaa
