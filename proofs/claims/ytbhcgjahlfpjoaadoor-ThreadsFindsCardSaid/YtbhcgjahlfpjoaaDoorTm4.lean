/- Threads: the machine's come. -/
import Derived.Test.YtbhcgjahlfpjoaaDoorTc1
namespace Go.Proofs.YtbhcgjahlfpjoaaDoor
open Go.RowKit

/-- Does an instruction's place hold, where at_ holds? -/
def AtB (at_ : Int) (x : MI) : Bool := bits .and .i64 at_ x.at_ != 0
/-- Below b0 all blocks but the machine's own are as they were. -/
structure Bel (b0 g : Nat) (w w' : World) : Prop where
  size : w.heap.size ≤ w'.heap.size
  block : ∀ k, k < b0 → k ≠ g → w'.heap[k]? = w.heap[k]?
theorem Bel.refl (b0 g : Nat) (w : World) : Bel b0 g w w := ⟨Nat.le_refl _, fun _ _ _ => rfl⟩
theorem Bel.trans {b0 g : Nat} {w w1 w2 : World} (h : Bel b0 g w w1) (h1 : Bel b0 g w1 w2) : Bel b0 g w w2 := ⟨Nat.le_trans h.size h1.size, fun k a b => (h1.block k a b).trans (h.block k a b)⟩
theorem Bel.of_below {b0 g : Nat} {w w' : World} (h : Below b0 w w') : Bel b0 g w w' := ⟨h.size, fun k a _ => h.block k a⟩
theorem Bel.on {b0 g : Nat} {w w1 w2 : World} (h : Bel b0 g w w1) (hz : b0 ≤ w1.heap.size) (hb : Below w1.heap.size w1 w2) : Bel b0 g w w2 := h.trans (.of_below (hb.mono hz))
theorem Bel.alloc {b0 g : Nat} {w w1 : World} (h : Bel b0 g w w1) (hz : b0 ≤ w1.heap.size) (o : Obj) : Bel b0 g w (w1.alloc o) := h.on hz ((Below.refl _ _).alloc (Nat.le_refl _) _)
theorem Bel.setG {b0 g : Nat} {w w1 : World} (h : Bel b0 g w w1) (i : Nat) (u : Value) : Bel b0 g w (w1.setCell ⟨g, i, none⟩ u) :=
  ⟨by simp only [World.setCell, Array.size_modify]; exact h.size, fun k a b => (Below.heap_setCell w1 ⟨g, i, none⟩ u k b).trans (h.block k a b)⟩
/-- A program that lies where the machine does not write. -/
def PgK (w0 : World) (g : Nat) (PA : Option Addr) (n pcap : Nat) (L : List MI) : Prop := ∀ W, Bel w0.heap.size g w0 W → PgIn W PA n pcap L
theorem PgK.len {w0 : World} {g : Nat} {PA : Option Addr} {n pcap : Nat} {L : List MI} (h : PgK w0 g PA n pcap L) : L.length = n := (h w0 (Bel.refl _ _ _)).len
theorem PgK.of {w0 : World} {g : Nat} {PA : Option Addr} {n pcap : Nat} {L : List MI} (h : PgIn w0 PA n pcap L) (hg : w0.heap.size ≤ g) : PgK w0 g PA n pcap L := fun W hW =>
  have hs : Same 0 w0.heap.size w0 W := fun k _ hk => hW.block k hk (by omega)
  ⟨(h.rd.same hs).mono (Nat.le_refl _) hW.size, h.len, h.le, h.max, h.nil, fun x hx => by
    have hx2 := h.sets x hx
    exact ⟨(hx2.rd.same hs).mono (Nat.le_refl _) hW.size, hx2.len, hx2.le, hx2.max, hx2.nil, hx2.fits⟩⟩
/-- What is written on the way from a list to what it has become. -/
def Kept (g : Nat) (A N V N' V' : Option Addr) (W W' : World) : Prop := Frm (Sl g A N V) W W' ∧ ∀ k, foo3 A N' V' k → foo3 A N V k ∨ W.heap.size ≤ k
section
variable {b0 : Nat} {W W1 W2 W' : World} {Y : Nat → Prop} {g o n : Nat} {cells : Array Value} {X : List Th} {A N V N' V' N1 V1 N2 V2 : Option Addr} {na ca kc vc : Nat} {qs : List Int} {vs : List Value}
theorem Kept.refl (g : Nat) (A N V : Option Addr) (W : World) : Kept g A N V N V W W := ⟨Frm.refl _ _, fun _ h => .inl h⟩
theorem Kept.trans (h : Kept g A N V N1 V1 W W1) (h1 : Kept g A N1 V1 N2 V2 W1 W2) : Kept g A N V N2 V2 W W2 := by
  have hs := h.1.size
  refine ⟨h.1.trans h1.1 fun k hk => ?_, fun k hk => ?_⟩
  · rcases hk with hk | hk
    · exact .inl (.inl hk)
    · rcases h.2 k hk with h2 | h2
      · exact .inl (.inr h2)
      · exact .inr h2
  · rcases h1.2 k hk with h2 | h2
    · exact h.2 k h2
    · right; omega
theorem Kept.below (h : Kept g A N V N' V' W W1) (hb : Below W1.heap.size W1 W2) : Kept g A N V N' V' W W2 := h.trans ⟨.of_below hb, fun _ h => .inl h⟩
theorem Kept.alloc (h : Kept g A N V N' V' W W1) (ob : Obj) : Kept g A N V N' V' W (W1.alloc ob) := h.below ((Below.refl _ _).alloc (Nat.le_refl _) _)
theorem Kept.drewN (h : Kept g A N V N' V' W W1) (d : Nat) : Kept g A N V N' V' W (W1.drewN d) := ⟨h.1.drewN d, h.2⟩
theorem Kept.setG (h : Kept g A N V N' V' W W1) (i : Nat) (u : Value) : Kept g A N V N' V' W (W1.setCell ⟨g, i, none⟩ u) := ⟨h.1.set (.inl (.inl rfl)) u, h.2⟩
theorem FitIn.kept {v : Value} {f : List Int} (h : FitIn W (Zl Y A N V) v f) (k : Kept g A N V N' V' W W') (yg : Y g) : FitIn W' (Zl Y A N' V') v f := by
  refine h.frm k.1 (fun k hk => ?_) (fun q hq => ?_)
  · rcases hk with rfl | hk
    · exact .inl yg
    · exact .inr hk
  · rcases hq with hq | hq
    · exact .inl (.inl hq)
    · rcases k.2 q hq with h2 | h2
      · exact .inl (.inr h2)
      · exact .inr h2
theorem LsIn.blo (h : LsIn b0 W Y g o n cells X A na ca N kc V vc qs vs) : ∀ k, foo3 A N V k → b0 ≤ k ∧ k < W.heap.size := by
  intro k hk
  rcases (foo3_iff A N V na ca X.length kc X.length vc k).2 hk with h1 | h1 | h1
  · exact h.rows.oa.lt k h1
  · exact h.rows.on.lt k h1
  · exact h.rows.ov.lt k h1
theorem LsIn.bel (h : LsIn b0 W Y g o n cells X A na ca N kc V vc qs vs) (hz : b0 ≤ W.heap.size) (k : Kept g A N V N' V' W W') : Bel b0 g W W' :=
  ⟨k.1.size, fun q hq hg => k.1.block q (by omega) fun hs => by
    rcases hs with hs | hs
    · exact hg hs
    · have := (h.blo q hs).1; omega⟩
theorem LsIn.ne (h : LsIn b0 W Y g o n cells X A na ca N kc V vc qs vs) {b : Nat} {t : TypeId} {cs : Array Value} (hB : Blk W b t cs) (h1 : 3 ≠ t) (h2 : 35 ≠ t) (h3 : 73 ≠ t) : ¬ Sl g A N V b := by
  rintro (h4 | h4)
  · exact Blk.ne hB h.rows.box (Ne.symm h3) h4
  · rcases (foo3_iff A N V na ca X.length kc X.length vc b).2 h4 with h5 | h5 | h5
    · exact own_ne_blk h.rows.oa hB h1 h5
    · exact own_ne_blk h.rows.on hB h1 h5
    · exact own_ne_blk h.rows.ov hB h2 h5
/-- New blocks alone are written. -/
theorem LsIn.on (h : LsIn b0 W Y g o n cells X A na ca N kc V vc qs vs) (hb : Below W.heap.size W W') : LsIn b0 W' Y g o n cells X A na ca N kc V vc qs vs := by
  have own : ∀ {e : TypeId} {v : Value} {m : Nat} {xs : List Value}, W.ownsRow b0 e 1 v m xs → W'.ownsRow b0 e 1 v m xs := fun ho => (Frm.of_below (S := fun _ => False) hb).own ho fun _ _ h => h
  refine (h.step ⟨.of_below hb, h.rows.box.below hb h.rows.box.lt, own h.rows.oa, own h.rows.on, own h.rows.ov, h.rows.san, h.rows.ft, h.rows.hg⟩ h.c0 h.c1 h.c2 h.vl h.big h.pos h.at_ h.pcs h.fits).1
theorem FitIn.of_own {base : Nat} {B : Option Addr} {m d : Nat} {f : List Int} {Z : Nat → Prop} (h : W'.ownsRow base 3 1 (.slice B m d) m (i64s f)) (hp : 0 < m) (hz : ∀ k, Z k → k < base) : FitIn W' Z (.slice B m d) f := by
  have hl := h.1
  rw [i64s_length] at hl
  obtain ⟨b, cap, hv, hb, hlt⟩ := h.form hp
  injection hv with hv _ hc
  subst hv; subst hc
  obtain ⟨cur, hB, _, _, _, h3, h4⟩ := own_blk h
  refine ⟨b, 0, d, by rw [hl]; simp, by omega, h4, hlt, fun h5 => by have := hz b h5; omega, fun j x hx => ?_⟩
  have := h.cells (g := b) rfl j (.int .i64 x) (i64s_at hx)
  rcases Nat.eq_zero_or_pos j with h0 | h0
  · subst h0; simpa [Addr.add] using this
  · simpa [Addr.add, Nat.pos_iff_ne_zero.1 h0] using this
end

section
variable {L : List MI} {T : MI → Bool} {place : Int} {X : List Th} {pc : Int} {fit : List Int} {x : MI} {k : Nat}
theorem comeU_leaf (hin : inT X pc = false) (hx : L[pc.toNat]? = some x) (h3 : x.op ≠ 3) (h4 : x.op ≠ 4) (h5 : ¬ (x.op = 5 ∧ T x = true)) : comeL L T place (k + 1) X pc fit = X ++ [(pc, fit)] ∧ comeS L T place (k + 1) X pc fit = 1 := by
  simp only [comeL, comeS, hin, hx, if_neg h3, if_neg h4, if_neg h5, Bool.false_eq_true, if_false, and_self]
theorem comeU_alt (hin : inT X pc = false) (hx : L[pc.toNat]? = some x) (h3 : x.op = 3) : comeL L T place (k + 1) X pc fit = comeL L T place k (comeL L T place k (X ++ [(pc, fit)]) x.out fit) x.arg fit ∧
    comeS L T place (k + 1) X pc fit = 1 + comeS L T place k (X ++ [(pc, fit)]) x.out fit + comeS L T place k (comeL L T place k (X ++ [(pc, fit)]) x.out fit) x.arg fit := by
  simp only [comeL, comeS, hin, hx, if_pos h3, Bool.false_eq_true, if_false, and_self]
theorem comeU_cap (hin : inT X pc = false) (hx : L[pc.toNat]? = some x) (h4 : x.op = 4) : comeL L T place (k + 1) X pc fit = comeL L T place k (X ++ [(pc, fit)]) x.out (fit.set x.arg.toNat place) ∧
    comeS L T place (k + 1) X pc fit = 1 + fit.length + comeS L T place k (X ++ [(pc, fit)]) x.out (fit.set x.arg.toNat place) := by
  have h3 : x.op ≠ 3 := by omega
  simp only [comeL, comeS, hin, hx, if_neg h3, if_pos h4, Bool.false_eq_true, if_false, and_self]
theorem comeU_at (hin : inT X pc = false) (hx : L[pc.toNat]? = some x) (h5 : x.op = 5) (hT : T x = true) : comeL L T place (k + 1) X pc fit = comeL L T place k (X ++ [(pc, fit)]) x.out fit ∧
    comeS L T place (k + 1) X pc fit = 1 + comeS L T place k (X ++ [(pc, fit)]) x.out fit := by
  have h3 : x.op ≠ 3 := by omega
  have h4 : x.op ≠ 4 := by omega
  simp only [comeL, comeS, hin, hx, if_neg h3, if_neg h4, if_pos (And.intro h5 hT), Bool.false_eq_true, if_false, and_self]
theorem Full.snoc {n : Nat} (h : Full L X) (hl : L.length = n) (h0 : 0 ≤ pc) (hn : pc < (n : Int)) (hin : inT X pc = false) : Full L (X ++ [(pc, fit)]) := by
  have := leftT_add (n := L.length) fit h0 (by rw [hl]; exact hn) hin
  unfold Full at h ⊢
  rw [List.length_append]; simp only [List.length_cons, List.length_nil]; omega
end

def ComeB (b0 : Nat) (Y : Nat → Prop) (g o n : Nat) (cells : Array Value) (X' : List Th) (A : Option Addr) (na ca : Nat) (N V : Option Addr) (W : World) (s' : Int) (e : Ending) (W' : World) : Prop :=
  e = .returned (.tuple #[]) ∧ ∃ cells' N' kc' V' vc' qs' vs', LsIn b0 W' Y g o n cells' X' A na ca N' kc' V' vc' qs' vs' ∧ Kept g A N V N' V' W W' ∧ cells'[6]? = some (.int .i64 s') ∧ (∀ i, i ≠ o + 1 → i ≠ o + 2 → i ≠ 6 → cells'[i]? = cells[i]?)
/-- come of what leaves less than M. -/
def ComeH (w0 : World) (Y : Nat → Prop) (g o n : Nat) (A : Option Addr) (na ca : Nat) (PA : Option Addr) (pcap : Nat) (st cp at_ place : Int) (L : List MI) (M : Nat) : Prop :=
  ∀ (W : World) (X : List Th) (cells : Array Value) (N : Option Addr) (kc : Nat) (V : Option Addr) (vc : Nat) (qs : List Int) (vs : List Value) (pc : Int) (F : Option Addr) (fc : Nat) (fit : List Int) (s : Int),
    LsIn w0.heap.size W Y g o n cells X A na ca N kc V vc qs vs → Bel w0.heap.size g w0 W → FitIn W (Zl Y A N V) (.slice F fit.length fc) fit → (fit.length : Int) = cp → 0 ≤ pc → pc < (n : Int) → leftT n X < M → Full L X → cells[6]? = some (.int .i64 s) → 0 ≤ s →
    s + comeS L (AtB at_) place M X pc fit ≤ 4611686018427387904 →
    Calls Tryd.prog 27 #[.pointer (some ⟨g, 0, none⟩), .pointer (some ⟨g, o, none⟩), .agg #[.slice PA n pcap, .int .i64 st, .int .i64 cp], .int .i64 at_, .int .i64 place, .int .i64 pc, .slice F fit.length fc] W
      (ComeB w0.heap.size Y g o n cells (comeL L (AtB at_) place M X pc fit) A na ca N V W (s + comeS L (AtB at_) place M X pc fit))

set_option maxRecDepth 20000 in
set_option maxHeartbeats 8000000 in
theorem come_step {w0 : World} {Y : Nat → Prop} {g o n : Nat} {A : Option Addr} {na ca : Nat} {PA : Option Addr} {pcap : Nat} {st cp at_ place : Int} {L : List MI} {M : Nat} (HC : ComeH w0 Y g o n A na ca PA pcap st cp at_ place L M)
    (hP : PgK w0 g PA n pcap L) (hOK : ∀ x ∈ L, InstOK (n : Int) cp x) (ho : o + 2 < 6) (hn : n ≤ 10000) (hcp : 2 ≤ cp ∧ cp ≤ 1000000) : ComeH w0 Y g o n A na ca PA pcap st cp at_ place L (M + 1) := by
  intro W X cells N kc V vc qs vs pc F fc fit s hM hb0 hF hfc hp0 hp1 hlt hfull hc6 hs0 hsb
  obtain ⟨q, rfl⟩ : ∃ q : Nat, pc = (q : Int) := ⟨pc.toNat, by omega⟩
  have hqn : q < n := by omega
  have hlen := hP.len
  have hsw : IntKind.i64.wrap (s + 1) = s + 1 := IntWalk.i64_in _ (by have : (0 : Int) ≤ comeS L (AtB at_) place (M + 1) X (q : Int) fit := Int.natCast_nonneg _; omega)
  -- the program's box, the step
  have hbx0 := Blk.new W 28 #[.slice PA n pcap, .int .i64 st, .int .i64 cp]
  have hM1 := hM.alloc (.cells #[.slice PA n pcap, .int .i64 st, .int .i64 cp] 28)
  have hK1 := (Kept.refl g A N V W).alloc (.cells #[.slice PA n pcap, .int .i64 st, .int .i64 cp] 28)
  have c6 := (hM1.rows.box.cell 6).trans hc6
  have f6 := hM1.rows.box.frozen 6
  have hgb : g ≠ W.heap.size := by have := hM.rows.box.lt; omega
  have hM2 := hM1.setG 6 (.int .i64 (s + 1)) (by omega) (by omega) (by omega)
  have hK2 := hK1.setG 6 (.int .i64 (s + 1))
  have hbx2 := hbx0.far (p := ⟨g, 6, none⟩) (Ne.symm hgb) (.int .i64 (s + 1))
  have hz6 : 6 < cells.size := (Array.getElem?_eq_some_iff.1 hc6).1
  have h62 : (cells.setIfInBounds 6 (.int .i64 (s + 1)))[6]? = some (.int .i64 (s + 1)) := Array.getElem?_setIfInBounds_self_of_lt hz6
  have HSAME : Hid (∀ i, i ≠ o + 1 → i ≠ o + 2 → i ≠ 6 → (cells.setIfInBounds 6 (.int .i64 (s + 1)))[i]? = cells[i]?) := Lib.hid fun i _ _ h3 => by rw [Array.getElem?_setIfInBounds_ne (by omega)]
  have hhas := hM2.has hqn
  have HF := Lib.hid hF
  have HM2 := Lib.hid hM2
  have HK2 := Lib.hid hK2
  have HBX2 := Lib.hid hbx2
  have H62 := Lib.hid h62
  have HB0 := Lib.hid hb0
  have HLEN := Lib.hid hlen
  have HP := Lib.hid hP
  have HOK := Lib.hid hOK
  have HFC := Lib.hid hfc
  have HLT := Lib.hid hlt
  have HFULL := Lib.hid hfull
  have HSB := Lib.hid hsb
  have HS0 := Lib.hid hs0
  have HQN := Lib.hid hqn
  have HO6 := Lib.hid ho
  have HN := Lib.hid hn
  have HCP := Lib.hid hcp
  have HM0 := Lib.hid hM
  have HYG := Lib.hid hM.yg
  clear hbx0 hM1 hK1 hgb hM2 hK2 hbx2 hz6 h62 hF hb0 hlen hP hOK hfc hlt hfull hsb hs0 hqn ho hn hcp hM hp0 hp1
  go_enter Tryd.func27, Tryd.ntmps27
  go_upto_region 2 with fail
  generalize (W.alloc (.cells #[.slice PA n pcap, .int .i64 st, .int .i64 cp] 28)).setCell ⟨g, 6, none⟩ (.int .i64 (s + 1)) = W2 at HM2 HK2 HBX2 hhas ⊢
  generalize hcl2 : cells.setIfInBounds 6 (.int .i64 (s + 1)) = cells2 at HM2 H62 HSAME
  clear c6 f6 hcl2 hc6
  by_cases hin : inT X (q : Int) = true
  · have e1 : comeL L (AtB at_) place (M + 1) X (q : Int) fit = X := by simp only [comeL, if_pos hin]
    have e2 : comeS L (AtB at_) place (M + 1) X (q : Int) fit = 1 := by simp only [comeS, if_pos hin]
    rw [hin] at hhas
    have HE1 := Lib.hid e1
    have HE2 := Lib.hid e2
    clear e1 e2 hin
    go_wp2_with (go_at_call 46; refine hhas.mono ?_; rintro e w' ⟨rfl, d, rfl⟩)
    refine bodyPost_ret (results_none (by rfl) _ _ _) (by rfl) ?_
    refine ⟨rfl, cells2, N, kc, V, vc, qs, vs, ?_⟩
    rw [HE1.out, HE2.out]
    exact ⟨HM2.out.drewN d, HK2.out.drewN d, H62.out, HSAME.out⟩
  · have hin' : inT X (q : Int) = false := by simpa using hin
    rw [hin'] at hhas
    have HIN := Lib.hid hin'
    clear hin hin'
    go_upto_region 3 with (go_at_call 46; refine hhas.mono ?_; rintro e w' ⟨rfl, d, rfl⟩)
    have hF2 := (HF.out.kept (HK2.out.drewN d) HYG.out)
    have hadd := (HM2.out.drewN d).add HQN.out (by have := HFULL.out.le; have := HN.out; have := HLEN.out; omega) HIN.out hF2
    clear hhas
    go_upto_region 4 with (go_at_call 47; refine hadd.mono ?_; rintro e W4 ⟨rfl, cells4, N4, kc4, V4, vc4, qs4, vs4, hM4, hK4, hft4, hcs4⟩)
    have hK4' : Kept g A N V N4 V4 W W4 := (HK2.out.drewN d).trans ⟨hK4, hft4⟩
    have hbx4 := hK4.blk (HBX2.out.drewN d) ((HM2.out.drewN d).ne (HBX2.out.drewN d) (by decide) (by decide) (by decide))
    have hb4 : Bel w0.heap.size g w0 W4 := HB0.out.trans (HM0.out.bel HB0.out.size hK4')
    have hF4 := hF2.kept ⟨hK4, hft4⟩ HYG.out
    have h64 : cells4[6]? = some (.int .i64 (s + 1)) := (hcs4 6 (by have := HO6.out; omega) (by have := HO6.out; omega)).trans H62.out
    have hsame4 : ∀ i, i ≠ o + 1 → i ≠ o + 2 → i ≠ 6 → cells4[i]? = cells[i]? := fun i h1 h2 h3 => (hcs4 i h1 h2).trans (HSAME.out i h1 h2 h3)
    obtain ⟨bA, oA, y, rfl, hbA, hy, hyI, hyc⟩ := (HP.out W4 hb4).at HQN.out
    obtain ⟨c4, c5, c6, c7, c8⟩ := hyc _ (Same.refl _ _ _)
    have e0 := hbx4.cell 0
    simp only [List.getElem?_toArray, List.getElem?_cons_zero] at e0
    have hqi : (q : Int) < (n : Int) := by have := HQN.out; omega
    have HM4 := Lib.hid hM4
    have HK4 := Lib.hid hK4'
    have HBX4 := Lib.hid hbx4
    have HB4 := Lib.hid hb4
    have HF4 := Lib.hid hF4
    have H64 := Lib.hid h64
    have HSAME4 := Lib.hid hsame4
    have HY : Hid (L[(q : Int).toNat]? = some y) := Lib.hid (by rw [Int.toNat_natCast]; exact hy)
    have HIO := Lib.hid (HOK.out y (List.mem_of_getElem? hy))
    clear hK4' hbx4 hb4 hF4 h64 hsame4 hM4 hK4 hft4 hcs4 hF2 hadd hyI hyc hbA hy HBX2 HK2 HM2 H62 HSAME HF
    go_upto_region 5 with fail
    generalize hbp : W.heap.size = bp at HBX4 e0 ⊢
    clear hbp e0 c4 c5 c6 c7 c8
    have hby := Blk.new W4 64 #[.int .i64 y.op, .int .i64 y.out, .int .i64 y.arg, .slice y.A y.n y.c, .int .i64 y.at_]
    have HM5 := Lib.hid (HM4.out.alloc (.cells #[.int .i64 y.op, .int .i64 y.out, .int .i64 y.arg, .slice y.A y.n y.c, .int .i64 y.at_] 64))
    have HK5 := Lib.hid (HK4.out.alloc (.cells #[.int .i64 y.op, .int .i64 y.out, .int .i64 y.arg, .slice y.A y.n y.c, .int .i64 y.at_] 64))
    have HBX5 := Lib.hid (HBX4.out.alloc (.cells #[.int .i64 y.op, .int .i64 y.out, .int .i64 y.arg, .slice y.A y.n y.c, .int .i64 y.at_] 64))
    have HF5 := Lib.hid (HF4.out.kept ((Kept.refl g A N4 V4 W4).alloc (.cells #[.int .i64 y.op, .int .i64 y.out, .int .i64 y.arg, .slice y.A y.n y.c, .int .i64 y.at_] 64)) HYG.out)
    have HB5 := Lib.hid (HB4.out.alloc HB4.out.size (.cells #[.int .i64 y.op, .int .i64 y.out, .int .i64 y.arg, .slice y.A y.n y.c, .int .i64 y.at_] 64))
    have HBY := Lib.hid hby
    clear hby HM4 HK4 HBX4 HF4 HB4
    generalize W4.alloc (.cells #[.int .i64 y.op, .int .i64 y.out, .int .i64 y.arg, .slice y.A y.n y.c, .int .i64 y.at_] 64) = W5 at HM5 HK5 HBX5 HF5 HB5 HBY ⊢
    generalize W4.heap.size = bt at HBY ⊢
    have d0 := HBY.out.cell 0
    have d1 := HBY.out.cell 1
    have d2 := HBY.out.cell 2
    have d4 := HBY.out.cell 4
    have e0 := HBX5.out.cell 0
    have e1 := HBX5.out.cell 1
    have e2 := HBX5.out.cell 2
    simp only [List.getElem?_toArray, List.getElem?_cons_zero, List.getElem?_cons_succ] at d0 d1 d2 d4 e0 e1 e2
    have hleft := leftT_add (n := n) fit (Int.natCast_nonneg q) hqi HIN.out
    have HLF : Hid (leftT n (X ++ [((q : Int), fit)]) < M) := Lib.hid (by have := HLT.out; omega)
    have HFU : Hid (Full L (X ++ [((q : Int), fit)])) := Lib.hid (HFULL.out.snoc HLEN.out (Int.natCast_nonneg q) hqi HIN.out)
    clear hleft hqi
    have hio := HIO.out
    unfold InstOK at hio
    by_cases h3 : y.op = 3
    · have hu := comeU_alt (T := AtB at_) (place := place) (k := M) (fit := fit) HIN.out HY.out h3
      obtain ⟨o1, o2, a1, a2⟩ : 0 ≤ y.out ∧ y.out < (n : Int) ∧ 0 ≤ y.arg ∧ y.arg < (n : Int) := by omega
      have hsb := HSB.out
      rw [hu.2] at hsb
      have hc1 := HC W5 (X ++ [((q : Int), fit)]) cells4 N4 kc4 V4 vc4 qs4 vs4 y.out F fc fit (s + 1) HM5.out HB5.out HF5.out HFC.out o1 o2 HLF.out HFU.out H64.out (by have := HS0.out; omega) (by simp only [Int.natCast_add] at hsb; omega)
      have HU := Lib.hid hu
      have HSB2 := Lib.hid hsb
      have HA2 := Lib.hid (And.intro o1 (And.intro o2 (And.intro a1 a2)))
      rw [h3] at d0
      clear hu hsb o1 o2 a1 a2 h3 hio
      go_wp2_with fail
      with_reducible refine hc1.mono ?_
      rintro e W6 ⟨rfl, cells6, N6, kc6, V6, vc6, qs6, vs6, hM6, hK6, h66, hcs6⟩
      clear hc1
      have HBX6 := Lib.hid (hK6.1.blk HBX5.out (HM5.out.ne HBX5.out (by decide) (by decide) (by decide)))
      have HBY6 := Lib.hid (hK6.1.blk HBY.out (HM5.out.ne HBY.out (by decide) (by decide) (by decide)))
      have HB6 := Lib.hid (HB5.out.trans (HM5.out.bel HB5.out.size hK6))
      have HF6 := Lib.hid (HF5.out.kept hK6 HYG.out)
      have HM6 := Lib.hid hM6
      have HK6 := Lib.hid (HK5.out.trans hK6)
      have HS6 : Hid (∀ i, i ≠ o + 1 → i ≠ o + 2 → i ≠ 6 → cells6[i]? = cells[i]?) := Lib.hid fun i h1 h2 h3 => (hcs6 i h1 h2 h3).trans (HSAME4.out i h1 h2 h3)
      have d2 := HBY6.out.cell 2
      have e0 := HBX6.out.cell 0
      have e1 := HBX6.out.cell 1
      have e2 := HBX6.out.cell 2
      simp only [List.getElem?_toArray, List.getElem?_cons_zero, List.getElem?_cons_succ] at d2 e0 e1 e2
      have hL3 : Leads3 L := fun x hx => by
        have h := HOK.out x hx
        rw [HLEN.out]
        unfold InstOK at h
        refine ⟨fun h3 => ?_, fun h3 => ?_⟩ <;> omega
      have hc2 := HC W6 (comeL L (AtB at_) place M (X ++ [((q : Int), fit)]) y.out fit) cells6 N6 kc6 V6 vc6 qs6 vs6 y.arg F fc fit (s + 1 + comeS L (AtB at_) place M (X ++ [((q : Int), fit)]) y.out fit) hM6 HB6.out HF6.out HFC.out HA2.out.2.2.1 HA2.out.2.2.2 (by
          have h1 := leftT_come (n := n) (L := L) (T := AtB at_) (place := place) (k := M) (X := X ++ [((q : Int), fit)]) (pc := y.out) (fit := fit)
          have h2 := HLF.out
          omega) (comeL_full hL3 _ _ _ _ HA2.out.1 (by rw [HLEN.out]; exact HA2.out.2.1) HFU.out) h66 (by have := HS0.out; omega) (by have hsb := HSB2.out; simp only [Int.natCast_add] at hsb; omega)
      clear hL3 hM6 hK6 h66 hcs6 HM5 HK5 HBX5 HF5 HB5 HBY HBX6 HBY6
      go_wp2_with fail
      with_reducible refine hc2.mono ?_
      rintro e W7 ⟨rfl, cells7, N7, kc7, V7, vc7, qs7, vs7, hM7, hK7, h67, hcs7⟩
      clear hc2
      have HFIN : Hid (ComeB w0.heap.size Y g o n cells (comeL L (AtB at_) place (M + 1) X (q : Int) fit) A na ca N V W (s + comeS L (AtB at_) place (M + 1) X (q : Int) fit) (.returned (.tuple #[])) W7) := Lib.hid (by
        refine ⟨rfl, cells7, N7, kc7, V7, vc7, qs7, vs7, ?_⟩
        rw [HU.out.1, HU.out.2]
        refine ⟨hM7, HK6.out.trans hK7, by rw [h67]; simp only [Int.natCast_add, Int.natCast_one]; congr 2; omega, fun i h1 h2 h3 => (hcs7 i h1 h2 h3).trans (HS6.out i h1 h2 h3)⟩)
      clear hM7 hK7 h67 hcs7
      go_wp2_with fail
      first | (refine bodyPost_ret (results_none (by rfl) _ _ _) (by rfl) ?_) | (refine bodyPost_end (results_none (by rfl) _ _ _) (by rfl) ?_)
      exact HFIN.out
    · by_cases h4 : y.op = 4
      · have hu := comeU_cap (T := AtB at_) (place := place) (k := M) (fit := fit) HIN.out HY.out h4
        obtain ⟨o1, o2, a1, a2⟩ : 0 ≤ y.out ∧ y.out < (n : Int) ∧ 2 ≤ y.arg ∧ y.arg < cp := by omega
        obtain ⟨ar, har⟩ : ∃ ar : Nat, y.arg = (ar : Int) := ⟨y.arg.toNat, by omega⟩
        have hfl := HFC.out
        have hcp := HCP.out
        have harl : ar < fit.length := by omega
        have hari : (ar : Int) < (fit.length : Int) := by omega
        rw [har, Int.toNat_natCast] at hu
        have hsb := HSB.out
        rw [hu.2] at hsb
        simp only [Int.natCast_add] at hsb
        have hsw2 : IntKind.i64.wrap (s + 1 + (fit.length : Int)) = s + 1 + (fit.length : Int) := IntWalk.i64_in _ (by have := HS0.out; omega)
        have c6 := (HM5.out.rows.box.cell 6).trans H64.out
        have f6 := HM5.out.rows.box.frozen 6
        have hnx : g ≠ bp := fun e => HM5.out.ne HBX5.out (by decide) (by decide) (by decide) (.inl e.symm)
        have hny : g ≠ bt := fun e => HM5.out.ne HBY.out (by decide) (by decide) (by decide) (.inl e.symm)
        have hM6 := HM5.out.setG 6 (.int .i64 (s + 1 + (fit.length : Int))) (by have := HO6.out; omega) (by have := HO6.out; omega) (by have := HO6.out; omega)
        have hK6 := HK5.out.setG 6 (.int .i64 (s + 1 + (fit.length : Int)))
        have hbx6 := HBX5.out.far (p := ⟨g, 6, none⟩) (Ne.symm hnx) (.int .i64 (s + 1 + (fit.length : Int)))
        have hby6 := HBY.out.far (p := ⟨g, 6, none⟩) (Ne.symm hny) (.int .i64 (s + 1 + (fit.length : Int)))
        have hF6 := HF5.out.kept ((Kept.refl g A N4 V4 W5).setG 6 (.int .i64 (s + 1 + (fit.length : Int)))) HYG.out
        have hB6 := HB5.out.setG 6 (.int .i64 (s + 1 + (fit.length : Int)))
        have h66 : (cells4.setIfInBounds 6 (.int .i64 (s + 1 + (fit.length : Int))))[6]? = some (.int .i64 (s + 1 + (fit.length : Int))) := Array.getElem?_setIfInBounds_self_of_lt (Array.getElem?_eq_some_iff.1 H64.out).1
        have hs6 : ∀ i, i ≠ o + 1 → i ≠ o + 2 → i ≠ 6 → (cells4.setIfInBounds 6 (.int .i64 (s + 1 + (fit.length : Int))))[i]? = cells[i]? := fun i h1 h2 h3 => by rw [Array.getElem?_setIfInBounds_ne (by omega)]; exact HSAME4.out i h1 h2 h3
        have HU := Lib.hid hu
        have HSB2 := Lib.hid hsb
        have HA2 := Lib.hid (And.intro o1 o2)
        have HARL := Lib.hid harl
        have HM6 := Lib.hid hM6
        have HK6 := Lib.hid hK6
        have HBX6 := Lib.hid hbx6
        have HBY6 := Lib.hid hby6
        have HF6 := Lib.hid hF6
        have HB6 := Lib.hid hB6
        have H66 := Lib.hid h66
        have HS6 := Lib.hid hs6
        have HAR := Lib.hid har
        rw [h4] at d0
        clear hu hsb o1 o2 a1 a2 h3 h4 hio hfl hcp hM6 hK6 hbx6 hby6 hF6 hB6 h66 hs6 hnx hny harl har
        go_upto_region 11 with fail
        generalize W5.setCell ⟨g, 6, none⟩ (.int .i64 (s + 1 + (fit.length : Int))) = W6 at HM6 HK6 HBX6 HBY6 HF6 HB6 ⊢
        generalize hcl6 : cells4.setIfInBounds 6 (.int .i64 (s + 1 + (fit.length : Int))) = cells6 at HM6 H66 HS6
        clear hcl6 c6 f6 d0 d1 d2 d4 e0 e1 e2 HM5 HK5 HBX5 HF5 HB5 HBY
        have hcl := cloneI_any HF6.out.il (by have := HFC.out; have := HCP.out; omega)
        go_wp2_with fail
        refine hcl.mono ?_
        rintro e W7 ⟨uB, uc, rfl, hown, hb67⟩
        clear hcl
        obtain ⟨gB, cap, hv, hbB, hltB⟩ := hown.form (by have := HARL.out; omega)
        injection hv with hv _ hcc
        subst hv
        subst hcc
        obtain ⟨cur, hcur, _, hcs, _, hnc, _⟩ := own_blk hown
        have hup : ar < cur.size := by rw [hcs]; have := HARL.out; omega
        have r1 : W7.cell? ⟨gB, ar, none⟩ = some cur[ar] := by rw [hcur.cell]; exact Array.getElem?_eq_getElem hup
        have r2 := hcur.frozen ar
        have hby7 := HBY6.out.below hb67 HBY6.out.lt
        have hbx7 := HBX6.out.below hb67 HBX6.out.lt
        have d2 := hby7.cell 2
        simp only [List.getElem?_toArray, List.getElem?_cons_zero, List.getElem?_cons_succ] at d2
        rw [HAR.out] at d2
        have hown8 := (hown.stored ar (.int .i64 place)).1
        rw [show (i64s fit).set ar (.int .i64 place) = i64s (fit.set ar place) by simp [i64s, List.map_set]] at hown8
        have hb68 : Below W6.heap.size W6 (W7.setCell ⟨gB, ar, none⟩ (.int .i64 place)) := hb67.setCell hbB _
        have HF8 : Hid (FitIn (W7.setCell ⟨gB, ar, none⟩ (.int .i64 place)) (Zl Y A N4 V4) (.slice (some ⟨gB, 0, none⟩) fit.length uc) (fit.set ar place)) := Lib.hid (FitIn.of_own hown8 (by have := HARL.out; omega) fun k hk => by
          rcases hk with hk | hk
          · exact HM6.out.ylt k hk
          · exact (HM6.out.blo k hk).2)
        have HM8 := Lib.hid (HM6.out.on hb68)
        have HK8 := Lib.hid (HK6.out.below hb68)
        have HB8 := Lib.hid (HB6.out.on HB6.out.size hb68)
        have HBX8 := Lib.hid (HBX6.out.below hb68 HBX6.out.lt)
        have HBY8 := Lib.hid (HBY6.out.below hb68 HBY6.out.lt)
        generalize cur[ar] = cu at r1
        clear hcur hcs hnc hup hby7 hbx7 hown hown8 hb67 hb68 hbB hltB HM6 HK6 HB6 HBX6 HBY6 HF6
        go_upto_region 13 with fail
        clear r1 r2 d2
        generalize W7.setCell ⟨gB, ar, none⟩ (.int .i64 place) = W8 at HF8 HM8 HK8 HB8 HBX8 HBY8 ⊢
        have d1 := HBY8.out.cell 1
        have e0 := HBX8.out.cell 0
        have e1 := HBX8.out.cell 1
        have e2 := HBX8.out.cell 2
        simp only [List.getElem?_toArray, List.getElem?_cons_zero, List.getElem?_cons_succ] at d1 e0 e1 e2
        have hc1 := HC W8 (X ++ [((q : Int), fit)]) cells6 N4 kc4 V4 vc4 qs4 vs4 y.out (some ⟨gB, 0, none⟩) uc (fit.set ar place) (s + 1 + (fit.length : Int)) HM8.out HB8.out (by rw [List.length_set]; exact HF8.out) (by rw [List.length_set]; exact HFC.out) HA2.out.1 HA2.out.2 HLF.out HFU.out H66.out (by have := HS0.out; omega) (by have := HSB2.out; omega)
        rw [List.length_set] at hc1
        go_wp2_with fail
        with_reducible refine hc1.mono ?_
        rintro e W9 ⟨rfl, cells9, N9, kc9, V9, vc9, qs9, vs9, hM9, hK9, h69, hcs9⟩
        clear hc1
        have HFIN : Hid (ComeB w0.heap.size Y g o n cells (comeL L (AtB at_) place (M + 1) X (q : Int) fit) A na ca N V W (s + comeS L (AtB at_) place (M + 1) X (q : Int) fit) (.returned (.tuple #[])) W9) := Lib.hid (by
          refine ⟨rfl, cells9, N9, kc9, V9, vc9, qs9, vs9, ?_⟩
          rw [HU.out.1, HU.out.2]
          refine ⟨hM9, HK8.out.trans hK9, by rw [h69]; simp only [Int.natCast_add, Int.natCast_one]; congr 2; omega, fun i h1 h2 h3 => (hcs9 i h1 h2 h3).trans (HS6.out i h1 h2 h3)⟩)
        clear hM9 hK9 h69 hcs9
        go_wp2_with fail
        first | (refine bodyPost_ret (results_none (by rfl) _ _ _) (by rfl) ?_) | (refine bodyPost_end (results_none (by rfl) _ _ _) (by rfl) ?_)
        exact HFIN.out
      · have k3 : (y.op == 3) = false := by rw [beq_eq_false_iff_ne]; exact h3
        have k4 : (y.op == 4) = false := by rw [beq_eq_false_iff_ne]; exact h4
        by_cases h5 : y.op = 5
        · cases hT : AtB at_ y with
          | true =>
            have hTT : (bits .and .i64 at_ y.at_ == 0) = false := by have := hT; unfold AtB bne at this; simpa using this
            have hu := comeU_at (T := AtB at_) (place := place) (k := M) (fit := fit) HIN.out HY.out h5 hT
            obtain ⟨o1, o2⟩ : 0 ≤ y.out ∧ y.out < (n : Int) := by omega
            have hsb := HSB.out
            rw [hu.2] at hsb
            simp only [Int.natCast_add] at hsb
            have hc1 := HC W5 (X ++ [((q : Int), fit)]) cells4 N4 kc4 V4 vc4 qs4 vs4 y.out F fc fit (s + 1) HM5.out HB5.out HF5.out HFC.out o1 o2 HLF.out HFU.out H64.out (by have := HS0.out; omega) (by omega)
            have HU := Lib.hid hu
            rw [h5] at d0
            clear hu hsb o1 o2 h3 h4 h5 hT hio
            go_wp2_with fail
            with_reducible refine hc1.mono ?_
            rintro e W6 ⟨rfl, cells6, N6, kc6, V6, vc6, qs6, vs6, hM6, hK6, h66, hcs6⟩
            clear hc1
            have HFIN : Hid (ComeB w0.heap.size Y g o n cells (comeL L (AtB at_) place (M + 1) X (q : Int) fit) A na ca N V W (s + comeS L (AtB at_) place (M + 1) X (q : Int) fit) (.returned (.tuple #[])) W6) := Lib.hid (by
              refine ⟨rfl, cells6, N6, kc6, V6, vc6, qs6, vs6, ?_⟩
              rw [HU.out.1, HU.out.2]
              refine ⟨hM6, HK5.out.trans hK6, by rw [h66]; simp only [Int.natCast_add, Int.natCast_one]; congr 2; omega, fun i h1 h2 h3 => (hcs6 i h1 h2 h3).trans (HSAME4.out i h1 h2 h3)⟩)
            clear hM6 hK6 h66 hcs6
            go_wp2_with fail
            first | (refine bodyPost_ret (results_none (by rfl) _ _ _) (by rfl) ?_) | (refine bodyPost_end (results_none (by rfl) _ _ _) (by rfl) ?_)
            exact HFIN.out
          | false =>
            have hTT : (bits .and .i64 at_ y.at_ == 0) = true := by have := hT; unfold AtB bne at this; simpa using this
            have hu := comeU_leaf (T := AtB at_) (place := place) (k := M) (fit := fit) HIN.out HY.out h3 h4 (by rw [hT]; simp)
            have HFIN : Hid (ComeB w0.heap.size Y g o n cells (comeL L (AtB at_) place (M + 1) X (q : Int) fit) A na ca N V W (s + comeS L (AtB at_) place (M + 1) X (q : Int) fit) (.returned (.tuple #[])) W5) := Lib.hid (by
              refine ⟨rfl, cells4, N4, kc4, V4, vc4, qs4, vs4, ?_⟩
              rw [hu.1, hu.2]
              exact ⟨HM5.out, HK5.out, H64.out, HSAME4.out⟩)
            rw [h5] at d0
            clear hu h3 h4 h5 hT hio
            go_wp2_with fail
            first | (refine bodyPost_ret (results_none (by rfl) _ _ _) (by rfl) ?_) | (refine bodyPost_end (results_none (by rfl) _ _ _) (by rfl) ?_)
            exact HFIN.out
        · have k5 : (y.op == 5) = false := by rw [beq_eq_false_iff_ne]; exact h5
          have hu := comeU_leaf (T := AtB at_) (place := place) (k := M) (fit := fit) HIN.out HY.out h3 h4 (fun h => h5 h.1)
          have HFIN : Hid (ComeB w0.heap.size Y g o n cells (comeL L (AtB at_) place (M + 1) X (q : Int) fit) A na ca N V W (s + comeS L (AtB at_) place (M + 1) X (q : Int) fit) (.returned (.tuple #[])) W5) := Lib.hid (by
            refine ⟨rfl, cells4, N4, kc4, V4, vc4, qs4, vs4, ?_⟩
            rw [hu.1, hu.2]
            exact ⟨HM5.out, HK5.out, H64.out, HSAME4.out⟩)
          clear hu h3 h4 h5 hio
          go_wp2_with fail
          first | (refine bodyPost_ret (results_none (by rfl) _ _ _) (by rfl) ?_) | (refine bodyPost_end (results_none (by rfl) _ _ _) (by rfl) ?_)
          exact HFIN.out
theorem come_any {w0 : World} {Y : Nat → Prop} {g o n : Nat} {A : Option Addr} {na ca : Nat} {PA : Option Addr} {pcap : Nat} {st cp at_ place : Int} {L : List MI}
    (hP : PgK w0 g PA n pcap L) (hOK : ∀ x ∈ L, InstOK (n : Int) cp x) (ho : o + 2 < 6) (hn : n ≤ 10000) (hcp : 2 ≤ cp ∧ cp ≤ 1000000) (M : Nat) : ComeH w0 Y g o n A na ca PA pcap st cp at_ place L M := by
  induction M with
  | zero =>
    intro W X cells N kc V vc qs vs pc F fc fit s _ _ _ _ _ _ hlt
    omega
  | succ M ih => exact come_step ih hP hOK ho hn hcp
end Go.Proofs.YtbhcgjahlfpjoaaDoor
