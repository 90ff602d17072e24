/- ThreadsOn, plain: what is found from a place on. ThreadsOn: what Find answers, from place to place. Threads: a machine that a law has made, from one Find to the next. -/
import Derived.Test.YtbhcgjahlfpjoaaDoorTg2
import Derived.Test.YtbhcgjahlfpjoaaDoorTf3
import Derived.Test.YtbhcgjahlfpjoaaDoorTl2
namespace Go.Proofs.YtbhcgjahlfpjoaaDoor
open Go.RowKit

section
variable {L : List MI} {l : List (Int × Nat)} {st : Int} {c : Nat}
theorem fit0_beg (hc : 1 ≤ c) (j : Nat) : beg (fit0 (c : Int) j) = (j : Int) := by
  unfold beg fit0
  rw [List.getElem?_set_self (by simp; omega)]
  rfl
/-- What begins at a place, in either mode. -/
def atG (L : List MI) (l : List (Int × Nat)) (st : Int) (c : Nat) (lng : Bool) (k j : Nat) : Option (List Int) :=
  if lng = true then pikeL L (TP l) (RP l) k j (closeL L (TP l) j [] st (fit0 (c : Int) j)) else pike L (TP l) (RP l) k j (closeL L (TP l) j [] st (fit0 (c : Int) j))
theorem findP_G (hL : Leads3 L) (hC : CapsAt L) (hc : 2 ≤ c) (h0 : 0 ≤ st) (hn : st < (L.length : Int)) (lng : Bool) (f k : Nat) : findP L (TP l) (RP l) st (fit0 (c : Int)) lng false f k f [] none = firstG (atG L l st c lng) k f := by
  have hf0 : ∀ j, beg (fit0 (c : Int) j) = (j : Int) := fun j => fit0_beg (by omega) j
  cases lng with
  | true =>
    rw [long_all hL hC hf0 (fun j => by rw [fit0_length, Int.toNat_natCast]; exact hc) f k f [] (fun _ h => by cases h) (pikeL_nil k f) (fun _ h => by cases h) h0 hn, firstL_G]
    rfl
  | false =>
    rw [find_all hC hf0 f k f [] List.Pairwise.nil (fun _ h => by cases h), pikeAll_first hL h0 hn k f [] (fun _ h => by cases h) (pike_nil k f), firstS_G]
    rfl
theorem atG_beg (hC : CapsAt L) (hc : 2 ≤ c) (lng : Bool) (k j : Nat) (b : List Int) (h : atG L l st c lng k j = some b) : beg b = (j : Int) ∧ b.length = c := by
  have key : ∃ t ∈ closeL L (TP l) j [] st (fit0 (c : Int) j), beg b = beg t.2 ∧ b.length = t.2.length := by
    unfold atG at h
    cases lng with
    | true => exact pikeL_beg hC k j _ b h
    | false => exact pike_beg hC k j _ b h
  obtain ⟨t, ht, h1, h2⟩ := key
  obtain ⟨Z, hZ, hz⟩ := closeL_new (L := L) (T := TP l) hC (j := j) (X := []) (pc := st) (fit := fit0 (c : Int) j)
  rw [hZ, List.nil_append] at ht
  obtain ⟨h3, h4⟩ := hz t ht
  exact ⟨by rw [h1, h3, fit0_beg (by omega)], by rw [h2, h4, fit0_length, Int.toNat_natCast]⟩
theorem firstG_of {F : Nat → Nat → Option (List Int)} (k : Nat) : ∀ j b, firstG F k j = some b → ∃ k' j', F k' j' = some b := by
  induction k with
  | zero => intro j b h; cases h
  | succ k ih =>
    intro j b h
    rw [firstG] at h
    cases hf : F (k + 1) j with
    | some x => rw [hf, Option.some_or] at h; exact ⟨_, _, hf.trans h⟩
    | none => rw [hf, Option.none_or] at h; exact ih _ _ h
/-- What is found from j on. -/
def fromG (L : List MI) (l : List (Int × Nat)) (st : Int) (c : Nat) (lng : Bool) (j : Nat) : Option (List Int) := firstG (atG L l st c lng) (l.length - j) j
theorem fromG_none {lng : Bool} {f : Nat} (h : fromG L l st c lng f = none) (j : Nat) (hj : f ≤ j) : fromG L l st c lng j = none := by
  have := firstG_none (F := atG L l st c lng) (l.length - f) f h (j - f)
  rw [show l.length - f - (j - f) = l.length - j by omega, show f + (j - f) = j by omega] at this
  exact this
theorem fromG_some (hC : CapsAt L) (hc : 2 ≤ c) {lng : Bool} {f : Nat} {a : List Int} (h : fromG L l st c lng f = some a) : a.length = c ∧ ∃ d : Nat, beg a = ((f + d : Nat) : Int) ∧ f + d < l.length ∧ (∀ e, e ≤ d → fromG L l st c lng (f + e) = some a) ∧ ∀ b, fromG L l st c lng (f + d + 1) = some b → beg a < beg b ∧ b.length = c := by
  have hF : ∀ k j b, atG L l st c lng k j = some b → beg b = (j : Int) := fun k j b h => (atG_beg hC hc lng k j b h).1
  obtain ⟨d, h1, h2, h3⟩ := firstG_on hF (l.length - f) f a h
  have hlen : ∀ (k j : Nat) (b : List Int), firstG (atG L l st c lng) k j = some b → b.length = c := fun k j b hb => by
    obtain ⟨k', j', hx⟩ := firstG_of k j b hb
    exact (atG_beg hC hc lng k' j' b hx).2
  refine ⟨hlen _ _ _ h, d, h2, by omega, fun e he => ?_, fun b hb => ⟨?_, hlen _ _ _ hb⟩⟩
  · have := h3 e he
    rw [show l.length - f - e = l.length - (f + e) by omega] at this
    exact this
  · have := firstG_le hF hb
    rw [h2]
    omega
end
end Go.Proofs.YtbhcgjahlfpjoaaDoor
namespace Go.Proofs.YtbhcgjahlfpjoaaDoor
open Go.RowKit

theorem fR_G {n c : Nat} {st : Int} {L : List MI} {l : List (Int × Nat)} (h : PgOK n st (c : Int) L) (hl : L.length = n) (lng : Bool) (j : Nat) : fR n st (c : Int) L l (j : Int) false lng = fromG L l st c lng j := by
  obtain ⟨h3, h4⟩ := h.leads3 hl
  unfold fR
  rw [if_pos h]
  unfold findR fromG
  rw [if_neg (by simp), Int.toNat_natCast]
  obtain ⟨_, _, q3, q4, q5, _, _, _⟩ := h
  exact findP_G h3 h4 (by omega) q3 (by rw [hl]; exact q4) lng j _
theorem fR_bad {n : Nat} {st cp : Int} {L : List MI} {l : List (Int × Nat)} (h : ¬ PgOK n st cp L) (frm : Int) (anch lng : Bool) : fR n st cp L l frm anch lng = none := by
  unfold fR
  rw [if_neg h]
/-- The law: from a place on nothing, then nothing behind it; else what is found is found from each place up to where it begins, and behind that something later, or nothing. -/
theorem on_law {n : Nat} {st cp : Int} {L : List MI} {l : List (Int × Nat)} (hl : L.length = n) (lng : Bool) (f : Nat) :
    (fR n st cp L l (f : Int) false lng = none → ∀ j : Nat, f ≤ j → fR n st cp L l (j : Int) false lng = none) ∧
    (∀ a, fR n st cp L l (f : Int) false lng = some a → 2 ≤ a.length ∧ ∃ d : Nat, beg a = ((f + d : Nat) : Int) ∧ f + d < l.length ∧ (∀ e, e ≤ d → fR n st cp L l ((f + e : Nat) : Int) false lng = some a) ∧ ∀ b, fR n st cp L l ((f + d + 1 : Nat) : Int) false lng = some b → beg a < beg b ∧ 2 ≤ b.length) := by
  by_cases h : PgOK n st cp L
  · obtain ⟨c, rfl⟩ : ∃ c : Nat, cp = (c : Int) := ⟨cp.toNat, by have := h.2.2.2.2.1; omega⟩
    have hc : 2 ≤ c := by have := h.2.2.2.2.1; omega
    obtain ⟨_, h4⟩ := h.leads3 hl
    refine ⟨fun hn j hj => ?_, fun a ha => ?_⟩
    · rw [fR_G h hl] at hn ⊢
      exact fromG_none hn j hj
    · rw [fR_G h hl] at ha
      obtain ⟨h1, d, h2, h5, h6, h7⟩ := fromG_some h4 hc ha
      refine ⟨by omega, d, h2, h5, fun e he => by rw [fR_G h hl]; exact h6 e he, fun b hb => ?_⟩
      rw [fR_G h hl] at hb
      obtain ⟨h8, h9⟩ := h7 b hb
      exact ⟨h8, by omega⟩
  · exact ⟨fun _ j _ => fR_bad h _ _ _, fun a ha => by rw [fR_bad h] at ha; cases ha⟩
end Go.Proofs.YtbhcgjahlfpjoaaDoor
namespace Go.Proofs.YtbhcgjahlfpjoaaDoor
open Go.RowKit

/-- A machine at rest, made since the world w. -/
structure Mx (w W : World) (g : Nat) (D1 D2 : LD) : Prop where
  ma : Ma w.heap.size W g D1 D2
  below : Below w.heap.size w W
  gl : w.heap.size ≤ g
/-- An input that lies where the machine does not. -/
structure InpX (W : World) (lo U gi : Nat) (l : List (Int × Nat)) (sx : List UInt8) (g : Nat) (D1 D2 : LD) : Prop where
  syms : SymsAt W lo U gi l sx
  hU : U ≤ W.heap.size
  hZ : ∀ k, lo ≤ k → k < U → ¬ Ft g D1 D2 k
section
variable {w W W' : World} {g lo U gi : Nat} {l : List (Int × Nat)} {sx : List UInt8} {D1 D2 D1' D2' : LD}
theorem Mx.foot (h : Mx w W g D1 D2) (k : Nat) (hk : Ft g D1 D2 k) : w.heap.size ≤ k ∧ k < W.heap.size := by
  obtain ⟨cells, n1, X1, n2, X2, s, hm⟩ := h.ma
  refine ⟨?_, (hm.ftlt k hk).2⟩
  rcases hk with rfl | hk | hk
  · exact h.gl
  · exact (hm.l1.blo k hk).1
  · exact (hm.l2.blo k hk).1
theorem Mx.on (h : Mx w W g D1 D2) (hb : Below W.heap.size W W') : Mx w W' g D1 D2 := by
  obtain ⟨cells, n1, X1, n2, X2, s, hm⟩ := h.ma
  exact ⟨⟨cells, n1, X1, n2, X2, s, hm.on hb⟩, h.below.trans (hb.mono h.below.size), h.gl⟩
theorem Mx.went (h : Mx w W g D1 D2) (hw : Went g D1 D2 D1' D2' W W') (hm : Ma w.heap.size W' g D1' D2') : Mx w W' g D1' D2' :=
  ⟨hm, h.below.trans (hw.1.below (fun k hk => (h.foot k hk).1) h.below.size), h.gl⟩
theorem Mx.blk (h : Mx w W g D1 D2) (hw : Went g D1 D2 D1' D2' W W') {b : Nat} {t : TypeId} {cs : Array Value} (hB : Blk W b t cs) (hb : b < w.heap.size) : Blk W' b t cs := hw.1.blk hB fun hk => by have := (h.foot b hk).1; omega
theorem Mx.ty (h : Mx w W g D1 D2) (hw : Went g D1 D2 D1' D2' W W') {b : Nat} {t : TypeId} {cs : Array Value} (hB : Blk W b t cs) (h1 : 3 ≠ t) (h2 : 35 ≠ t) (h3 : 73 ≠ t) : Blk W' b t cs := by
  obtain ⟨cells, n1, X1, n2, X2, s, hm⟩ := h.ma
  exact hw.1.blk hB (hm.ne hB h1 h2 h3)
theorem InpX.on (h : InpX W lo U gi l sx g D1 D2) (hb : Below W.heap.size W W') : InpX W' lo U gi l sx g D1 D2 :=
  ⟨h.syms.same (Same.of_below hb h.hU), Nat.le_trans h.hU hb.size, h.hZ⟩
theorem InpX.went (h : InpX W lo U gi l sx g D1 D2) (hw : Went g D1 D2 D1' D2' W W') : InpX W' lo U gi l sx g D1' D2' := by
  refine ⟨h.syms.same (hw.same h.hZ h.hU), Nat.le_trans h.hU hw.1.size, fun k h1 h2 hk => ?_⟩
  rcases hw.2 k hk with h3 | h3
  · exact h.hZ k h1 h2 h3
  · have := h.hU; omega
/-- An input that has just been made. -/
theorem InpX.new (h : SymsAt W' W.heap.size W'.heap.size gi l sx) (hm : Mx w W g D1 D2) : InpX W' W.heap.size W'.heap.size gi l sx g D1 D2 :=
  ⟨h, Nat.le_refl _, fun k h1 _ hk => by have := (hm.foot k hk).2; omega⟩
theorem Mx.find (h : Mx w W g D1 D2) {PA : Option Addr} {n pcap : Nat} {st cp : Int} {L : List MI} (hP : PgIn w PA n pcap L) (hs : ∀ x ∈ L, x.n ≤ 1000000) (hI : InpX W lo U gi l sx g D1 D2) (hl : 1 ≤ l.length ∧ l.length ≤ 100000) (frm : Int) (hfi : frm ≤ 9223372036854775807) (anch lng : Bool) :
    Calls Tryd.prog 11 #[.pointer (some ⟨g, 0, none⟩), .agg #[.slice PA n pcap, .int .i64 st, .int .i64 cp], .pointer (some ⟨gi, 0, none⟩), .int .i64 frm, .bool anch, .bool lng] W fun e W' =>
      ∃ v D1' D2', e = .returned (.tuple #[v, .bool (fR n st cp L l frm anch lng).isSome, .int .i64 ((fS n st cp L l frm anch lng : Nat) : Int)]) ∧ BestIn W.heap.size W' (Ft g D1' D2') v (fR n st cp L l frm anch lng) ∧ Mx w W' g D1' D2' ∧ Went g D1 D2 D1' D2' W W' := by
  refine (find_any h.ma (PgK.of hP h.gl) hs (Bel.of_below h.below) hI.syms hI.hU hI.hZ hl frm hfi anch lng).mono ?_
  rintro e W' ⟨v, E1, E2, rfl, hb, hm, hw⟩
  exact ⟨v, E1, E2, rfl, hb, h.went hw hm, hw⟩
theorem Mx.new {w W : World} (hb : Below w.heap.size w W) {g : Nat} (hB : Blk W g 73 c0M) (hg : w.heap.size ≤ g) : Mx w W g D0 D0 := ⟨ma_new hB hb.size, hb, hg⟩
end
theorem fit_poke {W : World} {Z : Nat → Prop} {v : Value} {f : List Int} {gB : Nat} {t : TypeId} {cs : Array Value} (h : FitIn W Z v f) (hB : Blk W gB t cs) (i : Nat) (u : Int) : ∃ f', FitIn (W.setCell ⟨gB, i, none⟩ (.int .i64 u)) Z v f' := by
  obtain ⟨b, o, cc, rfl, h1, h2, hb, hz, hc⟩ := h
  have hsz : (W.setCell ⟨gB, i, none⟩ (.int .i64 u)).heap.size = W.heap.size := by simp [World.setCell]
  by_cases hbg : b = gB
  · subst hbg
    refine ⟨if o ≤ i then f.set (i - o) u else f, b, o, cc, ?_, ?_, h2, by rw [hsz]; exact hb, hz, fun j x hx => ?_⟩
    · split <;> simp
    · split
      · rw [List.length_set]; exact h1
      · exact h1
    · rw [(hB.set i (.int .i64 u)).cell]
      have hold : ∀ y, f[j]? = some y → cs[o + j]? = some (.int .i64 y) := fun y hy => by rw [← hB.cell]; exact hc j y hy
      by_cases hoi : o ≤ i
      · rw [if_pos hoi, List.getElem?_set] at hx
        by_cases hij : i - o = j
        · rw [if_pos hij] at hx
          subst hij
          split at hx
          · rename_i hlt
            injection hx with hx
            subst hx
            have hh := hold _ (List.getElem?_eq_getElem hlt)
            rw [show o + (i - o) = i by omega] at hh ⊢
            exact Array.getElem?_setIfInBounds_self_of_lt (Array.getElem?_eq_some_iff.1 hh).1
          · cases hx
        · rw [if_neg hij] at hx
          rw [Array.getElem?_setIfInBounds_ne (by omega)]
          exact hold x hx
      · rw [if_neg hoi] at hx
        rw [Array.getElem?_setIfInBounds_ne (by omega)]
        exact hold x hx
  · refine ⟨f, b, o, cc, rfl, h1, h2, by rw [hsz]; exact hb, hz, fun j x hx => ?_⟩
    exact (World.cell?_of_block (a := ⟨b, o + j, none⟩) (Below.heap_setCell W ⟨gB, i, none⟩ _ b hbg)).trans (hc j x hx)
theorem own_poke {W : World} {base n : Nat} {e : TypeId} {v : Value} {xs : List Value} (h : W.ownsRow base e 1 v n xs) {gB i : Nat} {u : Value} (hne : v.ownBlock ≠ some gB) : (W.setCell ⟨gB, i, none⟩ u).ownsRow base e 1 v n xs :=
  h.kept (row := some gB) ⟨rfl, rfl, rfl, by simp [World.setCell], fun k _ hk => Below.heap_setCell _ _ _ _ (fun e => hk (by rw [e]))⟩ (.inr hne)
theorem choose_len {P : Nat → List Int → Prop} (n : Nat) (h : ∀ i, i < n → ∃ f, P i f) : ∃ F : Nat → List Int, ∀ i, i < n → P i (F i) := by
  classical
  exact ⟨fun i => if hi : i < n then (h i hi).choose else [], fun i hi => by simp only [dif_pos hi]; exact (h i hi).choose_spec⟩
theorem LsIn.poke {b0 : Nat} {W : World} {Y : Nat → Prop} {g o n : Nat} {cells : Array Value} {X : List Th} {A N V : Option Addr} {na ca kc vc : Nat} {qs : List Int} {vs : List Value} (h : LsIn b0 W Y g o n cells X A na ca N kc V vc qs vs)
    {gB : Nat} {t : TypeId} {cs : Array Value} (hB : Blk W gB t cs) (hg : gB ≠ g) (hz : ¬ foo3 A N V gB) (i : Nat) (u : Int) : ∃ X' : List Th, X'.length = X.length ∧ LsIn b0 (W.setCell ⟨gB, i, none⟩ (.int .i64 u)) Y g o n cells X' A na ca N kc V vc qs vs := by
  have hsz : (W.setCell ⟨gB, i, none⟩ (.int .i64 u)).heap.size = W.heap.size := by simp [World.setCell]
  obtain ⟨F, hF⟩ := choose_len (P := fun j f => ∃ v, vs[j]? = some v ∧ FitIn (W.setCell ⟨gB, i, none⟩ (.int .i64 u)) (Zl Y A N V) v f) X.length fun j hj => by
    obtain ⟨v, hv, hf⟩ := h.fits j X[j] (List.getElem?_eq_getElem hj)
    obtain ⟨f', hf'⟩ := fit_poke hf hB i u
    exact ⟨f', v, hv, hf'⟩
  have hget : ∀ (j : Nat) (x : Th), (X.mapIdx fun j t => (t.1, F j))[j]? = some x → ∃ y, X[j]? = some y ∧ x = (y.1, F j) := fun j x hx => by
    rw [List.getElem?_mapIdx, Option.map_eq_some_iff] at hx
    obtain ⟨y, hy, rfl⟩ := hx
    exact ⟨y, hy, rfl⟩
  have hlen : (X.mapIdx fun j t => (t.1, F j)).length = X.length := List.length_mapIdx
  have hfst : (X.mapIdx fun j t => (t.1, F j)).map Prod.fst = X.map Prod.fst := by
    apply List.ext_getElem?
    intro j
    rw [List.getElem?_map, List.getElem?_map, List.getElem?_mapIdx, Option.map_map]
    rfl
  have own : ∀ {e : TypeId} {v : Value} {m : Nat} {xs : List Value}, W.ownsRow b0 e 1 v m xs → (∀ k, v.ownBlock = some k → foo3 A N V k) → (W.setCell ⟨gB, i, none⟩ (.int .i64 u)).ownsRow b0 e 1 v m xs := fun ho hv => own_poke ho fun hk => hz (hv gB hk)
  have r := h.rows
  refine ⟨X.mapIdx fun j t => (t.1, F j), hlen, ⟨⟨Frm.refl _ _, r.box.far (Ne.symm hg) _, ?_, ?_, ?_, by rw [hlen]; exact r.san, fun k hk => .inl (.inr ((foo3_iff ..).1 hk)), .inl rfl⟩, h.c0, ?_, ?_, ?_, h.big, h.pos, ?_, ?_, ?_, h.yg, fun k hk => by rw [hsz]; exact h.ylt k hk, h.sepY⟩⟩
  · exact own r.oa fun k hk => (foo3_iff A N V na ca X.length kc X.length vc k).1 (.inl hk)
  · rw [hlen, hfst]
    exact own r.on fun k hk => (foo3_iff A N V na ca X.length kc X.length vc k).1 (.inr (.inl hk))
  · rw [hlen]
    exact own r.ov fun k hk => (foo3_iff A N V na ca X.length kc X.length vc k).1 (.inr (.inr hk))
  · rw [hlen]; exact h.c1
  · rw [hlen]; exact h.c2
  · rw [hlen]; exact h.vl
  · intro j x hx
    obtain ⟨y, hy, rfl⟩ := hget j x hx
    exact h.at_ j y hy
  · intro x hx
    obtain ⟨j, hj⟩ := List.getElem?_of_mem hx
    obtain ⟨y, hy, rfl⟩ := hget j x hj
    exact h.pcs y (List.mem_of_getElem? hy)
  · intro j x hx
    obtain ⟨y, hy, rfl⟩ := hget j x hx
    exact hF j (List.getElem?_eq_some_iff.1 hy).1
/-- Something is written in a block that is not the machine's. -/
theorem Mx.poke {w W : World} {g : Nat} {D1 D2 : LD} (h : Mx w W g D1 D2) {gB : Nat} {t : TypeId} {cs : Array Value} (hB : Blk W gB t cs) (hz : ¬ Ft g D1 D2 gB) (hl : w.heap.size ≤ gB) (i : Nat) (u : Int) : Mx w (W.setCell ⟨gB, i, none⟩ (.int .i64 u)) g D1 D2 := by
  obtain ⟨cells, n1, X1, n2, X2, s, hm⟩ := h.ma
  obtain ⟨X1', _, h1⟩ := hm.l1.poke hB (fun e => hz (.inl e)) (fun e => hz (.inr (.inl e))) i u
  obtain ⟨X2', _, h2⟩ := hm.l2.poke hB (fun e => hz (.inl e)) (fun e => hz (.inr (.inr e))) i u
  exact ⟨⟨cells, n1, X1', n2, X2', s, ⟨h1, h2, hm.c6, hm.oo, by simp only [World.setCell, Array.size_modify]; exact hm.bz⟩⟩, h.below.setCell hl _, h.gl⟩
end Go.Proofs.YtbhcgjahlfpjoaaDoor
