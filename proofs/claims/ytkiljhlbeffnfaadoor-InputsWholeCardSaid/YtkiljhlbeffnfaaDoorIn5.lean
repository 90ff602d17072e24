/- The bytes between two places, by the reference; one rune off a slice of bytes. -/
import Derived.Test.YtkiljhlbeffnfaaDoorIn4
import Derived.Test.YtkiljhlbeffnfaaDoorUtf
import Derived.Test.YtkiljhlbeffnfaaDoorShelfIn
import Derived.Laws.BytesArg
namespace Go.Proofs.YtkiljhlbeffnfaaDoor
open Go.RowKit

theorem full_fits_len (m : List (Int × Nat)) (e : Nat) : (full m e).length = m.length + 1 := full_length m e

set_option maxHeartbeats 400000 in
theorem refBytes_any {w : World} {lo U g : Nat} {m : List (Int × Nat)} {e : Nat} {s : List UInt8} (h : RefAt w lo U g m e s) (hU : U ≤ w.heap.size) (hf : Fits (full m e) s.length) (hbig : s.length ≤ 140737488355328) (i j : Int) :
    Calls Tryd.prog 13 #[.pointer (some ⟨g, 0, none⟩), .int .i64 i, .int .i64 j] w fun e' w' => ∃ v, e' = .returned v ∧ w'.ownsRow w.heap.size 5 1 v (bytesOf (full m e) s i j).length (byteVals (bytesOf (full m e) s i j)) ∧ Below w.heap.size w w' := by
  obtain ⟨hlo, hgU, B, bc, R, rc, O, oc, hb, _, hc, hB, _, hO, h1, h2, h3, h4⟩ := h
  unfold maxLen at h2 h4
  have hfl := full_length m e
  by_cases hi : i < 0 ∨ j < i ∨ ((full m e).length : Int) ≤ j
  · have e0 : bytesOf (full m e) s i j = [] := by unfold bytesOf; rw [if_pos hi]
    rw [e0]
    rw [hfl] at hi
    clear e0 hf hB hO hfl
    have hcs : i < 0 ∨ (¬ i < 0 ∧ (m.length : Int) + 1 ≤ j) ∨ (¬ i < 0 ∧ ¬ (m.length : Int) + 1 ≤ j ∧ j < i) := by omega
    clear hi
    rcases hcs with hi | ⟨hi, hj⟩ | ⟨hi, hj, hk⟩
    all_goals
      go_enter Tryd.func13, Tryd.ntmps13
      go_wp2
      go_ret
      exact ⟨_, rfl, World.ownsRow_nil _ _ _ _, Below.refl _ _⟩
  · have hv := bytesOf_vals (full m e) s i j hi
    have hlen : (bytesOf (full m e) s i j).length = (offAt (full m e) j).toNat - (offAt (full m e) i).toNat := by
      have := congrArg List.length hv
      rw [byteVals_length, List.length_drop, List.length_take, byteVals_length] at this
      have := hf.2 j (by omega) (by omega)
      omega
    obtain ⟨x, rfl⟩ := Int.eq_ofNat_of_zero_le (by omega : 0 ≤ i)
    obtain ⟨y, rfl⟩ := Int.eq_ofNat_of_zero_le (by omega : 0 ≤ j)
    obtain ⟨p, hp, hpo⟩ := offAt_get (l := full m e) (k := x) (by omega)
    obtain ⟨q, hq, hqo⟩ := offAt_get (l := full m e) (k := y) (by omega)
    have hf1 := (hf.1 x y (by omega) (by omega) (by omega)).2
    have hf2 := hf.2 y (by omega) (by omega)
    have hxy : x ≤ y ∧ y < m.length + 1 := by omega
    obtain ⟨b, o, rfl, _, hbU, hcell⟩ := hO (by simp [i64s, offsOf_length])
    have c1 := hcell _ _ (i64s_at (offsOf_at m e x (by omega)))
    have c2 := hcell _ _ (i64s_at (offsOf_at m e y (by omega)))
    rw [hpo] at hv hf1 hlen c1
    rw [hqo] at hv hf1 hf2 hlen c2
    clear hpo hqo hf
    simp only [Int.toNat_natCast] at hv hlen
    have hRs : Rd w lo U (if bc = p.2 then B else Option.map (fun x => x.add p.2) B) (byteVals (bytesOf (full m e) s x y)) := by
      rw [hv]
      exact (hB.take q.2).cut1 (n := q.2) (k := p.2) (c := bc) (by rw [List.length_take, byteVals_length]; omega) (by omega) (by omega)
    have hTn : (if bc = p.2 then B else Option.map (fun x => x.add p.2) B) = none → (bytesOf (full m e) s x y).length = 0 := by
      intro h0
      rcases Nat.eq_zero_or_pos (bytesOf (full m e) s x y).length with h5 | h5
      · exact h5
      · obtain ⟨b', o', h6, _⟩ := hRs (by rw [byteVals_length]; exact h5)
        rw [h6] at h0
        cases h0
    have hlen' : q.2 - p.2 = (bytesOf (full m e) s x y).length := by rw [hlen]
    generalize hbs : bytesOf (full m e) s x y = bs at hRs hTn hlen' ⊢
    generalize hTT : (if bc = p.2 then B else Option.map (fun x => x.add p.2) B) = TT at hRs hTn
    have HB := Lib.hid hbs
    have HT := Lib.hid hTT
    have HL := Lib.hid hlen'
    have hl1 : (byteVals bs).length = bs.length * 1 := by rw [byteVals_length]; omega
    have hbs2 : bs.length ≤ 140737488355328 := by omega
    have i1 : (0 : Int) ≤ (x : Int) := by omega
    have ig : g < w.heap.size := World.block_lt_of_cell? w _ hc
    have ib : b < w.heap.size := World.block_lt_of_cell? w _ c1
    have i2 : (x : Int) < (m.length : Int) + 1 := by omega
    have i3 : (0 : Int) ≤ (y : Int) := by omega
    have i4 : (y : Int) < (m.length : Int) + 1 := by omega
    have i5 : (0 : Int) ≤ (p.2 : Int) := by omega
    have i6 : (0 : Int) ≤ (q.2 : Int) := by omega
    have i7 : (q.2 : Int) ≤ (bc : Int) := by omega
    have hown := World.ownsRow_made (base := w.heap.size) (size := 1) (e := 5) w #[] 0 (Nat.le_refl _) (Nat.zero_le _) rfl
    have hR2 : Rd (w.alloc (.cells #[] 5)) lo U TT (byteVals bs) := hRs.same ((Same.refl lo U w).alloc hU _)
    clear hbs hTT hlen' hRs hlen hv hcell hp hq hB hO hfl hi
    go_enter Tryd.func13, Tryd.ntmps13
    go_wp2_with fail
    go_region_held3 (fun w' => w'.cell? ⟨g, 1, none⟩ = some (.slice B s.length bc) ∧ w'.cell? ⟨g, 3, none⟩ = some (.slice (some ⟨b, o, none⟩) (m.length + 1) oc) ∧ w'.cell? ⟨b, o + x, none⟩ = some (.int .i64 (p.2 : Int)) ∧ w'.cell? ⟨b, o + y, none⟩ = some (.int .i64 (q.2 : Int)))
      (first
        | exact ⟨(hg.cell (a := ⟨g, _, none⟩) ((World.cell?_alloc_past _ _ _ ig).trans hb) (by simp [Value.ownBlock]; omega)), (hg.cell (a := ⟨g, _, none⟩) ((World.cell?_alloc_past _ _ _ ig).trans hc) (by simp [Value.ownBlock]; omega)), (hg.cell (a := ⟨b, _, none⟩) ((World.cell?_alloc_past _ _ _ ib).trans c1) (by simp [Value.ownBlock]; omega)), (hg.cell (a := ⟨b, _, none⟩) ((World.cell?_alloc_past _ _ _ ib).trans c2) (by simp [Value.ownBlock]; omega))⟩
        | exact ⟨(World.cell?_alloc_past _ _ _ ig).trans hb, (World.cell?_alloc_past _ _ _ ig).trans hc, (World.cell?_alloc_past _ _ _ ib).trans c1, (World.cell?_alloc_past _ _ _ ib).trans c2⟩
        | go_keep)
      (first | (rw [HT.out, HL.out]; refine step_app _ (by rfl) _ _ 23 (by rfl) w.heap.size 5 elB _ _ _ (by rfl) hown.drew lo U TT bs.length _ (byteVals bs) (by rfl) hTn hl1 hR2 (byteVals_one bs) (by unfold maxLen; omega) (by omega) (by simp) ?_; intro v w1 hown1 hg hb2 hn))
    go_wp2
    go_ret
    simp only [Nat.zero_add, List.nil_append] at hown1
    exact ⟨_, rfl, hown1, (((Below.refl _ _).alloc (Nat.le_refl _) _).drew).grown hg (by simp) (fun k hk => (hown.lt k hk).1)⟩

theorem tabs_below {a b : Nat} {w w' : World} (h : Lib.Utf8Tabs a b w) (hb : Below w.heap.size w w') : Lib.Utf8Tabs a b w' := by
  refine ⟨fun c hc => ?_, fun i hi => ⟨?_, ?_⟩⟩
  · have := h.1 c hc; exact (hb.cell (World.block_lt_of_cell? w _ this)).trans this
  · have := (h.2 i hi).1; exact (hb.cell (World.block_lt_of_cell? w _ this)).trans this
  · have := (h.2 i hi).2; exact (hb.cell (World.block_lt_of_cell? w _ this)).trans this

theorem blen (s : ByteArray) : s.data.toList.length = s.size := Array.length_toList
theorem byteVals_at (s : ByteArray) (j : Nat) (h : j < s.size) : (byteVals s.data.toList)[j]? = some (.int .u8 (s.get! j).toNat) := by
  have e := get_at s j h
  simp only [Nat.add_zero] at e
  rw [e]
  simp [byteVals, ByteArray.getElem_eq_getElem_data, h]

/-- One rune off 'text[i:]'. -/
theorem dec_any {w : World} (hT : Lib.Utf8Tabs 0 1 w) {lo U : Nat} {A : Option Addr} {n c : Nat} {s : ByteArray} (hR : Rd w lo U A (byteVals s.data.toList)) (hn : s.size = n) (hc : n ≤ c) (i : Nat) (hi : i < n) :
    Calls Tryd.prog 36 #[.slice (if c = i then A else Option.map (fun x => x.add i) A) (n - i) (c - i)] w fun e w' => e = .returned (.tuple #[.int .i32 ((Utf8.decode s i).1 : Nat), .int .i64 ((Utf8.decode s i).2 : Nat)]) ∧ Below w.heap.size w w' := by
  subst hn
  obtain ⟨b, off, rfl, _, _, hcell⟩ := hR (by rw [byteVals_length, blen]; omega)
  rw [if_neg (by omega)]
  have hsz : (s.extract i s.size).size = s.size - i := by rw [ByteArray.size_extract]; omega
  have h := Any7.utf8_DecodeRune Tryd.lays7n32 (s.extract i s.size) b (off + i) (c - i) w hT (fun j hj => by
    rw [hsz] at hj
    have := hcell _ _ (byteVals_at s (i + j) (by omega))
    rw [get!_extract s i j (by omega), Nat.add_assoc]
    exact this)
  have hd : Lib.decodeGo (s.extract i s.size) = Utf8.decode s i := by
    unfold Lib.decodeGo
    rw [if_neg (by omega), decode_extract s i hi]
  rw [hd, hsz] at h
  have ha : Option.map (fun x => x.add i) (some (⟨b, off, none⟩ : Addr)) = some ⟨b, off + i, none⟩ := by
    simp only [Option.map_some, Addr.add]
    split <;> simp_all
  rw [ha]
  exact h
end Go.Proofs.YtkiljhlbeffnfaaDoor
