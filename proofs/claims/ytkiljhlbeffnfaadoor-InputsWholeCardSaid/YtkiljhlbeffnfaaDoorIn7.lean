/- New: an input of any bytes. -/
import Derived.Test.YtkiljhlbeffnfaaDoorIn6
import Derived.Deep.DeepFit
namespace Go.Proofs.YtkiljhlbeffnfaaDoor
open Go.RowKit

theorem strOf (s : ByteArray) : strOfNums (s.data.toList.map fun c => (c.toNat : Int)) = s := by
  obtain ⟨⟨l⟩⟩ := s
  simp [strOfNums, Function.comp_def]
theorem conv_bs {w : World} {lo U : Nat} {A : Option Addr} {n : Nat} {s : ByteArray} (c : Nat) (hR : Rd w lo U A (byteVals s.data.toList)) (hn : s.size = n) (hA : A = none → n = 0) :
    (convert 23 9 (.slice A n c)).run Tryd.prog w = .ok (.string s) w := by
  rcases Nat.eq_zero_or_pos n with h0 | h0
  · have hs : s = ByteArray.empty := by
      obtain ⟨⟨l⟩⟩ := s
      have : l = [] := List.eq_nil_of_length_eq_zero (by simpa [ByteArray.size] using hn.trans h0)
      subst this; rfl
    subst h0
    subst hs
    cases A with
    | none => exact run_convert_bytes_nil w _ _ Tryd.underlying23 Tryd.underlying5 0 c _ Tryd.underlying9
    | some ad =>
      have hl : (loadCells ad 0).run Tryd.prog w = .ok (([] : List Int).map (Value.int .u8)).toArray w := rfl
      exact (run_convert_bytes_string w _ _ _ _ 0 c Tryd.underlying23 Tryd.underlying5 Tryd.underlying9).trans (run_bytesToString w ad 0 c [] hl)
  · obtain ⟨b, off, rfl, _, _, hc⟩ := hR (by rw [byteVals_length, blen]; omega)
    have := run_convert_bytes_arg (P := Tryd.prog) w _ _ Tryd.underlying23 Tryd.underlying5 b off n c (s.data.toList.map fun c => (c.toNat : Int)) (by rw [List.length_map, blen]; exact hn) (fun i hi => by
      have hi' : i < s.data.toList.length := by rw [blen]; omega
      refine hc i _ ?_
      simp [byteVals, List.getD, List.getElem?_eq_getElem hi']) _ Tryd.underlying9
    rw [this, strOf]

def InAt (w : World) (lo U g : Nat) (k : Int) (l : List (Int × Nat)) (s : List UInt8) : Prop := SymsAt w lo U g l s ∧ w.cell? ⟨g, 2, none⟩ = some (.int .i64 k)
theorem InAt.same {w w' : World} {lo U g : Nat} {k : Int} {l : List (Int × Nat)} {s : List UInt8} (h : InAt w lo U g k l s) (hs : Same lo U w w') : InAt w' lo U g k l s :=
  ⟨h.1.same hs, (hs.cell (p := ⟨g, 2, none⟩) h.1.1 h.1.2.1).trans h.2⟩
theorem InAt.drewN {w : World} {lo U g : Nat} {k : Int} {l : List (Int × Nat)} {s : List UInt8} (h : InAt w lo U g k l s) (n : Nat) : InAt (w.drewN n) lo U g k l s := h.same ((Same.refl _ _ _).drewN n)

theorem InAt.of_blk {w : World} {lo U g : Nat} {k : Int} {l : List (Int × Nat)} {s : List UInt8} {v tv : Value} {t : TypeId} {base b2 e e2 : Nat} (hB : Blk w g t #[v, tv, .int .i64 k]) (h1 : lo ≤ g) (h2 : w.heap.size ≤ U)
    (hv : w.ownsRow base e 2 v l.length (symCells l)) (hb : lo ≤ base) (ht : w.ownsRow b2 e2 1 tv s.length (byteVals s)) (hb2 : lo ≤ b2) : InAt w lo U g k l s := by
  obtain ⟨A, c, rfl, h3, h4⟩ := own_form hv
  obtain ⟨T, tc, rfl, h5, h6⟩ := own_form ht
  exact ⟨⟨h1, Nat.lt_of_lt_of_le hB.lt h2, A, c, T, tc, by rw [hB.cell]; rfl, by rw [hB.cell]; rfl, Rd.of_own hv hb h2, Rd.of_own ht hb2 h2, h3, h4, h5, h6⟩, by rw [hB.cell]; rfl⟩

theorem new_arg (k : Int) (A : Option Addr) (n c : Nat) (w : World) (h : k < 1 ∨ 3 < k) : Calls Tryd.prog 25 #[.int .i64 k, .slice A n c] w fun e w' => e = .returned (.tuple #[.pointer none, .int .i64 1]) ∧ w = w' := by
  rcases h with h | h
  · go_enter Tryd.func25, Tryd.ntmps25
    go_wp2
    go_ret2
    exact ⟨rfl, rfl⟩
  · have h' : ¬ k < 1 := by omega
    go_enter Tryd.func25, Tryd.ntmps25
    go_wp2
    go_ret2
    exact ⟨rfl, rfl⟩
theorem new_many (k : Int) (A : Option Addr) (n c : Nat) (w : World) (h : 1 ≤ k ∧ k ≤ 3) (hn : 65536 < n) (hb : n ≤ maxLen) : Calls Tryd.prog 25 #[.int .i64 k, .slice A n c] w fun e w' => e = .returned (.tuple #[.pointer none, .int .i64 2]) ∧ w = w' := by
  unfold maxLen at hb
  have h1 : ¬ k < 1 := by omega
  have h2 : ¬ 3 < k := by omega
  go_enter Tryd.func25, Tryd.ntmps25
  go_wp2
  go_ret2
  exact ⟨rfl, rfl⟩

def NewPost (w : World) (k : Int) (s : ByteArray) (e : Ending) (w' : World) : Prop :=
  ∃ g m, Cnt s m ∧ e = .returned (.tuple #[.pointer (some ⟨g, 0, none⟩), .int .i64 0]) ∧ InAt w' w.heap.size w'.heap.size g k (full (pre s m) s.size) s.data.toList ∧ Below w.heap.size w w'

set_option maxHeartbeats 1000000 in
theorem new_text {w : World} {lo U : Nat} {A : Option Addr} {n c : Nat} {s : ByteArray} (k : Int) (hk : 1 ≤ k ∧ k ≤ 2) (hR : Rd w lo U A (byteVals s.data.toList)) (hU : U ≤ w.heap.size) (hn : s.size = n) (hA : A = none → n = 0) (hb : n ≤ 65536) :
    Calls Tryd.prog 25 #[.int .i64 k, .slice A n c] w (NewPost w k s) := by
  have hC := cloneB_any (c := c) hR (by rw [blen]; exact hn) hA (by omega)
  have h1 : ¬ k < 1 := by omega
  have h2 : ¬ 3 < k := by omega
  have h3 : (k == 3) = false := by rw [beq_eq_false_iff_ne]; omega
  have hb' : ¬ (65536 : Int) < n := by omega
  go_enter Tryd.func25, Tryd.ntmps25
  go_wp2_with fail
  refine hC.mono ?_
  rintro e w1 ⟨tv, rfl, htv, hbe⟩
  clear hC
  obtain ⟨T, tc, rfl, _, _⟩ := own_form htv
  have hU1 : U ≤ w1.heap.size := by have := hbe.size; omega
  have hconv : ∀ w', Same lo U w w' → (convert 23 9 (.slice A n c)).run Tryd.prog w' = .ok (.string s) w' := fun w' hs => conv_bs c (hR.same hs) hn hA
  have hs1 : Same lo U w w1 := .of_below hbe hU
  have HCv := Lib.hid hconv
  clear hconv
  go_wp2_with fail
  have hB := Blk.new w1 34 #[.slice none 0 0, .slice T n tc, .int .i64 k]
  have hs2 : Same lo U w (w1.alloc (.cells #[.slice none 0 0, .slice T n tc, .int .i64 k] 34)) := hs1.alloc hU1 _
  have hbe2 := hbe.alloc hbe.size (.cells #[.slice none 0 0, .slice T n tc, .int .i64 k] 34)
  have htv2 := htv.alloc (.cells #[.slice none 0 0, .slice T n tc, .int .i64 k] 34)
  have hgw : w.heap.size ≤ w1.heap.size := hbe.size
  have hsz : w1.heap.size < (w1.alloc (.cells #[.slice none 0 0, .slice T n tc, .int .i64 k] 34)).heap.size := by simp
  generalize w1.alloc (.cells #[.slice none 0 0, .slice T n tc, .int .i64 k] 34) = W1 at hB hs2 hbe2 htv2 hsz ⊢
  generalize w1.heap.size = g at hB hgw hsz hU1 ⊢
  clear hs1 htv hbe
  go_region_held3 (fun w' => (convert 23 9 (.slice A n c)).run Tryd.prog w' = .ok (.string s) w')
    (first
      | exact HCv.out _ (hs2.drew.trans (Same.of_grown hg2 (by have := hbe2.size; simp; omega) (fun k hk => by injection hk with hk; omega)))
      | exact HCv.out _ hs2)
    (first
      | (go_at_call 37; refine (decode_any (hB.drew) rfl (by decide) s (by omega)).mono ?_; rintro e w2 ⟨rfl, v, m, hcnt, hB2, hO2, hg2⟩))
  go_wp2
  go_ret2
  have hts := htv2.drew.kept (w' := w2) hg2 (by
    rcases htv2.2 with h | ⟨g', cap, cur, h5, h6, h7, _⟩
    · left; rw [h.1]; rfl
    · right; intro h8
      have := own_ne_blk htv2.drew hB.drew (by decide)
      exact this h8)
  have hbe3 : Below w.heap.size w w2 := hbe2.drew.grown hg2 (by have := hbe2.size; simp; omega) (fun k hk => by injection hk with hk; omega)
  have hfl : (full (pre s m) s.size).length = m + 1 := by rw [full_length, pre_length]
  refine ⟨g, m, hcnt, rfl, InAt.of_blk (base := W1.heap.size + 1) (b2 := w.heap.size) hB2 hgw (Nat.le_refl _) (by rw [hfl]; exact hO2) (by have := hbe2.size; simp; omega) (by rw [blen, hn]; exact hts) (Nat.le_refl _), hbe3⟩

/-- What holds when the reader has read m runes. -/
structure ReadRel (w wr : World) (g : Nat) (k : Int) (tv : Value) (s : ByteArray) (m : Nat) (v : Value) : Prop where
  lt : ∀ k, k < m → posN s k < s.size
  blk : Blk wr g 34 #[v, tv, .int .i64 k]
  own : wr.ownsRow w.heap.size 59 2 v m (symCells (pre s m))
  txt : wr.ownsRow w.heap.size 5 1 tv s.size (byteVals s.data.toList)
  below : Below w.heap.size w wr
  hg : w.heap.size ≤ g
theorem ownsRow_below {w w' : World} {base : Nat} {e : TypeId} {size n : Nat} {v : Value} {xs : List Value} (h : w.ownsRow base e size v n xs) (hb : Below w.heap.size w w') : w'.ownsRow base e size v n xs :=
  ownsRow_far h fun k hk => hb.block k (h.lt k hk).2
theorem ReadRel.move {w wr w2 : World} {g : Nat} {k : Int} {tv : Value} {s : ByteArray} {m : Nat} {v : Value} (h : ReadRel w wr g k tv s m v) (hb : Below wr.heap.size wr w2) : ReadRel w w2 g k tv s m v :=
  ⟨h.lt, h.blk.below hb h.blk.lt, ownsRow_below h.own hb, ownsRow_below h.txt hb, h.below.trans (hb.mono h.below.size), h.hg⟩
/-- A new row for the runes, stored back. -/
theorem ReadRel.put {w wr W2 : World} {g : Nat} {k : Int} {tv : Value} {s : ByteArray} {m n : Nat} {v v' : Value} {xs : List Value} (h : ReadRel w wr g k tv s m v)
    (hown : W2.ownsRow w.heap.size 59 2 v' n xs) (o : Obj) (hgr : (wr.alloc o).grownBy W2 v.ownBlock) :
    W2.cell? ⟨g, 0, none⟩ = some v ∧ W2.frozen? ⟨g, 0, none⟩ = false ∧ Hid (Blk (W2.setCell ⟨g, 0, none⟩ v') g 34 #[v', tv, .int .i64 k] ∧ (W2.setCell ⟨g, 0, none⟩ v').ownsRow w.heap.size 59 2 v' n xs ∧
      (W2.setCell ⟨g, 0, none⟩ v').ownsRow w.heap.size 5 1 tv s.size (byteVals s.data.toList) ∧ Below w.heap.size w (W2.setCell ⟨g, 0, none⟩ v')) := by
  have hb : ∀ k, v.ownBlock = some k → w.heap.size ≤ k := fun k hk => (h.own.lt k hk).1
  have h3 : Blk W2 g 34 #[v, tv, .int .i64 k] := (h.blk.alloc o).grown hgr (own_ne_blk (h.own.alloc o) (h.blk.alloc o) (by decide))
  have h4 : W2.ownsRow w.heap.size 5 1 tv s.size (byteVals s.data.toList) := (h.txt.alloc o).kept hgr (own_ne_own (h.txt.alloc o) (h.own.alloc o) (by decide))
  refine ⟨by rw [h3.cell]; rfl, h3.frozen 0, Lib.hid ⟨h3.set 0 v', ?_, ?_, ?_⟩⟩
  · exact ownsRow_far hown fun k hk => Below.heap_setCell _ _ _ _ (fun e => own_ne_blk hown h3 (by decide) (by rw [hk, e]))
  · exact ownsRow_far h4 fun k hk => Below.heap_setCell _ _ _ _ (fun e => own_ne_blk h4 h3 (by decide) (by rw [hk, e]))
  · exact ((h.below.alloc h.below.size o).grown hgr (by have := h.below.size; simp; omega) hb).setCell h.hg _

set_option maxHeartbeats 1000000 in
theorem new_reader {w : World} {lo U : Nat} {A : Option Addr} {n c : Nat} {s : ByteArray} (hT : Lib.Utf8Tabs 0 1 w) (hR : Rd w lo U A (byteVals s.data.toList)) (hU : U ≤ w.heap.size) (hn : s.size = n) (hnc : n ≤ c) (hcm : c ≤ maxLen) (hA : A = none → n = 0) (hb : n ≤ 65536) :
    Calls Tryd.prog 25 #[.int .i64 3, .slice A n c] w (NewPost w 3 s) := by
  have hC := cloneB_any (c := c) hR (by rw [blen]; exact hn) hA (by omega)
  have hb' : ¬ (65536 : Int) < n := by omega
  unfold maxLen at hcm
  go_enter Tryd.func25, Tryd.ntmps25
  go_wp2_with fail
  refine hC.mono ?_
  rintro e w1 ⟨tv, rfl, htv, hbe⟩
  clear hC
  obtain ⟨T, tc, rfl, _, _⟩ := own_form htv
  have hstart : ReadRel w (w1.alloc (.cells #[.slice none 0 0, .slice T n tc, .int .i64 3] 34)) w1.heap.size 3 (.slice T n tc) s 0 (.slice none 0 0) :=
    ⟨fun k hk => by omega, Blk.new _ _ _, World.ownsRow_nil _ _ _ _, by rw [hn]; exact htv.alloc _, hbe.alloc hbe.size _, hbe.size⟩
  have HST := Lib.hid hstart
  clear hstart htv
  go_wp2_with fail
  generalize w1.heap.size = g at HST ⊢
  go_loopg [7] (n + 1) (fun q o wr => ∃ m v, q = n + 1 - m ∧ o = .int .i64 (posN s m : Int) ∧ Hid (ReadRel w wr g 3 (.slice T n tc) s m v))
  case atStart => exact ⟨0, _, rfl, rfl, HST⟩
  case round =>
    obtain ⟨m, v, hgk, rfl, HR⟩ := hrel
    have HG := Lib.hid hgk
    clear hgk HST
    have hle := posN_le_size s HR.out.lt
    have hml : m ≤ n := by have := posN_ge s HR.out.lt; omega
    by_cases hp : posN s m < n
    · have hD := dec_any (tabs_below hT HR.out.below) (hR.same (.of_below HR.out.below hU)) hn hnc (posN s m) hp
      rw [if_neg (by omega)] at hD
      have hfit := decode_fits s (posN s m) (by omega)
      have hrune := decode_rune s (posN s m)
      have hnext : posN s m + (Utf8.decode s (posN s m)).2 = posN s (m + 1) := rfl
      have HN := Lib.hid hnext
      have hsym : symCells (pre s (m + 1)) = symCells (pre s m) ++ [.int .i32 ((Utf8.decode s (posN s m)).1 : Nat), .int .i64 (posN s m : Int)] := by rw [pre_succ, symCells_append]; rfl
      have hlt : ∀ k, k < m + 1 → posN s k < s.size := by
        intro k hk
        rcases Nat.lt_succ_iff_lt_or_eq.1 hk with h1 | h1
        · exact HR.out.lt k h1
        · subst h1; omega
      have HL := Lib.hid hlt
      have HS := Lib.hid hsym
      clear hnext hlt hsym hT hR
      have e1 : (symCells (pre s m)).length = m * 2 := by rw [symCells_length, pre_length]
      generalize (Utf8.decode s (posN s m)).1 = r at hD hrune HS
      generalize (Utf8.decode s (posN s m)).2 = d at hD hfit HN
      go_wp2_with fail
      refine hD.mono ?_
      rintro e w2 ⟨rfl, hb2⟩
      have HR2 := Lib.hid (HR.out.move hb2)
      clear hD hb2 HR
      have c1 : w2.cell? ⟨g, 0, none⟩ = some v := by rw [HR2.out.blk.cell]; rfl
      have hO1 := HR2.out.own
      have hlw : w.heap.size ≤ w2.heap.size := HR2.out.below.size
      go_wp2_with (at_builtin; refine wpList_app _ rfl _ _ 30 rfl w.heap.size 59 elS v _ _ rfl (hO1.alloc _) 0 (w2.heap.size + 1) _ 1 1 [.int .i32 (r : Int), .int .i64 (posN s m : Int)] rfl (fun h => by cases h) rfl (Rd.new w2 _ _ _ (Nat.zero_le _) (by omega)) (by simp [Value.oneCell']) (by unfold maxLen; omega) (by omega) (by simp; omega) ?_; intro v' W2 hO2 hg2 hb2 hn2; obtain ⟨A', c', rfl, _, _⟩ := own_form hO2; obtain ⟨q1, q2, q3⟩ := HR2.out.put hO2 _ hg2; clear hg2 hb2 hn2 hO2 hO1)
      go_roundg (n + 1 - (m + 1))
      case measure => have := HG.out; omega
      case rel =>
        refine ⟨m + 1, _, rfl, ?_, Lib.hid ⟨HL.out, q3.out.1, by rw [HS.out]; exact q3.out.2.1, q3.out.2.2.1, q3.out.2.2.2, HR2.out.hg⟩⟩
        rw [← HN.out]; go_num
    · have hend : posN s m = n := by omega
      have hcnt : Cnt s m := ⟨by omega, HR.out.lt⟩
      have HC := Lib.hid hcnt
      have HE := Lib.hid hend
      clear hcnt hend hT hR
      have c1 : wr.cell? ⟨g, 0, none⟩ = some v := by rw [HR.out.blk.cell]; rfl
      have hO1 := HR.out.own
      have e1 : (symCells (pre s m)).length = m * 2 := by rw [symCells_length, pre_length]
      have hlw : w.heap.size ≤ wr.heap.size := HR.out.below.size
      go_wp2_with (at_builtin; refine wpList_app _ rfl _ _ 30 rfl w.heap.size 59 elS v _ _ rfl (hO1.alloc _) 0 (wr.heap.size + 1) _ 1 1 [.int .i32 (-1), .int .i64 (n : Int)] rfl (fun h => by cases h) rfl (Rd.new wr _ _ _ (Nat.zero_le _) (by omega)) (by simp [Value.oneCell']) (by unfold maxLen; omega) (by omega) (by simp; omega) ?_; intro v' W2 hO2 hg2 hb2 hn2; obtain ⟨A', c', rfl, _, _⟩ := own_form hO2; obtain ⟨q1, q2, q3⟩ := HR.out.put hO2 _ hg2; clear hg2 hb2 hn2 hO2 hO1)
      go_ret2
      have hfl : (full (pre s m) s.size).length = m + 1 := by rw [full_length, pre_length]
      have hsc : symCells (full (pre s m) s.size) = symCells (pre s m) ++ [.int .i32 (-1), .int .i64 (n : Int)] := by rw [full, symCells_append, hn]; rfl
      exact ⟨g, m, HC.out, rfl, InAt.of_blk (base := w.heap.size) (b2 := w.heap.size) q3.out.1 HR.out.hg (Nat.le_refl _) (by rw [hfl, hsc]; exact q3.out.2.1) (Nat.le_refl _) (by rw [blen]; exact q3.out.2.2.1) (Nat.le_refl _), q3.out.2.2.2⟩

theorem new_ok {w : World} {lo U : Nat} {A : Option Addr} {n c : Nat} {s : ByteArray} (k : Int) (hk : 1 ≤ k ∧ k ≤ 3) (hT : Lib.Utf8Tabs 0 1 w) (hR : Rd w lo U A (byteVals s.data.toList)) (hU : U ≤ w.heap.size) (hn : s.size = n) (hnc : n ≤ c) (hcm : c ≤ maxLen) (hA : A = none → n = 0) (hb : n ≤ 65536) :
    Calls Tryd.prog 25 #[.int .i64 k, .slice A n c] w (NewPost w k s) := by
  by_cases h3 : k = 3
  · subst h3; exact new_reader hT hR hU hn hnc hcm hA hb
  · exact new_text k (by omega) hR hU hn hA hb
end Go.Proofs.YtkiljhlbeffnfaaDoor
