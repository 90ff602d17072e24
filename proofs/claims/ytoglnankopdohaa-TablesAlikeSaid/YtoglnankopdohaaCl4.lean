/- The references' set: a list of pairs made a list of ranges. -/
import Derived.Test.YtoglnankopdohaaCl1
import Derived.Test.YtoglnankopdohaaRefS
namespace Go.Proofs.Ytoglnankopdohaa
open Go.RowKit

structure SetRel (w wr : World) (l : List Rg) (k : Nat) (v : Value) : Prop where
  own : wr.ownsRow w.heap.size 28 2 v k (rgCells (l.take k))
  below : Below w.heap.size w wr

set_option maxRecDepth 20000 in
set_option maxHeartbeats 2000000 in
theorem set4_any {w : World} {A : Option Addr} {n c : Nat} {l : List Rg} (hA : RgIn w A n c l) (hn : n ≤ 1000) :
    Calls Try.prog 74 #[.slice A n c] w fun e w' => ∃ B d, e = .returned (.slice B n d) ∧ w'.ownsRow w.heap.size 28 2 (.slice B n d) n (rgCells l) ∧ Below w.heap.size w w' := by
  have h1 := hA.max
  have h2 := hA.le
  unfold maxLen at h1
  have hnc : (n : Int) ≤ 9223372036854775807 := by omega
  have HA := Lib.hid hA
  clear hA h1 h2
  go_enter Try.func74, Try.ntmps74
  go_wp2_with fail
  go_loopg [3, 4] (n + 1) (fun q v i wr => ∃ (j : Nat), q = n + 1 - j ∧ j ≤ n ∧ i = .int .i64 (j : Int) ∧ Hid (SetRel w wr l j v))
  case atStart => exact ⟨0, rfl, by omega, rfl, Lib.hid ⟨World.ownsRow_nil _ _ _ _, Below.refl _ _⟩⟩
  case round =>
    obtain ⟨j, hgk, hj, rfl, HR⟩ := hrel
    have HG := Lib.hid hgk
    clear hgk
    have hown := HR.out.own
    have hbel := HR.out.below
    obtain ⟨rB, rd, rfl, hrd1, hrd2⟩ := own_form hown
    by_cases hlt : j < n
    · obtain ⟨b, o, p, rfl, hb, hp, hc, hf⟩ := HA.out.at hlt
      obtain ⟨c1, c2⟩ := hc wr (.of_below hbel (Nat.le_refl _))
      have hi : (j : Int) < (n : Int) := by omega
      have hbs : b < wr.heap.size := Nat.lt_of_lt_of_le hb hbel.size
      have hab := own_above' hown
      have hsz := hbel.size
      have hnb : some b ≠ (Value.slice rB j rd).ownBlock := fun h => by have := hab b h.symm; omega
      have HP := Lib.hid hp
      have HLT := Lib.hid hlt
      clear hc hp hlt HA HR
      go_wp2_with fail
      go_region_held3 (fun w' => w'.cell? ⟨b, o + j * 2, none⟩ = some (.int .i32 p.1) ∧ w'.cell? ⟨b, o + j * 2 + 1, none⟩ = some (.int .i32 p.2))
        (first
          | exact ⟨c1, c2⟩
          | exact ⟨(World.cell?_alloc_past _ _ _ hbs).trans c1, (World.cell?_alloc_past _ _ _ hbs).trans c2⟩
          | exact ⟨(hg.cell (a := ⟨b, _, none⟩) ((World.cell?_alloc_past _ _ _ hbs).trans c1) hnb), (hg.cell (a := ⟨b, _, none⟩) ((World.cell?_alloc_past _ _ _ hbs).trans c2) hnb)⟩
          | go_keep)
        (first | (refine step_app _ (by rfl) _ _ 23 (by rfl) w.heap.size 28 elG _ _ _ (by rfl) (hown.alloc _) 0 (wr.heap.size + 1) _ 1 1 [.int .i32 p.1, .int .i32 p.2] (by rfl) (fun h => by cases h) rfl (Rd.new wr _ _ _ (Nat.zero_le _) (by omega)) (by simp [Value.oneCell']) (by unfold maxLen; omega) (by omega) (by simp; omega) ?_; intro v w1 hown1 hg hb2 hn2; obtain ⟨B1, d1, rfl, hd1, hd1'⟩ := own_form hown1))
      have hB3 : Below w.heap.size w w1 := (hbel.drew.alloc hsz _).grown hg (by simp; omega) hab
      have HO := Lib.hid (And.intro hown1 hB3)
      clear hown1 hB3 hg hown hbel
      go_wp2_with fail
      go_roundg (n + 1 - (j + 1))
      case measure => have := HG.out; have := HLT.out; omega
      case rel =>
        refine ⟨j + 1, rfl, by have := HLT.out; omega, by go_num, Lib.hid ⟨?_, HO.out.2⟩⟩
        rw [List.take_add_one, HP.out, Option.toList_some, rgCells_append]
        exact HO.out.1
    · have hjn : j = n := by omega
      subst hjn
      have hi : ¬ (j : Int) < (j : Int) := by omega
      have hre : l.take j = l := by rw [List.take_of_length_le (by have := HA.out.len; omega)]
      rw [hre] at hown
      have HO := Lib.hid (And.intro hown hbel)
      clear hre hlt hown hbel HR HA
      go_wp2_with fail
      go_ret
      exact ⟨_, _, rfl, HO.out.1, HO.out.2⟩

set_option maxRecDepth 20000 in
set_option maxHeartbeats 2000000 in
theorem set3_any {w : World} {A : Option Addr} {n c : Nat} {l : List Rg} (hA : RgIn w A n c l) (hn : n ≤ 1000) :
    Calls Try.prog 58 #[.slice A n c] w fun e w' => ∃ B d, e = .returned (.slice B n d) ∧ w'.ownsRow w.heap.size 28 2 (.slice B n d) n (rgCells l) ∧ Below w.heap.size w w' := by
  have h1 := hA.max
  have h2 := hA.le
  unfold maxLen at h1
  have hnc : (n : Int) ≤ 9223372036854775807 := by omega
  have HA := Lib.hid hA
  clear hA h1 h2
  go_enter Try.func58, Try.ntmps58
  go_wp2_with fail
  go_loopg [3, 4] (n + 1) (fun q v i wr => ∃ (j : Nat), q = n + 1 - j ∧ j ≤ n ∧ i = .int .i64 (j : Int) ∧ Hid (SetRel w wr l j v))
  case atStart => exact ⟨0, rfl, by omega, rfl, Lib.hid ⟨World.ownsRow_nil _ _ _ _, Below.refl _ _⟩⟩
  case round =>
    obtain ⟨j, hgk, hj, rfl, HR⟩ := hrel
    have HG := Lib.hid hgk
    clear hgk
    have hown := HR.out.own
    have hbel := HR.out.below
    obtain ⟨rB, rd, rfl, hrd1, hrd2⟩ := own_form hown
    by_cases hlt : j < n
    · obtain ⟨b, o, p, rfl, hb, hp, hc, hf⟩ := HA.out.at hlt
      obtain ⟨c1, c2⟩ := hc wr (.of_below hbel (Nat.le_refl _))
      have hi : (j : Int) < (n : Int) := by omega
      have hbs : b < wr.heap.size := Nat.lt_of_lt_of_le hb hbel.size
      have hab := own_above' hown
      have hsz := hbel.size
      have hnb : some b ≠ (Value.slice rB j rd).ownBlock := fun h => by have := hab b h.symm; omega
      have HP := Lib.hid hp
      have HLT := Lib.hid hlt
      clear hc hp hlt HA HR
      go_wp2_with fail
      go_region_held3 (fun w' => w'.cell? ⟨b, o + j * 2, none⟩ = some (.int .i32 p.1) ∧ w'.cell? ⟨b, o + j * 2 + 1, none⟩ = some (.int .i32 p.2))
        (first
          | exact ⟨c1, c2⟩
          | exact ⟨(World.cell?_alloc_past _ _ _ hbs).trans c1, (World.cell?_alloc_past _ _ _ hbs).trans c2⟩
          | exact ⟨(hg.cell (a := ⟨b, _, none⟩) ((World.cell?_alloc_past _ _ _ hbs).trans c1) hnb), (hg.cell (a := ⟨b, _, none⟩) ((World.cell?_alloc_past _ _ _ hbs).trans c2) hnb)⟩
          | go_keep)
        (first | (refine step_app _ (by rfl) _ _ 23 (by rfl) w.heap.size 28 elG _ _ _ (by rfl) (hown.alloc _) 0 (wr.heap.size + 1) _ 1 1 [.int .i32 p.1, .int .i32 p.2] (by rfl) (fun h => by cases h) rfl (Rd.new wr _ _ _ (Nat.zero_le _) (by omega)) (by simp [Value.oneCell']) (by unfold maxLen; omega) (by omega) (by simp; omega) ?_; intro v w1 hown1 hg hb2 hn2; obtain ⟨B1, d1, rfl, hd1, hd1'⟩ := own_form hown1))
      have hB3 : Below w.heap.size w w1 := (hbel.drew.alloc hsz _).grown hg (by simp; omega) hab
      have HO := Lib.hid (And.intro hown1 hB3)
      clear hown1 hB3 hg hown hbel
      go_wp2_with fail
      go_roundg (n + 1 - (j + 1))
      case measure => have := HG.out; have := HLT.out; omega
      case rel =>
        refine ⟨j + 1, rfl, by have := HLT.out; omega, by go_num, Lib.hid ⟨?_, HO.out.2⟩⟩
        rw [List.take_add_one, HP.out, Option.toList_some, rgCells_append]
        exact HO.out.1
    · have hjn : j = n := by omega
      subst hjn
      have hi : ¬ (j : Int) < (j : Int) := by omega
      have hre : l.take j = l := by rw [List.take_of_length_le (by have := HA.out.len; omega)]
      rw [hre] at hown
      have HO := Lib.hid (And.intro hown hbel)
      clear hre hlt hown hbel HR HA
      go_wp2_with fail
      go_ret
      exact ⟨_, _, rfl, HO.out.1, HO.out.2⟩

end Go.Proofs.Ytoglnankopdohaa
