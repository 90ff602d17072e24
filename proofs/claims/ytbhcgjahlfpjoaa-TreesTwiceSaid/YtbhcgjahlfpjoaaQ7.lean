/- A tree with the fields alone that its Op has: the walk. -/
import Derived.Test.YtbhcgjahlfpjoaaQ2
namespace Go.Proofs.Ytbhcgjahlfpjoaa
open Go.RowKit

/-- A tree with the fields alone that its Op has. -/
structure BareR (t : Tr) (sn : Nat) (b : Tr) (x : TA) : Prop where
  op : b.op = t.op
  rune : b.rune = if t.op = 3 then t.rune else 0
  sn : x.sn = if t.op = 4 then sn else 0
  at_ : b.at_ = if t.op = 5 then t.at_ else 0
  cap : b.cap = if t.op = 6 then t.cap else 0
  name : b.name = if t.op = 6 then t.name else ⟨#[]⟩
  mn : b.mn = if t.op = 10 then t.mn else 0
  mx : b.mx = if t.op = 10 then t.mx else 0
  lzy : b.lzy = if t.op = 7 ∨ t.op = 8 ∨ t.op = 9 ∨ t.op = 10 then t.lzy else false
/-- What bare tells. -/
def BareB (t : Tr) (sn : Nat) (w : World) (e : Ending) (w' : World) : Prop := ∃ b x, BareR t sn b x ∧ e = .returned (.agg #[.int .i64 b.op, .slice x.kA x.kn x.kc, .int .i32 b.rune, .slice x.sA x.sn x.sc, .int .i64 b.at_, .int .i64 b.cap, .string b.name, .int .i64 b.mn, .int .i64 b.mx, .bool b.lzy]) ∧ Below w.heap.size w w'
set_option maxRecDepth 20000 in
set_option maxHeartbeats 2000000 in
theorem bare_3 {w : World} {t : Tr} {kA : Option Addr} {kn kc : Nat} {sA : Option Addr} {sn sc : Nat} (hop : t.op = 3) : Calls Try.prog 82 #[.agg #[.int .i64 t.op, .slice kA kn kc, .int .i32 t.rune, .slice sA sn sc, .int .i64 t.at_, .int .i64 t.cap, .string t.name, .int .i64 t.mn, .int .i64 t.mx, .bool t.lzy]] w (BareB t sn w) := by
  have hB := TBox.newV w t kA kn kc sA sn sc
  have h10 := hB.ten
  have k0 := h10.c0
  have k1 := h10.c1
  have k2 := h10.c2
  have k3 := h10.c3
  have k4 := h10.c4
  have k5 := h10.c5
  have k6 := h10.c6
  have k7 := h10.c7
  have k8 := h10.c8
  have k9 := h10.c9
  dsimp only at k1 k3
  clear hB h10
  have d3 : (t.op == 3) = true := by rw [hop]; rfl
  have d4 : (t.op == 4) = false := by rw [hop]; rfl
  have d5 : (t.op == 5) = false := by rw [hop]; rfl
  have d6 : (t.op == 6) = false := by rw [hop]; rfl
  have d10 : (t.op == 10) = false := by rw [hop]; rfl
  have d7 : (t.op == 7) = false := by rw [hop]; rfl
  have d8 : (t.op == 8) = false := by rw [hop]; rfl
  have d9 : (t.op == 9) = false := by rw [hop]; rfl
  have hR : BareR t sn ⟨t.op, [], t.rune, [], 0, 0, ⟨#[]⟩, 0, 0, false⟩ ⟨none, 0, 0, none, 0, 0⟩ := by
    constructor <;> simp [hop]
  have HR := Lib.hid hR
  clear hR hop
  go_enter Try.func82, Try.ntmps82
  go_wp2_with fail
  all_goals exact bodyPost_ret (v := .agg #[.int .i64 t.op, .slice none 0 0, .int .i32 t.rune, .slice none 0 0, .int .i64 0, .int .i64 0, .string ⟨#[]⟩, .int .i64 0, .int .i64 0, .bool false]) (by simp [results, Try.results82, go_sem]) rfl ⟨_, _, HR.out, rfl, by first | exact (((Below.refl _ _).alloc (Nat.le_refl _) _).alloc (by first | (simp; done) | (simp; omega)) _).alloc (by first | (simp; done) | (simp; omega)) _ | exact ((((Below.refl _ _).alloc (Nat.le_refl _) _).alloc (by first | (simp; done) | (simp; omega)) _).alloc (by first | (simp; done) | (simp; omega)) _).drew⟩
set_option maxRecDepth 20000 in
set_option maxHeartbeats 2000000 in
theorem bare_4 {w : World} {t : Tr} {kA : Option Addr} {kn kc : Nat} {sA : Option Addr} {sn sc : Nat} (hop : t.op = 4) : Calls Try.prog 82 #[.agg #[.int .i64 t.op, .slice kA kn kc, .int .i32 t.rune, .slice sA sn sc, .int .i64 t.at_, .int .i64 t.cap, .string t.name, .int .i64 t.mn, .int .i64 t.mx, .bool t.lzy]] w (BareB t sn w) := by
  have hB := TBox.newV w t kA kn kc sA sn sc
  have h10 := hB.ten
  have k0 := h10.c0
  have k1 := h10.c1
  have k2 := h10.c2
  have k3 := h10.c3
  have k4 := h10.c4
  have k5 := h10.c5
  have k6 := h10.c6
  have k7 := h10.c7
  have k8 := h10.c8
  have k9 := h10.c9
  dsimp only at k1 k3
  clear hB h10
  have d3 : (t.op == 3) = false := by rw [hop]; rfl
  have d4 : (t.op == 4) = true := by rw [hop]; rfl
  have d5 : (t.op == 5) = false := by rw [hop]; rfl
  have d6 : (t.op == 6) = false := by rw [hop]; rfl
  have d10 : (t.op == 10) = false := by rw [hop]; rfl
  have d7 : (t.op == 7) = false := by rw [hop]; rfl
  have d8 : (t.op == 8) = false := by rw [hop]; rfl
  have d9 : (t.op == 9) = false := by rw [hop]; rfl
  have hR : BareR t sn ⟨t.op, [], 0, t.set, 0, 0, ⟨#[]⟩, 0, 0, false⟩ ⟨none, 0, 0, sA, sn, sc⟩ := by
    constructor <;> simp [hop]
  have HR := Lib.hid hR
  clear hR hop
  go_enter Try.func82, Try.ntmps82
  go_wp2_with fail
  all_goals exact bodyPost_ret (v := .agg #[.int .i64 t.op, .slice none 0 0, .int .i32 0, .slice sA sn sc, .int .i64 0, .int .i64 0, .string ⟨#[]⟩, .int .i64 0, .int .i64 0, .bool false]) (by simp [results, Try.results82, go_sem]) rfl ⟨_, _, HR.out, rfl, by first | exact (((Below.refl _ _).alloc (Nat.le_refl _) _).alloc (by first | (simp; done) | (simp; omega)) _).alloc (by first | (simp; done) | (simp; omega)) _ | exact ((((Below.refl _ _).alloc (Nat.le_refl _) _).alloc (by first | (simp; done) | (simp; omega)) _).alloc (by first | (simp; done) | (simp; omega)) _).drew⟩
set_option maxRecDepth 20000 in
set_option maxHeartbeats 2000000 in
theorem bare_5 {w : World} {t : Tr} {kA : Option Addr} {kn kc : Nat} {sA : Option Addr} {sn sc : Nat} (hop : t.op = 5) : Calls Try.prog 82 #[.agg #[.int .i64 t.op, .slice kA kn kc, .int .i32 t.rune, .slice sA sn sc, .int .i64 t.at_, .int .i64 t.cap, .string t.name, .int .i64 t.mn, .int .i64 t.mx, .bool t.lzy]] w (BareB t sn w) := by
  have hB := TBox.newV w t kA kn kc sA sn sc
  have h10 := hB.ten
  have k0 := h10.c0
  have k1 := h10.c1
  have k2 := h10.c2
  have k3 := h10.c3
  have k4 := h10.c4
  have k5 := h10.c5
  have k6 := h10.c6
  have k7 := h10.c7
  have k8 := h10.c8
  have k9 := h10.c9
  dsimp only at k1 k3
  clear hB h10
  have d3 : (t.op == 3) = false := by rw [hop]; rfl
  have d4 : (t.op == 4) = false := by rw [hop]; rfl
  have d5 : (t.op == 5) = true := by rw [hop]; rfl
  have d6 : (t.op == 6) = false := by rw [hop]; rfl
  have d10 : (t.op == 10) = false := by rw [hop]; rfl
  have d7 : (t.op == 7) = false := by rw [hop]; rfl
  have d8 : (t.op == 8) = false := by rw [hop]; rfl
  have d9 : (t.op == 9) = false := by rw [hop]; rfl
  have hR : BareR t sn ⟨t.op, [], 0, [], t.at_, 0, ⟨#[]⟩, 0, 0, false⟩ ⟨none, 0, 0, none, 0, 0⟩ := by
    constructor <;> simp [hop]
  have HR := Lib.hid hR
  clear hR hop
  go_enter Try.func82, Try.ntmps82
  go_wp2_with fail
  all_goals exact bodyPost_ret (v := .agg #[.int .i64 t.op, .slice none 0 0, .int .i32 0, .slice none 0 0, .int .i64 t.at_, .int .i64 0, .string ⟨#[]⟩, .int .i64 0, .int .i64 0, .bool false]) (by simp [results, Try.results82, go_sem]) rfl ⟨_, _, HR.out, rfl, by first | exact (((Below.refl _ _).alloc (Nat.le_refl _) _).alloc (by first | (simp; done) | (simp; omega)) _).alloc (by first | (simp; done) | (simp; omega)) _ | exact ((((Below.refl _ _).alloc (Nat.le_refl _) _).alloc (by first | (simp; done) | (simp; omega)) _).alloc (by first | (simp; done) | (simp; omega)) _).drew⟩
set_option maxRecDepth 20000 in
set_option maxHeartbeats 2000000 in
theorem bare_6 {w : World} {t : Tr} {kA : Option Addr} {kn kc : Nat} {sA : Option Addr} {sn sc : Nat} (hop : t.op = 6) : Calls Try.prog 82 #[.agg #[.int .i64 t.op, .slice kA kn kc, .int .i32 t.rune, .slice sA sn sc, .int .i64 t.at_, .int .i64 t.cap, .string t.name, .int .i64 t.mn, .int .i64 t.mx, .bool t.lzy]] w (BareB t sn w) := by
  have hB := TBox.newV w t kA kn kc sA sn sc
  have h10 := hB.ten
  have k0 := h10.c0
  have k1 := h10.c1
  have k2 := h10.c2
  have k3 := h10.c3
  have k4 := h10.c4
  have k5 := h10.c5
  have k6 := h10.c6
  have k7 := h10.c7
  have k8 := h10.c8
  have k9 := h10.c9
  dsimp only at k1 k3
  clear hB h10
  have d3 : (t.op == 3) = false := by rw [hop]; rfl
  have d4 : (t.op == 4) = false := by rw [hop]; rfl
  have d5 : (t.op == 5) = false := by rw [hop]; rfl
  have d6 : (t.op == 6) = true := by rw [hop]; rfl
  have d10 : (t.op == 10) = false := by rw [hop]; rfl
  have d7 : (t.op == 7) = false := by rw [hop]; rfl
  have d8 : (t.op == 8) = false := by rw [hop]; rfl
  have d9 : (t.op == 9) = false := by rw [hop]; rfl
  have hR : BareR t sn ⟨t.op, [], 0, [], 0, t.cap, t.name, 0, 0, false⟩ ⟨none, 0, 0, none, 0, 0⟩ := by
    constructor <;> simp [hop]
  have HR := Lib.hid hR
  clear hR hop
  go_enter Try.func82, Try.ntmps82
  go_wp2_with fail
  go_region
  all_goals (go_wp2_with fail)
  all_goals exact bodyPost_ret (v := .agg #[.int .i64 t.op, .slice none 0 0, .int .i32 0, .slice none 0 0, .int .i64 0, .int .i64 t.cap, .string t.name, .int .i64 0, .int .i64 0, .bool false]) (by simp [results, Try.results82, go_sem]) rfl ⟨_, _, HR.out, rfl, by first | exact (((Below.refl _ _).alloc (Nat.le_refl _) _).alloc (by first | (simp; done) | (simp; omega)) _).alloc (by first | (simp; done) | (simp; omega)) _ | exact ((((Below.refl _ _).alloc (Nat.le_refl _) _).alloc (by first | (simp; done) | (simp; omega)) _).alloc (by first | (simp; done) | (simp; omega)) _).drew⟩
set_option maxRecDepth 20000 in
set_option maxHeartbeats 2000000 in
theorem bare_10 {w : World} {t : Tr} {kA : Option Addr} {kn kc : Nat} {sA : Option Addr} {sn sc : Nat} (hop : t.op = 10) : Calls Try.prog 82 #[.agg #[.int .i64 t.op, .slice kA kn kc, .int .i32 t.rune, .slice sA sn sc, .int .i64 t.at_, .int .i64 t.cap, .string t.name, .int .i64 t.mn, .int .i64 t.mx, .bool t.lzy]] w (BareB t sn w) := by
  have hB := TBox.newV w t kA kn kc sA sn sc
  have h10 := hB.ten
  have k0 := h10.c0
  have k1 := h10.c1
  have k2 := h10.c2
  have k3 := h10.c3
  have k4 := h10.c4
  have k5 := h10.c5
  have k6 := h10.c6
  have k7 := h10.c7
  have k8 := h10.c8
  have k9 := h10.c9
  dsimp only at k1 k3
  clear hB h10
  have d3 : (t.op == 3) = false := by rw [hop]; rfl
  have d4 : (t.op == 4) = false := by rw [hop]; rfl
  have d5 : (t.op == 5) = false := by rw [hop]; rfl
  have d6 : (t.op == 6) = false := by rw [hop]; rfl
  have d10 : (t.op == 10) = true := by rw [hop]; rfl
  have d7 : (t.op == 7) = false := by rw [hop]; rfl
  have d8 : (t.op == 8) = false := by rw [hop]; rfl
  have d9 : (t.op == 9) = false := by rw [hop]; rfl
  have hR : BareR t sn ⟨t.op, [], 0, [], 0, 0, ⟨#[]⟩, t.mn, t.mx, t.lzy⟩ ⟨none, 0, 0, none, 0, 0⟩ := by
    constructor <;> simp [hop]
  have HR := Lib.hid hR
  clear hR hop
  go_enter Try.func82, Try.ntmps82
  go_wp2_with fail
  go_region
  all_goals (go_wp2_with fail)
  all_goals exact bodyPost_ret (v := .agg #[.int .i64 t.op, .slice none 0 0, .int .i32 0, .slice none 0 0, .int .i64 0, .int .i64 0, .string ⟨#[]⟩, .int .i64 t.mn, .int .i64 t.mx, .bool t.lzy]) (by simp [results, Try.results82, go_sem]) rfl ⟨_, _, HR.out, rfl, by first | exact (((Below.refl _ _).alloc (Nat.le_refl _) _).alloc (by first | (simp; done) | (simp; omega)) _).alloc (by first | (simp; done) | (simp; omega)) _ | exact ((((Below.refl _ _).alloc (Nat.le_refl _) _).alloc (by first | (simp; done) | (simp; omega)) _).alloc (by first | (simp; done) | (simp; omega)) _).drew⟩
set_option maxRecDepth 20000 in
set_option maxHeartbeats 2000000 in
theorem bare_7 {w : World} {t : Tr} {kA : Option Addr} {kn kc : Nat} {sA : Option Addr} {sn sc : Nat} (hop : t.op = 7) : Calls Try.prog 82 #[.agg #[.int .i64 t.op, .slice kA kn kc, .int .i32 t.rune, .slice sA sn sc, .int .i64 t.at_, .int .i64 t.cap, .string t.name, .int .i64 t.mn, .int .i64 t.mx, .bool t.lzy]] w (BareB t sn w) := by
  have hB := TBox.newV w t kA kn kc sA sn sc
  have h10 := hB.ten
  have k0 := h10.c0
  have k1 := h10.c1
  have k2 := h10.c2
  have k3 := h10.c3
  have k4 := h10.c4
  have k5 := h10.c5
  have k6 := h10.c6
  have k7 := h10.c7
  have k8 := h10.c8
  have k9 := h10.c9
  dsimp only at k1 k3
  clear hB h10
  have d3 : (t.op == 3) = false := by rw [hop]; rfl
  have d4 : (t.op == 4) = false := by rw [hop]; rfl
  have d5 : (t.op == 5) = false := by rw [hop]; rfl
  have d6 : (t.op == 6) = false := by rw [hop]; rfl
  have d10 : (t.op == 10) = false := by rw [hop]; rfl
  have d7 : (t.op == 7) = true := by rw [hop]; rfl
  have d8 : (t.op == 8) = false := by rw [hop]; rfl
  have d9 : (t.op == 9) = false := by rw [hop]; rfl
  have hR : BareR t sn ⟨t.op, [], 0, [], 0, 0, ⟨#[]⟩, 0, 0, t.lzy⟩ ⟨none, 0, 0, none, 0, 0⟩ := by
    constructor <;> simp [hop]
  have HR := Lib.hid hR
  clear hR hop
  go_enter Try.func82, Try.ntmps82
  go_wp2_with fail
  all_goals exact bodyPost_ret (v := .agg #[.int .i64 t.op, .slice none 0 0, .int .i32 0, .slice none 0 0, .int .i64 0, .int .i64 0, .string ⟨#[]⟩, .int .i64 0, .int .i64 0, .bool t.lzy]) (by simp [results, Try.results82, go_sem]) rfl ⟨_, _, HR.out, rfl, by first | exact (((Below.refl _ _).alloc (Nat.le_refl _) _).alloc (by first | (simp; done) | (simp; omega)) _).alloc (by first | (simp; done) | (simp; omega)) _ | exact ((((Below.refl _ _).alloc (Nat.le_refl _) _).alloc (by first | (simp; done) | (simp; omega)) _).alloc (by first | (simp; done) | (simp; omega)) _).drew⟩
set_option maxRecDepth 20000 in
set_option maxHeartbeats 2000000 in
theorem bare_8 {w : World} {t : Tr} {kA : Option Addr} {kn kc : Nat} {sA : Option Addr} {sn sc : Nat} (hop : t.op = 8) : Calls Try.prog 82 #[.agg #[.int .i64 t.op, .slice kA kn kc, .int .i32 t.rune, .slice sA sn sc, .int .i64 t.at_, .int .i64 t.cap, .string t.name, .int .i64 t.mn, .int .i64 t.mx, .bool t.lzy]] w (BareB t sn w) := by
  have hB := TBox.newV w t kA kn kc sA sn sc
  have h10 := hB.ten
  have k0 := h10.c0
  have k1 := h10.c1
  have k2 := h10.c2
  have k3 := h10.c3
  have k4 := h10.c4
  have k5 := h10.c5
  have k6 := h10.c6
  have k7 := h10.c7
  have k8 := h10.c8
  have k9 := h10.c9
  dsimp only at k1 k3
  clear hB h10
  have d3 : (t.op == 3) = false := by rw [hop]; rfl
  have d4 : (t.op == 4) = false := by rw [hop]; rfl
  have d5 : (t.op == 5) = false := by rw [hop]; rfl
  have d6 : (t.op == 6) = false := by rw [hop]; rfl
  have d10 : (t.op == 10) = false := by rw [hop]; rfl
  have d7 : (t.op == 7) = false := by rw [hop]; rfl
  have d8 : (t.op == 8) = true := by rw [hop]; rfl
  have d9 : (t.op == 9) = false := by rw [hop]; rfl
  have hR : BareR t sn ⟨t.op, [], 0, [], 0, 0, ⟨#[]⟩, 0, 0, t.lzy⟩ ⟨none, 0, 0, none, 0, 0⟩ := by
    constructor <;> simp [hop]
  have HR := Lib.hid hR
  clear hR hop
  go_enter Try.func82, Try.ntmps82
  go_wp2_with fail
  all_goals exact bodyPost_ret (v := .agg #[.int .i64 t.op, .slice none 0 0, .int .i32 0, .slice none 0 0, .int .i64 0, .int .i64 0, .string ⟨#[]⟩, .int .i64 0, .int .i64 0, .bool t.lzy]) (by simp [results, Try.results82, go_sem]) rfl ⟨_, _, HR.out, rfl, by first | exact (((Below.refl _ _).alloc (Nat.le_refl _) _).alloc (by first | (simp; done) | (simp; omega)) _).alloc (by first | (simp; done) | (simp; omega)) _ | exact ((((Below.refl _ _).alloc (Nat.le_refl _) _).alloc (by first | (simp; done) | (simp; omega)) _).alloc (by first | (simp; done) | (simp; omega)) _).drew⟩
set_option maxRecDepth 20000 in
set_option maxHeartbeats 2000000 in
theorem bare_9 {w : World} {t : Tr} {kA : Option Addr} {kn kc : Nat} {sA : Option Addr} {sn sc : Nat} (hop : t.op = 9) : Calls Try.prog 82 #[.agg #[.int .i64 t.op, .slice kA kn kc, .int .i32 t.rune, .slice sA sn sc, .int .i64 t.at_, .int .i64 t.cap, .string t.name, .int .i64 t.mn, .int .i64 t.mx, .bool t.lzy]] w (BareB t sn w) := by
  have hB := TBox.newV w t kA kn kc sA sn sc
  have h10 := hB.ten
  have k0 := h10.c0
  have k1 := h10.c1
  have k2 := h10.c2
  have k3 := h10.c3
  have k4 := h10.c4
  have k5 := h10.c5
  have k6 := h10.c6
  have k7 := h10.c7
  have k8 := h10.c8
  have k9 := h10.c9
  dsimp only at k1 k3
  clear hB h10
  have d3 : (t.op == 3) = false := by rw [hop]; rfl
  have d4 : (t.op == 4) = false := by rw [hop]; rfl
  have d5 : (t.op == 5) = false := by rw [hop]; rfl
  have d6 : (t.op == 6) = false := by rw [hop]; rfl
  have d10 : (t.op == 10) = false := by rw [hop]; rfl
  have d7 : (t.op == 7) = false := by rw [hop]; rfl
  have d8 : (t.op == 8) = false := by rw [hop]; rfl
  have d9 : (t.op == 9) = true := by rw [hop]; rfl
  have hR : BareR t sn ⟨t.op, [], 0, [], 0, 0, ⟨#[]⟩, 0, 0, t.lzy⟩ ⟨none, 0, 0, none, 0, 0⟩ := by
    constructor <;> simp [hop]
  have HR := Lib.hid hR
  clear hR hop
  go_enter Try.func82, Try.ntmps82
  go_wp2_with fail
  all_goals exact bodyPost_ret (v := .agg #[.int .i64 t.op, .slice none 0 0, .int .i32 0, .slice none 0 0, .int .i64 0, .int .i64 0, .string ⟨#[]⟩, .int .i64 0, .int .i64 0, .bool t.lzy]) (by simp [results, Try.results82, go_sem]) rfl ⟨_, _, HR.out, rfl, by first | exact (((Below.refl _ _).alloc (Nat.le_refl _) _).alloc (by first | (simp; done) | (simp; omega)) _).alloc (by first | (simp; done) | (simp; omega)) _ | exact ((((Below.refl _ _).alloc (Nat.le_refl _) _).alloc (by first | (simp; done) | (simp; omega)) _).alloc (by first | (simp; done) | (simp; omega)) _).drew⟩
set_option maxRecDepth 20000 in
set_option maxHeartbeats 2000000 in
theorem bare_no {w : World} {t : Tr} {kA : Option Addr} {kn kc : Nat} {sA : Option Addr} {sn sc : Nat} (n3 : ¬ t.op = 3) (n4 : ¬ t.op = 4) (n5 : ¬ t.op = 5) (n6 : ¬ t.op = 6) (n10 : ¬ t.op = 10) (n7 : ¬ t.op = 7) (n8 : ¬ t.op = 8) (n9 : ¬ t.op = 9) : Calls Try.prog 82 #[.agg #[.int .i64 t.op, .slice kA kn kc, .int .i32 t.rune, .slice sA sn sc, .int .i64 t.at_, .int .i64 t.cap, .string t.name, .int .i64 t.mn, .int .i64 t.mx, .bool t.lzy]] w (BareB t sn w) := by
  have hB := TBox.newV w t kA kn kc sA sn sc
  have h10 := hB.ten
  have k0 := h10.c0
  have k1 := h10.c1
  have k2 := h10.c2
  have k3 := h10.c3
  have k4 := h10.c4
  have k5 := h10.c5
  have k6 := h10.c6
  have k7 := h10.c7
  have k8 := h10.c8
  have k9 := h10.c9
  dsimp only at k1 k3
  clear hB h10
  have d3 : (t.op == 3) = false := beq_eq_false_iff_ne.2 n3
  have d4 : (t.op == 4) = false := beq_eq_false_iff_ne.2 n4
  have d5 : (t.op == 5) = false := beq_eq_false_iff_ne.2 n5
  have d6 : (t.op == 6) = false := beq_eq_false_iff_ne.2 n6
  have d10 : (t.op == 10) = false := beq_eq_false_iff_ne.2 n10
  have d7 : (t.op == 7) = false := beq_eq_false_iff_ne.2 n7
  have d8 : (t.op == 8) = false := beq_eq_false_iff_ne.2 n8
  have d9 : (t.op == 9) = false := beq_eq_false_iff_ne.2 n9
  have hR : BareR t sn ⟨t.op, [], 0, [], 0, 0, ⟨#[]⟩, 0, 0, false⟩ ⟨none, 0, 0, none, 0, 0⟩ := by
    constructor <;> simp [n3, n4, n5, n6, n10, n7, n8, n9]
  have HR := Lib.hid hR
  clear hR n3 n4 n5 n6 n10 n7 n8 n9
  go_enter Try.func82, Try.ntmps82
  go_wp2_with fail
  all_goals exact bodyPost_ret (v := .agg #[.int .i64 t.op, .slice none 0 0, .int .i32 0, .slice none 0 0, .int .i64 0, .int .i64 0, .string ⟨#[]⟩, .int .i64 0, .int .i64 0, .bool false]) (by simp [results, Try.results82, go_sem]) rfl ⟨_, _, HR.out, rfl, by first | exact (((Below.refl _ _).alloc (Nat.le_refl _) _).alloc (by first | (simp; done) | (simp; omega)) _).alloc (by first | (simp; done) | (simp; omega)) _ | exact ((((Below.refl _ _).alloc (Nat.le_refl _) _).alloc (by first | (simp; done) | (simp; omega)) _).alloc (by first | (simp; done) | (simp; omega)) _).drew⟩
theorem bare_any {w : World} {t : Tr} {kA : Option Addr} {kn kc : Nat} {sA : Option Addr} {sn sc : Nat} : Calls Try.prog 82 #[.agg #[.int .i64 t.op, .slice kA kn kc, .int .i32 t.rune, .slice sA sn sc, .int .i64 t.at_, .int .i64 t.cap, .string t.name, .int .i64 t.mn, .int .i64 t.mx, .bool t.lzy]] w (BareB t sn w) := by
  by_cases n3 : t.op = 3
  · exact bare_3 n3
  by_cases n4 : t.op = 4
  · exact bare_4 n4
  by_cases n5 : t.op = 5
  · exact bare_5 n5
  by_cases n6 : t.op = 6
  · exact bare_6 n6
  by_cases n10 : t.op = 10
  · exact bare_10 n10
  by_cases n7 : t.op = 7
  · exact bare_7 n7
  by_cases n8 : t.op = 8
  · exact bare_8 n8
  by_cases n9 : t.op = 9
  · exact bare_9 n9
  exact bare_no n3 n4 n5 n6 n10 n7 n8 n9
end Go.Proofs.Ytbhcgjahlfpjoaa
