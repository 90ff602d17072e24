/- Threads: reset and come on the machine. -/
import Derived.Test.YtbhcgjahlfpjoaaDoorTm5
import Derived.Test.YtbhcgjahlfpjoaaDoorPg5
namespace Go.Proofs.YtbhcgjahlfpjoaaDoor
open Go.RowKit

section
variable {b0 : Nat} {W W' : World} {g o1 o2 n1 n2 : Nat} {cells : Array Value} {X1 X2 : List Th} {D1 D2 : LD} {s : Int}
theorem Mach.reset1 (h : Mach b0 W g cells o1 n1 D1 X1 o2 n2 D2 X2 s) {n' : Nat} (hn : n' ≤ 1000000) :
    Calls Tryd.prog 24 #[.pointer (some ⟨g, o1, none⟩), .int .i64 (n' : Int)] W fun e W' => e = .returned (.tuple #[]) ∧ ∃ cells' D1', Mach b0 W' g cells' o1 n' D1' [] o2 n2 D2 X2 s ∧ Went g D1 D2 D1' D2 W W' := by
  have hoo := h.oo
  refine (h.l1.reset h.bz hn).mono ?_
  rintro e W' ⟨rfl, cells', A', na', ca', qs', hl, hf, hft, hc⟩
  exact ⟨rfl, cells', ⟨A', na', ca', D1.N, D1.kc, D1.V, D1.vc, qs', []⟩, h.upd (D1' := ⟨A', na', ca', D1.N, D1.kc, D1.V, D1.vc, qs', []⟩) (X1' := []) hl hf hft (fun i a b c _ => hc i a b c) ((hc 6 (by omega) (by omega) (by omega)).trans h.c6)⟩
theorem Mach.come1 {w0 : World} (h : Mach w0.heap.size W g cells o1 n1 D1 X1 o2 n2 D2 X2 s) {PA F : Option Addr} {pcap fc : Nat} {st cp at_ place pc : Int} {L : List MI} {fit : List Int}
    (hP : PgK w0 g PA n1 pcap L) (hb0 : Bel w0.heap.size g w0 W) (hOK : PgOK n1 st cp L) (hF : FitIn W (Ft g D1 D2) (.slice F fit.length fc) fit) (hfl : (fit.length : Int) = cp) (h0 : 0 ≤ pc) (h1 : pc < (n1 : Int)) (hfull : Full L X1) (hs : 0 ≤ s)
    (hsb : s + comeS L (AtB at_) place (L.length + 1) X1 pc fit ≤ 4611686018427387904) :
    Calls Tryd.prog 27 #[.pointer (some ⟨g, 0, none⟩), .pointer (some ⟨g, o1, none⟩), .agg #[.slice PA n1 pcap, .int .i64 st, .int .i64 cp], .int .i64 at_, .int .i64 place, .int .i64 pc, .slice F fit.length fc] W fun e W' => e = .returned (.tuple #[]) ∧
      ∃ cells' D1', Mach w0.heap.size W' g cells' o1 n1 D1' (comeL L (AtB at_) place (L.length + 1) X1 pc fit) o2 n2 D2 X2 (s + comeS L (AtB at_) place (L.length + 1) X1 pc fit) ∧ Went g D1 D2 D1' D2 W W' := by
  have hoo := h.oo
  obtain ⟨_, hn, _, _, hc2, hc4, _, hins⟩ := hOK
  have hleft : leftT n1 X1 < L.length + 1 := by
    unfold leftT
    have := List.countP_le_length (p := fun (i : Nat) => !inT X1 (i : Int)) (l := List.range n1)
    rw [List.length_range] at this
    have := hP.len
    omega
  refine (come_any (st := st) (at_ := at_) (place := place) hP hins (by omega) hn ⟨hc2, by omega⟩ (L.length + 1) W X1 cells D1.N D1.kc D1.V D1.vc D1.qs D1.vs pc F fc fit s h.l1 hb0 (hF.mono fun k hk => .inl (Ft.zl hk)) hfl h0 h1 hleft hfull h.c6 hs hsb).mono ?_
  rintro e W' ⟨rfl, cells', N', kc', V', vc', qs', vs', hl, hk, h6, hc⟩
  exact ⟨rfl, cells', ⟨D1.A, D1.na, D1.ca, N', kc', V', vc', qs', vs'⟩, h.upd (D1' := ⟨D1.A, D1.na, D1.ca, N', kc', V', vc', qs', vs'⟩) hl hk.1 hk.2 (fun i a b c d => hc i b c d) h6⟩
theorem Went.same {D1' D2' : LD} (h : Went g D1 D2 D1' D2' W W') {lo U : Nat} (hZ : ∀ k, lo ≤ k → k < U → ¬ Ft g D1 D2 k) (hU : U ≤ W.heap.size) : Same lo U W W' := h.1.same hZ hU
end
end Go.Proofs.YtbhcgjahlfpjoaaDoor
