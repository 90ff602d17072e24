/- The program's head words, spelt out: the closed facts that read them, cheap for the kernel. -/
import Derived.Test.YtbhcgjahlfpjoaaRows
import Derived.ProofKit
import Derived.Handed
namespace Go.Proofs.Ytbhcgjahlfpjoaa
open Go.RowKit Go.ChangeShapes Go.WideShapes Go.ChangeAt

def hw0 : List Nat := [104, 97, 114, 110, 101, 115, 115]
def hw1 : List Nat := [99, 57, 102, 52, 52, 56, 101, 102, 98, 102, 56, 51, 53, 52, 52, 53, 100, 50, 100, 51, 50, 99, 49, 97, 102, 54, 57, 50, 48, 57, 56, 98, 101, 53, 102, 100, 51, 50, 51, 51, 98, 52, 97, 57, 54, 55, 102, 50, 101, 53, 48, 48, 53, 102, 51, 100, 97, 98, 57, 55, 98, 99, 97, 98]
def hw2 : List Nat := [99, 117, 116]
def hwR : List Nat := [97, 116, 32, 109, 97, 114, 116, 101, 108, 108, 111, 47, 109, 97, 114, 116, 101, 108, 108, 111, 108, 97, 119, 48, 53, 46, 84, 114, 101, 101, 115, 82, 105, 103, 104, 116, 32, 109, 97, 114, 116, 101, 108, 108, 111, 47, 109, 97, 114, 116, 101, 108, 108, 111, 108, 97, 119, 48, 53, 46, 84, 114, 101, 101, 115, 67, 97, 112, 115, 32, 109, 97, 114, 116, 101, 108, 108, 111, 47, 109, 97, 114, 116, 101, 108, 108, 111, 108, 97, 119, 48, 53, 46, 84, 114, 101, 101, 115, 71, 114, 111, 117, 112, 115, 32, 109, 97, 114, 116, 101, 108, 108, 111, 47, 109, 97, 114, 116, 101, 108, 108, 111, 108, 97, 119, 48, 53, 46, 84, 114, 101, 101, 115, 83, 104, 97, 112, 101, 100, 32, 109, 97, 114, 116, 101, 108, 108, 111, 47, 109, 97, 114, 116, 101, 108, 108, 111, 108, 97, 119, 48, 53, 46, 84, 114, 101, 101, 115, 69, 109, 112, 116, 121, 32, 109, 97, 114, 116, 101, 108, 108, 111, 47, 109, 97, 114, 116, 101, 108, 108, 111, 108, 97, 119, 48, 53, 46, 84, 114, 101, 101, 115, 84, 117, 114, 110, 101, 100, 32, 109, 97, 114, 116, 101, 108, 108, 111, 47, 109, 97, 114, 116, 101, 108, 108, 111, 108, 97, 119, 48, 53, 46, 84, 114, 101, 101, 115, 84, 119, 105, 99, 101, 32, 109, 97, 114, 116, 101, 108, 108, 111, 47, 109, 97, 114, 116, 101, 108, 108, 111, 108, 97, 119, 49, 50, 46, 80, 114, 111, 103, 115, 67, 104, 101, 99, 107, 32, 109, 97, 114, 116, 101, 108, 108, 111, 47, 109, 97, 114, 116, 101, 108, 108, 111, 108, 97, 119, 49, 50, 46, 80, 114, 111, 103, 115, 67, 108, 111, 115, 117, 114, 101, 32, 109, 97, 114, 116, 101, 108, 108, 111, 47, 109, 97, 114, 116, 101, 108, 108, 111, 108, 97, 119, 49, 50, 46, 80, 114, 111, 103, 115, 84, 119, 105, 99, 101, 32, 109, 97, 114, 116, 101, 108, 108, 111, 47, 109, 97, 114, 116, 101, 108, 108, 111, 108, 97, 119, 49, 50, 46, 80, 114, 111, 103, 115, 80, 97, 114, 116, 115, 32, 109, 97, 114, 116, 101, 108, 108, 111, 47, 109, 97, 114, 116, 101, 108, 108, 111, 108, 97, 119, 49, 50, 46, 80, 114, 111, 103, 115, 78, 101, 120, 116, 32, 109, 97, 114, 116, 101, 108, 108, 111, 47, 109, 97, 114, 116, 101, 108, 108, 111, 108, 97, 119, 49, 50, 46, 80, 114, 111, 103, 115, 67, 108, 97, 115, 115, 101, 115, 32, 109, 97, 114, 116, 101, 108, 108, 111, 47, 109, 97, 114, 116, 101, 108, 108, 111, 108, 97, 119, 49, 50, 46, 80, 114, 111, 103, 115, 65, 108, 105, 107, 101]
def headText : String := "harness c9f448efbf835445d2d32c1af692098be5fd3233b4a967f2e5005f3dab97bcab cut at martello/martellolaw05.TreesRight martello/martellolaw05.TreesCaps martello/martellolaw05.TreesGroups martello/martellolaw05.TreesShaped martello/martellolaw05.TreesEmpty martello/martellolaw05.TreesTurned martello/martellolaw05.TreesTwice martello/martellolaw12.ProgsCheck martello/martellolaw12.ProgsClosure martello/martellolaw12.ProgsTwice martello/martellolaw12.ProgsParts martello/martellolaw12.ProgsNext martello/martellolaw12.ProgsClasses martello/martellolaw12.ProgsAlike"
theorem headIs : Try.prog.initOrder = headText := by kernel_rfl
theorem headSpelt : headText = String.ofList ((hw0 ++ 32 :: (hw1 ++ 32 :: (hw2 ++ 32 :: hwR))).map Char.ofNat) := by kernel_rfl
theorem headList : Try.prog.initOrder.toList = (hw0.map Char.ofNat) ++ Char.ofNat 32 :: ((hw1.map Char.ofNat) ++ Char.ofNat 32 :: ((hw2.map Char.ofNat) ++ Char.ofNat 32 :: hwR.map Char.ofNat)) := by
  rw [headIs, headSpelt, String.toList_ofList]
  simp only [List.map_append, List.map_cons]
theorem words_on (r : List Char) : ∀ (w : List Char), (w.all fun c => c != Char.ofNat 32) = true → wordsSigns (w ++ Char.ofNat 32 :: r) = w :: wordsSigns r
  | [], _ => rfl
  | c :: w, h => by
    rw [List.all_cons, Bool.and_eq_true] at h
    have ih := words_on r w h.2
    have hc : c ≠ Char.ofNat 32 := by simpa using h.1
    rw [List.cons_append, wordsSigns.eq_def]
    split
    · contradiction
    · rename_i heq
      injection heq with h1 h2
      exact absurd h1 hc
    · rename_i heq
      injection heq with h1 h2
      subst h1; subst h2
      rw [ih]
theorem headWords : wordsSigns Try.prog.initOrder.toList = hw0.map Char.ofNat :: hw1.map Char.ofNat :: hw2.map Char.ofNat :: wordsSigns (hwR.map Char.ofNat) := by
  rw [headList, words_on _ _ (by decide +kernel), words_on _ _ (by decide +kernel), words_on _ _ (by decide +kernel)]
theorem headBehind : behindMainWord (wordsSigns Try.prog.initOrder.toList) = hw2.map Char.ofNat :: wordsSigns (hwR.map Char.ofNat) := by
  rw [headWords]
  generalize wordsSigns (hwR.map Char.ofNat) = r
  kernel_rfl
theorem e1 : (hw2.map Char.ofNat == "gc".toList) = false := by kernel_rfl
theorem e2 : (hw2.map Char.ofNat == "spec".toList) = false := by kernel_rfl
theorem e3 : (hw2.map Char.ofNat == "cut".toList) = true := by kernel_rfl
theorem e4 : (hw2.map Char.ofNat == "carried".toList) = false := by kernel_rfl
theorem e5 (r : List (List Char)) : stripLifts liftWords (hw2.map Char.ofNat :: r) = ([], hw2.map Char.ofNat :: r) := by kernel_rfl
theorem e6 : (some (hw2.map Char.ofNat) == some "cut".toList) = true := by kernel_rfl
theorem e7 : Try.prog.laysLater = false := by kernel_rfl
theorem e8 : Try.prog.bearsReflect = false := by kernel_rfl
theorem e9 : Try.prog.doorFits [] = true := by kernel_rfl
theorem mayEnterOf {P : Program} {r : List (List Char)} (h : behindMainWord (wordsSigns P.initOrder.toList) = hw2.map Char.ofNat :: r) (h7 : P.laysLater = false) (h8 : P.bearsReflect = false) (h9 : P.doorFits [] = true) : P.mayEnter = true := by
  unfold Program.mayEnter
  rw [h]
  simp only [e1, e2, e4, e5, e6, h7, h8, h9, List.head?_cons, Bool.false_and, Bool.or_self, Bool.false_or, Bool.not_false, Bool.and_self, Bool.or_true, Bool.and_true, Bool.true_and]
  rfl
theorem mayEnterT : Try.prog.mayEnter = true := mayEnterOf headBehind e7 e8 e9
theorem liftsFinalT : Try.prog.liftsFinal = false := by
  unfold Program.liftsFinal Program.headLifts
  rw [headBehind]
  generalize wordsSigns (hwR.map Char.ofNat) = r
  kernel_rfl
theorem makeOf {P : Program} {r : List (List Char)} (h : behindMainWord (wordsSigns P.initOrder.toList) = hw2.map Char.ofNat :: r) : P.make = some .cut := by
  unfold Program.make
  rw [h]
  simp only [e1, e2, e3, Bool.or_self, Bool.true_or, if_true, Bool.false_eq_true, if_false]
theorem makeT : Try.prog.make = some .cut := makeOf headBehind
theorem liftedB {b : Bool} (h : b = false) : (b == Try.prog.liftsFinal) = true := by rw [liftsFinalT, h]; rfl
theorem makeB {m : Make} (h : m = .cut) : (Try.prog.make == some m) = true := by rw [makeT, h]; rfl
theorem and2 {a b : Bool} (ha : a = true) (hb : b = true) : (a && b) = true := by rw [ha, hb]; rfl
end Go.Proofs.Ytbhcgjahlfpjoaa
