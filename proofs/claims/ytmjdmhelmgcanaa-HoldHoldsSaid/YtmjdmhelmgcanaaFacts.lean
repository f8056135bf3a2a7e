/- Facts of the head of the program, reckoned once for all rows. -/
import Derived.Test.YtmjdmhelmgcanaaRows
import Derived.ProofKit
namespace Go.Proofs.Ytmjdmhelmgcanaa

/-- signs, by their numbers -/
def cs (l : List Nat) : List Char := l.map Char.ofNat

/-- the signs of the head's words -/
def headSigns : List Char := cs [
  104, 97, 114, 110, 101, 115, 115, 32, 48, 99, 98, 100, 53, 48, 98, 53, 53, 56, 55, 51, 100, 101, 97, 100, 54, 102, 49, 49, 52, 98, 102, 54, 57, 101, 49, 56, 52, 52, 55,
  55, 102, 54, 100, 50, 48, 56, 57, 102, 51, 51, 48, 54, 101, 101, 50, 98, 98, 51, 49, 50, 48, 57, 57, 56, 52, 99, 98, 49, 55, 102, 56, 55, 32, 99, 117, 116, 32, 97, 116,
  32, 106, 111, 105, 110, 116, 117, 114, 101, 47, 106, 111, 105, 110, 116, 117, 114, 101, 108, 97, 119, 48, 50, 46, 67, 111, 105, 110, 115, 82, 105, 103, 104, 116, 115, 32,
  106, 111, 105, 110, 116, 117, 114, 101, 47, 106, 111, 105, 110, 116, 117, 114, 101, 108, 97, 119, 48, 50, 46, 67, 111, 105, 110, 115, 65, 109, 111, 117, 110, 116, 115,
  32, 106, 111, 105, 110, 116, 117, 114, 101, 47, 106, 111, 105, 110, 116, 117, 114, 101, 108, 97, 119, 48, 50, 46, 67, 111, 105, 110, 115, 65, 100, 100, 115, 32, 106, 111,
  105, 110, 116, 117, 114, 101, 47, 106, 111, 105, 110, 116, 117, 114, 101, 108, 97, 119, 48, 50, 46, 67, 111, 105, 110, 115, 66, 97, 99, 107, 32, 106, 111, 105, 110, 116,
  117, 114, 101, 47, 106, 111, 105, 110, 116, 117, 114, 101, 108, 97, 119, 48, 55, 46, 72, 111, 108, 100, 84, 114, 97, 99, 107, 115, 32, 106, 111, 105, 110, 116, 117, 114,
  101, 47, 106, 111, 105, 110, 116, 117, 114, 101, 108, 97, 119, 48, 55, 46, 72, 111, 108, 100, 66, 97, 99, 107, 115, 32, 106, 111, 105, 110, 116, 117, 114, 101, 47, 106,
  111, 105, 110, 116, 117, 114, 101, 108, 97, 119, 48, 55, 46, 72, 111, 108, 100, 83, 112, 101, 110, 100, 115, 32, 106, 111, 105, 110, 116, 117, 114, 101, 47, 106, 111,
  105, 110, 116, 117, 114, 101, 108, 97, 119, 48, 55, 46, 72, 111, 108, 100, 65, 108, 108, 32, 106, 111, 105, 110, 116, 117, 114, 101, 47, 106, 111, 105, 110, 116, 117,
  114, 101, 108, 97, 119, 48, 55, 46, 72, 111, 108, 100, 72, 111, 108, 100, 115, 32, 106, 111, 105, 110, 116, 117, 114, 101, 47, 106, 111, 105, 110, 116, 117, 114, 101,
  108, 97, 119, 48, 50, 46, 67, 111, 105, 110, 115, 84, 97, 107, 101, 115, 32, 106, 111, 105, 110, 116, 117, 114, 101, 47, 106, 111, 105, 110, 116, 117, 114, 101, 108, 97,
  119, 48, 50, 46, 67, 111, 105, 110, 115, 80, 97, 114, 116, 115, 32, 106, 111, 105, 110, 116, 117, 114, 101, 47, 106, 111, 105, 110, 116, 117, 114, 101, 108, 97, 119, 48,
  50, 46, 67, 111, 105, 110, 115, 79, 119, 110, 32, 106, 111, 105, 110, 116, 117, 114, 101, 47, 106, 111, 105, 110, 116, 117, 114, 101, 108, 97, 119, 48, 56, 46, 83, 104,
  97, 114, 101, 87, 111, 114, 116, 104, 115, 32, 106, 111, 105, 110, 116, 117, 114, 101, 47, 106, 111, 105, 110, 116, 117, 114, 101, 108, 97, 119, 48, 56, 46, 83, 104, 97,
  114, 101, 70, 101, 119, 101, 115, 116, 115, 32, 106, 111, 105, 110, 116, 117, 114, 101, 47, 106, 111, 105, 110, 116, 117, 114, 101, 108, 97, 119, 48, 56, 46, 83, 104, 97,
  114, 101, 80, 97, 114, 116, 115, 32, 106, 111, 105, 110, 116, 117, 114, 101, 47, 106, 111, 105, 110, 116, 117, 114, 101, 108, 97, 119, 48, 56, 46, 83, 104, 97, 114, 101,
  83, 112, 108, 105, 116, 115, 32, 106, 111, 105, 110, 116, 117, 114, 101, 47, 106, 111, 105, 110, 116, 117, 114, 101, 108, 97, 119, 48, 56, 46, 83, 104, 97, 114, 101, 82,
  101, 115, 116, 32, 106, 111, 105, 110, 116, 117, 114, 101, 47, 106, 111, 105, 110, 116, 117, 114, 101, 108, 97, 119, 48, 56, 46, 83, 104, 97, 114, 101, 78, 101, 119, 115,
  32, 106, 111, 105, 110, 116, 117, 114, 101, 47, 106, 111, 105, 110, 116, 117, 114, 101, 108, 97, 119, 48, 56, 46, 83, 104, 97, 114, 101, 76, 111, 115, 115, 32, 106, 111,
  105, 110, 116, 117, 114, 101, 47, 106, 111, 105, 110, 116, 117, 114, 101, 108, 97, 119, 48, 49, 46, 78, 117, 109, 79, 114, 100, 101, 114, 115, 32, 106, 111, 105, 110,
  116, 117, 114, 101, 47, 106, 111, 105, 110, 116, 117, 114, 101, 108, 97, 119, 48, 49, 46, 78, 117, 109, 80, 114, 111, 100, 117, 99, 116, 115, 32, 106, 111, 105, 110, 116,
  117, 114, 101, 47, 106, 111, 105, 110, 116, 117, 114, 101, 108, 97, 119, 48, 49, 46, 78, 117, 109, 80, 97, 114, 116, 115, 32, 106, 111, 105, 110, 116, 117, 114, 101, 47,
  106, 111, 105, 110, 116, 117, 114, 101, 108, 97, 119, 48, 49, 46, 78, 117, 109, 70, 108, 111, 111, 114, 115, 32, 106, 111, 105, 110, 116, 117, 114, 101, 47, 106, 111,
  105, 110, 116, 117, 114, 101, 108, 97, 119, 48, 49, 46, 78, 117, 109, 87, 104, 111, 108, 101, 32, 106, 111, 105, 110, 116, 117, 114, 101, 47, 106, 111, 105, 110, 116,
  117, 114, 101, 108, 97, 119, 48, 49, 46, 78, 117, 109, 66, 97, 99, 107, 32, 106, 111, 105, 110, 116, 117, 114, 101, 47, 106, 111, 105, 110, 116, 117, 114, 101, 108, 97,
  119, 48, 49, 46, 78, 117, 109, 66, 121, 116, 101, 115, 32, 106, 111, 105, 110, 116, 117, 114, 101, 47, 106, 111, 105, 110, 116, 117, 114, 101, 108, 97, 119, 48, 49, 46,
  78, 117, 109, 82, 101, 97, 100, 115, 32, 106, 111, 105, 110, 116, 117, 114, 101, 47, 106, 111, 105, 110, 116, 117, 114, 101, 108, 97, 119, 48, 49, 46, 78, 117, 109, 83,
  117, 109, 115]

set_option maxRecDepth 100000 in
theorem head_eq : Try.prog.initOrder = String.ofList headSigns := by kernel_rfl
theorem head_signs : Try.prog.initOrder.toList = headSigns := (congrArg String.toList head_eq).trans String.toList_ofList
def rest : List Char := headSigns.drop 77
def cut : List Char := cs [99, 117, 116]
def word1 : List Char := cs [104, 97, 114, 110, 101, 115, 115]
def word2 : List Char := cs [48, 99, 98, 100, 53, 48, 98, 53, 53, 56, 55, 51, 100, 101, 97, 100, 54, 102, 49, 49, 52, 98, 102, 54, 57, 101, 49, 56, 52, 52, 55, 55, 102, 54, 100, 50, 48, 56, 57, 102, 51, 51, 48, 54, 101, 101, 50, 98, 98, 51, 49, 50, 48, 57, 57, 56, 52, 99, 98, 49, 55, 102, 56, 55]
theorem head_split (R : List Char) : wordsSigns (cs [104, 97, 114, 110, 101, 115, 115, 32, 48, 99, 98, 100, 53, 48, 98, 53, 53, 56, 55, 51, 100, 101, 97, 100, 54, 102, 49, 49, 52, 98, 102, 54, 57, 101, 49, 56, 52, 52, 55, 55, 102, 54, 100, 50, 48, 56, 57, 102, 51, 51, 48, 54, 101, 101, 50, 98, 98, 51, 49, 50, 48, 57, 57, 56, 52, 99, 98, 49, 55, 102, 56, 55, 32, 99, 117, 116, 32] ++ R) = word1 :: word2 :: cut :: wordsSigns R := rfl
theorem head_rest : headSigns = cs [104, 97, 114, 110, 101, 115, 115, 32, 48, 99, 98, 100, 53, 48, 98, 53, 53, 56, 55, 51, 100, 101, 97, 100, 54, 102, 49, 49, 52, 98, 102, 54, 57, 101, 49, 56, 52, 52, 55, 55, 102, 54, 100, 50, 48, 56, 57, 102, 51, 51, 48, 54, 101, 101, 50, 98, 98, 51, 49, 50, 48, 57, 57, 56, 52, 99, 98, 49, 55, 102, 56, 55, 32, 99, 117, 116, 32] ++ rest := rfl
theorem head_one : (word1 == "harness".toList || word1 == "ownmain".toList) = true := by decide +kernel
theorem head_sum : isSumSigns word2 = true := by decide +kernel
theorem behind {h s : List Char} {r : List (List Char)} (h1 : (h == "harness".toList || h == "ownmain".toList) = true) (h2 : isSumSigns s = true) : behindMainWord (h :: s :: r) = r := by
  simp only [behindMainWord, h1, h2, Bool.and_self, if_true]
theorem head_words : behindMainWord (wordsSigns Try.prog.initOrder.toList) = cut :: wordsSigns rest := by
  rw [head_signs, head_rest, head_split, behind head_one head_sum]
theorem make_of (P : Program) {r : List (List Char)} (h : behindMainWord (wordsSigns P.initOrder.toList) = cut :: r) : P.make = some .cut := by
  have h1 : (cut == "gc".toList || cut == "spec".toList) = false := by decide +kernel
  have h2 : (cut == "cut".toList) = true := by decide +kernel
  unfold Program.make
  rw [h]
  simp only [h1, h2, Bool.true_or, if_true, Bool.false_eq_true, if_false]
theorem head_make : Try.prog.make = some .cut := make_of _ head_words
theorem strip_cut (r : List (List Char)) : stripLifts liftWords (cut :: r) = ([], cut :: r) := by
  simp only [liftWords, stripLifts]
  simp only [show (cut == "finals".toList) = false by decide +kernel, show (cut == "reflectrows".toList) = false by decide +kernel, show (cut == "leanrows".toList) = false by decide +kernel, show (cut == "onebuild".toList) = false by decide +kernel, show (cut == "publicsums".toList) = false by decide +kernel, show (cut == "eqguard".toList) = false by decide +kernel, show (cut == "ownunsafe".toList) = false by decide +kernel, show (cut == "libbeside".toList) = false by decide +kernel, show (cut == "ownbeside".toList) = false by decide +kernel, show (cut == "reflbeside".toList) = false by decide +kernel, show (cut == "aliases".toList) = false by decide +kernel, show (cut == "afterinit".toList) = false by decide +kernel, show (cut == "crcplain".toList) = false by decide +kernel, show (cut == "roadunsafe".toList) = false by decide +kernel, show (cut == "fmthandon".toList) = false by decide +kernel, Bool.false_eq_true, if_false]
theorem head_lifts : Try.prog.headLifts = [] := by
  unfold Program.headLifts
  rw [head_words, strip_cut]
  simp
theorem head_finals : Try.prog.liftsFinal = false := by
  unfold Program.liftsFinal
  rw [head_words, head_lifts]
  have h1 : (some cut == some "carried".toList) = false := by decide +kernel
  simp only [List.head?_cons, h1]
  rfl
theorem later : Try.prog.laysLater = false := by kernel_rfl
theorem reflects : Try.prog.bearsReflect = false := by kernel_rfl
theorem doors : Try.prog.doorFits [] = true := by kernel_rfl
theorem enters_of (P : Program) {r : List (List Char)} (h : behindMainWord (wordsSigns P.initOrder.toList) = cut :: r) (h1 : P.laysLater = false) (h2 : P.bearsReflect = false) (h3 : P.doorFits [] = true) : P.mayEnter = true := by
  unfold Program.mayEnter
  rw [h]
  simp [strip_cut, h1, h2, h3]
  exact .inr (by decide +kernel)
theorem head_enters : Try.prog.mayEnter = true := enters_of _ head_words later reflects doors
end Go.Proofs.Ytmjdmhelmgcanaa
