/- Contracts of functions that take a Hold. -/
import Derived.Test.YtmjdmhelmgcanaaConB
namespace Go.Proofs.Ytmjdmhelmgcanaa
open Go.RowKit

/-- a Hold: what is kept, what is free -/
abbrev H (a b : Nat) : SV Kd := .one [.big 4 a, .big 4 b]
abbrev HM (a b : Nat) : List (At Kd) := [.big 4 a, .big 4 b]

theorem holdArg {nt : Nat} {ρ : Env} {w : World} {a b : Nat} (h : SV.all (ArgOK (ctx [] nt) ρ w) (H a b)) : a < TOP ∧ b < TOP := by
  rw [← pw4]; exact ⟨h (.big 4 a) (by simp), h (.big 4 b) (by simp)⟩
theorem H_ok {a b : Nat} (ha : a < TOP) (hb : b < TOP) : (H a b).all AtOK0 := by
  intro m hm
  simp only [List.mem_cons, List.not_mem_nil, or_false] at hm
  rcases hm with rfl | rfl
  · show a < pw 4; rw [pw4]; exact ha
  · show b < pw 4; rw [pw4]; exact hb
theorem all_hold {a b : Nat} {l : List (List (At Kd))} (ha : a < TOP) (hb : b < TOP) (hl : (SV.tup l).all AtOK0) : (SV.tup (HM a b :: l)).all AtOK0 := by
  intro m hm
  rcases List.mem_cons.1 hm with rfl | hm
  · exact H_ok ha hb
  · exact hl m hm

def kh1 (g : Nat → Nat → List (Prop × SV Kd)) : PCon
  | [.one [.big 4 a, .big 4 b]] => some (g a b)
  | _ => none
def kh2 (g : Nat → Nat → Nat → List (Prop × SV Kd)) : PCon
  | [.one [.big 4 a, .big 4 b], .one [.big 4 x]] => some (g a b x)
  | _ => none
def kh3 (g : Nat → Nat → Nat → Nat → List (Prop × SV Kd)) : PCon
  | [.one [.big 4 a, .big 4 b], .one [.big 4 x], .one [.big 4 y]] => some (g a b x y)
  | _ => none
def k0 (l : List (Prop × SV Kd)) : PCon
  | [] => some l
  | _ => none

theorem k0_ok {f : Nat} (hcall : ∀ args w, (callFunc f args).run Try.prog w = .ok (.enter f args) w) {l : List (Prop × SV Kd)} (hn : ∀ p ∈ l, p.2.all noName)
    (h : Owes f [] l) : ConOK f (pcon (k0 l)) := by
  refine pcon_ok hcall fun args l' hl p hp => ?_
  unfold k0 at hl
  split at hl
  · simp only [Option.some.injEq] at hl
    subst hl
    refine ⟨hn p hp, fun hc ρ w nt ha => ?_⟩
    obtain ⟨h1, h2⟩ := (h p hp).2 hc
    exact ⟨h1, h2 ρ w⟩
  · cases hl
theorem kh1_ok {f : Nat} (hcall : ∀ args w, (callFunc f args).run Try.prog w = .ok (.enter f args) w) {g : Nat → Nat → List (Prop × SV Kd)} (hn : ∀ a b, ∀ p ∈ g a b, p.2.all noName)
    (h : ∀ a b, a < TOP → b < TOP → Owes f [H a b] (g a b)) : ConOK f (pcon (kh1 g)) := by
  refine pcon_ok hcall fun args l hl p hp => ?_
  unfold kh1 at hl
  split at hl
  · rename_i a b
    simp only [Option.some.injEq] at hl
    subst hl
    refine ⟨hn a b p hp, fun hc ρ w nt ha => ?_⟩
    have hh := holdArg (ha (H a b) (by simp))
    obtain ⟨h1, h2⟩ := (h a b hh.1 hh.2 p hp).2 hc
    exact ⟨h1, h2 ρ w⟩
  · cases hl
theorem kh2_ok {f : Nat} (hcall : ∀ args w, (callFunc f args).run Try.prog w = .ok (.enter f args) w) {g : Nat → Nat → Nat → List (Prop × SV Kd)} (hn : ∀ a b x, ∀ p ∈ g a b x, p.2.all noName)
    (h : ∀ a b x, a < TOP → b < TOP → x < TOP → Owes f [H a b, N x] (g a b x)) : ConOK f (pcon (kh2 g)) := by
  refine pcon_ok hcall fun args l hl p hp => ?_
  unfold kh2 at hl
  split at hl
  · rename_i a b x
    simp only [Option.some.injEq] at hl
    subst hl
    refine ⟨hn a b x p hp, fun hc ρ w nt ha => ?_⟩
    have hh := holdArg (ha (H a b) (by simp))
    obtain ⟨h1, h2⟩ := (h a b x hh.1 hh.2 (bigArg (ha (N x) (by simp))) p hp).2 hc
    exact ⟨h1, h2 ρ w⟩
  · cases hl
theorem kh3_ok {f : Nat} (hcall : ∀ args w, (callFunc f args).run Try.prog w = .ok (.enter f args) w) {g : Nat → Nat → Nat → Nat → List (Prop × SV Kd)} (hn : ∀ a b x y, ∀ p ∈ g a b x y, p.2.all noName)
    (h : ∀ a b x y, a < TOP → b < TOP → x < TOP → y < TOP → Owes f [H a b, N x, N y] (g a b x y)) : ConOK f (pcon (kh3 g)) := by
  refine pcon_ok hcall fun args l hl p hp => ?_
  unfold kh3 at hl
  split at hl
  · rename_i a b x y
    simp only [Option.some.injEq] at hl
    subst hl
    refine ⟨hn a b x y p hp, fun hc ρ w nt ha => ?_⟩
    have hh := holdArg (ha (H a b) (by simp))
    obtain ⟨h1, h2⟩ := (h a b x y hh.1 hh.2 (bigArg (ha (N x) (by simp))) (bigArg (ha (N y) (by simp))) p hp).2 hc
    exact ⟨h1, h2 ρ w⟩
  · cases hl

end Go.Proofs.Ytmjdmhelmgcanaa
