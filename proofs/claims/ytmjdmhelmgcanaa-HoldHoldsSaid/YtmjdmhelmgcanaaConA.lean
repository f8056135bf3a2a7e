/- What calls come to: sums and differences. -/
import Derived.Test.YtmjdmhelmgcanaaEvalJ
import Derived.Test.YtmjdmhelmgcanaaNumA
import Derived.Test.YtmjdmhelmgcanaaNumC
namespace Go.Proofs.Ytmjdmhelmgcanaa
open Go.RowKit

def noName : At Kd → Prop
  | .ptr _ _ => False
  | .obj _ _ => False
  | _ => True

theorem den_noName {v : SV Kd} (h : v.all noName) (ρ ρ' : Env) : v.den ρ' = v.den ρ :=
  SV.den_congr (dom := fun _ => false) (fun _ h => by cases h) (fun _ h => by cases h) (SV.all_mono (fun a ha => by cases a <;> simp_all [noName, At.inD]) h)

/-- a contract of a call that hands back no thing -/
def pcon (k : PCon) : Con := fun args => (k args).map fun l => l.map fun p => ⟨p.1, fun _ => p.2⟩

theorem pcon_ok {f : Nat} (hcall : ∀ args w, (callFunc f args).run Try.prog w = .ok (.enter f args) w) {k : PCon}
    (h : ∀ args l, k args = some l → ∀ p ∈ l, p.2.all noName ∧ (p.1 → ∀ ρ w nt, (∀ s ∈ args, s.all (ArgOK (ctx [] nt) ρ w)) →
      p.2.all AtOK0 ∧ Calls Try.prog f (args.map (SV.den ρ)).toArray w fun e w' => Below w.heap.size w w' ∧ e = .returned (p.2.den ρ))) : ConOK f (pcon k) := by
  intro args outs ho i oc hi
  obtain ⟨l, hl, rfl⟩ := Option.map_eq_some_iff.1 ho
  rw [List.getElem?_map] at hi
  obtain ⟨p, hp, rfl⟩ := Option.map_eq_some_iff.1 hi
  obtain ⟨h1, h2⟩ := h args l hl p (List.mem_of_getElem? hp)
  refine ⟨fun d => SV.all_mono (fun a ha => by cases a <;> simp_all [noName, At.inD1]) h1, fun hc ρ w d nt ha _ => ⟨hcall _ _, ?_⟩⟩
  obtain ⟨h3, h4⟩ := h2 hc ρ w nt ha
  refine h4.mono ?_
  rintro e w' ⟨hb, rfl⟩
  refine ⟨hb, undef, congrArg Ending.returned (den_noName h1 { ρ with v := upd ρ.v d undef } ρ), SV.all_mono (fun a ha => by cases a <;> simp_all [AtOK0, RetOK]) h3⟩

/-- an evaluated function -/
theorem ev {tab : List (Nat × Con)} (ht : TabOK tab) {f : FuncId} {fn : Func} (hf : Try.prog.funcs[f]? = some fn) {args : List (SV Kd)} {orc : Nat → Nat} {cs : List Prop} {v : SV Kd}
    (he : evalF (ctx tab fn.ntmps) orc fn args = some (cs, v)) (hc : conj cs) (hargs : ∀ s ∈ args, s.all AtOK0) (hv : v.all noName) (ρ : Env) (w : World) :
    Calls Try.prog f (args.map (SV.den ρ)).toArray w fun e w' => Below w.heap.size w w' ∧ e = .returned (v.den ρ) :=
  (fn_sound (ctx_ok ht _) (ctx_d ht _) mixed hf rfl he hc ρ w fun s hs => SV.all_mono (fun a ha => by cases a <;> simp_all [AtOK0, InOK]) (hargs s hs)).mono
    fun e w' ⟨hb, ρ', h⟩ => ⟨hb, by rw [h, den_noName hv ρ]⟩

/-- the answers 'less', 'the same', 'more' and the like, by the path: a list of slots, each with the way that is taken there -/
def way : List (Nat × Nat) → Nat → Nat
  | [], _ => 0
  | (s, k) :: r, i => bif Nat.beq i s then k else way r i

abbrev N (x : Nat) : SV Kd := .one [.big 4 x]
abbrev E (n : Int) : List (At Kd) := [.lit .i64 n]
abbrev B (b : Bool) : List (At Kd) := [.bool b]
abbrev M (x : Nat) : List (At Kd) := [.big 4 x]

theorem V_den (x : Nat) (ρ : Env) : denL ρ (M x) = V x := den_num ρ x
theorem N_den (x : Nat) (ρ : Env) : (N x).den ρ = V x := den_num ρ x
theorem E_den (n : Int) (ρ : Env) : denL ρ (E n) = .int .i64 n := rfl
theorem B_den (b : Bool) (ρ : Env) : denL ρ (B b) = .bool b := rfl

theorem bigArg {nt : Nat} {ρ : Env} {w : World} {x : Nat} (h : SV.all (ArgOK (ctx [] nt) ρ w) (N x)) : x < TOP := by
  rw [← pw4]; exact h (.big 4 x) (by simp)
theorem N_ok {x : Nat} (h : x < TOP) : (N x).all AtOK0 := by intro a ha; simp only [List.mem_singleton] at ha; subst ha; show x < pw 4; rw [pw4]; exact h

/-- one, two, three, four numbers in -/
def k1 (g : Nat → List (Prop × SV Kd)) : PCon
  | [.one [.big 4 x]] => some (g x)
  | _ => none
def k2 (g : Nat → Nat → List (Prop × SV Kd)) : PCon
  | [.one [.big 4 x], .one [.big 4 y]] => some (g x y)
  | _ => none
def k3 (g : Nat → Nat → Nat → List (Prop × SV Kd)) : PCon
  | [.one [.big 4 x], .one [.big 4 y], .one [.big 4 z]] => some (g x y z)
  | _ => none
def k4 (g : Nat → Nat → Nat → Nat → List (Prop × SV Kd)) : PCon
  | [.one [.big 4 x], .one [.big 4 y], .one [.big 4 z], .one [.big 4 u]] => some (g x y z u)
  | _ => none

/-- what a contract of numbers owes: each way, if it is taken, has a value in range, and the call ends so -/
def Owes (f : Nat) (args : List (SV Kd)) (l : List (Prop × SV Kd)) : Prop :=
  ∀ p ∈ l, p.2.all noName ∧ (p.1 → p.2.all AtOK0 ∧ ∀ ρ w, Calls Try.prog f (args.map (SV.den ρ)).toArray w fun e w' => Below w.heap.size w w' ∧ e = .returned (p.2.den ρ))

theorem k1_ok {f : Nat} (hcall : ∀ args w, (callFunc f args).run Try.prog w = .ok (.enter f args) w) {g : Nat → List (Prop × SV Kd)} (hn : ∀ x, ∀ p ∈ g x, p.2.all noName)
    (h : ∀ x, x < TOP → Owes f [N x] (g x)) : ConOK f (pcon (k1 g)) := by
  refine pcon_ok hcall fun args l hl p hp => ?_
  unfold k1 at hl
  split at hl
  · rename_i x
    simp only [Option.some.injEq] at hl
    subst hl
    refine ⟨hn x p hp, fun hc ρ w nt ha => ?_⟩
    obtain ⟨h1, h2⟩ := (h x (bigArg (ha _ (by simp)))  p hp).2 hc
    exact ⟨h1, h2 ρ w⟩
  · cases hl
theorem k2_ok {f : Nat} (hcall : ∀ args w, (callFunc f args).run Try.prog w = .ok (.enter f args) w) {g : Nat → Nat → List (Prop × SV Kd)} (hn : ∀ x y, ∀ p ∈ g x y, p.2.all noName)
    (h : ∀ x y, x < TOP → y < TOP → Owes f [N x, N y] (g x y)) : ConOK f (pcon (k2 g)) := by
  refine pcon_ok hcall fun args l hl p hp => ?_
  unfold k2 at hl
  split at hl
  · rename_i x y
    simp only [Option.some.injEq] at hl
    subst hl
    refine ⟨hn x y p hp, fun hc ρ w nt ha => ?_⟩
    obtain ⟨h1, h2⟩ := (h x y (bigArg (ha _ (by simp))) (bigArg (ha _ (by simp))) p hp).2 hc
    exact ⟨h1, h2 ρ w⟩
  · cases hl
theorem k3_ok {f : Nat} (hcall : ∀ args w, (callFunc f args).run Try.prog w = .ok (.enter f args) w) {g : Nat → Nat → Nat → List (Prop × SV Kd)} (hn : ∀ x y z, ∀ p ∈ g x y z, p.2.all noName)
    (h : ∀ x y z, x < TOP → y < TOP → z < TOP → Owes f [N x, N y, N z] (g x y z)) : ConOK f (pcon (k3 g)) := by
  refine pcon_ok hcall fun args l hl p hp => ?_
  unfold k3 at hl
  split at hl
  · rename_i x y z
    simp only [Option.some.injEq] at hl
    subst hl
    refine ⟨hn x y z p hp, fun hc ρ w nt ha => ?_⟩
    obtain ⟨h1, h2⟩ := (h x y z (bigArg (ha _ (by simp))) (bigArg (ha _ (by simp))) (bigArg (ha _ (by simp))) p hp).2 hc
    exact ⟨h1, h2 ρ w⟩
  · cases hl

theorem all_num {x : Nat} {l : List (List (At Kd))} (h : x < TOP) (hl : (SV.tup l).all AtOK0) : (SV.tup (M x :: l)).all AtOK0 := by
  intro m hm
  rcases List.mem_cons.1 hm with rfl | hm
  · exact N_ok h
  · exact hl m hm

theorem add_con : ConOK 79 (pcon (k2 fun x y => [(x + y < TOP, .tup [M (x + y), E 0]), (TOP ≤ x + y, .tup [M 0, E 2])])) := by
  refine k2_ok (fun a w => Try.call79 a w) (by simp [SV.all, noName]) fun x y hx hy p hp => ?_
  simp only [List.mem_cons, List.not_mem_nil, or_false] at hp
  rcases hp with rfl | rfl
  · refine ⟨by simp [SV.all, noName], fun hc => ⟨all_num hc (by simp [SV.all, AtOK0]), fun ρ w => ?_⟩⟩
    simp only [List.map_cons, List.map_nil, N_den]
    refine (add_calls x y hx hy w).mono ?_
    rintro e w' ⟨rfl, hb⟩
    exact ⟨hb, by simp only [addV, if_pos hc, SV.den, List.map_cons, List.map_nil, V_den, E_den]⟩
  · refine ⟨by simp [SV.all, noName], fun hc => ⟨all_num top_pos (by simp [SV.all, AtOK0]), fun ρ w => ?_⟩⟩
    simp only [List.map_cons, List.map_nil, N_den]
    refine (add_calls x y hx hy w).mono ?_
    rintro e w' ⟨rfl, hb⟩
    have hn : ¬ x + y < TOP := Nat.not_lt.2 hc
    exact ⟨hb, by simp only [addV, if_neg hn, SV.den, List.map_cons, List.map_nil, V_den, E_den]⟩

theorem sub_con : ConOK 107 (pcon (k2 fun x y => [(y ≤ x, .tup [M (x - y), B false]), (x < y, .tup [M (x + TOP - y), B true])])) := by
  refine k2_ok (fun a w => Try.call107 a w) (by simp [SV.all, noName]) fun x y hx hy p hp => ?_
  simp only [List.mem_cons, List.not_mem_nil, or_false] at hp
  rcases hp with rfl | rfl
  · refine ⟨by simp [SV.all, noName], fun hc => ⟨all_num (by omega) (by simp [SV.all, AtOK0]), fun ρ w => ?_⟩⟩
    simp only [List.map_cons, List.map_nil, N_den]
    refine (sub_calls x y hx hy w).mono ?_
    rintro e w' ⟨rfl, hb⟩
    exact ⟨hb, by simp only [subV, if_pos hc, SV.den, List.map_cons, List.map_nil, V_den, B_den]⟩
  · refine ⟨by simp [SV.all, noName], fun hc => ⟨all_num (by omega) (by simp [SV.all, AtOK0]), fun ρ w => ?_⟩⟩
    simp only [List.map_cons, List.map_nil, N_den]
    refine (sub_calls x y hx hy w).mono ?_
    rintro e w' ⟨rfl, hb⟩
    have hn : ¬ y ≤ x := Nat.not_le.2 hc
    exact ⟨hb, by simp only [subV, if_neg hn, SV.den, List.map_cons, List.map_nil, V_den, B_den]⟩

theorem cmp_con : ConOK 71 (pcon (k2 fun x y => [(x < y, .one (E (-1))), (x = y, .one (E 0)), (y < x, .one (E 1))])) := by
  refine k2_ok (fun a w => Try.call71 a w) (by simp [SV.all, noName]) fun x y hx hy p hp => ?_
  simp only [List.mem_cons, List.not_mem_nil, or_false] at hp
  rcases hp with rfl | rfl | rfl
  all_goals
    refine ⟨by simp [SV.all, noName], fun hc => ⟨by simp [SV.all, AtOK0], fun ρ w => ?_⟩⟩
    simp only [List.map_cons, List.map_nil, N_den]
    refine (cmp_calls x y hx hy w).mono ?_
    rintro e w' ⟨hb, rfl⟩
    refine ⟨hb, ?_⟩
  · simp only [cmpN_lt hc]; rfl
  · have hc' : x = y := hc
    subst hc'
    simp only [cmpN_eq]; rfl
  · simp only [cmpN_gt hc]; rfl

theorem TabOK.nil : TabOK [] := fun p hp => by cases hp
theorem TabOK.cons {f : Nat} {c : Con} {t : List (Nat × Con)} (h : ConOK f c) (ht : TabOK t) : TabOK ((f, c) :: t) := fun p hp => by
  rcases List.mem_cons.1 hp with rfl | hp
  · exact h
  · exact ht p hp

def tabA : List (Nat × Con) :=
  [(79, pcon (k2 fun x y => [(x + y < TOP, .tup [M (x + y), E 0]), (TOP ≤ x + y, .tup [M 0, E 2])])),
   (107, pcon (k2 fun x y => [(y ≤ x, .tup [M (x - y), B false]), (x < y, .tup [M (x + TOP - y), B true])])),
   (71, pcon (k2 fun x y => [(x < y, .one (E (-1))), (x = y, .one (E 0)), (y < x, .one (E 1))]))]
theorem tabA_ok : TabOK tabA := .cons add_con (.cons sub_con (.cons cmp_con .nil))

end Go.Proofs.Ytmjdmhelmgcanaa
