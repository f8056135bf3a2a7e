/- Joined out of smaller texts: CoK, CoL, CoM. -/
import Derived.Test.YtmjdmhelmgcanaaXK
import Derived.Test.YtmjdmhelmgcanaaXI
/- coins.Add, Sub, Least, Rest, Within; little. -/
namespace Go.Proofs.Ytmjdmhelmgcanaa
namespace M
open Go.RowKit
set_option linter.unusedSimpArgs false
set_option linter.unusedVariables false

def tC6 : List Entry := ⟨57, 1, lcon (k2l restL)⟩ :: ⟨59, 1, lcon (k2l leastL)⟩ :: ⟨40, 1, lcon (k2l okA79)⟩ :: ⟨42, 1, lcon (k2l okA80)⟩ :: ⟨58, 1, lcon (k2l restL)⟩ :: ⟨60, 1, lcon (k2l leastL)⟩ :: ⟨61, 1, dcon (k2c withL)⟩ :: ⟨41, 1, lcon (k2l raddL)⟩ :: tC5
def tC7 : List Entry := ⟨44, 1, dcon (k2c withL)⟩ :: tC6
def aS (b : Bool) (id : Nat) (l : Cs) : Sv := inS b id l
def pA (b : Bool) (l : Cs) : Purse := puL (laA b l)
def okB (l m : Cs) (x y : Bool) : Prop := True
def R57 (p q : Purse) : Purse := p.sub q
def R59 (p q : Purse) : Purse := p.min q
def R40 (p q : Purse) : Purse := p.add q
def R42 (p q : Purse) : Purse := p.sub q
def n40 : Int := 2
def n42 : Int := 3

theorem pA_eq {b : Bool} {l : Cs} (hb : b = true → l = []) : pA b l = puL l := by unfold pA; rw [laA_eq hb]

theorem cg57 {w0 : Base} {l m : Cs} (hl : okC l) (hm : okC m) (pl : IsP l) (pm : IsP m) {a c : Bool} (ha : a = true → l = []) (hc : c = true → m = []) :
    Goes Try.prog Try.f57.ntmps w0 [.code (bodyOf Try.f57)] .norm (kn (argS 0 [inS a 1000 l, inS c 1001 m]) (inH 60 a 1000 l (inH 60 c 1001 m []))) (Fin (ctx tC5 15) Try.f57.results.toList (LFin (R57 (puL l) (puL m)).lst none)) := by
  have c1 : Coi (rowL l) l.length := Coi_rowL hl.2
  have c2 : Coi (rowL m) m.length := Coi_rowL hm.2
  have l1 := lst_rowL l
  have l2 := lst_rowL m
  have e0 := IsP_nil
  have e1 := pA_eq ha
  have e2 := pA_eq hc
  by_cases h0 : (R57 (puL l) (puL m)).lst.length = 0
  · have h0' := h0
    rw [← e1, ← e2] at h0'
    cases a
    · cases c
      · exact goes_ret (ctx_ok tC5_ok 15) mixed rfl (orc := way []) (stops := []) (f := 3000) (k := [.code (bodyOf Try.f57)]) (o := .norm) (σ := (kn (argS 0 [inS false 1000 l, inS false 1001 m]) (inH 60 false 1000 l (inH 60 false 1001 m [])))) (cs := [True, True, True, True, (((60 : TypeId) = (60 : TypeId) ∧ List.length l = List.length l ∧ List.length l < (4096 : Nat) ∧ Coi (rowL l) (List.length l)) ∧ ((60 : TypeId) = (60 : TypeId) ∧ List.length m = List.length m ∧ List.length m < (4096 : Nat) ∧ Coi (rowL m) (List.length m)) ∧ IsP (lst (rowL l) (List.length l)) ∧ IsP (lst (rowL m) (List.length m))) ∧ List.length (Purse.lst (Purse.sub (puL (lst (rowL l) (List.length l))) (puL (lst (rowL m) (List.length m))))) = (0 : Nat), True, True, True, True, True, True, True]) (o' := .ret) (rs := Try.f57.results.toList) (v := (.one [.nil])) (H := ([] : List (Nat × Bk))) (by kernel_rfl) (.inr rfl) (by
          simp only [pA, laA, cond_true, cond_false, R57] at h0'
          simp only [conj, and_true, true_and, l1, l2, c1, c2, hl.1, hm.1, pl, pm, e0] at h0' ⊢
          exact h0') fun _ _ => .inl ⟨h0, rfl⟩
      · exact goes_ret (ctx_ok tC5_ok 15) mixed rfl (orc := way []) (stops := []) (f := 3000) (k := [.code (bodyOf Try.f57)]) (o := .norm) (σ := (kn (argS 0 [inS false 1000 l, inS true 1001 m]) (inH 60 false 1000 l (inH 60 true 1001 m [])))) (cs := [True, True, True, True, (((60 : TypeId) = (60 : TypeId) ∧ List.length l = List.length l ∧ List.length l < (4096 : Nat) ∧ Coi (rowL l) (List.length l)) ∧ True ∧ IsP (lst (rowL l) (List.length l)) ∧ IsP []) ∧ List.length (Purse.lst (Purse.sub (puL (lst (rowL l) (List.length l))) (puL []))) = (0 : Nat), True, True, True, True, True, True, True]) (o' := .ret) (rs := Try.f57.results.toList) (v := (.one [.nil])) (H := ([] : List (Nat × Bk))) (by kernel_rfl) (.inr rfl) (by
          simp only [pA, laA, cond_true, cond_false, R57] at h0'
          simp only [conj, and_true, true_and, l1, l2, c1, c2, hl.1, hm.1, pl, pm, e0] at h0' ⊢
          exact h0') fun _ _ => .inl ⟨h0, rfl⟩
    · cases c
      · exact goes_ret (ctx_ok tC5_ok 15) mixed rfl (orc := way []) (stops := []) (f := 3000) (k := [.code (bodyOf Try.f57)]) (o := .norm) (σ := (kn (argS 0 [inS true 1000 l, inS false 1001 m]) (inH 60 true 1000 l (inH 60 false 1001 m [])))) (cs := [True, True, True, True, (True ∧ ((60 : TypeId) = (60 : TypeId) ∧ List.length m = List.length m ∧ List.length m < (4096 : Nat) ∧ Coi (rowL m) (List.length m)) ∧ IsP [] ∧ IsP (lst (rowL m) (List.length m))) ∧ List.length (Purse.lst (Purse.sub (puL []) (puL (lst (rowL m) (List.length m))))) = (0 : Nat), True, True, True, True, True, True, True]) (o' := .ret) (rs := Try.f57.results.toList) (v := (.one [.nil])) (H := ([] : List (Nat × Bk))) (by kernel_rfl) (.inr rfl) (by
          simp only [pA, laA, cond_true, cond_false, R57] at h0'
          simp only [conj, and_true, true_and, l1, l2, c1, c2, hl.1, hm.1, pl, pm, e0] at h0' ⊢
          exact h0') fun _ _ => .inl ⟨h0, rfl⟩
      · exact goes_ret (ctx_ok tC5_ok 15) mixed rfl (orc := way []) (stops := []) (f := 3000) (k := [.code (bodyOf Try.f57)]) (o := .norm) (σ := (kn (argS 0 [inS true 1000 l, inS true 1001 m]) (inH 60 true 1000 l (inH 60 true 1001 m [])))) (cs := [True, True, True, True, (True ∧ True ∧ IsP [] ∧ IsP []) ∧ List.length (Purse.lst (Purse.sub (puL []) (puL []))) = (0 : Nat), True, True, True, True, True, True, True]) (o' := .ret) (rs := Try.f57.results.toList) (v := (.one [.nil])) (H := ([] : List (Nat × Bk))) (by kernel_rfl) (.inr rfl) (by
          simp only [pA, laA, cond_true, cond_false, R57] at h0'
          simp only [conj, and_true, true_and, l1, l2, c1, c2, hl.1, hm.1, pl, pm, e0] at h0' ⊢
          exact h0') fun _ _ => .inl ⟨h0, rfl⟩
  · have h0' := h0
    rw [← e1, ← e2] at h0'
    cases a
    · cases c
      · refine goes_ret (ctx_ok tC5_ok 15) mixed rfl (orc := way [(11, 1)]) (stops := []) (f := 3000) (k := [.code (bodyOf Try.f57)]) (o := .norm) (σ := (kn (argS 0 [inS false 1000 l, inS false 1001 m]) (inH 60 false 1000 l (inH 60 false 1001 m [])))) (cs := [True, True, True, True, (((60 : TypeId) = (60 : TypeId) ∧ List.length l = List.length l ∧ List.length l < (4096 : Nat) ∧ Coi (rowL l) (List.length l)) ∧ ((60 : TypeId) = (60 : TypeId) ∧ List.length m = List.length m ∧ List.length m < (4096 : Nat) ∧ Coi (rowL m) (List.length m)) ∧ IsP (lst (rowL l) (List.length l)) ∧ IsP (lst (rowL m) (List.length m))) ∧ (0 : Nat) < List.length (Purse.lst (Purse.sub (puL (lst (rowL l) (List.length l))) (puL (lst (rowL m) (List.length m))))), True, True, True, True, True, True, True]) (o' := .ret) (rs := Try.f57.results.toList) (v := (.one [.sl 11 5 0 (R57 (pA false l) (pA false m)).lst.length])) (H := [(11, Bk.row true 60 5 (R57 (pA false l) (pA false m)).lst.length (rowL (R57 (pA false l) (pA false m)).lst))]) (by kernel_rfl) (.inr rfl) (by
          simp only [pA, laA, cond_true, cond_false, R57] at h0'
          simp only [conj, and_true, true_and, l1, l2, c1, c2, hl.1, hm.1, pl, pm, e0] at h0' ⊢
          omega) fun σ hσ => ?_
        rw [e1, e2] at hσ ⊢
        exact .inr ⟨by omega, 11, _, rfl, hσ (11, _) List.mem_cons_self, rfl⟩
      · refine goes_ret (ctx_ok tC5_ok 15) mixed rfl (orc := way [(11, 1)]) (stops := []) (f := 3000) (k := [.code (bodyOf Try.f57)]) (o := .norm) (σ := (kn (argS 0 [inS false 1000 l, inS true 1001 m]) (inH 60 false 1000 l (inH 60 true 1001 m [])))) (cs := [True, True, True, True, (((60 : TypeId) = (60 : TypeId) ∧ List.length l = List.length l ∧ List.length l < (4096 : Nat) ∧ Coi (rowL l) (List.length l)) ∧ True ∧ IsP (lst (rowL l) (List.length l)) ∧ IsP []) ∧ (0 : Nat) < List.length (Purse.lst (Purse.sub (puL (lst (rowL l) (List.length l))) (puL []))), True, True, True, True, True, True, True]) (o' := .ret) (rs := Try.f57.results.toList) (v := (.one [.sl 11 5 0 (R57 (pA false l) (pA true m)).lst.length])) (H := [(11, Bk.row true 60 5 (R57 (pA false l) (pA true m)).lst.length (rowL (R57 (pA false l) (pA true m)).lst))]) (by kernel_rfl) (.inr rfl) (by
          simp only [pA, laA, cond_true, cond_false, R57] at h0'
          simp only [conj, and_true, true_and, l1, l2, c1, c2, hl.1, hm.1, pl, pm, e0] at h0' ⊢
          omega) fun σ hσ => ?_
        rw [e1, e2] at hσ ⊢
        exact .inr ⟨by omega, 11, _, rfl, hσ (11, _) List.mem_cons_self, rfl⟩
    · cases c
      · refine goes_ret (ctx_ok tC5_ok 15) mixed rfl (orc := way [(11, 1)]) (stops := []) (f := 3000) (k := [.code (bodyOf Try.f57)]) (o := .norm) (σ := (kn (argS 0 [inS true 1000 l, inS false 1001 m]) (inH 60 true 1000 l (inH 60 false 1001 m [])))) (cs := [True, True, True, True, (True ∧ ((60 : TypeId) = (60 : TypeId) ∧ List.length m = List.length m ∧ List.length m < (4096 : Nat) ∧ Coi (rowL m) (List.length m)) ∧ IsP [] ∧ IsP (lst (rowL m) (List.length m))) ∧ (0 : Nat) < List.length (Purse.lst (Purse.sub (puL []) (puL (lst (rowL m) (List.length m))))), True, True, True, True, True, True, True]) (o' := .ret) (rs := Try.f57.results.toList) (v := (.one [.sl 11 5 0 (R57 (pA true l) (pA false m)).lst.length])) (H := [(11, Bk.row true 60 5 (R57 (pA true l) (pA false m)).lst.length (rowL (R57 (pA true l) (pA false m)).lst))]) (by kernel_rfl) (.inr rfl) (by
          simp only [pA, laA, cond_true, cond_false, R57] at h0'
          simp only [conj, and_true, true_and, l1, l2, c1, c2, hl.1, hm.1, pl, pm, e0] at h0' ⊢
          omega) fun σ hσ => ?_
        rw [e1, e2] at hσ ⊢
        exact .inr ⟨by omega, 11, _, rfl, hσ (11, _) List.mem_cons_self, rfl⟩
      · refine goes_ret (ctx_ok tC5_ok 15) mixed rfl (orc := way [(11, 1)]) (stops := []) (f := 3000) (k := [.code (bodyOf Try.f57)]) (o := .norm) (σ := (kn (argS 0 [inS true 1000 l, inS true 1001 m]) (inH 60 true 1000 l (inH 60 true 1001 m [])))) (cs := [True, True, True, True, (True ∧ True ∧ IsP [] ∧ IsP []) ∧ (0 : Nat) < List.length (Purse.lst (Purse.sub (puL []) (puL []))), True, True, True, True, True, True, True]) (o' := .ret) (rs := Try.f57.results.toList) (v := (.one [.sl 11 5 0 (R57 (pA true l) (pA true m)).lst.length])) (H := [(11, Bk.row true 60 5 (R57 (pA true l) (pA true m)).lst.length (rowL (R57 (pA true l) (pA true m)).lst))]) (by kernel_rfl) (.inr rfl) (by
          simp only [pA, laA, cond_true, cond_false, R57] at h0'
          simp only [conj, and_true, true_and, l1, l2, c1, c2, hl.1, hm.1, pl, pm, e0] at h0' ⊢
          omega) fun σ hσ => ?_
        rw [e1, e2] at hσ ⊢
        exact .inr ⟨by omega, 11, _, rfl, hσ (11, _) List.mem_cons_self, rfl⟩

theorem cg59 {w0 : Base} {l m : Cs} (hl : okC l) (hm : okC m) (pl : IsP l) (pm : IsP m) {a c : Bool} (ha : a = true → l = []) (hc : c = true → m = []) :
    Goes Try.prog Try.f59.ntmps w0 [.code (bodyOf Try.f59)] .norm (kn (argS 0 [inS a 1000 l, inS c 1001 m]) (inH 60 a 1000 l (inH 60 c 1001 m []))) (Fin (ctx tC5 15) Try.f59.results.toList (LFin (R59 (puL l) (puL m)).lst none)) := by
  have c1 : Coi (rowL l) l.length := Coi_rowL hl.2
  have c2 : Coi (rowL m) m.length := Coi_rowL hm.2
  have l1 := lst_rowL l
  have l2 := lst_rowL m
  have e0 := IsP_nil
  have e1 := pA_eq ha
  have e2 := pA_eq hc
  by_cases h0 : (R59 (puL l) (puL m)).lst.length = 0
  · have h0' := h0
    rw [← e1, ← e2] at h0'
    cases a
    · cases c
      · exact goes_ret (ctx_ok tC5_ok 15) mixed rfl (orc := way []) (stops := []) (f := 3000) (k := [.code (bodyOf Try.f59)]) (o := .norm) (σ := (kn (argS 0 [inS false 1000 l, inS false 1001 m]) (inH 60 false 1000 l (inH 60 false 1001 m [])))) (cs := [True, True, True, True, (((60 : TypeId) = (60 : TypeId) ∧ List.length l = List.length l ∧ List.length l < (4096 : Nat) ∧ Coi (rowL l) (List.length l)) ∧ ((60 : TypeId) = (60 : TypeId) ∧ List.length m = List.length m ∧ List.length m < (4096 : Nat) ∧ Coi (rowL m) (List.length m)) ∧ IsP (lst (rowL l) (List.length l)) ∧ IsP (lst (rowL m) (List.length m))) ∧ List.length (Purse.lst (Purse.min (puL (lst (rowL l) (List.length l))) (puL (lst (rowL m) (List.length m))))) = (0 : Nat), True, True, True, True, True, True, True]) (o' := .ret) (rs := Try.f59.results.toList) (v := (.one [.nil])) (H := ([] : List (Nat × Bk))) (by kernel_rfl) (.inr rfl) (by
          simp only [pA, laA, cond_true, cond_false, R59] at h0'
          simp only [conj, and_true, true_and, l1, l2, c1, c2, hl.1, hm.1, pl, pm, e0] at h0' ⊢
          exact h0') fun _ _ => .inl ⟨h0, rfl⟩
      · exact goes_ret (ctx_ok tC5_ok 15) mixed rfl (orc := way []) (stops := []) (f := 3000) (k := [.code (bodyOf Try.f59)]) (o := .norm) (σ := (kn (argS 0 [inS false 1000 l, inS true 1001 m]) (inH 60 false 1000 l (inH 60 true 1001 m [])))) (cs := [True, True, True, True, (((60 : TypeId) = (60 : TypeId) ∧ List.length l = List.length l ∧ List.length l < (4096 : Nat) ∧ Coi (rowL l) (List.length l)) ∧ True ∧ IsP (lst (rowL l) (List.length l)) ∧ IsP []) ∧ List.length (Purse.lst (Purse.min (puL (lst (rowL l) (List.length l))) (puL []))) = (0 : Nat), True, True, True, True, True, True, True]) (o' := .ret) (rs := Try.f59.results.toList) (v := (.one [.nil])) (H := ([] : List (Nat × Bk))) (by kernel_rfl) (.inr rfl) (by
          simp only [pA, laA, cond_true, cond_false, R59] at h0'
          simp only [conj, and_true, true_and, l1, l2, c1, c2, hl.1, hm.1, pl, pm, e0] at h0' ⊢
          exact h0') fun _ _ => .inl ⟨h0, rfl⟩
    · cases c
      · exact goes_ret (ctx_ok tC5_ok 15) mixed rfl (orc := way []) (stops := []) (f := 3000) (k := [.code (bodyOf Try.f59)]) (o := .norm) (σ := (kn (argS 0 [inS true 1000 l, inS false 1001 m]) (inH 60 true 1000 l (inH 60 false 1001 m [])))) (cs := [True, True, True, True, (True ∧ ((60 : TypeId) = (60 : TypeId) ∧ List.length m = List.length m ∧ List.length m < (4096 : Nat) ∧ Coi (rowL m) (List.length m)) ∧ IsP [] ∧ IsP (lst (rowL m) (List.length m))) ∧ List.length (Purse.lst (Purse.min (puL []) (puL (lst (rowL m) (List.length m))))) = (0 : Nat), True, True, True, True, True, True, True]) (o' := .ret) (rs := Try.f59.results.toList) (v := (.one [.nil])) (H := ([] : List (Nat × Bk))) (by kernel_rfl) (.inr rfl) (by
          simp only [pA, laA, cond_true, cond_false, R59] at h0'
          simp only [conj, and_true, true_and, l1, l2, c1, c2, hl.1, hm.1, pl, pm, e0] at h0' ⊢
          exact h0') fun _ _ => .inl ⟨h0, rfl⟩
      · exact goes_ret (ctx_ok tC5_ok 15) mixed rfl (orc := way []) (stops := []) (f := 3000) (k := [.code (bodyOf Try.f59)]) (o := .norm) (σ := (kn (argS 0 [inS true 1000 l, inS true 1001 m]) (inH 60 true 1000 l (inH 60 true 1001 m [])))) (cs := [True, True, True, True, (True ∧ True ∧ IsP [] ∧ IsP []) ∧ List.length (Purse.lst (Purse.min (puL []) (puL []))) = (0 : Nat), True, True, True, True, True, True, True]) (o' := .ret) (rs := Try.f59.results.toList) (v := (.one [.nil])) (H := ([] : List (Nat × Bk))) (by kernel_rfl) (.inr rfl) (by
          simp only [pA, laA, cond_true, cond_false, R59] at h0'
          simp only [conj, and_true, true_and, l1, l2, c1, c2, hl.1, hm.1, pl, pm, e0] at h0' ⊢
          exact h0') fun _ _ => .inl ⟨h0, rfl⟩
  · have h0' := h0
    rw [← e1, ← e2] at h0'
    cases a
    · cases c
      · refine goes_ret (ctx_ok tC5_ok 15) mixed rfl (orc := way [(11, 1)]) (stops := []) (f := 3000) (k := [.code (bodyOf Try.f59)]) (o := .norm) (σ := (kn (argS 0 [inS false 1000 l, inS false 1001 m]) (inH 60 false 1000 l (inH 60 false 1001 m [])))) (cs := [True, True, True, True, (((60 : TypeId) = (60 : TypeId) ∧ List.length l = List.length l ∧ List.length l < (4096 : Nat) ∧ Coi (rowL l) (List.length l)) ∧ ((60 : TypeId) = (60 : TypeId) ∧ List.length m = List.length m ∧ List.length m < (4096 : Nat) ∧ Coi (rowL m) (List.length m)) ∧ IsP (lst (rowL l) (List.length l)) ∧ IsP (lst (rowL m) (List.length m))) ∧ (0 : Nat) < List.length (Purse.lst (Purse.min (puL (lst (rowL l) (List.length l))) (puL (lst (rowL m) (List.length m))))), True, True, True, True, True, True, True]) (o' := .ret) (rs := Try.f59.results.toList) (v := (.one [.sl 11 5 0 (R59 (pA false l) (pA false m)).lst.length])) (H := [(11, Bk.row true 60 5 (R59 (pA false l) (pA false m)).lst.length (rowL (R59 (pA false l) (pA false m)).lst))]) (by kernel_rfl) (.inr rfl) (by
          simp only [pA, laA, cond_true, cond_false, R59] at h0'
          simp only [conj, and_true, true_and, l1, l2, c1, c2, hl.1, hm.1, pl, pm, e0] at h0' ⊢
          omega) fun σ hσ => ?_
        rw [e1, e2] at hσ ⊢
        exact .inr ⟨by omega, 11, _, rfl, hσ (11, _) List.mem_cons_self, rfl⟩
      · refine goes_ret (ctx_ok tC5_ok 15) mixed rfl (orc := way [(11, 1)]) (stops := []) (f := 3000) (k := [.code (bodyOf Try.f59)]) (o := .norm) (σ := (kn (argS 0 [inS false 1000 l, inS true 1001 m]) (inH 60 false 1000 l (inH 60 true 1001 m [])))) (cs := [True, True, True, True, (((60 : TypeId) = (60 : TypeId) ∧ List.length l = List.length l ∧ List.length l < (4096 : Nat) ∧ Coi (rowL l) (List.length l)) ∧ True ∧ IsP (lst (rowL l) (List.length l)) ∧ IsP []) ∧ (0 : Nat) < List.length (Purse.lst (Purse.min (puL (lst (rowL l) (List.length l))) (puL []))), True, True, True, True, True, True, True]) (o' := .ret) (rs := Try.f59.results.toList) (v := (.one [.sl 11 5 0 (R59 (pA false l) (pA true m)).lst.length])) (H := [(11, Bk.row true 60 5 (R59 (pA false l) (pA true m)).lst.length (rowL (R59 (pA false l) (pA true m)).lst))]) (by kernel_rfl) (.inr rfl) (by
          simp only [pA, laA, cond_true, cond_false, R59] at h0'
          simp only [conj, and_true, true_and, l1, l2, c1, c2, hl.1, hm.1, pl, pm, e0] at h0' ⊢
          omega) fun σ hσ => ?_
        rw [e1, e2] at hσ ⊢
        exact .inr ⟨by omega, 11, _, rfl, hσ (11, _) List.mem_cons_self, rfl⟩
    · cases c
      · refine goes_ret (ctx_ok tC5_ok 15) mixed rfl (orc := way [(11, 1)]) (stops := []) (f := 3000) (k := [.code (bodyOf Try.f59)]) (o := .norm) (σ := (kn (argS 0 [inS true 1000 l, inS false 1001 m]) (inH 60 true 1000 l (inH 60 false 1001 m [])))) (cs := [True, True, True, True, (True ∧ ((60 : TypeId) = (60 : TypeId) ∧ List.length m = List.length m ∧ List.length m < (4096 : Nat) ∧ Coi (rowL m) (List.length m)) ∧ IsP [] ∧ IsP (lst (rowL m) (List.length m))) ∧ (0 : Nat) < List.length (Purse.lst (Purse.min (puL []) (puL (lst (rowL m) (List.length m))))), True, True, True, True, True, True, True]) (o' := .ret) (rs := Try.f59.results.toList) (v := (.one [.sl 11 5 0 (R59 (pA true l) (pA false m)).lst.length])) (H := [(11, Bk.row true 60 5 (R59 (pA true l) (pA false m)).lst.length (rowL (R59 (pA true l) (pA false m)).lst))]) (by kernel_rfl) (.inr rfl) (by
          simp only [pA, laA, cond_true, cond_false, R59] at h0'
          simp only [conj, and_true, true_and, l1, l2, c1, c2, hl.1, hm.1, pl, pm, e0] at h0' ⊢
          omega) fun σ hσ => ?_
        rw [e1, e2] at hσ ⊢
        exact .inr ⟨by omega, 11, _, rfl, hσ (11, _) List.mem_cons_self, rfl⟩
      · refine goes_ret (ctx_ok tC5_ok 15) mixed rfl (orc := way [(11, 1)]) (stops := []) (f := 3000) (k := [.code (bodyOf Try.f59)]) (o := .norm) (σ := (kn (argS 0 [inS true 1000 l, inS true 1001 m]) (inH 60 true 1000 l (inH 60 true 1001 m [])))) (cs := [True, True, True, True, (True ∧ True ∧ IsP [] ∧ IsP []) ∧ (0 : Nat) < List.length (Purse.lst (Purse.min (puL []) (puL []))), True, True, True, True, True, True, True]) (o' := .ret) (rs := Try.f59.results.toList) (v := (.one [.sl 11 5 0 (R59 (pA true l) (pA true m)).lst.length])) (H := [(11, Bk.row true 60 5 (R59 (pA true l) (pA true m)).lst.length (rowL (R59 (pA true l) (pA true m)).lst))]) (by kernel_rfl) (.inr rfl) (by
          simp only [pA, laA, cond_true, cond_false, R59] at h0'
          simp only [conj, and_true, true_and, l1, l2, c1, c2, hl.1, hm.1, pl, pm, e0] at h0' ⊢
          omega) fun σ hσ => ?_
        rw [e1, e2] at hσ ⊢
        exact .inr ⟨by omega, 11, _, rfl, hσ (11, _) List.mem_cons_self, rfl⟩

theorem rest_ce : EOK ⟨57, 1, lcon (k2l restL)⟩ := by
  refine k2l_ok Try.func57 (c := bodyOf Try.f57) rfl (fun a w => Try.call57 a w) tC5_ok (Nat.le_of_ble_eq_true (by kernel_rfl)) fun l m hl hm p hp hc => ?_
  simp only [restL, List.mem_singleton] at hp
  subst hp
  exact ⟨⟨okP _, fun _ h => by cases h⟩, fun w0 b c hb hc' => cg57 hl hm hc.1 hc.2 hb hc'⟩
theorem least_ce : EOK ⟨59, 1, lcon (k2l leastL)⟩ := by
  refine k2l_ok Try.func59 (c := bodyOf Try.f59) rfl (fun a w => Try.call59 a w) tC5_ok (Nat.le_of_ble_eq_true (by kernel_rfl)) fun l m hl hm p hp hc => ?_
  simp only [leastL, List.mem_singleton] at hp
  subst hp
  exact ⟨⟨okP _, fun _ h => by cases h⟩, fun w0 b c hb hc' => cg59 hl hm hc.1 hc.2 hb hc'⟩

theorem cg40 {w0 : Base} {l m : Cs} (hl : okC l) (hm : okC m) (pl : IsP l) (pm : IsP m) (hk : (puL l).fits (puL m)) {a c : Bool} (ha : a = true → l = []) (hc : c = true → m = []) :
    Goes Try.prog Try.f40.ntmps w0 [.code (bodyOf Try.f40)] .norm (kn (argS 0 [inS a 1000 l, inS c 1001 m]) (inH 60 a 1000 l (inH 60 c 1001 m []))) (Fin (ctx tC5 11) Try.f40.results.toList (LFin (R40 (puL l) (puL m)).lst (some (E 0)))) := by
  have c1 : Coi (rowL l) l.length := Coi_rowL hl.2
  have c2 : Coi (rowL m) m.length := Coi_rowL hm.2
  have l1 := lst_rowL l
  have l2 := lst_rowL m
  have e0 := IsP_nil
  have e1 := pA_eq ha
  have e2 := pA_eq hc
  by_cases h0 : (R40 (puL l) (puL m)).lst.length = 0
  · have h0' := h0
    cases a
    · cases c
      · exact goes_ret (ctx_ok tC5_ok 11) mixed rfl (orc := way []) (stops := []) (f := 3000) (k := [.code (bodyOf Try.f40)]) (o := .norm) (σ := (kn (argS 0 [inS false 1000 l, inS false 1001 m]) (inH 60 false 1000 l (inH 60 false 1001 m [])))) (cs := [True, True, True, True, (((60 : TypeId) = (60 : TypeId) ∧ List.length l = List.length l ∧ List.length l < (4096 : Nat) ∧ Coi (rowL l) (List.length l)) ∧ ((60 : TypeId) = (60 : TypeId) ∧ List.length m = List.length m ∧ List.length m < (4096 : Nat) ∧ Coi (rowL m) (List.length m)) ∧ IsP (lst (rowL l) (List.length l)) ∧ IsP (lst (rowL m) (List.length m)) ∧ Purse.fits (puL (lst (rowL l) (List.length l))) (puL (lst (rowL m) (List.length m)))) ∧ List.length (Purse.lst (Purse.add (puL (lst (rowL l) (List.length l))) (puL (lst (rowL m) (List.length m))))) = (0 : Nat), True, True, True, True]) (o' := .ret) (rs := Try.f40.results.toList) (v := (.tup [[.nil], E 0])) (H := ([] : List (Nat × Bk))) (by kernel_rfl) (.inr rfl) (by
          have q1 := hk
          simp only [R40] at h0'
          (try simp only [ha rfl] at h0' q1); (try simp only [hc rfl] at h0' q1)
          simp only [conj, and_true, true_and, l1, l2, c1, c2, hl.1, hm.1, pl, pm, e0, q1]
          exact h0') fun _ _ => .inl ⟨h0, rfl⟩
      · exact goes_ret (ctx_ok tC5_ok 11) mixed rfl (orc := way []) (stops := []) (f := 3000) (k := [.code (bodyOf Try.f40)]) (o := .norm) (σ := (kn (argS 0 [inS false 1000 l, inS true 1001 m]) (inH 60 false 1000 l (inH 60 true 1001 m [])))) (cs := [True, True, True, True, (((60 : TypeId) = (60 : TypeId) ∧ List.length l = List.length l ∧ List.length l < (4096 : Nat) ∧ Coi (rowL l) (List.length l)) ∧ True ∧ IsP (lst (rowL l) (List.length l)) ∧ IsP [] ∧ Purse.fits (puL (lst (rowL l) (List.length l))) (puL [])) ∧ List.length (Purse.lst (Purse.add (puL (lst (rowL l) (List.length l))) (puL []))) = (0 : Nat), True, True, True, True]) (o' := .ret) (rs := Try.f40.results.toList) (v := (.tup [[.nil], E 0])) (H := ([] : List (Nat × Bk))) (by kernel_rfl) (.inr rfl) (by
          have q1 := hk
          simp only [R40] at h0'
          (try simp only [ha rfl] at h0' q1); (try simp only [hc rfl] at h0' q1)
          simp only [conj, and_true, true_and, l1, l2, c1, c2, hl.1, hm.1, pl, pm, e0, q1]
          exact h0') fun _ _ => .inl ⟨h0, rfl⟩
    · cases c
      · exact goes_ret (ctx_ok tC5_ok 11) mixed rfl (orc := way []) (stops := []) (f := 3000) (k := [.code (bodyOf Try.f40)]) (o := .norm) (σ := (kn (argS 0 [inS true 1000 l, inS false 1001 m]) (inH 60 true 1000 l (inH 60 false 1001 m [])))) (cs := [True, True, True, True, (True ∧ ((60 : TypeId) = (60 : TypeId) ∧ List.length m = List.length m ∧ List.length m < (4096 : Nat) ∧ Coi (rowL m) (List.length m)) ∧ IsP [] ∧ IsP (lst (rowL m) (List.length m)) ∧ Purse.fits (puL []) (puL (lst (rowL m) (List.length m)))) ∧ List.length (Purse.lst (Purse.add (puL []) (puL (lst (rowL m) (List.length m))))) = (0 : Nat), True, True, True, True]) (o' := .ret) (rs := Try.f40.results.toList) (v := (.tup [[.nil], E 0])) (H := ([] : List (Nat × Bk))) (by kernel_rfl) (.inr rfl) (by
          have q1 := hk
          simp only [R40] at h0'
          (try simp only [ha rfl] at h0' q1); (try simp only [hc rfl] at h0' q1)
          simp only [conj, and_true, true_and, l1, l2, c1, c2, hl.1, hm.1, pl, pm, e0, q1]
          exact h0') fun _ _ => .inl ⟨h0, rfl⟩
      · exact goes_ret (ctx_ok tC5_ok 11) mixed rfl (orc := way []) (stops := []) (f := 3000) (k := [.code (bodyOf Try.f40)]) (o := .norm) (σ := (kn (argS 0 [inS true 1000 l, inS true 1001 m]) (inH 60 true 1000 l (inH 60 true 1001 m [])))) (cs := [True, True, True, True, (True ∧ True ∧ IsP [] ∧ IsP [] ∧ Purse.fits (puL []) (puL [])) ∧ List.length (Purse.lst (Purse.add (puL []) (puL []))) = (0 : Nat), True, True, True, True]) (o' := .ret) (rs := Try.f40.results.toList) (v := (.tup [[.nil], E 0])) (H := ([] : List (Nat × Bk))) (by kernel_rfl) (.inr rfl) (by
          have q1 := hk
          simp only [R40] at h0'
          (try simp only [ha rfl] at h0' q1); (try simp only [hc rfl] at h0' q1)
          simp only [conj, and_true, true_and, l1, l2, c1, c2, hl.1, hm.1, pl, pm, e0, q1]
          exact h0') fun _ _ => .inl ⟨h0, rfl⟩
  · have h0' := h0
    cases a
    · cases c
      · refine goes_ret (ctx_ok tC5_ok 11) mixed rfl (orc := way [(8, 1)]) (stops := []) (f := 3000) (k := [.code (bodyOf Try.f40)]) (o := .norm) (σ := (kn (argS 0 [inS false 1000 l, inS false 1001 m]) (inH 60 false 1000 l (inH 60 false 1001 m [])))) (cs := [True, True, True, True, (((60 : TypeId) = (60 : TypeId) ∧ List.length l = List.length l ∧ List.length l < (4096 : Nat) ∧ Coi (rowL l) (List.length l)) ∧ ((60 : TypeId) = (60 : TypeId) ∧ List.length m = List.length m ∧ List.length m < (4096 : Nat) ∧ Coi (rowL m) (List.length m)) ∧ IsP (lst (rowL l) (List.length l)) ∧ IsP (lst (rowL m) (List.length m)) ∧ Purse.fits (puL (lst (rowL l) (List.length l))) (puL (lst (rowL m) (List.length m)))) ∧ (0 : Nat) < List.length (Purse.lst (Purse.add (puL (lst (rowL l) (List.length l))) (puL (lst (rowL m) (List.length m))))), True, True, True, True]) (o' := .ret) (rs := Try.f40.results.toList) (v := (.tup [[.sl 8 5 0 (R40 (pA false l) (pA false m)).lst.length], E 0])) (H := [(8, Bk.row true 60 5 (R40 (pA false l) (pA false m)).lst.length (rowL (R40 (pA false l) (pA false m)).lst))]) (by kernel_rfl) (.inr rfl) (by
          have q1 := hk
          simp only [R40] at h0'
          (try simp only [ha rfl] at h0' q1); (try simp only [hc rfl] at h0' q1)
          simp only [conj, and_true, true_and, l1, l2, c1, c2, hl.1, hm.1, pl, pm, e0, q1]
          omega) fun σ hσ => ?_
        rw [e1, e2] at hσ ⊢
        exact .inr ⟨by omega, 8, _, rfl, hσ (8, _) List.mem_cons_self, rfl⟩
      · refine goes_ret (ctx_ok tC5_ok 11) mixed rfl (orc := way [(8, 1)]) (stops := []) (f := 3000) (k := [.code (bodyOf Try.f40)]) (o := .norm) (σ := (kn (argS 0 [inS false 1000 l, inS true 1001 m]) (inH 60 false 1000 l (inH 60 true 1001 m [])))) (cs := [True, True, True, True, (((60 : TypeId) = (60 : TypeId) ∧ List.length l = List.length l ∧ List.length l < (4096 : Nat) ∧ Coi (rowL l) (List.length l)) ∧ True ∧ IsP (lst (rowL l) (List.length l)) ∧ IsP [] ∧ Purse.fits (puL (lst (rowL l) (List.length l))) (puL [])) ∧ (0 : Nat) < List.length (Purse.lst (Purse.add (puL (lst (rowL l) (List.length l))) (puL []))), True, True, True, True]) (o' := .ret) (rs := Try.f40.results.toList) (v := (.tup [[.sl 8 5 0 (R40 (pA false l) (pA true m)).lst.length], E 0])) (H := [(8, Bk.row true 60 5 (R40 (pA false l) (pA true m)).lst.length (rowL (R40 (pA false l) (pA true m)).lst))]) (by kernel_rfl) (.inr rfl) (by
          have q1 := hk
          simp only [R40] at h0'
          (try simp only [ha rfl] at h0' q1); (try simp only [hc rfl] at h0' q1)
          simp only [conj, and_true, true_and, l1, l2, c1, c2, hl.1, hm.1, pl, pm, e0, q1]
          omega) fun σ hσ => ?_
        rw [e1, e2] at hσ ⊢
        exact .inr ⟨by omega, 8, _, rfl, hσ (8, _) List.mem_cons_self, rfl⟩
    · cases c
      · refine goes_ret (ctx_ok tC5_ok 11) mixed rfl (orc := way [(8, 1)]) (stops := []) (f := 3000) (k := [.code (bodyOf Try.f40)]) (o := .norm) (σ := (kn (argS 0 [inS true 1000 l, inS false 1001 m]) (inH 60 true 1000 l (inH 60 false 1001 m [])))) (cs := [True, True, True, True, (True ∧ ((60 : TypeId) = (60 : TypeId) ∧ List.length m = List.length m ∧ List.length m < (4096 : Nat) ∧ Coi (rowL m) (List.length m)) ∧ IsP [] ∧ IsP (lst (rowL m) (List.length m)) ∧ Purse.fits (puL []) (puL (lst (rowL m) (List.length m)))) ∧ (0 : Nat) < List.length (Purse.lst (Purse.add (puL []) (puL (lst (rowL m) (List.length m))))), True, True, True, True]) (o' := .ret) (rs := Try.f40.results.toList) (v := (.tup [[.sl 8 5 0 (R40 (pA true l) (pA false m)).lst.length], E 0])) (H := [(8, Bk.row true 60 5 (R40 (pA true l) (pA false m)).lst.length (rowL (R40 (pA true l) (pA false m)).lst))]) (by kernel_rfl) (.inr rfl) (by
          have q1 := hk
          simp only [R40] at h0'
          (try simp only [ha rfl] at h0' q1); (try simp only [hc rfl] at h0' q1)
          simp only [conj, and_true, true_and, l1, l2, c1, c2, hl.1, hm.1, pl, pm, e0, q1]
          omega) fun σ hσ => ?_
        rw [e1, e2] at hσ ⊢
        exact .inr ⟨by omega, 8, _, rfl, hσ (8, _) List.mem_cons_self, rfl⟩
      · refine goes_ret (ctx_ok tC5_ok 11) mixed rfl (orc := way [(8, 1)]) (stops := []) (f := 3000) (k := [.code (bodyOf Try.f40)]) (o := .norm) (σ := (kn (argS 0 [inS true 1000 l, inS true 1001 m]) (inH 60 true 1000 l (inH 60 true 1001 m [])))) (cs := [True, True, True, True, (True ∧ True ∧ IsP [] ∧ IsP [] ∧ Purse.fits (puL []) (puL [])) ∧ (0 : Nat) < List.length (Purse.lst (Purse.add (puL []) (puL []))), True, True, True, True]) (o' := .ret) (rs := Try.f40.results.toList) (v := (.tup [[.sl 8 5 0 (R40 (pA true l) (pA true m)).lst.length], E 0])) (H := [(8, Bk.row true 60 5 (R40 (pA true l) (pA true m)).lst.length (rowL (R40 (pA true l) (pA true m)).lst))]) (by kernel_rfl) (.inr rfl) (by
          have q1 := hk
          simp only [R40] at h0'
          (try simp only [ha rfl] at h0' q1); (try simp only [hc rfl] at h0' q1)
          simp only [conj, and_true, true_and, l1, l2, c1, c2, hl.1, hm.1, pl, pm, e0, q1]
          omega) fun σ hσ => ?_
        rw [e1, e2] at hσ ⊢
        exact .inr ⟨by omega, 8, _, rfl, hσ (8, _) List.mem_cons_self, rfl⟩

theorem cb40 {w0 : Base} {l m : Cs} (hl : okC l) (hm : okC m) (pl : IsP l) (pm : IsP m) (hk : ¬ ((puL l).fits (puL m))) {a c : Bool} (ha : a = true → l = []) (hc : c = true → m = []) :
    Goes Try.prog Try.f40.ntmps w0 [.code (bodyOf Try.f40)] .norm (kn (argS 0 [inS a 1000 l, inS c 1001 m]) (inH 60 a 1000 l (inH 60 c 1001 m []))) (Fin (ctx tC5 11) Try.f40.results.toList (LFin [] (some (E n40)))) := by
  have c1 : Coi (rowL l) l.length := Coi_rowL hl.2
  have c2 : Coi (rowL m) m.length := Coi_rowL hm.2
  have l1 := lst_rowL l
  have l2 := lst_rowL m
  have e0 := IsP_nil
  cases a
  · cases c
    · exact goes_ret (ctx_ok tC5_ok 11) mixed rfl (orc := way [(8, 2)]) (stops := []) (f := 3000) (k := [.code (bodyOf Try.f40)]) (o := .norm) (σ := (kn (argS 0 [inS false 1000 l, inS false 1001 m]) (inH 60 false 1000 l (inH 60 false 1001 m [])))) (cs := [True, True, True, True, (((60 : TypeId) = (60 : TypeId) ∧ List.length l = List.length l ∧ List.length l < (4096 : Nat) ∧ Coi (rowL l) (List.length l)) ∧ ((60 : TypeId) = (60 : TypeId) ∧ List.length m = List.length m ∧ List.length m < (4096 : Nat) ∧ Coi (rowL m) (List.length m)) ∧ IsP (lst (rowL l) (List.length l)) ∧ IsP (lst (rowL m) (List.length m)) ∧ ¬Purse.fits (puL (lst (rowL l) (List.length l))) (puL (lst (rowL m) (List.length m)))) ∧ List.length ([] : Cs) = (0 : Nat), True, True, True, True]) (o' := .ret) (rs := Try.f40.results.toList) (v := (.tup [[.nil], E n40])) (H := ([] : List (Nat × Bk))) (by kernel_rfl) (.inr rfl) (by
        have q1 := hk
        (try simp only [ha rfl] at q1); (try simp only [hc rfl] at q1)
        simp only [conj, and_true, true_and, l1, l2, c1, c2, hl.1, hm.1, pl, pm, e0, q1, not_false_eq_true, List.length_nil]) fun _ _ => .inl ⟨rfl, rfl⟩
    · exact goes_ret (ctx_ok tC5_ok 11) mixed rfl (orc := way [(8, 2)]) (stops := []) (f := 3000) (k := [.code (bodyOf Try.f40)]) (o := .norm) (σ := (kn (argS 0 [inS false 1000 l, inS true 1001 m]) (inH 60 false 1000 l (inH 60 true 1001 m [])))) (cs := [True, True, True, True, (((60 : TypeId) = (60 : TypeId) ∧ List.length l = List.length l ∧ List.length l < (4096 : Nat) ∧ Coi (rowL l) (List.length l)) ∧ True ∧ IsP (lst (rowL l) (List.length l)) ∧ IsP [] ∧ ¬Purse.fits (puL (lst (rowL l) (List.length l))) (puL [])) ∧ List.length ([] : Cs) = (0 : Nat), True, True, True, True]) (o' := .ret) (rs := Try.f40.results.toList) (v := (.tup [[.nil], E n40])) (H := ([] : List (Nat × Bk))) (by kernel_rfl) (.inr rfl) (by
        have q1 := hk
        (try simp only [ha rfl] at q1); (try simp only [hc rfl] at q1)
        simp only [conj, and_true, true_and, l1, l2, c1, c2, hl.1, hm.1, pl, pm, e0, q1, not_false_eq_true, List.length_nil]) fun _ _ => .inl ⟨rfl, rfl⟩
  · cases c
    · exact goes_ret (ctx_ok tC5_ok 11) mixed rfl (orc := way [(8, 2)]) (stops := []) (f := 3000) (k := [.code (bodyOf Try.f40)]) (o := .norm) (σ := (kn (argS 0 [inS true 1000 l, inS false 1001 m]) (inH 60 true 1000 l (inH 60 false 1001 m [])))) (cs := [True, True, True, True, (True ∧ ((60 : TypeId) = (60 : TypeId) ∧ List.length m = List.length m ∧ List.length m < (4096 : Nat) ∧ Coi (rowL m) (List.length m)) ∧ IsP [] ∧ IsP (lst (rowL m) (List.length m)) ∧ ¬Purse.fits (puL []) (puL (lst (rowL m) (List.length m)))) ∧ List.length ([] : Cs) = (0 : Nat), True, True, True, True]) (o' := .ret) (rs := Try.f40.results.toList) (v := (.tup [[.nil], E n40])) (H := ([] : List (Nat × Bk))) (by kernel_rfl) (.inr rfl) (by
        have q1 := hk
        (try simp only [ha rfl] at q1); (try simp only [hc rfl] at q1)
        simp only [conj, and_true, true_and, l1, l2, c1, c2, hl.1, hm.1, pl, pm, e0, q1, not_false_eq_true, List.length_nil]) fun _ _ => .inl ⟨rfl, rfl⟩
    · exact goes_ret (ctx_ok tC5_ok 11) mixed rfl (orc := way [(8, 2)]) (stops := []) (f := 3000) (k := [.code (bodyOf Try.f40)]) (o := .norm) (σ := (kn (argS 0 [inS true 1000 l, inS true 1001 m]) (inH 60 true 1000 l (inH 60 true 1001 m [])))) (cs := [True, True, True, True, (True ∧ True ∧ IsP [] ∧ IsP [] ∧ ¬Purse.fits (puL []) (puL [])) ∧ List.length ([] : Cs) = (0 : Nat), True, True, True, True]) (o' := .ret) (rs := Try.f40.results.toList) (v := (.tup [[.nil], E n40])) (H := ([] : List (Nat × Bk))) (by kernel_rfl) (.inr rfl) (by
        have q1 := hk
        (try simp only [ha rfl] at q1); (try simp only [hc rfl] at q1)
        simp only [conj, and_true, true_and, l1, l2, c1, c2, hl.1, hm.1, pl, pm, e0, q1, not_false_eq_true, List.length_nil]) fun _ _ => .inl ⟨rfl, rfl⟩

theorem ce40 : EOK ⟨40, 1, lcon (k2l okA79)⟩ := by
  refine k2l_ok Try.func40 (c := bodyOf Try.f40) rfl (fun a w => Try.call40 a w) tC5_ok (Nat.le_of_ble_eq_true (by kernel_rfl)) fun l m hl hm p hp hc => ?_
  simp only [okA79, List.mem_cons, List.not_mem_nil, or_false] at hp
  rcases hp with rfl | rfl
  · exact ⟨⟨okP _, E_pl⟩, fun w0 b c hb hc' => cg40 hl hm hc.1 hc.2.1 hc.2.2 hb hc'⟩
  · exact ⟨⟨okC_nil, E_pl⟩, fun w0 b c hb hc' => cb40 hl hm hc.1 hc.2.1 hc.2.2 hb hc'⟩

theorem cg42 {w0 : Base} {l m : Cs} (hl : okC l) (hm : okC m) (pl : IsP l) (pm : IsP m) (hk : (puL m).le (puL l)) {a c : Bool} (ha : a = true → l = []) (hc : c = true → m = []) :
    Goes Try.prog Try.f42.ntmps w0 [.code (bodyOf Try.f42)] .norm (kn (argS 0 [inS a 1000 l, inS c 1001 m]) (inH 60 a 1000 l (inH 60 c 1001 m []))) (Fin (ctx tC5 11) Try.f42.results.toList (LFin (R42 (puL l) (puL m)).lst (some (E 0)))) := by
  have c1 : Coi (rowL l) l.length := Coi_rowL hl.2
  have c2 : Coi (rowL m) m.length := Coi_rowL hm.2
  have l1 := lst_rowL l
  have l2 := lst_rowL m
  have e0 := IsP_nil
  have e1 := pA_eq ha
  have e2 := pA_eq hc
  by_cases h0 : (R42 (puL l) (puL m)).lst.length = 0
  · have h0' := h0
    cases a
    · cases c
      · exact goes_ret (ctx_ok tC5_ok 11) mixed rfl (orc := way []) (stops := []) (f := 3000) (k := [.code (bodyOf Try.f42)]) (o := .norm) (σ := (kn (argS 0 [inS false 1000 l, inS false 1001 m]) (inH 60 false 1000 l (inH 60 false 1001 m [])))) (cs := [True, True, True, True, (((60 : TypeId) = (60 : TypeId) ∧ List.length l = List.length l ∧ List.length l < (4096 : Nat) ∧ Coi (rowL l) (List.length l)) ∧ ((60 : TypeId) = (60 : TypeId) ∧ List.length m = List.length m ∧ List.length m < (4096 : Nat) ∧ Coi (rowL m) (List.length m)) ∧ IsP (lst (rowL l) (List.length l)) ∧ IsP (lst (rowL m) (List.length m)) ∧ Purse.le (puL (lst (rowL m) (List.length m))) (puL (lst (rowL l) (List.length l)))) ∧ List.length (Purse.lst (Purse.sub (puL (lst (rowL l) (List.length l))) (puL (lst (rowL m) (List.length m))))) = (0 : Nat), True, True, True, True]) (o' := .ret) (rs := Try.f42.results.toList) (v := (.tup [[.nil], E 0])) (H := ([] : List (Nat × Bk))) (by kernel_rfl) (.inr rfl) (by
          have q1 := hk
          simp only [R42] at h0'
          (try simp only [ha rfl] at h0' q1); (try simp only [hc rfl] at h0' q1)
          simp only [conj, and_true, true_and, l1, l2, c1, c2, hl.1, hm.1, pl, pm, e0, q1]
          exact h0') fun _ _ => .inl ⟨h0, rfl⟩
      · exact goes_ret (ctx_ok tC5_ok 11) mixed rfl (orc := way []) (stops := []) (f := 3000) (k := [.code (bodyOf Try.f42)]) (o := .norm) (σ := (kn (argS 0 [inS false 1000 l, inS true 1001 m]) (inH 60 false 1000 l (inH 60 true 1001 m [])))) (cs := [True, True, True, True, (((60 : TypeId) = (60 : TypeId) ∧ List.length l = List.length l ∧ List.length l < (4096 : Nat) ∧ Coi (rowL l) (List.length l)) ∧ True ∧ IsP (lst (rowL l) (List.length l)) ∧ IsP [] ∧ Purse.le (puL []) (puL (lst (rowL l) (List.length l)))) ∧ List.length (Purse.lst (Purse.sub (puL (lst (rowL l) (List.length l))) (puL []))) = (0 : Nat), True, True, True, True]) (o' := .ret) (rs := Try.f42.results.toList) (v := (.tup [[.nil], E 0])) (H := ([] : List (Nat × Bk))) (by kernel_rfl) (.inr rfl) (by
          have q1 := hk
          simp only [R42] at h0'
          (try simp only [ha rfl] at h0' q1); (try simp only [hc rfl] at h0' q1)
          simp only [conj, and_true, true_and, l1, l2, c1, c2, hl.1, hm.1, pl, pm, e0, q1]
          exact h0') fun _ _ => .inl ⟨h0, rfl⟩
    · cases c
      · exact goes_ret (ctx_ok tC5_ok 11) mixed rfl (orc := way []) (stops := []) (f := 3000) (k := [.code (bodyOf Try.f42)]) (o := .norm) (σ := (kn (argS 0 [inS true 1000 l, inS false 1001 m]) (inH 60 true 1000 l (inH 60 false 1001 m [])))) (cs := [True, True, True, True, (True ∧ ((60 : TypeId) = (60 : TypeId) ∧ List.length m = List.length m ∧ List.length m < (4096 : Nat) ∧ Coi (rowL m) (List.length m)) ∧ IsP [] ∧ IsP (lst (rowL m) (List.length m)) ∧ Purse.le (puL (lst (rowL m) (List.length m))) (puL [])) ∧ List.length (Purse.lst (Purse.sub (puL []) (puL (lst (rowL m) (List.length m))))) = (0 : Nat), True, True, True, True]) (o' := .ret) (rs := Try.f42.results.toList) (v := (.tup [[.nil], E 0])) (H := ([] : List (Nat × Bk))) (by kernel_rfl) (.inr rfl) (by
          have q1 := hk
          simp only [R42] at h0'
          (try simp only [ha rfl] at h0' q1); (try simp only [hc rfl] at h0' q1)
          simp only [conj, and_true, true_and, l1, l2, c1, c2, hl.1, hm.1, pl, pm, e0, q1]
          exact h0') fun _ _ => .inl ⟨h0, rfl⟩
      · exact goes_ret (ctx_ok tC5_ok 11) mixed rfl (orc := way []) (stops := []) (f := 3000) (k := [.code (bodyOf Try.f42)]) (o := .norm) (σ := (kn (argS 0 [inS true 1000 l, inS true 1001 m]) (inH 60 true 1000 l (inH 60 true 1001 m [])))) (cs := [True, True, True, True, (True ∧ True ∧ IsP [] ∧ IsP [] ∧ Purse.le (puL []) (puL [])) ∧ List.length (Purse.lst (Purse.sub (puL []) (puL []))) = (0 : Nat), True, True, True, True]) (o' := .ret) (rs := Try.f42.results.toList) (v := (.tup [[.nil], E 0])) (H := ([] : List (Nat × Bk))) (by kernel_rfl) (.inr rfl) (by
          have q1 := hk
          simp only [R42] at h0'
          (try simp only [ha rfl] at h0' q1); (try simp only [hc rfl] at h0' q1)
          simp only [conj, and_true, true_and, l1, l2, c1, c2, hl.1, hm.1, pl, pm, e0, q1]
          exact h0') fun _ _ => .inl ⟨h0, rfl⟩
  · have h0' := h0
    cases a
    · cases c
      · refine goes_ret (ctx_ok tC5_ok 11) mixed rfl (orc := way [(8, 1)]) (stops := []) (f := 3000) (k := [.code (bodyOf Try.f42)]) (o := .norm) (σ := (kn (argS 0 [inS false 1000 l, inS false 1001 m]) (inH 60 false 1000 l (inH 60 false 1001 m [])))) (cs := [True, True, True, True, (((60 : TypeId) = (60 : TypeId) ∧ List.length l = List.length l ∧ List.length l < (4096 : Nat) ∧ Coi (rowL l) (List.length l)) ∧ ((60 : TypeId) = (60 : TypeId) ∧ List.length m = List.length m ∧ List.length m < (4096 : Nat) ∧ Coi (rowL m) (List.length m)) ∧ IsP (lst (rowL l) (List.length l)) ∧ IsP (lst (rowL m) (List.length m)) ∧ Purse.le (puL (lst (rowL m) (List.length m))) (puL (lst (rowL l) (List.length l)))) ∧ (0 : Nat) < List.length (Purse.lst (Purse.sub (puL (lst (rowL l) (List.length l))) (puL (lst (rowL m) (List.length m))))), True, True, True, True]) (o' := .ret) (rs := Try.f42.results.toList) (v := (.tup [[.sl 8 5 0 (R42 (pA false l) (pA false m)).lst.length], E 0])) (H := [(8, Bk.row true 60 5 (R42 (pA false l) (pA false m)).lst.length (rowL (R42 (pA false l) (pA false m)).lst))]) (by kernel_rfl) (.inr rfl) (by
          have q1 := hk
          simp only [R42] at h0'
          (try simp only [ha rfl] at h0' q1); (try simp only [hc rfl] at h0' q1)
          simp only [conj, and_true, true_and, l1, l2, c1, c2, hl.1, hm.1, pl, pm, e0, q1]
          omega) fun σ hσ => ?_
        rw [e1, e2] at hσ ⊢
        exact .inr ⟨by omega, 8, _, rfl, hσ (8, _) List.mem_cons_self, rfl⟩
      · refine goes_ret (ctx_ok tC5_ok 11) mixed rfl (orc := way [(8, 1)]) (stops := []) (f := 3000) (k := [.code (bodyOf Try.f42)]) (o := .norm) (σ := (kn (argS 0 [inS false 1000 l, inS true 1001 m]) (inH 60 false 1000 l (inH 60 true 1001 m [])))) (cs := [True, True, True, True, (((60 : TypeId) = (60 : TypeId) ∧ List.length l = List.length l ∧ List.length l < (4096 : Nat) ∧ Coi (rowL l) (List.length l)) ∧ True ∧ IsP (lst (rowL l) (List.length l)) ∧ IsP [] ∧ Purse.le (puL []) (puL (lst (rowL l) (List.length l)))) ∧ (0 : Nat) < List.length (Purse.lst (Purse.sub (puL (lst (rowL l) (List.length l))) (puL []))), True, True, True, True]) (o' := .ret) (rs := Try.f42.results.toList) (v := (.tup [[.sl 8 5 0 (R42 (pA false l) (pA true m)).lst.length], E 0])) (H := [(8, Bk.row true 60 5 (R42 (pA false l) (pA true m)).lst.length (rowL (R42 (pA false l) (pA true m)).lst))]) (by kernel_rfl) (.inr rfl) (by
          have q1 := hk
          simp only [R42] at h0'
          (try simp only [ha rfl] at h0' q1); (try simp only [hc rfl] at h0' q1)
          simp only [conj, and_true, true_and, l1, l2, c1, c2, hl.1, hm.1, pl, pm, e0, q1]
          omega) fun σ hσ => ?_
        rw [e1, e2] at hσ ⊢
        exact .inr ⟨by omega, 8, _, rfl, hσ (8, _) List.mem_cons_self, rfl⟩
    · cases c
      · refine goes_ret (ctx_ok tC5_ok 11) mixed rfl (orc := way [(8, 1)]) (stops := []) (f := 3000) (k := [.code (bodyOf Try.f42)]) (o := .norm) (σ := (kn (argS 0 [inS true 1000 l, inS false 1001 m]) (inH 60 true 1000 l (inH 60 false 1001 m [])))) (cs := [True, True, True, True, (True ∧ ((60 : TypeId) = (60 : TypeId) ∧ List.length m = List.length m ∧ List.length m < (4096 : Nat) ∧ Coi (rowL m) (List.length m)) ∧ IsP [] ∧ IsP (lst (rowL m) (List.length m)) ∧ Purse.le (puL (lst (rowL m) (List.length m))) (puL [])) ∧ (0 : Nat) < List.length (Purse.lst (Purse.sub (puL []) (puL (lst (rowL m) (List.length m))))), True, True, True, True]) (o' := .ret) (rs := Try.f42.results.toList) (v := (.tup [[.sl 8 5 0 (R42 (pA true l) (pA false m)).lst.length], E 0])) (H := [(8, Bk.row true 60 5 (R42 (pA true l) (pA false m)).lst.length (rowL (R42 (pA true l) (pA false m)).lst))]) (by kernel_rfl) (.inr rfl) (by
          have q1 := hk
          simp only [R42] at h0'
          (try simp only [ha rfl] at h0' q1); (try simp only [hc rfl] at h0' q1)
          simp only [conj, and_true, true_and, l1, l2, c1, c2, hl.1, hm.1, pl, pm, e0, q1]
          omega) fun σ hσ => ?_
        rw [e1, e2] at hσ ⊢
        exact .inr ⟨by omega, 8, _, rfl, hσ (8, _) List.mem_cons_self, rfl⟩
      · refine goes_ret (ctx_ok tC5_ok 11) mixed rfl (orc := way [(8, 1)]) (stops := []) (f := 3000) (k := [.code (bodyOf Try.f42)]) (o := .norm) (σ := (kn (argS 0 [inS true 1000 l, inS true 1001 m]) (inH 60 true 1000 l (inH 60 true 1001 m [])))) (cs := [True, True, True, True, (True ∧ True ∧ IsP [] ∧ IsP [] ∧ Purse.le (puL []) (puL [])) ∧ (0 : Nat) < List.length (Purse.lst (Purse.sub (puL []) (puL []))), True, True, True, True]) (o' := .ret) (rs := Try.f42.results.toList) (v := (.tup [[.sl 8 5 0 (R42 (pA true l) (pA true m)).lst.length], E 0])) (H := [(8, Bk.row true 60 5 (R42 (pA true l) (pA true m)).lst.length (rowL (R42 (pA true l) (pA true m)).lst))]) (by kernel_rfl) (.inr rfl) (by
          have q1 := hk
          simp only [R42] at h0'
          (try simp only [ha rfl] at h0' q1); (try simp only [hc rfl] at h0' q1)
          simp only [conj, and_true, true_and, l1, l2, c1, c2, hl.1, hm.1, pl, pm, e0, q1]
          omega) fun σ hσ => ?_
        rw [e1, e2] at hσ ⊢
        exact .inr ⟨by omega, 8, _, rfl, hσ (8, _) List.mem_cons_self, rfl⟩

theorem cb42 {w0 : Base} {l m : Cs} (hl : okC l) (hm : okC m) (pl : IsP l) (pm : IsP m) (hk : ¬ ((puL m).le (puL l))) {a c : Bool} (ha : a = true → l = []) (hc : c = true → m = []) :
    Goes Try.prog Try.f42.ntmps w0 [.code (bodyOf Try.f42)] .norm (kn (argS 0 [inS a 1000 l, inS c 1001 m]) (inH 60 a 1000 l (inH 60 c 1001 m []))) (Fin (ctx tC5 11) Try.f42.results.toList (LFin [] (some (E n42)))) := by
  have c1 : Coi (rowL l) l.length := Coi_rowL hl.2
  have c2 : Coi (rowL m) m.length := Coi_rowL hm.2
  have l1 := lst_rowL l
  have l2 := lst_rowL m
  have e0 := IsP_nil
  cases a
  · cases c
    · exact goes_ret (ctx_ok tC5_ok 11) mixed rfl (orc := way [(8, 2)]) (stops := []) (f := 3000) (k := [.code (bodyOf Try.f42)]) (o := .norm) (σ := (kn (argS 0 [inS false 1000 l, inS false 1001 m]) (inH 60 false 1000 l (inH 60 false 1001 m [])))) (cs := [True, True, True, True, (((60 : TypeId) = (60 : TypeId) ∧ List.length l = List.length l ∧ List.length l < (4096 : Nat) ∧ Coi (rowL l) (List.length l)) ∧ ((60 : TypeId) = (60 : TypeId) ∧ List.length m = List.length m ∧ List.length m < (4096 : Nat) ∧ Coi (rowL m) (List.length m)) ∧ IsP (lst (rowL l) (List.length l)) ∧ IsP (lst (rowL m) (List.length m)) ∧ ¬Purse.le (puL (lst (rowL m) (List.length m))) (puL (lst (rowL l) (List.length l)))) ∧ List.length ([] : Cs) = (0 : Nat), True, True, True, True]) (o' := .ret) (rs := Try.f42.results.toList) (v := (.tup [[.nil], E n42])) (H := ([] : List (Nat × Bk))) (by kernel_rfl) (.inr rfl) (by
        have q1 := hk
        (try simp only [ha rfl] at q1); (try simp only [hc rfl] at q1)
        simp only [conj, and_true, true_and, l1, l2, c1, c2, hl.1, hm.1, pl, pm, e0, q1, not_false_eq_true, List.length_nil]) fun _ _ => .inl ⟨rfl, rfl⟩
    · exact goes_ret (ctx_ok tC5_ok 11) mixed rfl (orc := way [(8, 2)]) (stops := []) (f := 3000) (k := [.code (bodyOf Try.f42)]) (o := .norm) (σ := (kn (argS 0 [inS false 1000 l, inS true 1001 m]) (inH 60 false 1000 l (inH 60 true 1001 m [])))) (cs := [True, True, True, True, (((60 : TypeId) = (60 : TypeId) ∧ List.length l = List.length l ∧ List.length l < (4096 : Nat) ∧ Coi (rowL l) (List.length l)) ∧ True ∧ IsP (lst (rowL l) (List.length l)) ∧ IsP [] ∧ ¬Purse.le (puL []) (puL (lst (rowL l) (List.length l)))) ∧ List.length ([] : Cs) = (0 : Nat), True, True, True, True]) (o' := .ret) (rs := Try.f42.results.toList) (v := (.tup [[.nil], E n42])) (H := ([] : List (Nat × Bk))) (by kernel_rfl) (.inr rfl) (by
        have q1 := hk
        (try simp only [ha rfl] at q1); (try simp only [hc rfl] at q1)
        simp only [conj, and_true, true_and, l1, l2, c1, c2, hl.1, hm.1, pl, pm, e0, q1, not_false_eq_true, List.length_nil]) fun _ _ => .inl ⟨rfl, rfl⟩
  · cases c
    · exact goes_ret (ctx_ok tC5_ok 11) mixed rfl (orc := way [(8, 2)]) (stops := []) (f := 3000) (k := [.code (bodyOf Try.f42)]) (o := .norm) (σ := (kn (argS 0 [inS true 1000 l, inS false 1001 m]) (inH 60 true 1000 l (inH 60 false 1001 m [])))) (cs := [True, True, True, True, (True ∧ ((60 : TypeId) = (60 : TypeId) ∧ List.length m = List.length m ∧ List.length m < (4096 : Nat) ∧ Coi (rowL m) (List.length m)) ∧ IsP [] ∧ IsP (lst (rowL m) (List.length m)) ∧ ¬Purse.le (puL (lst (rowL m) (List.length m))) (puL [])) ∧ List.length ([] : Cs) = (0 : Nat), True, True, True, True]) (o' := .ret) (rs := Try.f42.results.toList) (v := (.tup [[.nil], E n42])) (H := ([] : List (Nat × Bk))) (by kernel_rfl) (.inr rfl) (by
        have q1 := hk
        (try simp only [ha rfl] at q1); (try simp only [hc rfl] at q1)
        simp only [conj, and_true, true_and, l1, l2, c1, c2, hl.1, hm.1, pl, pm, e0, q1, not_false_eq_true, List.length_nil]) fun _ _ => .inl ⟨rfl, rfl⟩
    · exact goes_ret (ctx_ok tC5_ok 11) mixed rfl (orc := way [(8, 2)]) (stops := []) (f := 3000) (k := [.code (bodyOf Try.f42)]) (o := .norm) (σ := (kn (argS 0 [inS true 1000 l, inS true 1001 m]) (inH 60 true 1000 l (inH 60 true 1001 m [])))) (cs := [True, True, True, True, (True ∧ True ∧ IsP [] ∧ IsP [] ∧ ¬Purse.le (puL []) (puL [])) ∧ List.length ([] : Cs) = (0 : Nat), True, True, True, True]) (o' := .ret) (rs := Try.f42.results.toList) (v := (.tup [[.nil], E n42])) (H := ([] : List (Nat × Bk))) (by kernel_rfl) (.inr rfl) (by
        have q1 := hk
        (try simp only [ha rfl] at q1); (try simp only [hc rfl] at q1)
        simp only [conj, and_true, true_and, l1, l2, c1, c2, hl.1, hm.1, pl, pm, e0, q1, not_false_eq_true, List.length_nil]) fun _ _ => .inl ⟨rfl, rfl⟩

theorem ce42 : EOK ⟨42, 1, lcon (k2l okA80)⟩ := by
  refine k2l_ok Try.func42 (c := bodyOf Try.f42) rfl (fun a w => Try.call42 a w) tC5_ok (Nat.le_of_ble_eq_true (by kernel_rfl)) fun l m hl hm p hp hc => ?_
  simp only [okA80, List.mem_cons, List.not_mem_nil, or_false] at hp
  rcases hp with rfl | rfl
  · exact ⟨⟨okP _, E_pl⟩, fun w0 b c hb hc' => cg42 hl hm hc.1 hc.2.1 hc.2.2 hb hc'⟩
  · exact ⟨⟨okC_nil, E_pl⟩, fun w0 b c hb hc' => cb42 hl hm hc.1 hc.2.1 hc.2.2 hb hc'⟩

theorem tC6_ok : TabOK tC6 := .cons rest_ce (.cons least_ce (.cons ce40 (.cons ce42 (.cons rrest_ce (.cons rleast_ce (.cons rwithin_e (.cons radd_ce tC5_ok)))))))

/-! ## Within -/

theorem sub_le {p q : Purse} : (p.sub q).lst.length = 0 ↔ p.le q := by
  have h := Purse.len0 (p := p.sub q)
  unfold Purse.len at h
  rw [h]
  constructor
  · intro h d
    have := h d
    rw [Purse.sub_f] at this
    omega
  · intro h d
    have := h d
    rw [Purse.sub_f]
    omega

theorem within_goes {w0 : Base} {l m : Cs} (hl : okC l) (hm : okC m) (pl : IsP l) (pm : IsP m) {a c : Bool} (ha : a = true → l = []) (hc : c = true → m = []) :
    Goes Try.prog Try.f44.ntmps w0 [.code (bodyOf Try.f44)] .norm (kn (argS 0 [inS a 1000 l, inS c 1001 m]) (inH 60 a 1000 l (inH 60 c 1001 m []))) (Fin (ctx tC6 10) Try.f44.results.toList fun v _ => ∃ r, v = .one (B r) ∧ (r = true ↔ (puL l).le (puL m))) := by
  have c1 : Coi (rowL l) l.length := Coi_rowL hl.2
  have c2 : Coi (rowL m) m.length := Coi_rowL hm.2
  have l1 := lst_rowL l
  have l2 := lst_rowL m
  have e0 := IsP_nil
  by_cases h0 : ((puL l).sub (puL m)).lst.length = 0
  · have h0' := h0
    cases a
    · cases c
      · exact goes_ret (ctx_ok tC6_ok 10) mixed rfl (orc := way []) (stops := []) (f := 3000) (k := [.code (bodyOf Try.f44)]) (o := .norm) (σ := (kn (argS 0 [inS false 1000 l, inS false 1001 m]) (inH 60 false 1000 l (inH 60 false 1001 m [])))) (cs := [True, True, True, (((60 : TypeId) = (60 : TypeId) ∧ List.length l = List.length l ∧ List.length l < (4096 : Nat) ∧ Coi (rowL l) (List.length l)) ∧ ((60 : TypeId) = (60 : TypeId) ∧ List.length m = List.length m ∧ List.length m < (4096 : Nat) ∧ Coi (rowL m) (List.length m)) ∧ IsP (lst (rowL l) (List.length l)) ∧ IsP (lst (rowL m) (List.length m))) ∧ List.length (Purse.lst (Purse.sub (puL (lst (rowL l) (List.length l))) (puL (lst (rowL m) (List.length m))))) = (0 : Nat), True, True, True]) (o' := .ret) (rs := Try.f44.results.toList) (v := (.one (B true))) (H := ([] : List (Nat × Bk))) (by kernel_rfl) (.inr rfl) (by
          (try simp only [ha rfl] at h0'); (try simp only [hc rfl] at h0')
          simp only [conj, and_true, true_and, l1, l2, c1, c2, hl.1, hm.1, pl, pm, e0]
          exact h0') fun _ _ => ⟨true, rfl, fun _ => sub_le.1 h0, fun _ => rfl⟩
      · exact goes_ret (ctx_ok tC6_ok 10) mixed rfl (orc := way []) (stops := []) (f := 3000) (k := [.code (bodyOf Try.f44)]) (o := .norm) (σ := (kn (argS 0 [inS false 1000 l, inS true 1001 m]) (inH 60 false 1000 l (inH 60 true 1001 m [])))) (cs := [True, True, True, (((60 : TypeId) = (60 : TypeId) ∧ List.length l = List.length l ∧ List.length l < (4096 : Nat) ∧ Coi (rowL l) (List.length l)) ∧ True ∧ IsP (lst (rowL l) (List.length l)) ∧ IsP []) ∧ List.length (Purse.lst (Purse.sub (puL (lst (rowL l) (List.length l))) (puL []))) = (0 : Nat), True, True, True]) (o' := .ret) (rs := Try.f44.results.toList) (v := (.one (B true))) (H := ([] : List (Nat × Bk))) (by kernel_rfl) (.inr rfl) (by
          (try simp only [ha rfl] at h0'); (try simp only [hc rfl] at h0')
          simp only [conj, and_true, true_and, l1, l2, c1, c2, hl.1, hm.1, pl, pm, e0]
          exact h0') fun _ _ => ⟨true, rfl, fun _ => sub_le.1 h0, fun _ => rfl⟩
    · cases c
      · exact goes_ret (ctx_ok tC6_ok 10) mixed rfl (orc := way []) (stops := []) (f := 3000) (k := [.code (bodyOf Try.f44)]) (o := .norm) (σ := (kn (argS 0 [inS true 1000 l, inS false 1001 m]) (inH 60 true 1000 l (inH 60 false 1001 m [])))) (cs := [True, True, True, (True ∧ ((60 : TypeId) = (60 : TypeId) ∧ List.length m = List.length m ∧ List.length m < (4096 : Nat) ∧ Coi (rowL m) (List.length m)) ∧ IsP [] ∧ IsP (lst (rowL m) (List.length m))) ∧ List.length (Purse.lst (Purse.sub (puL []) (puL (lst (rowL m) (List.length m))))) = (0 : Nat), True, True, True]) (o' := .ret) (rs := Try.f44.results.toList) (v := (.one (B true))) (H := ([] : List (Nat × Bk))) (by kernel_rfl) (.inr rfl) (by
          (try simp only [ha rfl] at h0'); (try simp only [hc rfl] at h0')
          simp only [conj, and_true, true_and, l1, l2, c1, c2, hl.1, hm.1, pl, pm, e0]
          exact h0') fun _ _ => ⟨true, rfl, fun _ => sub_le.1 h0, fun _ => rfl⟩
      · exact goes_ret (ctx_ok tC6_ok 10) mixed rfl (orc := way []) (stops := []) (f := 3000) (k := [.code (bodyOf Try.f44)]) (o := .norm) (σ := (kn (argS 0 [inS true 1000 l, inS true 1001 m]) (inH 60 true 1000 l (inH 60 true 1001 m [])))) (cs := [True, True, True, (True ∧ True ∧ IsP [] ∧ IsP []) ∧ List.length (Purse.lst (Purse.sub (puL []) (puL []))) = (0 : Nat), True, True, True]) (o' := .ret) (rs := Try.f44.results.toList) (v := (.one (B true))) (H := ([] : List (Nat × Bk))) (by kernel_rfl) (.inr rfl) (by
          (try simp only [ha rfl] at h0'); (try simp only [hc rfl] at h0')
          simp only [conj, and_true, true_and, l1, l2, c1, c2, hl.1, hm.1, pl, pm, e0]
          exact h0') fun _ _ => ⟨true, rfl, fun _ => sub_le.1 h0, fun _ => rfl⟩
  · have h0' := h0
    cases a
    · cases c
      · exact goes_ret (ctx_ok tC6_ok 10) mixed rfl (orc := way [(7, 1), (9, 1)]) (stops := []) (f := 3000) (k := [.code (bodyOf Try.f44)]) (o := .norm) (σ := (kn (argS 0 [inS false 1000 l, inS false 1001 m]) (inH 60 false 1000 l (inH 60 false 1001 m [])))) (cs := [True, True, True, (((60 : TypeId) = (60 : TypeId) ∧ List.length l = List.length l ∧ List.length l < (4096 : Nat) ∧ Coi (rowL l) (List.length l)) ∧ ((60 : TypeId) = (60 : TypeId) ∧ List.length m = List.length m ∧ List.length m < (4096 : Nat) ∧ Coi (rowL m) (List.length m)) ∧ IsP (lst (rowL l) (List.length l)) ∧ IsP (lst (rowL m) (List.length m))) ∧ (0 : Nat) < List.length (Purse.lst (Purse.sub (puL (lst (rowL l) (List.length l))) (puL (lst (rowL m) (List.length m))))), True, ¬(↑(List.length (Purse.lst (Purse.sub (puL (lst (rowL l) (List.length l))) (puL (lst (rowL m) (List.length m)))))) : Int) = (0 : Int), True]) (o' := .ret) (rs := Try.f44.results.toList) (v := (.one (B false))) (H := ([] : List (Nat × Bk))) (by kernel_rfl) (.inr rfl) (by
          (try simp only [ha rfl] at h0'); (try simp only [hc rfl] at h0')
          simp only [conj, and_true, true_and, l1, l2, c1, c2, hl.1, hm.1, pl, pm, e0]
          omega) fun _ _ => ⟨false, rfl, (fun h => by cases h), fun h => absurd (sub_le.2 h) h0⟩
      · exact goes_ret (ctx_ok tC6_ok 10) mixed rfl (orc := way [(7, 1), (9, 1)]) (stops := []) (f := 3000) (k := [.code (bodyOf Try.f44)]) (o := .norm) (σ := (kn (argS 0 [inS false 1000 l, inS true 1001 m]) (inH 60 false 1000 l (inH 60 true 1001 m [])))) (cs := [True, True, True, (((60 : TypeId) = (60 : TypeId) ∧ List.length l = List.length l ∧ List.length l < (4096 : Nat) ∧ Coi (rowL l) (List.length l)) ∧ True ∧ IsP (lst (rowL l) (List.length l)) ∧ IsP []) ∧ (0 : Nat) < List.length (Purse.lst (Purse.sub (puL (lst (rowL l) (List.length l))) (puL []))), True, ¬(↑(List.length (Purse.lst (Purse.sub (puL (lst (rowL l) (List.length l))) (puL [])))) : Int) = (0 : Int), True]) (o' := .ret) (rs := Try.f44.results.toList) (v := (.one (B false))) (H := ([] : List (Nat × Bk))) (by kernel_rfl) (.inr rfl) (by
          (try simp only [ha rfl] at h0'); (try simp only [hc rfl] at h0')
          simp only [conj, and_true, true_and, l1, l2, c1, c2, hl.1, hm.1, pl, pm, e0]
          omega) fun _ _ => ⟨false, rfl, (fun h => by cases h), fun h => absurd (sub_le.2 h) h0⟩
    · cases c
      · exact goes_ret (ctx_ok tC6_ok 10) mixed rfl (orc := way [(7, 1), (9, 1)]) (stops := []) (f := 3000) (k := [.code (bodyOf Try.f44)]) (o := .norm) (σ := (kn (argS 0 [inS true 1000 l, inS false 1001 m]) (inH 60 true 1000 l (inH 60 false 1001 m [])))) (cs := [True, True, True, (True ∧ ((60 : TypeId) = (60 : TypeId) ∧ List.length m = List.length m ∧ List.length m < (4096 : Nat) ∧ Coi (rowL m) (List.length m)) ∧ IsP [] ∧ IsP (lst (rowL m) (List.length m))) ∧ (0 : Nat) < List.length (Purse.lst (Purse.sub (puL []) (puL (lst (rowL m) (List.length m))))), True, ¬(↑(List.length (Purse.lst (Purse.sub (puL []) (puL (lst (rowL m) (List.length m)))))) : Int) = (0 : Int), True]) (o' := .ret) (rs := Try.f44.results.toList) (v := (.one (B false))) (H := ([] : List (Nat × Bk))) (by kernel_rfl) (.inr rfl) (by
          (try simp only [ha rfl] at h0'); (try simp only [hc rfl] at h0')
          simp only [conj, and_true, true_and, l1, l2, c1, c2, hl.1, hm.1, pl, pm, e0]
          omega) fun _ _ => ⟨false, rfl, (fun h => by cases h), fun h => absurd (sub_le.2 h) h0⟩
      · exact goes_ret (ctx_ok tC6_ok 10) mixed rfl (orc := way [(7, 1), (9, 1)]) (stops := []) (f := 3000) (k := [.code (bodyOf Try.f44)]) (o := .norm) (σ := (kn (argS 0 [inS true 1000 l, inS true 1001 m]) (inH 60 true 1000 l (inH 60 true 1001 m [])))) (cs := [True, True, True, (True ∧ True ∧ IsP [] ∧ IsP []) ∧ (0 : Nat) < List.length (Purse.lst (Purse.sub (puL []) (puL []))), True, ¬(↑(List.length (Purse.lst (Purse.sub (puL []) (puL [])))) : Int) = (0 : Int), True]) (o' := .ret) (rs := Try.f44.results.toList) (v := (.one (B false))) (H := ([] : List (Nat × Bk))) (by kernel_rfl) (.inr rfl) (by
          (try simp only [ha rfl] at h0'); (try simp only [hc rfl] at h0')
          simp only [conj, and_true, true_and, l1, l2, c1, c2, hl.1, hm.1, pl, pm, e0]
          omega) fun _ _ => ⟨false, rfl, (fun h => by cases h), fun h => absurd (sub_le.2 h) h0⟩

theorem within_e : EOK ⟨44, 1, dcon (k2c withL)⟩ := by
  refine k2c_ok Try.func44 (c := bodyOf Try.f44) rfl (fun a w => Try.call44 a w) tC6_ok (Nat.le_of_ble_eq_true (by kernel_rfl)) fun l m hl hm p hp hc => ?_
  simp only [withL, List.mem_cons, List.not_mem_nil, or_false] at hp
  rcases hp with rfl | rfl
  all_goals
    refine ⟨oneP (B_plain _), fun w0 b c hb hc' => (within_goes hl hm hc.1 hc.2.1 hb hc').mono fun k o σ hf => Fin.mono ?_ hf⟩
    rintro v _ ⟨r, rfl, hr⟩
  · rw [hr.2 hc.2.2]
  · cases r
    · rfl
    · exact absurd (hr.1 rfl) hc.2.2
theorem tC7_ok : TabOK tC7 := .cons within_e tC6_ok

end M
end Go.Proofs.Ytmjdmhelmgcanaa

/- little: the document's example; the laws of coins, as calls. -/
namespace Go.Proofs.Ytmjdmhelmgcanaa
namespace M
open Go.RowKit
set_option linter.unusedSimpArgs false
set_option linter.unusedVariables false

def liK0 : List (Prop × Sv) := [(True, .one (B true))]
def tC8 : List Entry := ⟨31, 1, pcon (k0 liK0)⟩ :: tC7

def P1 : Purse := Purse.mk' fun d => if d = 0 then 5 else if d = 2 then 1 else 0
def P2 : Purse := Purse.mk' fun d => if d = 0 then 7 else 0
theorem IsP_lst (p : Purse) : IsP p.lst := by unfold IsP; rw [puL_lst]
theorem lk1 : lst (getL [[.lit .u8 0, .big 4 5], [.lit .u8 2, .big 4 1]]) 2 = P1.lst := by kernel_rfl
theorem lk2 : lst (getL [[.lit .u8 0, .big 4 7]]) 1 = P2.lst := by kernel_rfl
theorem lk3 : lst (getL [[.lit .u8 0, .big 4 0]]) 1 = [(0, 0)] := by kernel_rfl
theorem lk4 : (P1.sub P2).lst = [(2, 1)] := by kernel_rfl
theorem lk5 : P1.lst = [(0, 5), (2, 1)] := by kernel_rfl
theorem ok_two {c d : Nat × Nat} (h1 : c.1 < 256 ∧ c.2 < TOP) (h2 : d.1 < 256 ∧ d.2 < TOP) : ∀ e ∈ [c, d], e.1 < 256 ∧ e.2 < TOP := fun e he => by
  simp only [List.mem_cons, List.not_mem_nil, or_false] at he
  rcases he with rfl | rfl
  · exact h1
  · exact h2
theorem lc1 : Coi (getL [[.lit .u8 0, .big 4 5], [.lit .u8 2, .big 4 1]]) 2 := ⟨by kernel_rfl, by rw [lk1]; exact P1.lst_ok⟩
theorem lc2 : Coi (getL [[.lit .u8 0, .big 4 7]]) 1 := ⟨by kernel_rfl, by rw [lk2]; exact P2.lst_ok⟩
theorem lc3 : Coi (getL [[.lit .u8 0, .big 4 0]]) 1 := ⟨by kernel_rfl, by
  rw [lk3]
  intro c hc
  simp only [List.mem_singleton] at hc
  subst hc
  exact ⟨by show 0 < 256; omega, top_pos⟩⟩
theorem Rgt_lst (p : Purse) : Rgt p.lst := by
  have key : ∀ k, k ≤ 8 → Rgt (nz p.f k) := by
    intro k hk
    induction k with
    | zero => exact Rgt_nil
    | succ k ih =>
      rw [nz]
      split
      · rw [List.append_nil]; exact ih (by omega)
      · rename_i h0
        intro i hi
        rw [List.length_append, List.length_singleton] at hi
        by_cases h : i < (nz p.f k).length
        · rw [getc_append h]
          obtain ⟨h1, h2, h3⟩ := ih (by omega) i h
          exact ⟨h1, h2, fun h0 => by rw [getc_append (by omega)]; exact h3 h0⟩
        · obtain rfl : i = (nz p.f k).length := by omega
          have e : getc (nz p.f k ++ [(k, p.f k)]) (nz p.f k).length = (k, p.f k) := by simp [getc]
          rw [e]
          refine ⟨by show k < 8; omega, h0, fun hp => ?_⟩
          rw [getc_append (by omega)]
          exact (nz_lt _ (getc_mem (by omega))).1
  exact key 8 (Nat.le_refl _)

theorem little_goes {w0 : Base} : Goes Try.prog Try.f31.ntmps w0 [.code (bodyOf Try.f31)] .norm (kn (argS 0 []) []) (Fin (ctx tC7 34) Try.f31.results.toList fun v _ => v = .one (B true)) := by
  have h1 := lk1
  have h2 := lk2
  have h3 := lk3
  have h4 := lk4
  have i1 := IsP_lst P1
  have i2 := IsP_lst P2
  have r1 := Rgt_lst P1
  have r3 : ¬ Rgt [(0, 0)] := fun h => (h 0 (by simp)).2.1 rfl
  exact goes_ret (ctx_ok tC7_ok 34) mixed rfl (orc := way [(12, 1), (31, 1)]) (stops := []) (f := 3000) (k := [.code (bodyOf Try.f31)]) (o := .norm) (σ := (kn (argS 0 []) [])) (cs := [True, True, True, True, True, True, True, True, True, True, True, (((60 : TypeId) = (60 : TypeId) ∧ (2 : Nat) = (2 : Nat) ∧ (2 : Nat) < (4096 : Nat) ∧ Coi (getL [[Av.lit IntKind.u8 (0 : Int), Av.big (4 : Nat) (5)], [Av.lit IntKind.u8 (2 : Int), Av.big (4 : Nat) (1)]]) (2 : Nat)) ∧ ((60 : TypeId) = (60 : TypeId) ∧ (1 : Nat) = (1 : Nat) ∧ (1 : Nat) < (4096 : Nat) ∧ Coi (getL [[Av.lit IntKind.u8 (0 : Int), Av.big (4 : Nat) (7)]]) (1 : Nat)) ∧ IsP (lst (getL [[Av.lit IntKind.u8 (0 : Int), Av.big (4 : Nat) (5)], [Av.lit IntKind.u8 (2 : Int), Av.big (4 : Nat) (1)]]) (2 : Nat)) ∧ IsP (lst (getL [[Av.lit IntKind.u8 (0 : Int), Av.big (4 : Nat) (7)]]) (1 : Nat))) ∧ (0 : Nat) < List.length (Purse.lst (Purse.sub (puL (lst (getL [[Av.lit IntKind.u8 (0 : Int), Av.big (4 : Nat) (5)], [Av.lit IntKind.u8 (2 : Int), Av.big (4 : Nat) (1)]]) (2 : Nat))) (puL (lst (getL [[Av.lit IntKind.u8 (0 : Int), Av.big (4 : Nat) (7)]]) (1 : Nat))))), True, True, True, (↑(List.length (Purse.lst (Purse.sub (puL (lst (getL [[Av.lit IntKind.u8 (0 : Int), Av.big (4 : Nat) (5)], [Av.lit IntKind.u8 (2 : Int), Av.big (4 : Nat) (1)]]) (2 : Nat))) (puL (lst (getL [[Av.lit IntKind.u8 (0 : Int), Av.big (4 : Nat) (7)]]) (1 : Nat)))))) : Int) = (1 : Int), True, True, (0 : Int) ≤ (0 : Int) ∧ (0 : Int) < (↑(List.length (Purse.lst (Purse.sub (puL (lst (getL [[Av.lit IntKind.u8 (0 : Int), Av.big (4 : Nat) (5)], [Av.lit IntKind.u8 (2 : Int), Av.big (4 : Nat) (1)]]) (2 : Nat))) (puL (lst (getL [[Av.lit IntKind.u8 (0 : Int), Av.big (4 : Nat) (7)]]) (1 : Nat)))))) : Int), addO (0 : Nat) (0) < List.length (Purse.lst (Purse.sub (puL (lst (getL [[Av.lit IntKind.u8 (0 : Int), Av.big (4 : Nat) (5)], [Av.lit IntKind.u8 (2 : Int), Av.big (4 : Nat) (1)]]) (2 : Nat))) (puL (lst (getL [[Av.lit IntKind.u8 (0 : Int), Av.big (4 : Nat) (7)]]) (1 : Nat))))), True, True, (↑(2) : Int) = (2 : Int) ∧ 1 - 0 = 1, True, True, True, ((60 : TypeId) = (60 : TypeId) ∧ (2 : Nat) = (2 : Nat) ∧ (2 : Nat) < (4096 : Nat) ∧ Coi (getL [[Av.lit IntKind.u8 (0 : Int), Av.big (4 : Nat) (5)], [Av.lit IntKind.u8 (2 : Int), Av.big (4 : Nat) (1)]]) (2 : Nat)) ∧ Rgt (lst (getL [[Av.lit IntKind.u8 (0 : Int), Av.big (4 : Nat) (5)], [Av.lit IntKind.u8 (2 : Int), Av.big (4 : Nat) (1)]]) (2 : Nat)), True, True, True, True, ((60 : TypeId) = (60 : TypeId) ∧ (1 : Nat) = (1 : Nat) ∧ (1 : Nat) < (4096 : Nat) ∧ Coi (getL [[Av.lit IntKind.u8 (0 : Int), Av.big (4 : Nat) (0 : Nat)]]) (1 : Nat)) ∧ ¬Rgt (lst (getL [[Av.lit IntKind.u8 (0 : Int), Av.big (4 : Nat) (0 : Nat)]]) (1 : Nat)), True, True, True]) (o' := .ret) (rs := Try.f31.results.toList) (v := (.one (B true))) (H := ([] : List (Nat × Bk))) (by kernel_rfl) (.inr rfl) (by
    simp only [conj, and_true, true_and, Int.reduceToNat, h1, h2, h3, puL_lst, h4, i1, i2, r1, r3, lc1, lc2, lc3, addO_eq]
    simp) fun _ _ => rfl

theorem little_owes : Owes 31 [] [(True, .one (B true))] := by
  intro p0 hp0 hc
  simp only [List.mem_singleton] at hp0
  subst hp0
  have hpl : (Sv.one (B true)).all Av.plain := oneP (B_plain _)
  exact ⟨hpl, pure_calls' (ctx_ok tC7_ok 34) Try.func31 (c := bodyOf Try.f31) rfl rfl (args := []) (Nat.le_of_ble_eq_true (by kernel_rfl)) (fun l hl => by cases hl) hpl fun w0 => little_goes⟩
theorem tC8_ok : TabOK tC8 := .cons (k0_ok (fun a w => Try.call31 a w) little_owes) tC7_ok

/-! ## CoinsRights -/

theorem rights_goes {w0 : Base} {l : Cs} (he : ∀ c ∈ l, c.1 < 256 ∧ c.2 < TOP) {a : Bool} (ha : a = true → l = []) :
    Goes Try.prog Try.f3.ntmps w0 [.code (bodyOf Try.f3)] .norm (kn (argS 0 [inS a 1000 l]) (inH 60 a 1000 l [])) (Fin (ctx tC8 15) Try.f3.results.toList fun v _ => v = .one (B true)) := by
  have c1 : Coi (rowL l) l.length := Coi_rowL he
  have l1 := lst_rowL l
  have r0 := Rgt_nil
  cases a
  · by_cases h100 : 100 < l.length
    · exact goes_ret (ctx_ok tC8_ok 15) mixed rfl (orc := way []) (stops := []) (f := 3000) (k := [.code (bodyOf Try.f3)]) (o := .norm) (σ := (kn (argS 0 [slA l]) [rwA 60 l])) (cs := [True, True, True, (100 : Int) < (↑(List.length l) : Int), True, True]) (o' := .ret) (rs := Try.f3.results.toList) (v := (.one (B true))) (H := ([] : List (Nat × Bk))) (by kernel_rfl) (.inr rfl) (by simp only [conj, and_true, true_and]; omega) fun _ _ => rfl
    · by_cases hr : Rgt l
      · exact goes_ret (ctx_ok tC8_ok 15) mixed rfl (orc := way [(5, 1)]) (stops := []) (f := 3000) (k := [.code (bodyOf Try.f3)]) (o := .norm) (σ := (kn (argS 0 [slA l]) [rwA 60 l])) (cs := [True, True, True, ¬(100 : Int) < (↑(List.length l) : Int), True, True, True, ((60 : TypeId) = (60 : TypeId) ∧ List.length l = List.length l ∧ List.length l < (4096 : Nat) ∧ Coi (rowL l) (List.length l)) ∧ Rgt (lst (rowL l) (List.length l)), True, ((60 : TypeId) = (60 : TypeId) ∧ List.length l = List.length l ∧ List.length l < (4096 : Nat) ∧ Coi (rowL l) (List.length l)) ∧ Rgt (lst (rowL l) (List.length l)), True, True, True]) (o' := .ret) (rs := Try.f3.results.toList) (v := (.one (B true))) (H := ([] : List (Nat × Bk))) (by kernel_rfl) (.inr rfl) (by simp only [conj, and_true, true_and, l1, c1, hr]; omega) fun _ _ => rfl
      · exact goes_ret (ctx_ok tC8_ok 15) mixed rfl (orc := way [(5, 1), (10, 1), (12, 1)]) (stops := []) (f := 3000) (k := [.code (bodyOf Try.f3)]) (o := .norm) (σ := (kn (argS 0 [slA l]) [rwA 60 l])) (cs := [True, True, True, ¬(100 : Int) < (↑(List.length l) : Int), True, True, True, ((60 : TypeId) = (60 : TypeId) ∧ List.length l = List.length l ∧ List.length l < (4096 : Nat) ∧ Coi (rowL l) (List.length l)) ∧ ¬Rgt (lst (rowL l) (List.length l)), True, ((60 : TypeId) = (60 : TypeId) ∧ List.length l = List.length l ∧ List.length l < (4096 : Nat) ∧ Coi (rowL l) (List.length l)) ∧ ¬Rgt (lst (rowL l) (List.length l)), True, True, True]) (o' := .ret) (rs := Try.f3.results.toList) (v := (.one (B true))) (H := ([] : List (Nat × Bk))) (by kernel_rfl) (.inr rfl) (by simp only [conj, and_true, true_and, l1, c1, hr, not_false_eq_true]; omega) fun _ _ => rfl
  · obtain rfl := ha rfl
    exact goes_ret (ctx_ok tC8_ok 15) mixed rfl (orc := way []) (stops := []) (f := 3000) (k := [.code (bodyOf Try.f3)]) (o := .norm) (σ := (kn (argS 0 [.one [.nil]]) [])) (cs := [True, True, True, True, True, True, True, True ∧ Rgt [], True, True ∧ Rgt [], True, True, True]) (o' := .ret) (rs := Try.f3.results.toList) (v := (.one (B true))) (H := ([] : List (Nat × Bk))) (by kernel_rfl) (.inr rfl) (by simp only [conj, and_true, true_and, r0]) fun _ _ => rfl

end M
end Go.Proofs.Ytmjdmhelmgcanaa

/- CoinsRights, as a call of what is handed in; contracts whose purses are named once. -/
namespace Go.Proofs.Ytmjdmhelmgcanaa
namespace M
open Go.RowKit
set_option linter.unusedSimpArgs false

set_option maxRecDepth 100000 in
theorem rights_calls {W : World} {v : Value} {l : Cs} (ho : OpenC W v l) : Calls Try.prog 3 #[v] W fun e w' => Below W.heap.size W w' ∧ e = .returned (.bool true) := by
  have h := law_calls (t := 60) (vs := [v]) (ls := [l]) (pl := []) (fn := Try.f3) Try.func3 (c := bodyOf Try.f3) rfl tC8_ok (.cons ho .nil) (fun l hl => by cases hl) (Nat.le_of_ble_eq_true (by kernel_rfl)) fun ps e1 e2 w0 => by
    obtain ⟨b, rfl, h1, h2⟩ := one_law e1 e2
    exact rights_goes h2 h1
  exact h

/-- a contract that says less -/
theorem EOK.less {f cls : Nat} {c c' : Con} (h : EOK ⟨f, cls, c⟩) (hcc : ∀ args outs', c' args = some outs' → ∀ (i : Nat) oc', outs'[i]? = some oc' → oc'.c → ∃ outs oc, c args = some outs ∧ outs[i]? = some oc ∧ oc.c ∧ oc.r = oc'.r ∧ oc.e = oc'.e) : EOK ⟨f, cls, c'⟩ := by
  constructor
  · intro args outs' ho hargs i oc' hi hc d
    obtain ⟨outs, oc, h1, h2, h3, h4, h5⟩ := hcc args outs' ho i oc' hi hc
    have := h.wf args outs h1 hargs i oc h2 h3 d
    rw [h4, h5] at this
    exact this
  · intro args outs' ho i oc' hi hc ρ w B d hB hargs hd hinj
    obtain ⟨outs, oc, h1, h2, h3, h4, h5⟩ := hcc args outs' ho i oc' hi hc
    have := h.run args outs h1 i oc h2 h3 ρ w B d hB hargs hd hinj
    rw [h4, h5] at this
    exact this

inductive Less : List (Prop × Cs × Option (List Av)) → List (Prop × Cs × Option (List Av)) → Prop
  | nil : Less [] []
  | cons {p p' : Prop × Cs × Option (List Av)} {r r' : List (Prop × Cs × Option (List Av))} : (p'.1 → p.1 ∧ p'.2 = p.2) → Less r' r → Less (p' :: r') (p :: r)

theorem less_outs {ls' ls : List (Prop × Cs × Option (List Av))} (h : Less ls' ls) : ∀ (i : Nat) oc', (louts ls')[i]? = some oc' → oc'.c → ∃ oc, (louts ls)[i]? = some oc ∧ oc.c ∧ oc.r = oc'.r ∧ oc.e = oc'.e := by
  induction h with
  | nil => intro i oc' hi; simp [louts] at hi
  | cons h1 _ ih =>
    rename_i p p' r r' _
    intro i oc' hi hc
    match i with
    | 0 =>
      simp only [louts, lout, List.cons_append, List.nil_append, List.getElem?_cons_zero, List.getElem?_cons_succ, Option.some.injEq] at hi
      subst hi
      obtain ⟨a1, a2⟩ := h1 hc.1
      exact ⟨_, rfl, ⟨a1, by rw [← a2]; exact hc.2⟩, by rw [a2], rfl⟩
    | 1 =>
      simp only [louts, lout, List.cons_append, List.nil_append, List.getElem?_cons_zero, List.getElem?_cons_succ, Option.some.injEq] at hi
      subst hi
      obtain ⟨a1, a2⟩ := h1 hc.1
      exact ⟨_, rfl, ⟨a1, by rw [← a2]; exact hc.2⟩, by rw [a2], by rw [a2]⟩
    | i + 2 => exact ih i oc' hi hc

/-- an argument's purse -/
def puA : RArg → Purse
  | [(.sl _ 5 0 _, some (.row _ _ _ _ f))] => puL (lst f 8)
  | _ => puL []
def pick0 (A A' : RArg) : Option (Purse → Purse → Purse) → Cs
  | some R => (R (puA A) (puA A')).lst
  | none => []
def k2p (g : Cs → Cs → List (Prop × Option (Purse → Purse → Purse) × Option (List Av))) : LCon
  | [A, A'] => (coA 60 A).bind fun a => (coA 60 A').map fun b => (g a.2 b.2).map fun q => (a.1 ∧ b.1 ∧ (puA A = puL a.2 ∧ puA A' = puL b.2) ∧ q.1, pick0 A A' q.2.1, q.2.2)
  | _ => none
def pSub : Purse → Purse → Purse := fun p q => p.sub q
def pMin : Purse → Purse → Purse := fun p q => p.min q
def pAdd : Purse → Purse → Purse := fun p q => p.add q
def restP (l m : Cs) : List (Prop × Option (Purse → Purse → Purse) × Option (List Av)) := [(IsP l ∧ IsP m, some pSub, none)]
def leastP (l m : Cs) : List (Prop × Option (Purse → Purse → Purse) × Option (List Av)) := [(IsP l ∧ IsP m, some pMin, none)]
def raddP (l m : Cs) : List (Prop × Option (Purse → Purse → Purse) × Option (List Av)) := [(IsP l ∧ IsP m ∧ (puL l).fits (puL m), some pAdd, some (B true)), (IsP l ∧ IsP m ∧ ¬ (puL l).fits (puL m), none, some (B false))]
def addP (l m : Cs) : List (Prop × Option (Purse → Purse → Purse) × Option (List Av)) := [(IsP l ∧ IsP m ∧ (puL l).fits (puL m), some pAdd, some (E 0)), (IsP l ∧ IsP m ∧ ¬ (puL l).fits (puL m), none, some (E 2))]
def subP (l m : Cs) : List (Prop × Option (Purse → Purse → Purse) × Option (List Av)) := [(IsP l ∧ IsP m ∧ (puL m).le (puL l), some pSub, some (E 0)), (IsP l ∧ IsP m ∧ ¬ (puL m).le (puL l), none, some (E 3))]
def tC9 : List Entry := ⟨57, 1, lcon (k2p restP)⟩ :: ⟨59, 1, lcon (k2p leastP)⟩ :: ⟨40, 1, lcon (k2p addP)⟩ :: ⟨42, 1, lcon (k2p subP)⟩ :: ⟨58, 1, lcon (k2p restP)⟩ :: ⟨60, 1, lcon (k2p leastP)⟩ :: ⟨41, 1, lcon (k2p raddP)⟩ :: tC8

theorem k2p_ok {f : Nat} {g : Cs → Cs → List (Prop × Cs × Option (List Av))} {g' : Cs → Cs → List (Prop × Option (Purse → Purse → Purse) × Option (List Av))} (h : EOK ⟨f, 1, lcon (k2l g)⟩)
    (hgg : ∀ l m A A' (c c' : Prop), puA A = puL l → puA A' = puL m → Less ((g' l m).map fun q => (c ∧ c' ∧ (puA A = puL l ∧ puA A' = puL m) ∧ q.1, pick0 A A' q.2.1, q.2.2)) ((g l m).map fun q => (c ∧ c' ∧ q.1, q.2))) : EOK ⟨f, 1, lcon (k2p g')⟩ := by
  refine h.less fun args outs' ho i oc' hi hc => ?_
  obtain ⟨ls', hk, rfl⟩ := Option.map_eq_some_iff.1 ho
  unfold k2p at hk
  split at hk
  · rename_i A A'
    obtain ⟨a, ha, hk⟩ := Option.bind_eq_some_iff.1 hk
    obtain ⟨b, hb, rfl⟩ := Option.map_eq_some_iff.1 hk
    have heq : puA A = puL a.2 ∧ puA A' = puL b.2 := by
      have : ∀ (qs : List (Prop × Option (Purse → Purse → Purse) × Option (List Av))) (i : Nat), (louts (qs.map fun q => (a.1 ∧ b.1 ∧ (puA A = puL a.2 ∧ puA A' = puL b.2) ∧ q.1, pick0 A A' q.2.1, q.2.2)))[i]? = some oc' → puA A = puL a.2 ∧ puA A' = puL b.2 := by
        intro qs
        induction qs with
        | nil => intro i hi; simp [louts] at hi
        | cons q qs ih =>
          intro i hi
          match i with
          | 0 =>
            simp only [List.map_cons, louts, lout, List.cons_append, List.nil_append, List.getElem?_cons_zero, List.getElem?_cons_succ, Option.some.injEq] at hi
            subst hi
            exact hc.1.2.2.1
          | 1 =>
            simp only [List.map_cons, louts, lout, List.cons_append, List.nil_append, List.getElem?_cons_zero, List.getElem?_cons_succ, Option.some.injEq] at hi
            subst hi
            exact hc.1.2.2.1
          | i + 2 => exact ih i hi
      exact this _ i hi
    obtain ⟨oc, h1, h2, h3, h4⟩ := less_outs (hgg a.2 b.2 A A' a.1 b.1 heq.1 heq.2) i oc' hi hc
    exact ⟨_, oc, by
      show Option.map louts (k2l g [A, A']) = _
      unfold k2l
      simp only [ha, hb, Option.bind_some, Option.map_some], h1, h2, h3, h4⟩
  · cases hk

theorem less1 {c c' e p : Prop} {l l' : Cs} {o : Option (List Av)} (h : l' = l) : Less [(c ∧ c' ∧ e ∧ p, l', o)] [(c ∧ c' ∧ p, l, o)] :=
  .cons (fun ⟨h1, h2, _, h4⟩ => ⟨⟨h1, h2, h4⟩, by rw [h]⟩) .nil
theorem less2 {c c' e p p' : Prop} {l l' : Cs} {o o' : Option (List Av)} (h : l' = l) : Less [(c ∧ c' ∧ e ∧ p, l', o), (c ∧ c' ∧ e ∧ p', [], o')] [(c ∧ c' ∧ p, l, o), (c ∧ c' ∧ p', [], o')] :=
  .cons (fun ⟨h1, h2, _, h4⟩ => ⟨⟨h1, h2, h4⟩, by rw [h]⟩) (.cons (fun ⟨h1, h2, _, h4⟩ => ⟨⟨h1, h2, h4⟩, rfl⟩) .nil)

theorem tC9_ok : TabOK tC9 :=
  .cons (k2p_ok rest_ce fun l m A A' c c' h1 h2 => less1 (by show (pSub (puA A) (puA A')).lst = _; rw [h1, h2]; rfl))
  (.cons (k2p_ok least_ce fun l m A A' c c' h1 h2 => less1 (by show (pMin (puA A) (puA A')).lst = _; rw [h1, h2]; rfl))
  (.cons (k2p_ok ce40 fun l m A A' c c' h1 h2 => less2 (by show (pAdd (puA A) (puA A')).lst = _; rw [h1, h2]; rfl))
  (.cons (k2p_ok ce42 fun l m A A' c c' h1 h2 => less2 (by show (pSub (puA A) (puA A')).lst = _; rw [h1, h2]; rfl))
  (.cons (k2p_ok rrest_ce fun l m A A' c c' h1 h2 => less1 (by show (pSub (puA A) (puA A')).lst = _; rw [h1, h2]; rfl))
  (.cons (k2p_ok rleast_ce fun l m A A' c c' h1 h2 => less1 (by show (pMin (puA A) (puA A')).lst = _; rw [h1, h2]; rfl))
  (.cons (k2p_ok radd_ce fun l m A A' c c' h1 h2 => less2 (by show (pAdd (puA A) (puA A')).lst = _; rw [h1, h2]; rfl))
  tC8_ok))))))

theorem getc_big {l : Cs} {i : Nat} (h : l.length ≤ i) : getc l i = (0, 0) := by unfold getc; rw [List.getElem?_eq_none h]; rfl
/-- the first eight elements tell the purse -/
theorem puF (p : Purse) : puL (lst (rowL p.lst) 8) = p := by
  have hlen : p.lst.length ≤ 8 := nz_length _ _
  have e : lst (rowL p.lst) 8 = p.lst ++ List.replicate (8 - p.lst.length) (0, 0) := by
    apply List.ext_getElem
    · simp [lst]; omega
    · intro i h1 h2
      simp only [lst, List.getElem_map, List.getElem_range, rowL, cd1_cel]
      by_cases hi : i < p.lst.length
      · rw [List.getElem_append_left hi, getc_lt hi]
      · rw [List.getElem_append_right (by omega), getc_big (by omega)]
        simp
  rw [e]
  refine Purse.ext' fun d hd => ?_
  have h3 : amt (p.lst ++ List.replicate (8 - p.lst.length) (0, 0)) d = p.f d := by
    by_cases hk : ∃ c ∈ p.lst, c.1 = d
    · have : ∀ (l m : Cs), (∃ c ∈ l, c.1 = d) → amt (l ++ m) d = amt l d := by
        intro l
        induction l with
        | nil => intro m h; obtain ⟨c, hc, _⟩ := h; cases hc
        | cons c r ih =>
          intro m h
          rw [List.cons_append, amt, amt]
          by_cases hcd : c.1 = d
          · rw [if_pos hcd, if_pos hcd]
          · rw [if_neg hcd, if_neg hcd]
            obtain ⟨x, hx, hxd⟩ := h
            rcases List.mem_cons.1 hx with rfl | hx
            · exact absurd hxd hcd
            · exact ih m ⟨x, hx, hxd⟩
      rw [this _ _ hk, amt_lst]
    · have hk' : ∀ c ∈ p.lst, c.1 ≠ d := fun c hc e => hk ⟨c, hc, e⟩
      rw [amt_new hk']
      have h0 : p.f d = 0 := by rw [← amt_lst]; exact amt_none hk'
      rw [h0]
      generalize 8 - p.lst.length = n
      induction n with
      | zero => rfl
      | succ n ih =>
        rw [List.replicate_succ, amt]
        split
        · rfl
        · exact ih
  unfold puL
  rw [Purse.mk'_f hd (by rw [h3]; exact p.hb d), h3]

end M
end Go.Proofs.Ytmjdmhelmgcanaa
