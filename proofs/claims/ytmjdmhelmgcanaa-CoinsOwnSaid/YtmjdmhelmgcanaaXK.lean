/- Joined out of smaller texts: CoI, CoJ. -/
import Derived.Test.YtmjdmhelmgcanaaXJ
/- coins.each, as a contract. -/
namespace Go.Proofs.Ytmjdmhelmgcanaa
namespace M
open Go.RowKit
set_option linter.unusedSimpArgs false
set_option linter.unusedVariables false

def J79 (_ : Ms) : Prop := True
def J80 (_ : Ms) : Prop := True
def J86 (σ : Ms) : Prop := σ.heap 1002 = some (.var [.fn 86] 55)
def J87 (σ : Ms) : Prop := σ.heap 1002 = some (.var [.fn 87] 55)
def okA79 (l m : Cs) : List (Prop × Cs × Option (List Av)) := [(IsP l ∧ IsP m ∧ (puL l).fits (puL m), ((puL l).add (puL m)).lst, some (E 0)), (IsP l ∧ IsP m ∧ ¬ (puL l).fits (puL m), [], some (E 2))]
def okA80 (l m : Cs) : List (Prop × Cs × Option (List Av)) := [(IsP l ∧ IsP m ∧ (puL m).le (puL l), ((puL l).sub (puL m)).lst, some (E 0)), (IsP l ∧ IsP m ∧ ¬ (puL m).le (puL l), [], some (E 3))]
def okA86 (l m : Cs) : List (Prop × Cs × Option (List Av)) := [(IsP l ∧ IsP m, ((puL l).sub (puL m)).lst, some (E 0))]
def okA87 (l m : Cs) : List (Prop × Cs × Option (List Av)) := [(IsP l ∧ IsP m, ((puL l).min (puL m)).lst, some (E 0))]
def eachK : LCon
  | [A, A', [(.fn 79, _)]] => (coA 60 A).bind fun a => (coA 60 A').map fun b => (okA79 a.2 b.2).map fun q => (a.1 ∧ b.1 ∧ q.1, q.2)
  | [A, A', [(.fn 80, _)]] => (coA 60 A).bind fun a => (coA 60 A').map fun b => (okA80 a.2 b.2).map fun q => (a.1 ∧ b.1 ∧ q.1, q.2)
  | [A, A', [(.clo 109 _, some (.var [.fn 86] 55))]] => (coA 60 A).bind fun a => (coA 60 A').map fun b => (okA86 a.2 b.2).map fun q => (a.1 ∧ b.1 ∧ q.1, q.2)
  | [A, A', [(.clo 109 _, some (.var [.fn 87] 55))]] => (coA 60 A).bind fun a => (coA 60 A').map fun b => (okA87 a.2 b.2).map fun q => (a.1 ∧ b.1 ∧ q.1, q.2)
  | _ => none

theorem er79_true_true {w0 : Base} {l m : Cs} (hl : okC l) (hm : okC m) (ha : true = true → l = []) (hc : true = true → m = []) {k : Nat} (hk : k < 8) (ho : ¬ k79 (amt l k) (amt m k)) (g : Nat → Nat) :
    Goes Try.prog Try.f91.ntmps w0 [.code (roundOf 0 (bodyOf Try.f91))] .norm (eaSt (eaS true true G79 l m) (eaH true true Gh79 l m) g k) fun k' o σ => k' = [] ∧ o = .ret ∧ σ = kn [(6, .one [.nil]), (7, .one (E er79))] [] := by
  have ht := top_eq
  have c1 : Coi (rowL l) l.length := Coi_rowL hl.2
  have c2 : Coi (rowL m) m.length := Coi_rowL hm.2
  have l1 := lst_rowL l
  have l2 := lst_rowL m
  simp only [k79] at ho
  unfold eaSt
  by_cases h0 : (nz g k).length = 0
  · rw [if_pos h0]
    exact goes (ctx_ok tC4_ok 36) mixed rfl (gs := []) (gh := []) (orc := way [(23, 1)]) (stops := []) (f := 3000) (k := [.code (roundOf 0 (bodyOf Try.f91))]) (o := .norm) (σ := (kn (eaS true true G79 l m k .nil) (eaH true true Gh79 l m))) (cs := [(↑k : Int) < (8 : Int), True, True, True, True, True, True ∧ (0 : Int) ≤ (↑k : Int), True, True, True ∧ (0 : Int) ≤ (↑k : Int), TOP ≤ amt [] k + amt [] k, True, True, True, True, True, True, True, True, True, True, True]) (k' := []) (o' := .ret) (S := [(6, .one [.nil]), (7, .one (E er79))]) (H := ([] : List (Nat × Bk))) (by kernel_rfl) (by kernel_rfl) (by
      simp only [conj, and_true, true_and, l1, l2, c1, c2, hl.1, hm.1, Int.toNat_natCast]
      have g1 := ho
      (try simp only [ha rfl] at g1); (try simp only [hc rfl] at g1)
      omega)
  · rw [if_neg h0]
    exact goes (ctx_ok tC4_ok 36) mixed rfl (gs := []) (gh := []) (orc := way [(23, 1)]) (stops := []) (f := 3000) (k := [.code (roundOf 0 (bodyOf Try.f91))]) (o := .norm) (σ := (kn (eaS true true G79 l m k (.sl 500 5 0 (nz g k).length)) (rw5 (nz g k) :: eaH true true Gh79 l m))) (cs := [(↑k : Int) < (8 : Int), True, True, True, True, True, True ∧ (0 : Int) ≤ (↑k : Int), True, True, True ∧ (0 : Int) ≤ (↑k : Int), TOP ≤ amt [] k + amt [] k, True, True, True, True, True, True, True, True, True, True, True]) (k' := []) (o' := .ret) (S := [(6, .one [.nil]), (7, .one (E er79))]) (H := ([] : List (Nat × Bk))) (by kernel_rfl) (by kernel_rfl) (by
      simp only [conj, and_true, true_and, l1, l2, c1, c2, hl.1, hm.1, Int.toNat_natCast]
      have g1 := ho
      (try simp only [ha rfl] at g1); (try simp only [hc rfl] at g1)
      omega)

theorem er79_true_false {w0 : Base} {l m : Cs} (hl : okC l) (hm : okC m) (ha : true = true → l = []) (hc : false = true → m = []) {k : Nat} (hk : k < 8) (ho : ¬ k79 (amt l k) (amt m k)) (g : Nat → Nat) :
    Goes Try.prog Try.f91.ntmps w0 [.code (roundOf 0 (bodyOf Try.f91))] .norm (eaSt (eaS true false G79 l m) (eaH true false Gh79 l m) g k) fun k' o σ => k' = [] ∧ o = .ret ∧ σ = kn [(6, .one [.nil]), (7, .one (E er79))] [] := by
  have ht := top_eq
  have c1 : Coi (rowL l) l.length := Coi_rowL hl.2
  have c2 : Coi (rowL m) m.length := Coi_rowL hm.2
  have l1 := lst_rowL l
  have l2 := lst_rowL m
  simp only [k79] at ho
  unfold eaSt
  by_cases h0 : (nz g k).length = 0
  · rw [if_pos h0]
    exact goes (ctx_ok tC4_ok 36) mixed rfl (gs := []) (gh := []) (orc := way [(23, 1)]) (stops := []) (f := 3000) (k := [.code (roundOf 0 (bodyOf Try.f91))]) (o := .norm) (σ := (kn (eaS true false G79 l m k .nil) (eaH true false Gh79 l m))) (cs := [(↑k : Int) < (8 : Int), True, True, True, True, True, True ∧ (0 : Int) ≤ (↑k : Int), True, True, ((60 : TypeId) = (60 : TypeId) ∧ List.length m = List.length m ∧ List.length m < (4096 : Nat) ∧ Coi (rowL m) (List.length m)) ∧ (0 : Int) ≤ (↑k : Int), TOP ≤ amt [] k + amt (lst (rowL m) (List.length m)) k, True, True, True, True, True, True, True, True, True, True, True]) (k' := []) (o' := .ret) (S := [(6, .one [.nil]), (7, .one (E er79))]) (H := ([] : List (Nat × Bk))) (by kernel_rfl) (by kernel_rfl) (by
      simp only [conj, and_true, true_and, l1, l2, c1, c2, hl.1, hm.1, Int.toNat_natCast]
      have g1 := ho
      (try simp only [ha rfl] at g1); (try simp only [hc rfl] at g1)
      omega)
  · rw [if_neg h0]
    exact goes (ctx_ok tC4_ok 36) mixed rfl (gs := []) (gh := []) (orc := way [(23, 1)]) (stops := []) (f := 3000) (k := [.code (roundOf 0 (bodyOf Try.f91))]) (o := .norm) (σ := (kn (eaS true false G79 l m k (.sl 500 5 0 (nz g k).length)) (rw5 (nz g k) :: eaH true false Gh79 l m))) (cs := [(↑k : Int) < (8 : Int), True, True, True, True, True, True ∧ (0 : Int) ≤ (↑k : Int), True, True, ((60 : TypeId) = (60 : TypeId) ∧ List.length m = List.length m ∧ List.length m < (4096 : Nat) ∧ Coi (rowL m) (List.length m)) ∧ (0 : Int) ≤ (↑k : Int), TOP ≤ amt [] k + amt (lst (rowL m) (List.length m)) k, True, True, True, True, True, True, True, True, True, True, True]) (k' := []) (o' := .ret) (S := [(6, .one [.nil]), (7, .one (E er79))]) (H := ([] : List (Nat × Bk))) (by kernel_rfl) (by kernel_rfl) (by
      simp only [conj, and_true, true_and, l1, l2, c1, c2, hl.1, hm.1, Int.toNat_natCast]
      have g1 := ho
      (try simp only [ha rfl] at g1); (try simp only [hc rfl] at g1)
      omega)

theorem er79_false_true {w0 : Base} {l m : Cs} (hl : okC l) (hm : okC m) (ha : false = true → l = []) (hc : true = true → m = []) {k : Nat} (hk : k < 8) (ho : ¬ k79 (amt l k) (amt m k)) (g : Nat → Nat) :
    Goes Try.prog Try.f91.ntmps w0 [.code (roundOf 0 (bodyOf Try.f91))] .norm (eaSt (eaS false true G79 l m) (eaH false true Gh79 l m) g k) fun k' o σ => k' = [] ∧ o = .ret ∧ σ = kn [(6, .one [.nil]), (7, .one (E er79))] [] := by
  have ht := top_eq
  have c1 : Coi (rowL l) l.length := Coi_rowL hl.2
  have c2 : Coi (rowL m) m.length := Coi_rowL hm.2
  have l1 := lst_rowL l
  have l2 := lst_rowL m
  simp only [k79] at ho
  unfold eaSt
  by_cases h0 : (nz g k).length = 0
  · rw [if_pos h0]
    exact goes (ctx_ok tC4_ok 36) mixed rfl (gs := []) (gh := []) (orc := way [(23, 1)]) (stops := []) (f := 3000) (k := [.code (roundOf 0 (bodyOf Try.f91))]) (o := .norm) (σ := (kn (eaS false true G79 l m k .nil) (eaH false true Gh79 l m))) (cs := [(↑k : Int) < (8 : Int), True, True, True, True, True, ((60 : TypeId) = (60 : TypeId) ∧ List.length l = List.length l ∧ List.length l < (4096 : Nat) ∧ Coi (rowL l) (List.length l)) ∧ (0 : Int) ≤ (↑k : Int), True, True, True ∧ (0 : Int) ≤ (↑k : Int), TOP ≤ amt (lst (rowL l) (List.length l)) k + amt [] k, True, True, True, True, True, True, True, True, True, True, True]) (k' := []) (o' := .ret) (S := [(6, .one [.nil]), (7, .one (E er79))]) (H := ([] : List (Nat × Bk))) (by kernel_rfl) (by kernel_rfl) (by
      simp only [conj, and_true, true_and, l1, l2, c1, c2, hl.1, hm.1, Int.toNat_natCast]
      have g1 := ho
      (try simp only [ha rfl] at g1); (try simp only [hc rfl] at g1)
      omega)
  · rw [if_neg h0]
    exact goes (ctx_ok tC4_ok 36) mixed rfl (gs := []) (gh := []) (orc := way [(23, 1)]) (stops := []) (f := 3000) (k := [.code (roundOf 0 (bodyOf Try.f91))]) (o := .norm) (σ := (kn (eaS false true G79 l m k (.sl 500 5 0 (nz g k).length)) (rw5 (nz g k) :: eaH false true Gh79 l m))) (cs := [(↑k : Int) < (8 : Int), True, True, True, True, True, ((60 : TypeId) = (60 : TypeId) ∧ List.length l = List.length l ∧ List.length l < (4096 : Nat) ∧ Coi (rowL l) (List.length l)) ∧ (0 : Int) ≤ (↑k : Int), True, True, True ∧ (0 : Int) ≤ (↑k : Int), TOP ≤ amt (lst (rowL l) (List.length l)) k + amt [] k, True, True, True, True, True, True, True, True, True, True, True]) (k' := []) (o' := .ret) (S := [(6, .one [.nil]), (7, .one (E er79))]) (H := ([] : List (Nat × Bk))) (by kernel_rfl) (by kernel_rfl) (by
      simp only [conj, and_true, true_and, l1, l2, c1, c2, hl.1, hm.1, Int.toNat_natCast]
      have g1 := ho
      (try simp only [ha rfl] at g1); (try simp only [hc rfl] at g1)
      omega)

theorem er79_false_false {w0 : Base} {l m : Cs} (hl : okC l) (hm : okC m) (ha : false = true → l = []) (hc : false = true → m = []) {k : Nat} (hk : k < 8) (ho : ¬ k79 (amt l k) (amt m k)) (g : Nat → Nat) :
    Goes Try.prog Try.f91.ntmps w0 [.code (roundOf 0 (bodyOf Try.f91))] .norm (eaSt (eaS false false G79 l m) (eaH false false Gh79 l m) g k) fun k' o σ => k' = [] ∧ o = .ret ∧ σ = kn [(6, .one [.nil]), (7, .one (E er79))] [] := by
  have ht := top_eq
  have c1 : Coi (rowL l) l.length := Coi_rowL hl.2
  have c2 : Coi (rowL m) m.length := Coi_rowL hm.2
  have l1 := lst_rowL l
  have l2 := lst_rowL m
  simp only [k79] at ho
  unfold eaSt
  by_cases h0 : (nz g k).length = 0
  · rw [if_pos h0]
    exact goes (ctx_ok tC4_ok 36) mixed rfl (gs := []) (gh := []) (orc := way [(23, 1)]) (stops := []) (f := 3000) (k := [.code (roundOf 0 (bodyOf Try.f91))]) (o := .norm) (σ := (kn (eaS false false G79 l m k .nil) (eaH false false Gh79 l m))) (cs := [(↑k : Int) < (8 : Int), True, True, True, True, True, ((60 : TypeId) = (60 : TypeId) ∧ List.length l = List.length l ∧ List.length l < (4096 : Nat) ∧ Coi (rowL l) (List.length l)) ∧ (0 : Int) ≤ (↑k : Int), True, True, ((60 : TypeId) = (60 : TypeId) ∧ List.length m = List.length m ∧ List.length m < (4096 : Nat) ∧ Coi (rowL m) (List.length m)) ∧ (0 : Int) ≤ (↑k : Int), TOP ≤ amt (lst (rowL l) (List.length l)) k + amt (lst (rowL m) (List.length m)) k, True, True, True, True, True, True, True, True, True, True, True]) (k' := []) (o' := .ret) (S := [(6, .one [.nil]), (7, .one (E er79))]) (H := ([] : List (Nat × Bk))) (by kernel_rfl) (by kernel_rfl) (by
      simp only [conj, and_true, true_and, l1, l2, c1, c2, hl.1, hm.1, Int.toNat_natCast]
      have g1 := ho
      (try simp only [ha rfl] at g1); (try simp only [hc rfl] at g1)
      omega)
  · rw [if_neg h0]
    exact goes (ctx_ok tC4_ok 36) mixed rfl (gs := []) (gh := []) (orc := way [(23, 1)]) (stops := []) (f := 3000) (k := [.code (roundOf 0 (bodyOf Try.f91))]) (o := .norm) (σ := (kn (eaS false false G79 l m k (.sl 500 5 0 (nz g k).length)) (rw5 (nz g k) :: eaH false false Gh79 l m))) (cs := [(↑k : Int) < (8 : Int), True, True, True, True, True, ((60 : TypeId) = (60 : TypeId) ∧ List.length l = List.length l ∧ List.length l < (4096 : Nat) ∧ Coi (rowL l) (List.length l)) ∧ (0 : Int) ≤ (↑k : Int), True, True, ((60 : TypeId) = (60 : TypeId) ∧ List.length m = List.length m ∧ List.length m < (4096 : Nat) ∧ Coi (rowL m) (List.length m)) ∧ (0 : Int) ≤ (↑k : Int), TOP ≤ amt (lst (rowL l) (List.length l)) k + amt (lst (rowL m) (List.length m)) k, True, True, True, True, True, True, True, True, True, True, True]) (k' := []) (o' := .ret) (S := [(6, .one [.nil]), (7, .one (E er79))]) (H := ([] : List (Nat × Bk))) (by kernel_rfl) (by kernel_rfl) (by
      simp only [conj, and_true, true_and, l1, l2, c1, c2, hl.1, hm.1, Int.toNat_natCast]
      have g1 := ho
      (try simp only [ha rfl] at g1); (try simp only [hc rfl] at g1)
      omega)

theorem er80_true_true {w0 : Base} {l m : Cs} (hl : okC l) (hm : okC m) (ha : true = true → l = []) (hc : true = true → m = []) {k : Nat} (hk : k < 8) (ho : ¬ k80 (amt l k) (amt m k)) (g : Nat → Nat) :
    Goes Try.prog Try.f91.ntmps w0 [.code (roundOf 0 (bodyOf Try.f91))] .norm (eaSt (eaS true true G80 l m) (eaH true true Gh80 l m) g k) fun k' o σ => k' = [] ∧ o = .ret ∧ σ = kn [(6, .one [.nil]), (7, .one (E er80))] [] := by
  have ht := top_eq
  have c1 : Coi (rowL l) l.length := Coi_rowL hl.2
  have c2 : Coi (rowL m) m.length := Coi_rowL hm.2
  have l1 := lst_rowL l
  have l2 := lst_rowL m
  simp only [k80] at ho
  unfold eaSt
  by_cases h0 : (nz g k).length = 0
  · rw [if_pos h0]
    exact goes (ctx_ok tC4_ok 36) mixed rfl (gs := []) (gh := []) (orc := way [(23, 1)]) (stops := []) (f := 3000) (k := [.code (roundOf 0 (bodyOf Try.f91))]) (o := .norm) (σ := (kn (eaS true true G80 l m k .nil) (eaH true true Gh80 l m))) (cs := [(↑k : Int) < (8 : Int), True, True, True, True, True, True ∧ (0 : Int) ≤ (↑k : Int), True, True, True ∧ (0 : Int) ≤ (↑k : Int), amt [] k < amt [] k, True, True, True, True, True, True, True, True, True, True, True]) (k' := []) (o' := .ret) (S := [(6, .one [.nil]), (7, .one (E er80))]) (H := ([] : List (Nat × Bk))) (by kernel_rfl) (by kernel_rfl) (by
      simp only [conj, and_true, true_and, l1, l2, c1, c2, hl.1, hm.1, Int.toNat_natCast]
      have g1 := ho
      (try simp only [ha rfl] at g1); (try simp only [hc rfl] at g1)
      omega)
  · rw [if_neg h0]
    exact goes (ctx_ok tC4_ok 36) mixed rfl (gs := []) (gh := []) (orc := way [(23, 1)]) (stops := []) (f := 3000) (k := [.code (roundOf 0 (bodyOf Try.f91))]) (o := .norm) (σ := (kn (eaS true true G80 l m k (.sl 500 5 0 (nz g k).length)) (rw5 (nz g k) :: eaH true true Gh80 l m))) (cs := [(↑k : Int) < (8 : Int), True, True, True, True, True, True ∧ (0 : Int) ≤ (↑k : Int), True, True, True ∧ (0 : Int) ≤ (↑k : Int), amt [] k < amt [] k, True, True, True, True, True, True, True, True, True, True, True]) (k' := []) (o' := .ret) (S := [(6, .one [.nil]), (7, .one (E er80))]) (H := ([] : List (Nat × Bk))) (by kernel_rfl) (by kernel_rfl) (by
      simp only [conj, and_true, true_and, l1, l2, c1, c2, hl.1, hm.1, Int.toNat_natCast]
      have g1 := ho
      (try simp only [ha rfl] at g1); (try simp only [hc rfl] at g1)
      omega)

theorem er80_true_false {w0 : Base} {l m : Cs} (hl : okC l) (hm : okC m) (ha : true = true → l = []) (hc : false = true → m = []) {k : Nat} (hk : k < 8) (ho : ¬ k80 (amt l k) (amt m k)) (g : Nat → Nat) :
    Goes Try.prog Try.f91.ntmps w0 [.code (roundOf 0 (bodyOf Try.f91))] .norm (eaSt (eaS true false G80 l m) (eaH true false Gh80 l m) g k) fun k' o σ => k' = [] ∧ o = .ret ∧ σ = kn [(6, .one [.nil]), (7, .one (E er80))] [] := by
  have ht := top_eq
  have c1 : Coi (rowL l) l.length := Coi_rowL hl.2
  have c2 : Coi (rowL m) m.length := Coi_rowL hm.2
  have l1 := lst_rowL l
  have l2 := lst_rowL m
  simp only [k80] at ho
  unfold eaSt
  by_cases h0 : (nz g k).length = 0
  · rw [if_pos h0]
    exact goes (ctx_ok tC4_ok 36) mixed rfl (gs := []) (gh := []) (orc := way [(23, 1)]) (stops := []) (f := 3000) (k := [.code (roundOf 0 (bodyOf Try.f91))]) (o := .norm) (σ := (kn (eaS true false G80 l m k .nil) (eaH true false Gh80 l m))) (cs := [(↑k : Int) < (8 : Int), True, True, True, True, True, True ∧ (0 : Int) ≤ (↑k : Int), True, True, ((60 : TypeId) = (60 : TypeId) ∧ List.length m = List.length m ∧ List.length m < (4096 : Nat) ∧ Coi (rowL m) (List.length m)) ∧ (0 : Int) ≤ (↑k : Int), amt [] k < amt (lst (rowL m) (List.length m)) k, True, True, True, True, True, True, True, True, True, True, True]) (k' := []) (o' := .ret) (S := [(6, .one [.nil]), (7, .one (E er80))]) (H := ([] : List (Nat × Bk))) (by kernel_rfl) (by kernel_rfl) (by
      simp only [conj, and_true, true_and, l1, l2, c1, c2, hl.1, hm.1, Int.toNat_natCast]
      have g1 := ho
      (try simp only [ha rfl] at g1); (try simp only [hc rfl] at g1)
      omega)
  · rw [if_neg h0]
    exact goes (ctx_ok tC4_ok 36) mixed rfl (gs := []) (gh := []) (orc := way [(23, 1)]) (stops := []) (f := 3000) (k := [.code (roundOf 0 (bodyOf Try.f91))]) (o := .norm) (σ := (kn (eaS true false G80 l m k (.sl 500 5 0 (nz g k).length)) (rw5 (nz g k) :: eaH true false Gh80 l m))) (cs := [(↑k : Int) < (8 : Int), True, True, True, True, True, True ∧ (0 : Int) ≤ (↑k : Int), True, True, ((60 : TypeId) = (60 : TypeId) ∧ List.length m = List.length m ∧ List.length m < (4096 : Nat) ∧ Coi (rowL m) (List.length m)) ∧ (0 : Int) ≤ (↑k : Int), amt [] k < amt (lst (rowL m) (List.length m)) k, True, True, True, True, True, True, True, True, True, True, True]) (k' := []) (o' := .ret) (S := [(6, .one [.nil]), (7, .one (E er80))]) (H := ([] : List (Nat × Bk))) (by kernel_rfl) (by kernel_rfl) (by
      simp only [conj, and_true, true_and, l1, l2, c1, c2, hl.1, hm.1, Int.toNat_natCast]
      have g1 := ho
      (try simp only [ha rfl] at g1); (try simp only [hc rfl] at g1)
      omega)

theorem er80_false_true {w0 : Base} {l m : Cs} (hl : okC l) (hm : okC m) (ha : false = true → l = []) (hc : true = true → m = []) {k : Nat} (hk : k < 8) (ho : ¬ k80 (amt l k) (amt m k)) (g : Nat → Nat) :
    Goes Try.prog Try.f91.ntmps w0 [.code (roundOf 0 (bodyOf Try.f91))] .norm (eaSt (eaS false true G80 l m) (eaH false true Gh80 l m) g k) fun k' o σ => k' = [] ∧ o = .ret ∧ σ = kn [(6, .one [.nil]), (7, .one (E er80))] [] := by
  have ht := top_eq
  have c1 : Coi (rowL l) l.length := Coi_rowL hl.2
  have c2 : Coi (rowL m) m.length := Coi_rowL hm.2
  have l1 := lst_rowL l
  have l2 := lst_rowL m
  simp only [k80] at ho
  unfold eaSt
  by_cases h0 : (nz g k).length = 0
  · rw [if_pos h0]
    exact goes (ctx_ok tC4_ok 36) mixed rfl (gs := []) (gh := []) (orc := way [(23, 1)]) (stops := []) (f := 3000) (k := [.code (roundOf 0 (bodyOf Try.f91))]) (o := .norm) (σ := (kn (eaS false true G80 l m k .nil) (eaH false true Gh80 l m))) (cs := [(↑k : Int) < (8 : Int), True, True, True, True, True, ((60 : TypeId) = (60 : TypeId) ∧ List.length l = List.length l ∧ List.length l < (4096 : Nat) ∧ Coi (rowL l) (List.length l)) ∧ (0 : Int) ≤ (↑k : Int), True, True, True ∧ (0 : Int) ≤ (↑k : Int), amt (lst (rowL l) (List.length l)) k < amt [] k, True, True, True, True, True, True, True, True, True, True, True]) (k' := []) (o' := .ret) (S := [(6, .one [.nil]), (7, .one (E er80))]) (H := ([] : List (Nat × Bk))) (by kernel_rfl) (by kernel_rfl) (by
      simp only [conj, and_true, true_and, l1, l2, c1, c2, hl.1, hm.1, Int.toNat_natCast]
      have g1 := ho
      (try simp only [ha rfl] at g1); (try simp only [hc rfl] at g1)
      omega)
  · rw [if_neg h0]
    exact goes (ctx_ok tC4_ok 36) mixed rfl (gs := []) (gh := []) (orc := way [(23, 1)]) (stops := []) (f := 3000) (k := [.code (roundOf 0 (bodyOf Try.f91))]) (o := .norm) (σ := (kn (eaS false true G80 l m k (.sl 500 5 0 (nz g k).length)) (rw5 (nz g k) :: eaH false true Gh80 l m))) (cs := [(↑k : Int) < (8 : Int), True, True, True, True, True, ((60 : TypeId) = (60 : TypeId) ∧ List.length l = List.length l ∧ List.length l < (4096 : Nat) ∧ Coi (rowL l) (List.length l)) ∧ (0 : Int) ≤ (↑k : Int), True, True, True ∧ (0 : Int) ≤ (↑k : Int), amt (lst (rowL l) (List.length l)) k < amt [] k, True, True, True, True, True, True, True, True, True, True, True]) (k' := []) (o' := .ret) (S := [(6, .one [.nil]), (7, .one (E er80))]) (H := ([] : List (Nat × Bk))) (by kernel_rfl) (by kernel_rfl) (by
      simp only [conj, and_true, true_and, l1, l2, c1, c2, hl.1, hm.1, Int.toNat_natCast]
      have g1 := ho
      (try simp only [ha rfl] at g1); (try simp only [hc rfl] at g1)
      omega)

theorem er80_false_false {w0 : Base} {l m : Cs} (hl : okC l) (hm : okC m) (ha : false = true → l = []) (hc : false = true → m = []) {k : Nat} (hk : k < 8) (ho : ¬ k80 (amt l k) (amt m k)) (g : Nat → Nat) :
    Goes Try.prog Try.f91.ntmps w0 [.code (roundOf 0 (bodyOf Try.f91))] .norm (eaSt (eaS false false G80 l m) (eaH false false Gh80 l m) g k) fun k' o σ => k' = [] ∧ o = .ret ∧ σ = kn [(6, .one [.nil]), (7, .one (E er80))] [] := by
  have ht := top_eq
  have c1 : Coi (rowL l) l.length := Coi_rowL hl.2
  have c2 : Coi (rowL m) m.length := Coi_rowL hm.2
  have l1 := lst_rowL l
  have l2 := lst_rowL m
  simp only [k80] at ho
  unfold eaSt
  by_cases h0 : (nz g k).length = 0
  · rw [if_pos h0]
    exact goes (ctx_ok tC4_ok 36) mixed rfl (gs := []) (gh := []) (orc := way [(23, 1)]) (stops := []) (f := 3000) (k := [.code (roundOf 0 (bodyOf Try.f91))]) (o := .norm) (σ := (kn (eaS false false G80 l m k .nil) (eaH false false Gh80 l m))) (cs := [(↑k : Int) < (8 : Int), True, True, True, True, True, ((60 : TypeId) = (60 : TypeId) ∧ List.length l = List.length l ∧ List.length l < (4096 : Nat) ∧ Coi (rowL l) (List.length l)) ∧ (0 : Int) ≤ (↑k : Int), True, True, ((60 : TypeId) = (60 : TypeId) ∧ List.length m = List.length m ∧ List.length m < (4096 : Nat) ∧ Coi (rowL m) (List.length m)) ∧ (0 : Int) ≤ (↑k : Int), amt (lst (rowL l) (List.length l)) k < amt (lst (rowL m) (List.length m)) k, True, True, True, True, True, True, True, True, True, True, True]) (k' := []) (o' := .ret) (S := [(6, .one [.nil]), (7, .one (E er80))]) (H := ([] : List (Nat × Bk))) (by kernel_rfl) (by kernel_rfl) (by
      simp only [conj, and_true, true_and, l1, l2, c1, c2, hl.1, hm.1, Int.toNat_natCast]
      have g1 := ho
      (try simp only [ha rfl] at g1); (try simp only [hc rfl] at g1)
      omega)
  · rw [if_neg h0]
    exact goes (ctx_ok tC4_ok 36) mixed rfl (gs := []) (gh := []) (orc := way [(23, 1)]) (stops := []) (f := 3000) (k := [.code (roundOf 0 (bodyOf Try.f91))]) (o := .norm) (σ := (kn (eaS false false G80 l m k (.sl 500 5 0 (nz g k).length)) (rw5 (nz g k) :: eaH false false Gh80 l m))) (cs := [(↑k : Int) < (8 : Int), True, True, True, True, True, ((60 : TypeId) = (60 : TypeId) ∧ List.length l = List.length l ∧ List.length l < (4096 : Nat) ∧ Coi (rowL l) (List.length l)) ∧ (0 : Int) ≤ (↑k : Int), True, True, ((60 : TypeId) = (60 : TypeId) ∧ List.length m = List.length m ∧ List.length m < (4096 : Nat) ∧ Coi (rowL m) (List.length m)) ∧ (0 : Int) ≤ (↑k : Int), amt (lst (rowL l) (List.length l)) k < amt (lst (rowL m) (List.length m)) k, True, True, True, True, True, True, True, True, True, True, True]) (k' := []) (o' := .ret) (S := [(6, .one [.nil]), (7, .one (E er80))]) (H := ([] : List (Nat × Bk))) (by kernel_rfl) (by kernel_rfl) (by
      simp only [conj, and_true, true_and, l1, l2, c1, c2, hl.1, hm.1, Int.toNat_natCast]
      have g1 := ho
      (try simp only [ha rfl] at g1); (try simp only [hc rfl] at g1)
      omega)

theorem ex79_true_true {w0 : Base} {l m : Cs} (hl : okC l) (hm : okC m) (ha : true = true → l = []) (hc : true = true → m = []) :
    Goes Try.prog Try.f91.ntmps w0 [.code (bodyOf Try.f91)] .norm (kn (argS 0 [inS true 1000 l, inS true 1001 m, G79]) (eaH true true Gh79 l m)) (Fin (ctx tC4 36) Try.f91.results.toList fun v σ =>
      ((∀ d, d < 8 → k79 (amt l d) (amt m d)) ∧ LFin (nz (fun d => o79 (amt l d) (amt m d)) 8) (some (E 0)) v σ ∧ (∀ s, v = mkS (some (E 0)) [.sl s 5 0 (nz (fun d => o79 (amt l d) (amt m d)) 8).length] → s = 500) ∧ J79 σ) ∨ (∃ d, d < 8 ∧ ¬ k79 (amt l d) (amt m d) ∧ LFin [] (some (E er79)) v σ)) := by
  refine (goes (ctx_ok tC4_ok 36) mixed rfl (gs := [12]) (gh := []) (orc := way []) (stops := [0]) (f := 3000) (k := [.code (bodyOf Try.f91)]) (o := .norm) (σ := (kn (argS 0 [inS true 1000 l, inS true 1001 m, G79]) (eaH true true Gh79 l m))) (cs := [True, True, True, True]) (k' := (kOf 0 (bodyOf Try.f91))) (o' := .norm) (S := (eaS true true G79 l m 0 .nil)) (H := (eaH true true Gh79 l m)) (by kernel_rfl) (by kernel_rfl) (by simp [conj])).bind ?_
  rintro k o σ ⟨rfl, rfl, rfl⟩
  have hk : kOf 0 (bodyOf Try.f91) = .code (.block 0 (.loop (roundOf 0 (bodyOf Try.f91)))) :: restOf 0 (bodyOf Try.f91) := by kernel_rfl
  rw [hk]
  have e0 : kn (eaS true true G79 l m 0 .nil) (eaH true true Gh79 l m) = eaSt (eaS true true G79 l m) (eaH true true Gh79 l m) (fun d => o79 (amt l d) (amt m d)) 0 := rfl
  rw [e0]
  refine (goes_loop (eaSt (eaS true true G79 l m) (eaH true true Gh79 l m) (fun d => o79 (amt l d) (amt m d))) (fun k => k ≤ 8 ∧ ∀ d, d < k → k79 (amt l d) (amt m d)) (fun k => 8 - k)
    (fun o σ => (o = .norm ∧ σ = eaSt (eaS true true G79 l m) (eaH true true Gh79 l m) (fun d => o79 (amt l d) (amt m d)) 8 ∧ ∀ d, d < 8 → k79 (amt l d) (amt m d)) ∨ (o = .ret ∧ σ = kn [(6, .one [.nil]), (7, .one (E er79))] [] ∧ ∃ d, d < 8 ∧ ¬ k79 (amt l d) (amt m d))) ?_ (p := 0) ⟨by omega, fun d hd => by omega⟩).bind ?_
  · rintro k ⟨hk, hinv⟩
    by_cases hk8 : k < 8
    · by_cases hkk : k79 (amt l k) (amt m k)
      · refine (ez79_true_true hl hm ha hc hk8 (fun d hd => ?_)).bind ?_
        · by_cases hd2 : d < k
          · exact hinv d hd2
          · obtain rfl : d = k := by omega
            exact hkk
        rintro k' o σ ⟨rfl, rfl, σ0, rfl, g⟩
        refine g (goes_z ?_)
        refine ⟨rfl, .inl ⟨rfl, k + 1, ⟨hk8, fun d hd => ?_⟩, by omega, rfl⟩⟩
        by_cases hd2 : d < k
        · exact hinv d hd2
        · obtain rfl : d = k := by omega
          exact hkk
      · refine (er79_true_true hl hm ha hc hk8 hkk _).mono ?_
        rintro k' o σ ⟨rfl, rfl, rfl⟩
        exact ⟨rfl, .inr ⟨by simp, .inr ⟨rfl, rfl, k, hk8, hkk⟩⟩⟩
    · obtain rfl : k = 8 := by omega
      unfold eaSt
      by_cases h0 : (nz (fun d => o79 (amt l d) (amt m d)) 8).length = 0
      · simp only [if_pos h0]
        refine (goes (ctx_ok tC4_ok 36) mixed rfl (gs := []) (gh := []) (orc := way [(13, 1)]) (stops := []) (f := 3000) (k := [.code (roundOf 0 (bodyOf Try.f91))]) (o := .norm) (σ := (kn (eaS true true G79 l m 8 .nil) (eaH true true Gh79 l m))) (cs := [¬(↑(8 : Nat) : Int) < (8 : Int)]) (k' := []) (o' := (.exit 0)) (S := (eaS true true G79 l m 8 .nil)) (H := (eaH true true Gh79 l m)) (by kernel_rfl) (by kernel_rfl) (by simp [conj])).mono ?_
        rintro k o σ ⟨rfl, rfl, rfl⟩
        exact ⟨rfl, .inr ⟨by simp, .inl ⟨rfl, rfl, hinv⟩⟩⟩
      · simp only [if_neg h0]
        generalize hnz : nz (fun d => o79 (amt l d) (amt m d)) 8 = z
        refine (goes (ctx_ok tC4_ok 36) mixed rfl (gs := []) (gh := []) (orc := way [(13, 1)]) (stops := []) (f := 3000) (k := [.code (roundOf 0 (bodyOf Try.f91))]) (o := .norm) (σ := (kn (eaS true true G79 l m 8 (.sl 500 5 0 z.length)) (rw5 z :: eaH true true Gh79 l m))) (cs := [¬(↑(8 : Nat) : Int) < (8 : Int)]) (k' := []) (o' := (.exit 0)) (S := (eaS true true G79 l m 8 (.sl 500 5 0 z.length))) (H := (rw5 z :: eaH true true Gh79 l m)) (by kernel_rfl) (by kernel_rfl) (by simp [conj])).mono ?_
        rintro k o σ ⟨rfl, rfl, rfl⟩
        exact ⟨rfl, .inr ⟨by simp, .inl ⟨rfl, rfl, hinv⟩⟩⟩
  · rintro k o σ ⟨rfl, hcase⟩
    rcases hcase with ⟨rfl, rfl, hall⟩ | hbad
    · unfold eaSt
      generalize nz (fun d => o79 (amt l d) (amt m d)) 8 = z
      by_cases h0 : z.length = 0
      · simp only [if_pos h0]
        exact goes_ret (ctx_ok tC4_ok 36) mixed rfl (orc := way []) (stops := []) (f := 3000) (k := (restOf 0 (bodyOf Try.f91))) (o := .norm) (σ := (kn (eaS true true G79 l m 8 .nil) (eaH true true Gh79 l m))) (cs := [True, True, True]) (o' := .ret) (rs := Try.f91.results.toList) (v := (.tup [[.nil], E 0])) (H := Gh79) (by kernel_rfl) (.inr rfl) (by simp [conj]) fun σ hσ => .inl ⟨hall, .inl ⟨h0, rfl⟩, fun s hs => by simp [mkS] at hs, trivial⟩
      · simp only [if_neg h0]
        exact goes_ret (ctx_ok tC4_ok 36) mixed rfl (orc := way []) (stops := []) (f := 3000) (k := (restOf 0 (bodyOf Try.f91))) (o := .norm) (σ := (kn (eaS true true G79 l m 8 (.sl 500 5 0 z.length)) (rw5 z :: eaH true true Gh79 l m))) (cs := [True, True, True]) (o' := .ret) (rs := Try.f91.results.toList) (v := (.tup [[.sl 500 5 0 z.length], E 0])) (H := (rw5 z :: Gh79)) (by kernel_rfl) (.inr rfl) (by simp [conj]) fun σ hσ => .inl ⟨hall, .inr ⟨by omega, 500, _, rfl, hσ (500, _) List.mem_cons_self, rfl⟩, fun s hs => by simp [mkS] at hs; exact hs.symm, trivial⟩
    · obtain ⟨rfl, rfl, d, hd, hd2⟩ := hbad
      exact goes_ret (ctx_ok tC4_ok 36) mixed rfl (orc := way []) (stops := []) (f := 3000) (k := (restOf 0 (bodyOf Try.f91))) (o := .ret) (σ := (kn [(6, .one [.nil]), (7, .one (E er79))] [])) (cs := []) (o' := .ret) (rs := Try.f91.results.toList) (v := (.tup [[.nil], E er79])) (H := ([] : List (Nat × Bk))) (by kernel_rfl) (.inr rfl) (by simp [conj]) fun σ _ => .inr ⟨d, hd, hd2, .inl ⟨rfl, rfl⟩⟩

theorem ex79_true_false {w0 : Base} {l m : Cs} (hl : okC l) (hm : okC m) (ha : true = true → l = []) (hc : false = true → m = []) :
    Goes Try.prog Try.f91.ntmps w0 [.code (bodyOf Try.f91)] .norm (kn (argS 0 [inS true 1000 l, inS false 1001 m, G79]) (eaH true false Gh79 l m)) (Fin (ctx tC4 36) Try.f91.results.toList fun v σ =>
      ((∀ d, d < 8 → k79 (amt l d) (amt m d)) ∧ LFin (nz (fun d => o79 (amt l d) (amt m d)) 8) (some (E 0)) v σ ∧ (∀ s, v = mkS (some (E 0)) [.sl s 5 0 (nz (fun d => o79 (amt l d) (amt m d)) 8).length] → s = 500) ∧ J79 σ) ∨ (∃ d, d < 8 ∧ ¬ k79 (amt l d) (amt m d) ∧ LFin [] (some (E er79)) v σ)) := by
  refine (goes (ctx_ok tC4_ok 36) mixed rfl (gs := [12]) (gh := []) (orc := way []) (stops := [0]) (f := 3000) (k := [.code (bodyOf Try.f91)]) (o := .norm) (σ := (kn (argS 0 [inS true 1000 l, inS false 1001 m, G79]) (eaH true false Gh79 l m))) (cs := [True, True, True, True]) (k' := (kOf 0 (bodyOf Try.f91))) (o' := .norm) (S := (eaS true false G79 l m 0 .nil)) (H := (eaH true false Gh79 l m)) (by kernel_rfl) (by kernel_rfl) (by simp [conj])).bind ?_
  rintro k o σ ⟨rfl, rfl, rfl⟩
  have hk : kOf 0 (bodyOf Try.f91) = .code (.block 0 (.loop (roundOf 0 (bodyOf Try.f91)))) :: restOf 0 (bodyOf Try.f91) := by kernel_rfl
  rw [hk]
  have e0 : kn (eaS true false G79 l m 0 .nil) (eaH true false Gh79 l m) = eaSt (eaS true false G79 l m) (eaH true false Gh79 l m) (fun d => o79 (amt l d) (amt m d)) 0 := rfl
  rw [e0]
  refine (goes_loop (eaSt (eaS true false G79 l m) (eaH true false Gh79 l m) (fun d => o79 (amt l d) (amt m d))) (fun k => k ≤ 8 ∧ ∀ d, d < k → k79 (amt l d) (amt m d)) (fun k => 8 - k)
    (fun o σ => (o = .norm ∧ σ = eaSt (eaS true false G79 l m) (eaH true false Gh79 l m) (fun d => o79 (amt l d) (amt m d)) 8 ∧ ∀ d, d < 8 → k79 (amt l d) (amt m d)) ∨ (o = .ret ∧ σ = kn [(6, .one [.nil]), (7, .one (E er79))] [] ∧ ∃ d, d < 8 ∧ ¬ k79 (amt l d) (amt m d))) ?_ (p := 0) ⟨by omega, fun d hd => by omega⟩).bind ?_
  · rintro k ⟨hk, hinv⟩
    by_cases hk8 : k < 8
    · by_cases hkk : k79 (amt l k) (amt m k)
      · refine (ez79_true_false hl hm ha hc hk8 (fun d hd => ?_)).bind ?_
        · by_cases hd2 : d < k
          · exact hinv d hd2
          · obtain rfl : d = k := by omega
            exact hkk
        rintro k' o σ ⟨rfl, rfl, σ0, rfl, g⟩
        refine g (goes_z ?_)
        refine ⟨rfl, .inl ⟨rfl, k + 1, ⟨hk8, fun d hd => ?_⟩, by omega, rfl⟩⟩
        by_cases hd2 : d < k
        · exact hinv d hd2
        · obtain rfl : d = k := by omega
          exact hkk
      · refine (er79_true_false hl hm ha hc hk8 hkk _).mono ?_
        rintro k' o σ ⟨rfl, rfl, rfl⟩
        exact ⟨rfl, .inr ⟨by simp, .inr ⟨rfl, rfl, k, hk8, hkk⟩⟩⟩
    · obtain rfl : k = 8 := by omega
      unfold eaSt
      by_cases h0 : (nz (fun d => o79 (amt l d) (amt m d)) 8).length = 0
      · simp only [if_pos h0]
        refine (goes (ctx_ok tC4_ok 36) mixed rfl (gs := []) (gh := []) (orc := way [(13, 1)]) (stops := []) (f := 3000) (k := [.code (roundOf 0 (bodyOf Try.f91))]) (o := .norm) (σ := (kn (eaS true false G79 l m 8 .nil) (eaH true false Gh79 l m))) (cs := [¬(↑(8 : Nat) : Int) < (8 : Int)]) (k' := []) (o' := (.exit 0)) (S := (eaS true false G79 l m 8 .nil)) (H := (eaH true false Gh79 l m)) (by kernel_rfl) (by kernel_rfl) (by simp [conj])).mono ?_
        rintro k o σ ⟨rfl, rfl, rfl⟩
        exact ⟨rfl, .inr ⟨by simp, .inl ⟨rfl, rfl, hinv⟩⟩⟩
      · simp only [if_neg h0]
        generalize hnz : nz (fun d => o79 (amt l d) (amt m d)) 8 = z
        refine (goes (ctx_ok tC4_ok 36) mixed rfl (gs := []) (gh := []) (orc := way [(13, 1)]) (stops := []) (f := 3000) (k := [.code (roundOf 0 (bodyOf Try.f91))]) (o := .norm) (σ := (kn (eaS true false G79 l m 8 (.sl 500 5 0 z.length)) (rw5 z :: eaH true false Gh79 l m))) (cs := [¬(↑(8 : Nat) : Int) < (8 : Int)]) (k' := []) (o' := (.exit 0)) (S := (eaS true false G79 l m 8 (.sl 500 5 0 z.length))) (H := (rw5 z :: eaH true false Gh79 l m)) (by kernel_rfl) (by kernel_rfl) (by simp [conj])).mono ?_
        rintro k o σ ⟨rfl, rfl, rfl⟩
        exact ⟨rfl, .inr ⟨by simp, .inl ⟨rfl, rfl, hinv⟩⟩⟩
  · rintro k o σ ⟨rfl, hcase⟩
    rcases hcase with ⟨rfl, rfl, hall⟩ | hbad
    · unfold eaSt
      generalize nz (fun d => o79 (amt l d) (amt m d)) 8 = z
      by_cases h0 : z.length = 0
      · simp only [if_pos h0]
        exact goes_ret (ctx_ok tC4_ok 36) mixed rfl (orc := way []) (stops := []) (f := 3000) (k := (restOf 0 (bodyOf Try.f91))) (o := .norm) (σ := (kn (eaS true false G79 l m 8 .nil) (eaH true false Gh79 l m))) (cs := [True, True, True]) (o' := .ret) (rs := Try.f91.results.toList) (v := (.tup [[.nil], E 0])) (H := Gh79) (by kernel_rfl) (.inr rfl) (by simp [conj]) fun σ hσ => .inl ⟨hall, .inl ⟨h0, rfl⟩, fun s hs => by simp [mkS] at hs, trivial⟩
      · simp only [if_neg h0]
        exact goes_ret (ctx_ok tC4_ok 36) mixed rfl (orc := way []) (stops := []) (f := 3000) (k := (restOf 0 (bodyOf Try.f91))) (o := .norm) (σ := (kn (eaS true false G79 l m 8 (.sl 500 5 0 z.length)) (rw5 z :: eaH true false Gh79 l m))) (cs := [True, True, True]) (o' := .ret) (rs := Try.f91.results.toList) (v := (.tup [[.sl 500 5 0 z.length], E 0])) (H := (rw5 z :: Gh79)) (by kernel_rfl) (.inr rfl) (by simp [conj]) fun σ hσ => .inl ⟨hall, .inr ⟨by omega, 500, _, rfl, hσ (500, _) List.mem_cons_self, rfl⟩, fun s hs => by simp [mkS] at hs; exact hs.symm, trivial⟩
    · obtain ⟨rfl, rfl, d, hd, hd2⟩ := hbad
      exact goes_ret (ctx_ok tC4_ok 36) mixed rfl (orc := way []) (stops := []) (f := 3000) (k := (restOf 0 (bodyOf Try.f91))) (o := .ret) (σ := (kn [(6, .one [.nil]), (7, .one (E er79))] [])) (cs := []) (o' := .ret) (rs := Try.f91.results.toList) (v := (.tup [[.nil], E er79])) (H := ([] : List (Nat × Bk))) (by kernel_rfl) (.inr rfl) (by simp [conj]) fun σ _ => .inr ⟨d, hd, hd2, .inl ⟨rfl, rfl⟩⟩

theorem ex79_false_true {w0 : Base} {l m : Cs} (hl : okC l) (hm : okC m) (ha : false = true → l = []) (hc : true = true → m = []) :
    Goes Try.prog Try.f91.ntmps w0 [.code (bodyOf Try.f91)] .norm (kn (argS 0 [inS false 1000 l, inS true 1001 m, G79]) (eaH false true Gh79 l m)) (Fin (ctx tC4 36) Try.f91.results.toList fun v σ =>
      ((∀ d, d < 8 → k79 (amt l d) (amt m d)) ∧ LFin (nz (fun d => o79 (amt l d) (amt m d)) 8) (some (E 0)) v σ ∧ (∀ s, v = mkS (some (E 0)) [.sl s 5 0 (nz (fun d => o79 (amt l d) (amt m d)) 8).length] → s = 500) ∧ J79 σ) ∨ (∃ d, d < 8 ∧ ¬ k79 (amt l d) (amt m d) ∧ LFin [] (some (E er79)) v σ)) := by
  refine (goes (ctx_ok tC4_ok 36) mixed rfl (gs := [12]) (gh := []) (orc := way []) (stops := [0]) (f := 3000) (k := [.code (bodyOf Try.f91)]) (o := .norm) (σ := (kn (argS 0 [inS false 1000 l, inS true 1001 m, G79]) (eaH false true Gh79 l m))) (cs := [True, True, True, True]) (k' := (kOf 0 (bodyOf Try.f91))) (o' := .norm) (S := (eaS false true G79 l m 0 .nil)) (H := (eaH false true Gh79 l m)) (by kernel_rfl) (by kernel_rfl) (by simp [conj])).bind ?_
  rintro k o σ ⟨rfl, rfl, rfl⟩
  have hk : kOf 0 (bodyOf Try.f91) = .code (.block 0 (.loop (roundOf 0 (bodyOf Try.f91)))) :: restOf 0 (bodyOf Try.f91) := by kernel_rfl
  rw [hk]
  have e0 : kn (eaS false true G79 l m 0 .nil) (eaH false true Gh79 l m) = eaSt (eaS false true G79 l m) (eaH false true Gh79 l m) (fun d => o79 (amt l d) (amt m d)) 0 := rfl
  rw [e0]
  refine (goes_loop (eaSt (eaS false true G79 l m) (eaH false true Gh79 l m) (fun d => o79 (amt l d) (amt m d))) (fun k => k ≤ 8 ∧ ∀ d, d < k → k79 (amt l d) (amt m d)) (fun k => 8 - k)
    (fun o σ => (o = .norm ∧ σ = eaSt (eaS false true G79 l m) (eaH false true Gh79 l m) (fun d => o79 (amt l d) (amt m d)) 8 ∧ ∀ d, d < 8 → k79 (amt l d) (amt m d)) ∨ (o = .ret ∧ σ = kn [(6, .one [.nil]), (7, .one (E er79))] [] ∧ ∃ d, d < 8 ∧ ¬ k79 (amt l d) (amt m d))) ?_ (p := 0) ⟨by omega, fun d hd => by omega⟩).bind ?_
  · rintro k ⟨hk, hinv⟩
    by_cases hk8 : k < 8
    · by_cases hkk : k79 (amt l k) (amt m k)
      · refine (ez79_false_true hl hm ha hc hk8 (fun d hd => ?_)).bind ?_
        · by_cases hd2 : d < k
          · exact hinv d hd2
          · obtain rfl : d = k := by omega
            exact hkk
        rintro k' o σ ⟨rfl, rfl, σ0, rfl, g⟩
        refine g (goes_z ?_)
        refine ⟨rfl, .inl ⟨rfl, k + 1, ⟨hk8, fun d hd => ?_⟩, by omega, rfl⟩⟩
        by_cases hd2 : d < k
        · exact hinv d hd2
        · obtain rfl : d = k := by omega
          exact hkk
      · refine (er79_false_true hl hm ha hc hk8 hkk _).mono ?_
        rintro k' o σ ⟨rfl, rfl, rfl⟩
        exact ⟨rfl, .inr ⟨by simp, .inr ⟨rfl, rfl, k, hk8, hkk⟩⟩⟩
    · obtain rfl : k = 8 := by omega
      unfold eaSt
      by_cases h0 : (nz (fun d => o79 (amt l d) (amt m d)) 8).length = 0
      · simp only [if_pos h0]
        refine (goes (ctx_ok tC4_ok 36) mixed rfl (gs := []) (gh := []) (orc := way [(13, 1)]) (stops := []) (f := 3000) (k := [.code (roundOf 0 (bodyOf Try.f91))]) (o := .norm) (σ := (kn (eaS false true G79 l m 8 .nil) (eaH false true Gh79 l m))) (cs := [¬(↑(8 : Nat) : Int) < (8 : Int)]) (k' := []) (o' := (.exit 0)) (S := (eaS false true G79 l m 8 .nil)) (H := (eaH false true Gh79 l m)) (by kernel_rfl) (by kernel_rfl) (by simp [conj])).mono ?_
        rintro k o σ ⟨rfl, rfl, rfl⟩
        exact ⟨rfl, .inr ⟨by simp, .inl ⟨rfl, rfl, hinv⟩⟩⟩
      · simp only [if_neg h0]
        generalize hnz : nz (fun d => o79 (amt l d) (amt m d)) 8 = z
        refine (goes (ctx_ok tC4_ok 36) mixed rfl (gs := []) (gh := []) (orc := way [(13, 1)]) (stops := []) (f := 3000) (k := [.code (roundOf 0 (bodyOf Try.f91))]) (o := .norm) (σ := (kn (eaS false true G79 l m 8 (.sl 500 5 0 z.length)) (rw5 z :: eaH false true Gh79 l m))) (cs := [¬(↑(8 : Nat) : Int) < (8 : Int)]) (k' := []) (o' := (.exit 0)) (S := (eaS false true G79 l m 8 (.sl 500 5 0 z.length))) (H := (rw5 z :: eaH false true Gh79 l m)) (by kernel_rfl) (by kernel_rfl) (by simp [conj])).mono ?_
        rintro k o σ ⟨rfl, rfl, rfl⟩
        exact ⟨rfl, .inr ⟨by simp, .inl ⟨rfl, rfl, hinv⟩⟩⟩
  · rintro k o σ ⟨rfl, hcase⟩
    rcases hcase with ⟨rfl, rfl, hall⟩ | hbad
    · unfold eaSt
      generalize nz (fun d => o79 (amt l d) (amt m d)) 8 = z
      by_cases h0 : z.length = 0
      · simp only [if_pos h0]
        exact goes_ret (ctx_ok tC4_ok 36) mixed rfl (orc := way []) (stops := []) (f := 3000) (k := (restOf 0 (bodyOf Try.f91))) (o := .norm) (σ := (kn (eaS false true G79 l m 8 .nil) (eaH false true Gh79 l m))) (cs := [True, True, True]) (o' := .ret) (rs := Try.f91.results.toList) (v := (.tup [[.nil], E 0])) (H := Gh79) (by kernel_rfl) (.inr rfl) (by simp [conj]) fun σ hσ => .inl ⟨hall, .inl ⟨h0, rfl⟩, fun s hs => by simp [mkS] at hs, trivial⟩
      · simp only [if_neg h0]
        exact goes_ret (ctx_ok tC4_ok 36) mixed rfl (orc := way []) (stops := []) (f := 3000) (k := (restOf 0 (bodyOf Try.f91))) (o := .norm) (σ := (kn (eaS false true G79 l m 8 (.sl 500 5 0 z.length)) (rw5 z :: eaH false true Gh79 l m))) (cs := [True, True, True]) (o' := .ret) (rs := Try.f91.results.toList) (v := (.tup [[.sl 500 5 0 z.length], E 0])) (H := (rw5 z :: Gh79)) (by kernel_rfl) (.inr rfl) (by simp [conj]) fun σ hσ => .inl ⟨hall, .inr ⟨by omega, 500, _, rfl, hσ (500, _) List.mem_cons_self, rfl⟩, fun s hs => by simp [mkS] at hs; exact hs.symm, trivial⟩
    · obtain ⟨rfl, rfl, d, hd, hd2⟩ := hbad
      exact goes_ret (ctx_ok tC4_ok 36) mixed rfl (orc := way []) (stops := []) (f := 3000) (k := (restOf 0 (bodyOf Try.f91))) (o := .ret) (σ := (kn [(6, .one [.nil]), (7, .one (E er79))] [])) (cs := []) (o' := .ret) (rs := Try.f91.results.toList) (v := (.tup [[.nil], E er79])) (H := ([] : List (Nat × Bk))) (by kernel_rfl) (.inr rfl) (by simp [conj]) fun σ _ => .inr ⟨d, hd, hd2, .inl ⟨rfl, rfl⟩⟩

theorem ex79_false_false {w0 : Base} {l m : Cs} (hl : okC l) (hm : okC m) (ha : false = true → l = []) (hc : false = true → m = []) :
    Goes Try.prog Try.f91.ntmps w0 [.code (bodyOf Try.f91)] .norm (kn (argS 0 [inS false 1000 l, inS false 1001 m, G79]) (eaH false false Gh79 l m)) (Fin (ctx tC4 36) Try.f91.results.toList fun v σ =>
      ((∀ d, d < 8 → k79 (amt l d) (amt m d)) ∧ LFin (nz (fun d => o79 (amt l d) (amt m d)) 8) (some (E 0)) v σ ∧ (∀ s, v = mkS (some (E 0)) [.sl s 5 0 (nz (fun d => o79 (amt l d) (amt m d)) 8).length] → s = 500) ∧ J79 σ) ∨ (∃ d, d < 8 ∧ ¬ k79 (amt l d) (amt m d) ∧ LFin [] (some (E er79)) v σ)) := by
  refine (goes (ctx_ok tC4_ok 36) mixed rfl (gs := [12]) (gh := []) (orc := way []) (stops := [0]) (f := 3000) (k := [.code (bodyOf Try.f91)]) (o := .norm) (σ := (kn (argS 0 [inS false 1000 l, inS false 1001 m, G79]) (eaH false false Gh79 l m))) (cs := [True, True, True, True]) (k' := (kOf 0 (bodyOf Try.f91))) (o' := .norm) (S := (eaS false false G79 l m 0 .nil)) (H := (eaH false false Gh79 l m)) (by kernel_rfl) (by kernel_rfl) (by simp [conj])).bind ?_
  rintro k o σ ⟨rfl, rfl, rfl⟩
  have hk : kOf 0 (bodyOf Try.f91) = .code (.block 0 (.loop (roundOf 0 (bodyOf Try.f91)))) :: restOf 0 (bodyOf Try.f91) := by kernel_rfl
  rw [hk]
  have e0 : kn (eaS false false G79 l m 0 .nil) (eaH false false Gh79 l m) = eaSt (eaS false false G79 l m) (eaH false false Gh79 l m) (fun d => o79 (amt l d) (amt m d)) 0 := rfl
  rw [e0]
  refine (goes_loop (eaSt (eaS false false G79 l m) (eaH false false Gh79 l m) (fun d => o79 (amt l d) (amt m d))) (fun k => k ≤ 8 ∧ ∀ d, d < k → k79 (amt l d) (amt m d)) (fun k => 8 - k)
    (fun o σ => (o = .norm ∧ σ = eaSt (eaS false false G79 l m) (eaH false false Gh79 l m) (fun d => o79 (amt l d) (amt m d)) 8 ∧ ∀ d, d < 8 → k79 (amt l d) (amt m d)) ∨ (o = .ret ∧ σ = kn [(6, .one [.nil]), (7, .one (E er79))] [] ∧ ∃ d, d < 8 ∧ ¬ k79 (amt l d) (amt m d))) ?_ (p := 0) ⟨by omega, fun d hd => by omega⟩).bind ?_
  · rintro k ⟨hk, hinv⟩
    by_cases hk8 : k < 8
    · by_cases hkk : k79 (amt l k) (amt m k)
      · refine (ez79_false_false hl hm ha hc hk8 (fun d hd => ?_)).bind ?_
        · by_cases hd2 : d < k
          · exact hinv d hd2
          · obtain rfl : d = k := by omega
            exact hkk
        rintro k' o σ ⟨rfl, rfl, σ0, rfl, g⟩
        refine g (goes_z ?_)
        refine ⟨rfl, .inl ⟨rfl, k + 1, ⟨hk8, fun d hd => ?_⟩, by omega, rfl⟩⟩
        by_cases hd2 : d < k
        · exact hinv d hd2
        · obtain rfl : d = k := by omega
          exact hkk
      · refine (er79_false_false hl hm ha hc hk8 hkk _).mono ?_
        rintro k' o σ ⟨rfl, rfl, rfl⟩
        exact ⟨rfl, .inr ⟨by simp, .inr ⟨rfl, rfl, k, hk8, hkk⟩⟩⟩
    · obtain rfl : k = 8 := by omega
      unfold eaSt
      by_cases h0 : (nz (fun d => o79 (amt l d) (amt m d)) 8).length = 0
      · simp only [if_pos h0]
        refine (goes (ctx_ok tC4_ok 36) mixed rfl (gs := []) (gh := []) (orc := way [(13, 1)]) (stops := []) (f := 3000) (k := [.code (roundOf 0 (bodyOf Try.f91))]) (o := .norm) (σ := (kn (eaS false false G79 l m 8 .nil) (eaH false false Gh79 l m))) (cs := [¬(↑(8 : Nat) : Int) < (8 : Int)]) (k' := []) (o' := (.exit 0)) (S := (eaS false false G79 l m 8 .nil)) (H := (eaH false false Gh79 l m)) (by kernel_rfl) (by kernel_rfl) (by simp [conj])).mono ?_
        rintro k o σ ⟨rfl, rfl, rfl⟩
        exact ⟨rfl, .inr ⟨by simp, .inl ⟨rfl, rfl, hinv⟩⟩⟩
      · simp only [if_neg h0]
        generalize hnz : nz (fun d => o79 (amt l d) (amt m d)) 8 = z
        refine (goes (ctx_ok tC4_ok 36) mixed rfl (gs := []) (gh := []) (orc := way [(13, 1)]) (stops := []) (f := 3000) (k := [.code (roundOf 0 (bodyOf Try.f91))]) (o := .norm) (σ := (kn (eaS false false G79 l m 8 (.sl 500 5 0 z.length)) (rw5 z :: eaH false false Gh79 l m))) (cs := [¬(↑(8 : Nat) : Int) < (8 : Int)]) (k' := []) (o' := (.exit 0)) (S := (eaS false false G79 l m 8 (.sl 500 5 0 z.length))) (H := (rw5 z :: eaH false false Gh79 l m)) (by kernel_rfl) (by kernel_rfl) (by simp [conj])).mono ?_
        rintro k o σ ⟨rfl, rfl, rfl⟩
        exact ⟨rfl, .inr ⟨by simp, .inl ⟨rfl, rfl, hinv⟩⟩⟩
  · rintro k o σ ⟨rfl, hcase⟩
    rcases hcase with ⟨rfl, rfl, hall⟩ | hbad
    · unfold eaSt
      generalize nz (fun d => o79 (amt l d) (amt m d)) 8 = z
      by_cases h0 : z.length = 0
      · simp only [if_pos h0]
        exact goes_ret (ctx_ok tC4_ok 36) mixed rfl (orc := way []) (stops := []) (f := 3000) (k := (restOf 0 (bodyOf Try.f91))) (o := .norm) (σ := (kn (eaS false false G79 l m 8 .nil) (eaH false false Gh79 l m))) (cs := [True, True, True]) (o' := .ret) (rs := Try.f91.results.toList) (v := (.tup [[.nil], E 0])) (H := Gh79) (by kernel_rfl) (.inr rfl) (by simp [conj]) fun σ hσ => .inl ⟨hall, .inl ⟨h0, rfl⟩, fun s hs => by simp [mkS] at hs, trivial⟩
      · simp only [if_neg h0]
        exact goes_ret (ctx_ok tC4_ok 36) mixed rfl (orc := way []) (stops := []) (f := 3000) (k := (restOf 0 (bodyOf Try.f91))) (o := .norm) (σ := (kn (eaS false false G79 l m 8 (.sl 500 5 0 z.length)) (rw5 z :: eaH false false Gh79 l m))) (cs := [True, True, True]) (o' := .ret) (rs := Try.f91.results.toList) (v := (.tup [[.sl 500 5 0 z.length], E 0])) (H := (rw5 z :: Gh79)) (by kernel_rfl) (.inr rfl) (by simp [conj]) fun σ hσ => .inl ⟨hall, .inr ⟨by omega, 500, _, rfl, hσ (500, _) List.mem_cons_self, rfl⟩, fun s hs => by simp [mkS] at hs; exact hs.symm, trivial⟩
    · obtain ⟨rfl, rfl, d, hd, hd2⟩ := hbad
      exact goes_ret (ctx_ok tC4_ok 36) mixed rfl (orc := way []) (stops := []) (f := 3000) (k := (restOf 0 (bodyOf Try.f91))) (o := .ret) (σ := (kn [(6, .one [.nil]), (7, .one (E er79))] [])) (cs := []) (o' := .ret) (rs := Try.f91.results.toList) (v := (.tup [[.nil], E er79])) (H := ([] : List (Nat × Bk))) (by kernel_rfl) (.inr rfl) (by simp [conj]) fun σ _ => .inr ⟨d, hd, hd2, .inl ⟨rfl, rfl⟩⟩

theorem ex80_true_true {w0 : Base} {l m : Cs} (hl : okC l) (hm : okC m) (ha : true = true → l = []) (hc : true = true → m = []) :
    Goes Try.prog Try.f91.ntmps w0 [.code (bodyOf Try.f91)] .norm (kn (argS 0 [inS true 1000 l, inS true 1001 m, G80]) (eaH true true Gh80 l m)) (Fin (ctx tC4 36) Try.f91.results.toList fun v σ =>
      ((∀ d, d < 8 → k80 (amt l d) (amt m d)) ∧ LFin (nz (fun d => o80 (amt l d) (amt m d)) 8) (some (E 0)) v σ ∧ (∀ s, v = mkS (some (E 0)) [.sl s 5 0 (nz (fun d => o80 (amt l d) (amt m d)) 8).length] → s = 500) ∧ J80 σ) ∨ (∃ d, d < 8 ∧ ¬ k80 (amt l d) (amt m d) ∧ LFin [] (some (E er80)) v σ)) := by
  refine (goes (ctx_ok tC4_ok 36) mixed rfl (gs := [12]) (gh := []) (orc := way []) (stops := [0]) (f := 3000) (k := [.code (bodyOf Try.f91)]) (o := .norm) (σ := (kn (argS 0 [inS true 1000 l, inS true 1001 m, G80]) (eaH true true Gh80 l m))) (cs := [True, True, True, True]) (k' := (kOf 0 (bodyOf Try.f91))) (o' := .norm) (S := (eaS true true G80 l m 0 .nil)) (H := (eaH true true Gh80 l m)) (by kernel_rfl) (by kernel_rfl) (by simp [conj])).bind ?_
  rintro k o σ ⟨rfl, rfl, rfl⟩
  have hk : kOf 0 (bodyOf Try.f91) = .code (.block 0 (.loop (roundOf 0 (bodyOf Try.f91)))) :: restOf 0 (bodyOf Try.f91) := by kernel_rfl
  rw [hk]
  have e0 : kn (eaS true true G80 l m 0 .nil) (eaH true true Gh80 l m) = eaSt (eaS true true G80 l m) (eaH true true Gh80 l m) (fun d => o80 (amt l d) (amt m d)) 0 := rfl
  rw [e0]
  refine (goes_loop (eaSt (eaS true true G80 l m) (eaH true true Gh80 l m) (fun d => o80 (amt l d) (amt m d))) (fun k => k ≤ 8 ∧ ∀ d, d < k → k80 (amt l d) (amt m d)) (fun k => 8 - k)
    (fun o σ => (o = .norm ∧ σ = eaSt (eaS true true G80 l m) (eaH true true Gh80 l m) (fun d => o80 (amt l d) (amt m d)) 8 ∧ ∀ d, d < 8 → k80 (amt l d) (amt m d)) ∨ (o = .ret ∧ σ = kn [(6, .one [.nil]), (7, .one (E er80))] [] ∧ ∃ d, d < 8 ∧ ¬ k80 (amt l d) (amt m d))) ?_ (p := 0) ⟨by omega, fun d hd => by omega⟩).bind ?_
  · rintro k ⟨hk, hinv⟩
    by_cases hk8 : k < 8
    · by_cases hkk : k80 (amt l k) (amt m k)
      · refine (ez80_true_true hl hm ha hc hk8 (fun d hd => ?_)).bind ?_
        · by_cases hd2 : d < k
          · exact hinv d hd2
          · obtain rfl : d = k := by omega
            exact hkk
        rintro k' o σ ⟨rfl, rfl, σ0, rfl, g⟩
        refine g (goes_z ?_)
        refine ⟨rfl, .inl ⟨rfl, k + 1, ⟨hk8, fun d hd => ?_⟩, by omega, rfl⟩⟩
        by_cases hd2 : d < k
        · exact hinv d hd2
        · obtain rfl : d = k := by omega
          exact hkk
      · refine (er80_true_true hl hm ha hc hk8 hkk _).mono ?_
        rintro k' o σ ⟨rfl, rfl, rfl⟩
        exact ⟨rfl, .inr ⟨by simp, .inr ⟨rfl, rfl, k, hk8, hkk⟩⟩⟩
    · obtain rfl : k = 8 := by omega
      unfold eaSt
      by_cases h0 : (nz (fun d => o80 (amt l d) (amt m d)) 8).length = 0
      · simp only [if_pos h0]
        refine (goes (ctx_ok tC4_ok 36) mixed rfl (gs := []) (gh := []) (orc := way [(13, 1)]) (stops := []) (f := 3000) (k := [.code (roundOf 0 (bodyOf Try.f91))]) (o := .norm) (σ := (kn (eaS true true G80 l m 8 .nil) (eaH true true Gh80 l m))) (cs := [¬(↑(8 : Nat) : Int) < (8 : Int)]) (k' := []) (o' := (.exit 0)) (S := (eaS true true G80 l m 8 .nil)) (H := (eaH true true Gh80 l m)) (by kernel_rfl) (by kernel_rfl) (by simp [conj])).mono ?_
        rintro k o σ ⟨rfl, rfl, rfl⟩
        exact ⟨rfl, .inr ⟨by simp, .inl ⟨rfl, rfl, hinv⟩⟩⟩
      · simp only [if_neg h0]
        generalize hnz : nz (fun d => o80 (amt l d) (amt m d)) 8 = z
        refine (goes (ctx_ok tC4_ok 36) mixed rfl (gs := []) (gh := []) (orc := way [(13, 1)]) (stops := []) (f := 3000) (k := [.code (roundOf 0 (bodyOf Try.f91))]) (o := .norm) (σ := (kn (eaS true true G80 l m 8 (.sl 500 5 0 z.length)) (rw5 z :: eaH true true Gh80 l m))) (cs := [¬(↑(8 : Nat) : Int) < (8 : Int)]) (k' := []) (o' := (.exit 0)) (S := (eaS true true G80 l m 8 (.sl 500 5 0 z.length))) (H := (rw5 z :: eaH true true Gh80 l m)) (by kernel_rfl) (by kernel_rfl) (by simp [conj])).mono ?_
        rintro k o σ ⟨rfl, rfl, rfl⟩
        exact ⟨rfl, .inr ⟨by simp, .inl ⟨rfl, rfl, hinv⟩⟩⟩
  · rintro k o σ ⟨rfl, hcase⟩
    rcases hcase with ⟨rfl, rfl, hall⟩ | hbad
    · unfold eaSt
      generalize nz (fun d => o80 (amt l d) (amt m d)) 8 = z
      by_cases h0 : z.length = 0
      · simp only [if_pos h0]
        exact goes_ret (ctx_ok tC4_ok 36) mixed rfl (orc := way []) (stops := []) (f := 3000) (k := (restOf 0 (bodyOf Try.f91))) (o := .norm) (σ := (kn (eaS true true G80 l m 8 .nil) (eaH true true Gh80 l m))) (cs := [True, True, True]) (o' := .ret) (rs := Try.f91.results.toList) (v := (.tup [[.nil], E 0])) (H := Gh80) (by kernel_rfl) (.inr rfl) (by simp [conj]) fun σ hσ => .inl ⟨hall, .inl ⟨h0, rfl⟩, fun s hs => by simp [mkS] at hs, trivial⟩
      · simp only [if_neg h0]
        exact goes_ret (ctx_ok tC4_ok 36) mixed rfl (orc := way []) (stops := []) (f := 3000) (k := (restOf 0 (bodyOf Try.f91))) (o := .norm) (σ := (kn (eaS true true G80 l m 8 (.sl 500 5 0 z.length)) (rw5 z :: eaH true true Gh80 l m))) (cs := [True, True, True]) (o' := .ret) (rs := Try.f91.results.toList) (v := (.tup [[.sl 500 5 0 z.length], E 0])) (H := (rw5 z :: Gh80)) (by kernel_rfl) (.inr rfl) (by simp [conj]) fun σ hσ => .inl ⟨hall, .inr ⟨by omega, 500, _, rfl, hσ (500, _) List.mem_cons_self, rfl⟩, fun s hs => by simp [mkS] at hs; exact hs.symm, trivial⟩
    · obtain ⟨rfl, rfl, d, hd, hd2⟩ := hbad
      exact goes_ret (ctx_ok tC4_ok 36) mixed rfl (orc := way []) (stops := []) (f := 3000) (k := (restOf 0 (bodyOf Try.f91))) (o := .ret) (σ := (kn [(6, .one [.nil]), (7, .one (E er80))] [])) (cs := []) (o' := .ret) (rs := Try.f91.results.toList) (v := (.tup [[.nil], E er80])) (H := ([] : List (Nat × Bk))) (by kernel_rfl) (.inr rfl) (by simp [conj]) fun σ _ => .inr ⟨d, hd, hd2, .inl ⟨rfl, rfl⟩⟩

theorem ex80_true_false {w0 : Base} {l m : Cs} (hl : okC l) (hm : okC m) (ha : true = true → l = []) (hc : false = true → m = []) :
    Goes Try.prog Try.f91.ntmps w0 [.code (bodyOf Try.f91)] .norm (kn (argS 0 [inS true 1000 l, inS false 1001 m, G80]) (eaH true false Gh80 l m)) (Fin (ctx tC4 36) Try.f91.results.toList fun v σ =>
      ((∀ d, d < 8 → k80 (amt l d) (amt m d)) ∧ LFin (nz (fun d => o80 (amt l d) (amt m d)) 8) (some (E 0)) v σ ∧ (∀ s, v = mkS (some (E 0)) [.sl s 5 0 (nz (fun d => o80 (amt l d) (amt m d)) 8).length] → s = 500) ∧ J80 σ) ∨ (∃ d, d < 8 ∧ ¬ k80 (amt l d) (amt m d) ∧ LFin [] (some (E er80)) v σ)) := by
  refine (goes (ctx_ok tC4_ok 36) mixed rfl (gs := [12]) (gh := []) (orc := way []) (stops := [0]) (f := 3000) (k := [.code (bodyOf Try.f91)]) (o := .norm) (σ := (kn (argS 0 [inS true 1000 l, inS false 1001 m, G80]) (eaH true false Gh80 l m))) (cs := [True, True, True, True]) (k' := (kOf 0 (bodyOf Try.f91))) (o' := .norm) (S := (eaS true false G80 l m 0 .nil)) (H := (eaH true false Gh80 l m)) (by kernel_rfl) (by kernel_rfl) (by simp [conj])).bind ?_
  rintro k o σ ⟨rfl, rfl, rfl⟩
  have hk : kOf 0 (bodyOf Try.f91) = .code (.block 0 (.loop (roundOf 0 (bodyOf Try.f91)))) :: restOf 0 (bodyOf Try.f91) := by kernel_rfl
  rw [hk]
  have e0 : kn (eaS true false G80 l m 0 .nil) (eaH true false Gh80 l m) = eaSt (eaS true false G80 l m) (eaH true false Gh80 l m) (fun d => o80 (amt l d) (amt m d)) 0 := rfl
  rw [e0]
  refine (goes_loop (eaSt (eaS true false G80 l m) (eaH true false Gh80 l m) (fun d => o80 (amt l d) (amt m d))) (fun k => k ≤ 8 ∧ ∀ d, d < k → k80 (amt l d) (amt m d)) (fun k => 8 - k)
    (fun o σ => (o = .norm ∧ σ = eaSt (eaS true false G80 l m) (eaH true false Gh80 l m) (fun d => o80 (amt l d) (amt m d)) 8 ∧ ∀ d, d < 8 → k80 (amt l d) (amt m d)) ∨ (o = .ret ∧ σ = kn [(6, .one [.nil]), (7, .one (E er80))] [] ∧ ∃ d, d < 8 ∧ ¬ k80 (amt l d) (amt m d))) ?_ (p := 0) ⟨by omega, fun d hd => by omega⟩).bind ?_
  · rintro k ⟨hk, hinv⟩
    by_cases hk8 : k < 8
    · by_cases hkk : k80 (amt l k) (amt m k)
      · refine (ez80_true_false hl hm ha hc hk8 (fun d hd => ?_)).bind ?_
        · by_cases hd2 : d < k
          · exact hinv d hd2
          · obtain rfl : d = k := by omega
            exact hkk
        rintro k' o σ ⟨rfl, rfl, σ0, rfl, g⟩
        refine g (goes_z ?_)
        refine ⟨rfl, .inl ⟨rfl, k + 1, ⟨hk8, fun d hd => ?_⟩, by omega, rfl⟩⟩
        by_cases hd2 : d < k
        · exact hinv d hd2
        · obtain rfl : d = k := by omega
          exact hkk
      · refine (er80_true_false hl hm ha hc hk8 hkk _).mono ?_
        rintro k' o σ ⟨rfl, rfl, rfl⟩
        exact ⟨rfl, .inr ⟨by simp, .inr ⟨rfl, rfl, k, hk8, hkk⟩⟩⟩
    · obtain rfl : k = 8 := by omega
      unfold eaSt
      by_cases h0 : (nz (fun d => o80 (amt l d) (amt m d)) 8).length = 0
      · simp only [if_pos h0]
        refine (goes (ctx_ok tC4_ok 36) mixed rfl (gs := []) (gh := []) (orc := way [(13, 1)]) (stops := []) (f := 3000) (k := [.code (roundOf 0 (bodyOf Try.f91))]) (o := .norm) (σ := (kn (eaS true false G80 l m 8 .nil) (eaH true false Gh80 l m))) (cs := [¬(↑(8 : Nat) : Int) < (8 : Int)]) (k' := []) (o' := (.exit 0)) (S := (eaS true false G80 l m 8 .nil)) (H := (eaH true false Gh80 l m)) (by kernel_rfl) (by kernel_rfl) (by simp [conj])).mono ?_
        rintro k o σ ⟨rfl, rfl, rfl⟩
        exact ⟨rfl, .inr ⟨by simp, .inl ⟨rfl, rfl, hinv⟩⟩⟩
      · simp only [if_neg h0]
        generalize hnz : nz (fun d => o80 (amt l d) (amt m d)) 8 = z
        refine (goes (ctx_ok tC4_ok 36) mixed rfl (gs := []) (gh := []) (orc := way [(13, 1)]) (stops := []) (f := 3000) (k := [.code (roundOf 0 (bodyOf Try.f91))]) (o := .norm) (σ := (kn (eaS true false G80 l m 8 (.sl 500 5 0 z.length)) (rw5 z :: eaH true false Gh80 l m))) (cs := [¬(↑(8 : Nat) : Int) < (8 : Int)]) (k' := []) (o' := (.exit 0)) (S := (eaS true false G80 l m 8 (.sl 500 5 0 z.length))) (H := (rw5 z :: eaH true false Gh80 l m)) (by kernel_rfl) (by kernel_rfl) (by simp [conj])).mono ?_
        rintro k o σ ⟨rfl, rfl, rfl⟩
        exact ⟨rfl, .inr ⟨by simp, .inl ⟨rfl, rfl, hinv⟩⟩⟩
  · rintro k o σ ⟨rfl, hcase⟩
    rcases hcase with ⟨rfl, rfl, hall⟩ | hbad
    · unfold eaSt
      generalize nz (fun d => o80 (amt l d) (amt m d)) 8 = z
      by_cases h0 : z.length = 0
      · simp only [if_pos h0]
        exact goes_ret (ctx_ok tC4_ok 36) mixed rfl (orc := way []) (stops := []) (f := 3000) (k := (restOf 0 (bodyOf Try.f91))) (o := .norm) (σ := (kn (eaS true false G80 l m 8 .nil) (eaH true false Gh80 l m))) (cs := [True, True, True]) (o' := .ret) (rs := Try.f91.results.toList) (v := (.tup [[.nil], E 0])) (H := Gh80) (by kernel_rfl) (.inr rfl) (by simp [conj]) fun σ hσ => .inl ⟨hall, .inl ⟨h0, rfl⟩, fun s hs => by simp [mkS] at hs, trivial⟩
      · simp only [if_neg h0]
        exact goes_ret (ctx_ok tC4_ok 36) mixed rfl (orc := way []) (stops := []) (f := 3000) (k := (restOf 0 (bodyOf Try.f91))) (o := .norm) (σ := (kn (eaS true false G80 l m 8 (.sl 500 5 0 z.length)) (rw5 z :: eaH true false Gh80 l m))) (cs := [True, True, True]) (o' := .ret) (rs := Try.f91.results.toList) (v := (.tup [[.sl 500 5 0 z.length], E 0])) (H := (rw5 z :: Gh80)) (by kernel_rfl) (.inr rfl) (by simp [conj]) fun σ hσ => .inl ⟨hall, .inr ⟨by omega, 500, _, rfl, hσ (500, _) List.mem_cons_self, rfl⟩, fun s hs => by simp [mkS] at hs; exact hs.symm, trivial⟩
    · obtain ⟨rfl, rfl, d, hd, hd2⟩ := hbad
      exact goes_ret (ctx_ok tC4_ok 36) mixed rfl (orc := way []) (stops := []) (f := 3000) (k := (restOf 0 (bodyOf Try.f91))) (o := .ret) (σ := (kn [(6, .one [.nil]), (7, .one (E er80))] [])) (cs := []) (o' := .ret) (rs := Try.f91.results.toList) (v := (.tup [[.nil], E er80])) (H := ([] : List (Nat × Bk))) (by kernel_rfl) (.inr rfl) (by simp [conj]) fun σ _ => .inr ⟨d, hd, hd2, .inl ⟨rfl, rfl⟩⟩

theorem ex80_false_true {w0 : Base} {l m : Cs} (hl : okC l) (hm : okC m) (ha : false = true → l = []) (hc : true = true → m = []) :
    Goes Try.prog Try.f91.ntmps w0 [.code (bodyOf Try.f91)] .norm (kn (argS 0 [inS false 1000 l, inS true 1001 m, G80]) (eaH false true Gh80 l m)) (Fin (ctx tC4 36) Try.f91.results.toList fun v σ =>
      ((∀ d, d < 8 → k80 (amt l d) (amt m d)) ∧ LFin (nz (fun d => o80 (amt l d) (amt m d)) 8) (some (E 0)) v σ ∧ (∀ s, v = mkS (some (E 0)) [.sl s 5 0 (nz (fun d => o80 (amt l d) (amt m d)) 8).length] → s = 500) ∧ J80 σ) ∨ (∃ d, d < 8 ∧ ¬ k80 (amt l d) (amt m d) ∧ LFin [] (some (E er80)) v σ)) := by
  refine (goes (ctx_ok tC4_ok 36) mixed rfl (gs := [12]) (gh := []) (orc := way []) (stops := [0]) (f := 3000) (k := [.code (bodyOf Try.f91)]) (o := .norm) (σ := (kn (argS 0 [inS false 1000 l, inS true 1001 m, G80]) (eaH false true Gh80 l m))) (cs := [True, True, True, True]) (k' := (kOf 0 (bodyOf Try.f91))) (o' := .norm) (S := (eaS false true G80 l m 0 .nil)) (H := (eaH false true Gh80 l m)) (by kernel_rfl) (by kernel_rfl) (by simp [conj])).bind ?_
  rintro k o σ ⟨rfl, rfl, rfl⟩
  have hk : kOf 0 (bodyOf Try.f91) = .code (.block 0 (.loop (roundOf 0 (bodyOf Try.f91)))) :: restOf 0 (bodyOf Try.f91) := by kernel_rfl
  rw [hk]
  have e0 : kn (eaS false true G80 l m 0 .nil) (eaH false true Gh80 l m) = eaSt (eaS false true G80 l m) (eaH false true Gh80 l m) (fun d => o80 (amt l d) (amt m d)) 0 := rfl
  rw [e0]
  refine (goes_loop (eaSt (eaS false true G80 l m) (eaH false true Gh80 l m) (fun d => o80 (amt l d) (amt m d))) (fun k => k ≤ 8 ∧ ∀ d, d < k → k80 (amt l d) (amt m d)) (fun k => 8 - k)
    (fun o σ => (o = .norm ∧ σ = eaSt (eaS false true G80 l m) (eaH false true Gh80 l m) (fun d => o80 (amt l d) (amt m d)) 8 ∧ ∀ d, d < 8 → k80 (amt l d) (amt m d)) ∨ (o = .ret ∧ σ = kn [(6, .one [.nil]), (7, .one (E er80))] [] ∧ ∃ d, d < 8 ∧ ¬ k80 (amt l d) (amt m d))) ?_ (p := 0) ⟨by omega, fun d hd => by omega⟩).bind ?_
  · rintro k ⟨hk, hinv⟩
    by_cases hk8 : k < 8
    · by_cases hkk : k80 (amt l k) (amt m k)
      · refine (ez80_false_true hl hm ha hc hk8 (fun d hd => ?_)).bind ?_
        · by_cases hd2 : d < k
          · exact hinv d hd2
          · obtain rfl : d = k := by omega
            exact hkk
        rintro k' o σ ⟨rfl, rfl, σ0, rfl, g⟩
        refine g (goes_z ?_)
        refine ⟨rfl, .inl ⟨rfl, k + 1, ⟨hk8, fun d hd => ?_⟩, by omega, rfl⟩⟩
        by_cases hd2 : d < k
        · exact hinv d hd2
        · obtain rfl : d = k := by omega
          exact hkk
      · refine (er80_false_true hl hm ha hc hk8 hkk _).mono ?_
        rintro k' o σ ⟨rfl, rfl, rfl⟩
        exact ⟨rfl, .inr ⟨by simp, .inr ⟨rfl, rfl, k, hk8, hkk⟩⟩⟩
    · obtain rfl : k = 8 := by omega
      unfold eaSt
      by_cases h0 : (nz (fun d => o80 (amt l d) (amt m d)) 8).length = 0
      · simp only [if_pos h0]
        refine (goes (ctx_ok tC4_ok 36) mixed rfl (gs := []) (gh := []) (orc := way [(13, 1)]) (stops := []) (f := 3000) (k := [.code (roundOf 0 (bodyOf Try.f91))]) (o := .norm) (σ := (kn (eaS false true G80 l m 8 .nil) (eaH false true Gh80 l m))) (cs := [¬(↑(8 : Nat) : Int) < (8 : Int)]) (k' := []) (o' := (.exit 0)) (S := (eaS false true G80 l m 8 .nil)) (H := (eaH false true Gh80 l m)) (by kernel_rfl) (by kernel_rfl) (by simp [conj])).mono ?_
        rintro k o σ ⟨rfl, rfl, rfl⟩
        exact ⟨rfl, .inr ⟨by simp, .inl ⟨rfl, rfl, hinv⟩⟩⟩
      · simp only [if_neg h0]
        generalize hnz : nz (fun d => o80 (amt l d) (amt m d)) 8 = z
        refine (goes (ctx_ok tC4_ok 36) mixed rfl (gs := []) (gh := []) (orc := way [(13, 1)]) (stops := []) (f := 3000) (k := [.code (roundOf 0 (bodyOf Try.f91))]) (o := .norm) (σ := (kn (eaS false true G80 l m 8 (.sl 500 5 0 z.length)) (rw5 z :: eaH false true Gh80 l m))) (cs := [¬(↑(8 : Nat) : Int) < (8 : Int)]) (k' := []) (o' := (.exit 0)) (S := (eaS false true G80 l m 8 (.sl 500 5 0 z.length))) (H := (rw5 z :: eaH false true Gh80 l m)) (by kernel_rfl) (by kernel_rfl) (by simp [conj])).mono ?_
        rintro k o σ ⟨rfl, rfl, rfl⟩
        exact ⟨rfl, .inr ⟨by simp, .inl ⟨rfl, rfl, hinv⟩⟩⟩
  · rintro k o σ ⟨rfl, hcase⟩
    rcases hcase with ⟨rfl, rfl, hall⟩ | hbad
    · unfold eaSt
      generalize nz (fun d => o80 (amt l d) (amt m d)) 8 = z
      by_cases h0 : z.length = 0
      · simp only [if_pos h0]
        exact goes_ret (ctx_ok tC4_ok 36) mixed rfl (orc := way []) (stops := []) (f := 3000) (k := (restOf 0 (bodyOf Try.f91))) (o := .norm) (σ := (kn (eaS false true G80 l m 8 .nil) (eaH false true Gh80 l m))) (cs := [True, True, True]) (o' := .ret) (rs := Try.f91.results.toList) (v := (.tup [[.nil], E 0])) (H := Gh80) (by kernel_rfl) (.inr rfl) (by simp [conj]) fun σ hσ => .inl ⟨hall, .inl ⟨h0, rfl⟩, fun s hs => by simp [mkS] at hs, trivial⟩
      · simp only [if_neg h0]
        exact goes_ret (ctx_ok tC4_ok 36) mixed rfl (orc := way []) (stops := []) (f := 3000) (k := (restOf 0 (bodyOf Try.f91))) (o := .norm) (σ := (kn (eaS false true G80 l m 8 (.sl 500 5 0 z.length)) (rw5 z :: eaH false true Gh80 l m))) (cs := [True, True, True]) (o' := .ret) (rs := Try.f91.results.toList) (v := (.tup [[.sl 500 5 0 z.length], E 0])) (H := (rw5 z :: Gh80)) (by kernel_rfl) (.inr rfl) (by simp [conj]) fun σ hσ => .inl ⟨hall, .inr ⟨by omega, 500, _, rfl, hσ (500, _) List.mem_cons_self, rfl⟩, fun s hs => by simp [mkS] at hs; exact hs.symm, trivial⟩
    · obtain ⟨rfl, rfl, d, hd, hd2⟩ := hbad
      exact goes_ret (ctx_ok tC4_ok 36) mixed rfl (orc := way []) (stops := []) (f := 3000) (k := (restOf 0 (bodyOf Try.f91))) (o := .ret) (σ := (kn [(6, .one [.nil]), (7, .one (E er80))] [])) (cs := []) (o' := .ret) (rs := Try.f91.results.toList) (v := (.tup [[.nil], E er80])) (H := ([] : List (Nat × Bk))) (by kernel_rfl) (.inr rfl) (by simp [conj]) fun σ _ => .inr ⟨d, hd, hd2, .inl ⟨rfl, rfl⟩⟩

theorem ex80_false_false {w0 : Base} {l m : Cs} (hl : okC l) (hm : okC m) (ha : false = true → l = []) (hc : false = true → m = []) :
    Goes Try.prog Try.f91.ntmps w0 [.code (bodyOf Try.f91)] .norm (kn (argS 0 [inS false 1000 l, inS false 1001 m, G80]) (eaH false false Gh80 l m)) (Fin (ctx tC4 36) Try.f91.results.toList fun v σ =>
      ((∀ d, d < 8 → k80 (amt l d) (amt m d)) ∧ LFin (nz (fun d => o80 (amt l d) (amt m d)) 8) (some (E 0)) v σ ∧ (∀ s, v = mkS (some (E 0)) [.sl s 5 0 (nz (fun d => o80 (amt l d) (amt m d)) 8).length] → s = 500) ∧ J80 σ) ∨ (∃ d, d < 8 ∧ ¬ k80 (amt l d) (amt m d) ∧ LFin [] (some (E er80)) v σ)) := by
  refine (goes (ctx_ok tC4_ok 36) mixed rfl (gs := [12]) (gh := []) (orc := way []) (stops := [0]) (f := 3000) (k := [.code (bodyOf Try.f91)]) (o := .norm) (σ := (kn (argS 0 [inS false 1000 l, inS false 1001 m, G80]) (eaH false false Gh80 l m))) (cs := [True, True, True, True]) (k' := (kOf 0 (bodyOf Try.f91))) (o' := .norm) (S := (eaS false false G80 l m 0 .nil)) (H := (eaH false false Gh80 l m)) (by kernel_rfl) (by kernel_rfl) (by simp [conj])).bind ?_
  rintro k o σ ⟨rfl, rfl, rfl⟩
  have hk : kOf 0 (bodyOf Try.f91) = .code (.block 0 (.loop (roundOf 0 (bodyOf Try.f91)))) :: restOf 0 (bodyOf Try.f91) := by kernel_rfl
  rw [hk]
  have e0 : kn (eaS false false G80 l m 0 .nil) (eaH false false Gh80 l m) = eaSt (eaS false false G80 l m) (eaH false false Gh80 l m) (fun d => o80 (amt l d) (amt m d)) 0 := rfl
  rw [e0]
  refine (goes_loop (eaSt (eaS false false G80 l m) (eaH false false Gh80 l m) (fun d => o80 (amt l d) (amt m d))) (fun k => k ≤ 8 ∧ ∀ d, d < k → k80 (amt l d) (amt m d)) (fun k => 8 - k)
    (fun o σ => (o = .norm ∧ σ = eaSt (eaS false false G80 l m) (eaH false false Gh80 l m) (fun d => o80 (amt l d) (amt m d)) 8 ∧ ∀ d, d < 8 → k80 (amt l d) (amt m d)) ∨ (o = .ret ∧ σ = kn [(6, .one [.nil]), (7, .one (E er80))] [] ∧ ∃ d, d < 8 ∧ ¬ k80 (amt l d) (amt m d))) ?_ (p := 0) ⟨by omega, fun d hd => by omega⟩).bind ?_
  · rintro k ⟨hk, hinv⟩
    by_cases hk8 : k < 8
    · by_cases hkk : k80 (amt l k) (amt m k)
      · refine (ez80_false_false hl hm ha hc hk8 (fun d hd => ?_)).bind ?_
        · by_cases hd2 : d < k
          · exact hinv d hd2
          · obtain rfl : d = k := by omega
            exact hkk
        rintro k' o σ ⟨rfl, rfl, σ0, rfl, g⟩
        refine g (goes_z ?_)
        refine ⟨rfl, .inl ⟨rfl, k + 1, ⟨hk8, fun d hd => ?_⟩, by omega, rfl⟩⟩
        by_cases hd2 : d < k
        · exact hinv d hd2
        · obtain rfl : d = k := by omega
          exact hkk
      · refine (er80_false_false hl hm ha hc hk8 hkk _).mono ?_
        rintro k' o σ ⟨rfl, rfl, rfl⟩
        exact ⟨rfl, .inr ⟨by simp, .inr ⟨rfl, rfl, k, hk8, hkk⟩⟩⟩
    · obtain rfl : k = 8 := by omega
      unfold eaSt
      by_cases h0 : (nz (fun d => o80 (amt l d) (amt m d)) 8).length = 0
      · simp only [if_pos h0]
        refine (goes (ctx_ok tC4_ok 36) mixed rfl (gs := []) (gh := []) (orc := way [(13, 1)]) (stops := []) (f := 3000) (k := [.code (roundOf 0 (bodyOf Try.f91))]) (o := .norm) (σ := (kn (eaS false false G80 l m 8 .nil) (eaH false false Gh80 l m))) (cs := [¬(↑(8 : Nat) : Int) < (8 : Int)]) (k' := []) (o' := (.exit 0)) (S := (eaS false false G80 l m 8 .nil)) (H := (eaH false false Gh80 l m)) (by kernel_rfl) (by kernel_rfl) (by simp [conj])).mono ?_
        rintro k o σ ⟨rfl, rfl, rfl⟩
        exact ⟨rfl, .inr ⟨by simp, .inl ⟨rfl, rfl, hinv⟩⟩⟩
      · simp only [if_neg h0]
        generalize hnz : nz (fun d => o80 (amt l d) (amt m d)) 8 = z
        refine (goes (ctx_ok tC4_ok 36) mixed rfl (gs := []) (gh := []) (orc := way [(13, 1)]) (stops := []) (f := 3000) (k := [.code (roundOf 0 (bodyOf Try.f91))]) (o := .norm) (σ := (kn (eaS false false G80 l m 8 (.sl 500 5 0 z.length)) (rw5 z :: eaH false false Gh80 l m))) (cs := [¬(↑(8 : Nat) : Int) < (8 : Int)]) (k' := []) (o' := (.exit 0)) (S := (eaS false false G80 l m 8 (.sl 500 5 0 z.length))) (H := (rw5 z :: eaH false false Gh80 l m)) (by kernel_rfl) (by kernel_rfl) (by simp [conj])).mono ?_
        rintro k o σ ⟨rfl, rfl, rfl⟩
        exact ⟨rfl, .inr ⟨by simp, .inl ⟨rfl, rfl, hinv⟩⟩⟩
  · rintro k o σ ⟨rfl, hcase⟩
    rcases hcase with ⟨rfl, rfl, hall⟩ | hbad
    · unfold eaSt
      generalize nz (fun d => o80 (amt l d) (amt m d)) 8 = z
      by_cases h0 : z.length = 0
      · simp only [if_pos h0]
        exact goes_ret (ctx_ok tC4_ok 36) mixed rfl (orc := way []) (stops := []) (f := 3000) (k := (restOf 0 (bodyOf Try.f91))) (o := .norm) (σ := (kn (eaS false false G80 l m 8 .nil) (eaH false false Gh80 l m))) (cs := [True, True, True]) (o' := .ret) (rs := Try.f91.results.toList) (v := (.tup [[.nil], E 0])) (H := Gh80) (by kernel_rfl) (.inr rfl) (by simp [conj]) fun σ hσ => .inl ⟨hall, .inl ⟨h0, rfl⟩, fun s hs => by simp [mkS] at hs, trivial⟩
      · simp only [if_neg h0]
        exact goes_ret (ctx_ok tC4_ok 36) mixed rfl (orc := way []) (stops := []) (f := 3000) (k := (restOf 0 (bodyOf Try.f91))) (o := .norm) (σ := (kn (eaS false false G80 l m 8 (.sl 500 5 0 z.length)) (rw5 z :: eaH false false Gh80 l m))) (cs := [True, True, True]) (o' := .ret) (rs := Try.f91.results.toList) (v := (.tup [[.sl 500 5 0 z.length], E 0])) (H := (rw5 z :: Gh80)) (by kernel_rfl) (.inr rfl) (by simp [conj]) fun σ hσ => .inl ⟨hall, .inr ⟨by omega, 500, _, rfl, hσ (500, _) List.mem_cons_self, rfl⟩, fun s hs => by simp [mkS] at hs; exact hs.symm, trivial⟩
    · obtain ⟨rfl, rfl, d, hd, hd2⟩ := hbad
      exact goes_ret (ctx_ok tC4_ok 36) mixed rfl (orc := way []) (stops := []) (f := 3000) (k := (restOf 0 (bodyOf Try.f91))) (o := .ret) (σ := (kn [(6, .one [.nil]), (7, .one (E er80))] [])) (cs := []) (o' := .ret) (rs := Try.f91.results.toList) (v := (.tup [[.nil], E er80])) (H := ([] : List (Nat × Bk))) (by kernel_rfl) (.inr rfl) (by simp [conj]) fun σ _ => .inr ⟨d, hd, hd2, .inl ⟨rfl, rfl⟩⟩

theorem ex86_true_true {w0 : Base} {l m : Cs} (hl : okC l) (hm : okC m) (ha : true = true → l = []) (hc : true = true → m = []) :
    Goes Try.prog Try.f91.ntmps w0 [.code (bodyOf Try.f91)] .norm (kn (argS 0 [inS true 1000 l, inS true 1001 m, G86]) (eaH true true Gh86 l m)) (Fin (ctx tC4 36) Try.f91.results.toList fun v σ =>
      ((∀ d, d < 8 → k86 (amt l d) (amt m d)) ∧ LFin (nz (fun d => o86 (amt l d) (amt m d)) 8) (some (E 0)) v σ ∧ (∀ s, v = mkS (some (E 0)) [.sl s 5 0 (nz (fun d => o86 (amt l d) (amt m d)) 8).length] → s = 500) ∧ J86 σ) ∨ False) := by
  refine (goes (ctx_ok tC4_ok 36) mixed rfl (gs := [12]) (gh := []) (orc := way []) (stops := [0]) (f := 3000) (k := [.code (bodyOf Try.f91)]) (o := .norm) (σ := (kn (argS 0 [inS true 1000 l, inS true 1001 m, G86]) (eaH true true Gh86 l m))) (cs := [True, True, True, True]) (k' := (kOf 0 (bodyOf Try.f91))) (o' := .norm) (S := (eaS true true G86 l m 0 .nil)) (H := (eaH true true Gh86 l m)) (by kernel_rfl) (by kernel_rfl) (by simp [conj])).bind ?_
  rintro k o σ ⟨rfl, rfl, rfl⟩
  have hk : kOf 0 (bodyOf Try.f91) = .code (.block 0 (.loop (roundOf 0 (bodyOf Try.f91)))) :: restOf 0 (bodyOf Try.f91) := by kernel_rfl
  rw [hk]
  have e0 : kn (eaS true true G86 l m 0 .nil) (eaH true true Gh86 l m) = eaSt (eaS true true G86 l m) (eaH true true Gh86 l m) (fun d => o86 (amt l d) (amt m d)) 0 := rfl
  rw [e0]
  refine (goes_loop (eaSt (eaS true true G86 l m) (eaH true true Gh86 l m) (fun d => o86 (amt l d) (amt m d))) (fun k => k ≤ 8 ∧ ∀ d, d < k → k86 (amt l d) (amt m d)) (fun k => 8 - k)
    (fun o σ => (o = .norm ∧ σ = eaSt (eaS true true G86 l m) (eaH true true Gh86 l m) (fun d => o86 (amt l d) (amt m d)) 8 ∧ ∀ d, d < 8 → k86 (amt l d) (amt m d)) ∨ False) ?_ (p := 0) ⟨by omega, fun d hd => by omega⟩).bind ?_
  · rintro k ⟨hk, hinv⟩
    by_cases hk8 : k < 8
    · by_cases hkk : k86 (amt l k) (amt m k)
      · refine (ez86_true_true hl hm ha hc hk8 (fun d hd => ?_)).bind ?_
        · by_cases hd2 : d < k
          · exact hinv d hd2
          · obtain rfl : d = k := by omega
            exact hkk
        rintro k' o σ ⟨rfl, rfl, σ0, rfl, g⟩
        refine g (goes_z ?_)
        refine ⟨rfl, .inl ⟨rfl, k + 1, ⟨hk8, fun d hd => ?_⟩, by omega, rfl⟩⟩
        by_cases hd2 : d < k
        · exact hinv d hd2
        · obtain rfl : d = k := by omega
          exact hkk
      · exact absurd trivial hkk
    · obtain rfl : k = 8 := by omega
      unfold eaSt
      by_cases h0 : (nz (fun d => o86 (amt l d) (amt m d)) 8).length = 0
      · simp only [if_pos h0]
        refine (goes (ctx_ok tC4_ok 36) mixed rfl (gs := []) (gh := []) (orc := way [(13, 1)]) (stops := []) (f := 3000) (k := [.code (roundOf 0 (bodyOf Try.f91))]) (o := .norm) (σ := (kn (eaS true true G86 l m 8 .nil) (eaH true true Gh86 l m))) (cs := [¬(↑(8 : Nat) : Int) < (8 : Int)]) (k' := []) (o' := (.exit 0)) (S := (eaS true true G86 l m 8 .nil)) (H := (eaH true true Gh86 l m)) (by kernel_rfl) (by kernel_rfl) (by simp [conj])).mono ?_
        rintro k o σ ⟨rfl, rfl, rfl⟩
        exact ⟨rfl, .inr ⟨by simp, .inl ⟨rfl, rfl, hinv⟩⟩⟩
      · simp only [if_neg h0]
        generalize hnz : nz (fun d => o86 (amt l d) (amt m d)) 8 = z
        refine (goes (ctx_ok tC4_ok 36) mixed rfl (gs := []) (gh := []) (orc := way [(13, 1)]) (stops := []) (f := 3000) (k := [.code (roundOf 0 (bodyOf Try.f91))]) (o := .norm) (σ := (kn (eaS true true G86 l m 8 (.sl 500 5 0 z.length)) (rw5 z :: eaH true true Gh86 l m))) (cs := [¬(↑(8 : Nat) : Int) < (8 : Int)]) (k' := []) (o' := (.exit 0)) (S := (eaS true true G86 l m 8 (.sl 500 5 0 z.length))) (H := (rw5 z :: eaH true true Gh86 l m)) (by kernel_rfl) (by kernel_rfl) (by simp [conj])).mono ?_
        rintro k o σ ⟨rfl, rfl, rfl⟩
        exact ⟨rfl, .inr ⟨by simp, .inl ⟨rfl, rfl, hinv⟩⟩⟩
  · rintro k o σ ⟨rfl, hcase⟩
    rcases hcase with ⟨rfl, rfl, hall⟩ | hbad
    · unfold eaSt
      generalize nz (fun d => o86 (amt l d) (amt m d)) 8 = z
      by_cases h0 : z.length = 0
      · simp only [if_pos h0]
        exact goes_ret (ctx_ok tC4_ok 36) mixed rfl (orc := way []) (stops := []) (f := 3000) (k := (restOf 0 (bodyOf Try.f91))) (o := .norm) (σ := (kn (eaS true true G86 l m 8 .nil) (eaH true true Gh86 l m))) (cs := [True, True, True]) (o' := .ret) (rs := Try.f91.results.toList) (v := (.tup [[.nil], E 0])) (H := Gh86) (by kernel_rfl) (.inr rfl) (by simp [conj]) fun σ hσ => .inl ⟨hall, .inl ⟨h0, rfl⟩, fun s hs => by simp [mkS] at hs, (hσ (1002, _) List.mem_cons_self)⟩
      · simp only [if_neg h0]
        exact goes_ret (ctx_ok tC4_ok 36) mixed rfl (orc := way []) (stops := []) (f := 3000) (k := (restOf 0 (bodyOf Try.f91))) (o := .norm) (σ := (kn (eaS true true G86 l m 8 (.sl 500 5 0 z.length)) (rw5 z :: eaH true true Gh86 l m))) (cs := [True, True, True]) (o' := .ret) (rs := Try.f91.results.toList) (v := (.tup [[.sl 500 5 0 z.length], E 0])) (H := (rw5 z :: Gh86)) (by kernel_rfl) (.inr rfl) (by simp [conj]) fun σ hσ => .inl ⟨hall, .inr ⟨by omega, 500, _, rfl, hσ (500, _) List.mem_cons_self, rfl⟩, fun s hs => by simp [mkS] at hs; exact hs.symm, (hσ (1002, _) (List.mem_cons_of_mem _ List.mem_cons_self))⟩
    · exact hbad.elim

theorem ex86_true_false {w0 : Base} {l m : Cs} (hl : okC l) (hm : okC m) (ha : true = true → l = []) (hc : false = true → m = []) :
    Goes Try.prog Try.f91.ntmps w0 [.code (bodyOf Try.f91)] .norm (kn (argS 0 [inS true 1000 l, inS false 1001 m, G86]) (eaH true false Gh86 l m)) (Fin (ctx tC4 36) Try.f91.results.toList fun v σ =>
      ((∀ d, d < 8 → k86 (amt l d) (amt m d)) ∧ LFin (nz (fun d => o86 (amt l d) (amt m d)) 8) (some (E 0)) v σ ∧ (∀ s, v = mkS (some (E 0)) [.sl s 5 0 (nz (fun d => o86 (amt l d) (amt m d)) 8).length] → s = 500) ∧ J86 σ) ∨ False) := by
  refine (goes (ctx_ok tC4_ok 36) mixed rfl (gs := [12]) (gh := []) (orc := way []) (stops := [0]) (f := 3000) (k := [.code (bodyOf Try.f91)]) (o := .norm) (σ := (kn (argS 0 [inS true 1000 l, inS false 1001 m, G86]) (eaH true false Gh86 l m))) (cs := [True, True, True, True]) (k' := (kOf 0 (bodyOf Try.f91))) (o' := .norm) (S := (eaS true false G86 l m 0 .nil)) (H := (eaH true false Gh86 l m)) (by kernel_rfl) (by kernel_rfl) (by simp [conj])).bind ?_
  rintro k o σ ⟨rfl, rfl, rfl⟩
  have hk : kOf 0 (bodyOf Try.f91) = .code (.block 0 (.loop (roundOf 0 (bodyOf Try.f91)))) :: restOf 0 (bodyOf Try.f91) := by kernel_rfl
  rw [hk]
  have e0 : kn (eaS true false G86 l m 0 .nil) (eaH true false Gh86 l m) = eaSt (eaS true false G86 l m) (eaH true false Gh86 l m) (fun d => o86 (amt l d) (amt m d)) 0 := rfl
  rw [e0]
  refine (goes_loop (eaSt (eaS true false G86 l m) (eaH true false Gh86 l m) (fun d => o86 (amt l d) (amt m d))) (fun k => k ≤ 8 ∧ ∀ d, d < k → k86 (amt l d) (amt m d)) (fun k => 8 - k)
    (fun o σ => (o = .norm ∧ σ = eaSt (eaS true false G86 l m) (eaH true false Gh86 l m) (fun d => o86 (amt l d) (amt m d)) 8 ∧ ∀ d, d < 8 → k86 (amt l d) (amt m d)) ∨ False) ?_ (p := 0) ⟨by omega, fun d hd => by omega⟩).bind ?_
  · rintro k ⟨hk, hinv⟩
    by_cases hk8 : k < 8
    · by_cases hkk : k86 (amt l k) (amt m k)
      · refine (ez86_true_false hl hm ha hc hk8 (fun d hd => ?_)).bind ?_
        · by_cases hd2 : d < k
          · exact hinv d hd2
          · obtain rfl : d = k := by omega
            exact hkk
        rintro k' o σ ⟨rfl, rfl, σ0, rfl, g⟩
        refine g (goes_z ?_)
        refine ⟨rfl, .inl ⟨rfl, k + 1, ⟨hk8, fun d hd => ?_⟩, by omega, rfl⟩⟩
        by_cases hd2 : d < k
        · exact hinv d hd2
        · obtain rfl : d = k := by omega
          exact hkk
      · exact absurd trivial hkk
    · obtain rfl : k = 8 := by omega
      unfold eaSt
      by_cases h0 : (nz (fun d => o86 (amt l d) (amt m d)) 8).length = 0
      · simp only [if_pos h0]
        refine (goes (ctx_ok tC4_ok 36) mixed rfl (gs := []) (gh := []) (orc := way [(13, 1)]) (stops := []) (f := 3000) (k := [.code (roundOf 0 (bodyOf Try.f91))]) (o := .norm) (σ := (kn (eaS true false G86 l m 8 .nil) (eaH true false Gh86 l m))) (cs := [¬(↑(8 : Nat) : Int) < (8 : Int)]) (k' := []) (o' := (.exit 0)) (S := (eaS true false G86 l m 8 .nil)) (H := (eaH true false Gh86 l m)) (by kernel_rfl) (by kernel_rfl) (by simp [conj])).mono ?_
        rintro k o σ ⟨rfl, rfl, rfl⟩
        exact ⟨rfl, .inr ⟨by simp, .inl ⟨rfl, rfl, hinv⟩⟩⟩
      · simp only [if_neg h0]
        generalize hnz : nz (fun d => o86 (amt l d) (amt m d)) 8 = z
        refine (goes (ctx_ok tC4_ok 36) mixed rfl (gs := []) (gh := []) (orc := way [(13, 1)]) (stops := []) (f := 3000) (k := [.code (roundOf 0 (bodyOf Try.f91))]) (o := .norm) (σ := (kn (eaS true false G86 l m 8 (.sl 500 5 0 z.length)) (rw5 z :: eaH true false Gh86 l m))) (cs := [¬(↑(8 : Nat) : Int) < (8 : Int)]) (k' := []) (o' := (.exit 0)) (S := (eaS true false G86 l m 8 (.sl 500 5 0 z.length))) (H := (rw5 z :: eaH true false Gh86 l m)) (by kernel_rfl) (by kernel_rfl) (by simp [conj])).mono ?_
        rintro k o σ ⟨rfl, rfl, rfl⟩
        exact ⟨rfl, .inr ⟨by simp, .inl ⟨rfl, rfl, hinv⟩⟩⟩
  · rintro k o σ ⟨rfl, hcase⟩
    rcases hcase with ⟨rfl, rfl, hall⟩ | hbad
    · unfold eaSt
      generalize nz (fun d => o86 (amt l d) (amt m d)) 8 = z
      by_cases h0 : z.length = 0
      · simp only [if_pos h0]
        exact goes_ret (ctx_ok tC4_ok 36) mixed rfl (orc := way []) (stops := []) (f := 3000) (k := (restOf 0 (bodyOf Try.f91))) (o := .norm) (σ := (kn (eaS true false G86 l m 8 .nil) (eaH true false Gh86 l m))) (cs := [True, True, True]) (o' := .ret) (rs := Try.f91.results.toList) (v := (.tup [[.nil], E 0])) (H := Gh86) (by kernel_rfl) (.inr rfl) (by simp [conj]) fun σ hσ => .inl ⟨hall, .inl ⟨h0, rfl⟩, fun s hs => by simp [mkS] at hs, (hσ (1002, _) List.mem_cons_self)⟩
      · simp only [if_neg h0]
        exact goes_ret (ctx_ok tC4_ok 36) mixed rfl (orc := way []) (stops := []) (f := 3000) (k := (restOf 0 (bodyOf Try.f91))) (o := .norm) (σ := (kn (eaS true false G86 l m 8 (.sl 500 5 0 z.length)) (rw5 z :: eaH true false Gh86 l m))) (cs := [True, True, True]) (o' := .ret) (rs := Try.f91.results.toList) (v := (.tup [[.sl 500 5 0 z.length], E 0])) (H := (rw5 z :: Gh86)) (by kernel_rfl) (.inr rfl) (by simp [conj]) fun σ hσ => .inl ⟨hall, .inr ⟨by omega, 500, _, rfl, hσ (500, _) List.mem_cons_self, rfl⟩, fun s hs => by simp [mkS] at hs; exact hs.symm, (hσ (1002, _) (List.mem_cons_of_mem _ List.mem_cons_self))⟩
    · exact hbad.elim

theorem ex86_false_true {w0 : Base} {l m : Cs} (hl : okC l) (hm : okC m) (ha : false = true → l = []) (hc : true = true → m = []) :
    Goes Try.prog Try.f91.ntmps w0 [.code (bodyOf Try.f91)] .norm (kn (argS 0 [inS false 1000 l, inS true 1001 m, G86]) (eaH false true Gh86 l m)) (Fin (ctx tC4 36) Try.f91.results.toList fun v σ =>
      ((∀ d, d < 8 → k86 (amt l d) (amt m d)) ∧ LFin (nz (fun d => o86 (amt l d) (amt m d)) 8) (some (E 0)) v σ ∧ (∀ s, v = mkS (some (E 0)) [.sl s 5 0 (nz (fun d => o86 (amt l d) (amt m d)) 8).length] → s = 500) ∧ J86 σ) ∨ False) := by
  refine (goes (ctx_ok tC4_ok 36) mixed rfl (gs := [12]) (gh := []) (orc := way []) (stops := [0]) (f := 3000) (k := [.code (bodyOf Try.f91)]) (o := .norm) (σ := (kn (argS 0 [inS false 1000 l, inS true 1001 m, G86]) (eaH false true Gh86 l m))) (cs := [True, True, True, True]) (k' := (kOf 0 (bodyOf Try.f91))) (o' := .norm) (S := (eaS false true G86 l m 0 .nil)) (H := (eaH false true Gh86 l m)) (by kernel_rfl) (by kernel_rfl) (by simp [conj])).bind ?_
  rintro k o σ ⟨rfl, rfl, rfl⟩
  have hk : kOf 0 (bodyOf Try.f91) = .code (.block 0 (.loop (roundOf 0 (bodyOf Try.f91)))) :: restOf 0 (bodyOf Try.f91) := by kernel_rfl
  rw [hk]
  have e0 : kn (eaS false true G86 l m 0 .nil) (eaH false true Gh86 l m) = eaSt (eaS false true G86 l m) (eaH false true Gh86 l m) (fun d => o86 (amt l d) (amt m d)) 0 := rfl
  rw [e0]
  refine (goes_loop (eaSt (eaS false true G86 l m) (eaH false true Gh86 l m) (fun d => o86 (amt l d) (amt m d))) (fun k => k ≤ 8 ∧ ∀ d, d < k → k86 (amt l d) (amt m d)) (fun k => 8 - k)
    (fun o σ => (o = .norm ∧ σ = eaSt (eaS false true G86 l m) (eaH false true Gh86 l m) (fun d => o86 (amt l d) (amt m d)) 8 ∧ ∀ d, d < 8 → k86 (amt l d) (amt m d)) ∨ False) ?_ (p := 0) ⟨by omega, fun d hd => by omega⟩).bind ?_
  · rintro k ⟨hk, hinv⟩
    by_cases hk8 : k < 8
    · by_cases hkk : k86 (amt l k) (amt m k)
      · refine (ez86_false_true hl hm ha hc hk8 (fun d hd => ?_)).bind ?_
        · by_cases hd2 : d < k
          · exact hinv d hd2
          · obtain rfl : d = k := by omega
            exact hkk
        rintro k' o σ ⟨rfl, rfl, σ0, rfl, g⟩
        refine g (goes_z ?_)
        refine ⟨rfl, .inl ⟨rfl, k + 1, ⟨hk8, fun d hd => ?_⟩, by omega, rfl⟩⟩
        by_cases hd2 : d < k
        · exact hinv d hd2
        · obtain rfl : d = k := by omega
          exact hkk
      · exact absurd trivial hkk
    · obtain rfl : k = 8 := by omega
      unfold eaSt
      by_cases h0 : (nz (fun d => o86 (amt l d) (amt m d)) 8).length = 0
      · simp only [if_pos h0]
        refine (goes (ctx_ok tC4_ok 36) mixed rfl (gs := []) (gh := []) (orc := way [(13, 1)]) (stops := []) (f := 3000) (k := [.code (roundOf 0 (bodyOf Try.f91))]) (o := .norm) (σ := (kn (eaS false true G86 l m 8 .nil) (eaH false true Gh86 l m))) (cs := [¬(↑(8 : Nat) : Int) < (8 : Int)]) (k' := []) (o' := (.exit 0)) (S := (eaS false true G86 l m 8 .nil)) (H := (eaH false true Gh86 l m)) (by kernel_rfl) (by kernel_rfl) (by simp [conj])).mono ?_
        rintro k o σ ⟨rfl, rfl, rfl⟩
        exact ⟨rfl, .inr ⟨by simp, .inl ⟨rfl, rfl, hinv⟩⟩⟩
      · simp only [if_neg h0]
        generalize hnz : nz (fun d => o86 (amt l d) (amt m d)) 8 = z
        refine (goes (ctx_ok tC4_ok 36) mixed rfl (gs := []) (gh := []) (orc := way [(13, 1)]) (stops := []) (f := 3000) (k := [.code (roundOf 0 (bodyOf Try.f91))]) (o := .norm) (σ := (kn (eaS false true G86 l m 8 (.sl 500 5 0 z.length)) (rw5 z :: eaH false true Gh86 l m))) (cs := [¬(↑(8 : Nat) : Int) < (8 : Int)]) (k' := []) (o' := (.exit 0)) (S := (eaS false true G86 l m 8 (.sl 500 5 0 z.length))) (H := (rw5 z :: eaH false true Gh86 l m)) (by kernel_rfl) (by kernel_rfl) (by simp [conj])).mono ?_
        rintro k o σ ⟨rfl, rfl, rfl⟩
        exact ⟨rfl, .inr ⟨by simp, .inl ⟨rfl, rfl, hinv⟩⟩⟩
  · rintro k o σ ⟨rfl, hcase⟩
    rcases hcase with ⟨rfl, rfl, hall⟩ | hbad
    · unfold eaSt
      generalize nz (fun d => o86 (amt l d) (amt m d)) 8 = z
      by_cases h0 : z.length = 0
      · simp only [if_pos h0]
        exact goes_ret (ctx_ok tC4_ok 36) mixed rfl (orc := way []) (stops := []) (f := 3000) (k := (restOf 0 (bodyOf Try.f91))) (o := .norm) (σ := (kn (eaS false true G86 l m 8 .nil) (eaH false true Gh86 l m))) (cs := [True, True, True]) (o' := .ret) (rs := Try.f91.results.toList) (v := (.tup [[.nil], E 0])) (H := Gh86) (by kernel_rfl) (.inr rfl) (by simp [conj]) fun σ hσ => .inl ⟨hall, .inl ⟨h0, rfl⟩, fun s hs => by simp [mkS] at hs, (hσ (1002, _) List.mem_cons_self)⟩
      · simp only [if_neg h0]
        exact goes_ret (ctx_ok tC4_ok 36) mixed rfl (orc := way []) (stops := []) (f := 3000) (k := (restOf 0 (bodyOf Try.f91))) (o := .norm) (σ := (kn (eaS false true G86 l m 8 (.sl 500 5 0 z.length)) (rw5 z :: eaH false true Gh86 l m))) (cs := [True, True, True]) (o' := .ret) (rs := Try.f91.results.toList) (v := (.tup [[.sl 500 5 0 z.length], E 0])) (H := (rw5 z :: Gh86)) (by kernel_rfl) (.inr rfl) (by simp [conj]) fun σ hσ => .inl ⟨hall, .inr ⟨by omega, 500, _, rfl, hσ (500, _) List.mem_cons_self, rfl⟩, fun s hs => by simp [mkS] at hs; exact hs.symm, (hσ (1002, _) (List.mem_cons_of_mem _ List.mem_cons_self))⟩
    · exact hbad.elim

theorem ex86_false_false {w0 : Base} {l m : Cs} (hl : okC l) (hm : okC m) (ha : false = true → l = []) (hc : false = true → m = []) :
    Goes Try.prog Try.f91.ntmps w0 [.code (bodyOf Try.f91)] .norm (kn (argS 0 [inS false 1000 l, inS false 1001 m, G86]) (eaH false false Gh86 l m)) (Fin (ctx tC4 36) Try.f91.results.toList fun v σ =>
      ((∀ d, d < 8 → k86 (amt l d) (amt m d)) ∧ LFin (nz (fun d => o86 (amt l d) (amt m d)) 8) (some (E 0)) v σ ∧ (∀ s, v = mkS (some (E 0)) [.sl s 5 0 (nz (fun d => o86 (amt l d) (amt m d)) 8).length] → s = 500) ∧ J86 σ) ∨ False) := by
  refine (goes (ctx_ok tC4_ok 36) mixed rfl (gs := [12]) (gh := []) (orc := way []) (stops := [0]) (f := 3000) (k := [.code (bodyOf Try.f91)]) (o := .norm) (σ := (kn (argS 0 [inS false 1000 l, inS false 1001 m, G86]) (eaH false false Gh86 l m))) (cs := [True, True, True, True]) (k' := (kOf 0 (bodyOf Try.f91))) (o' := .norm) (S := (eaS false false G86 l m 0 .nil)) (H := (eaH false false Gh86 l m)) (by kernel_rfl) (by kernel_rfl) (by simp [conj])).bind ?_
  rintro k o σ ⟨rfl, rfl, rfl⟩
  have hk : kOf 0 (bodyOf Try.f91) = .code (.block 0 (.loop (roundOf 0 (bodyOf Try.f91)))) :: restOf 0 (bodyOf Try.f91) := by kernel_rfl
  rw [hk]
  have e0 : kn (eaS false false G86 l m 0 .nil) (eaH false false Gh86 l m) = eaSt (eaS false false G86 l m) (eaH false false Gh86 l m) (fun d => o86 (amt l d) (amt m d)) 0 := rfl
  rw [e0]
  refine (goes_loop (eaSt (eaS false false G86 l m) (eaH false false Gh86 l m) (fun d => o86 (amt l d) (amt m d))) (fun k => k ≤ 8 ∧ ∀ d, d < k → k86 (amt l d) (amt m d)) (fun k => 8 - k)
    (fun o σ => (o = .norm ∧ σ = eaSt (eaS false false G86 l m) (eaH false false Gh86 l m) (fun d => o86 (amt l d) (amt m d)) 8 ∧ ∀ d, d < 8 → k86 (amt l d) (amt m d)) ∨ False) ?_ (p := 0) ⟨by omega, fun d hd => by omega⟩).bind ?_
  · rintro k ⟨hk, hinv⟩
    by_cases hk8 : k < 8
    · by_cases hkk : k86 (amt l k) (amt m k)
      · refine (ez86_false_false hl hm ha hc hk8 (fun d hd => ?_)).bind ?_
        · by_cases hd2 : d < k
          · exact hinv d hd2
          · obtain rfl : d = k := by omega
            exact hkk
        rintro k' o σ ⟨rfl, rfl, σ0, rfl, g⟩
        refine g (goes_z ?_)
        refine ⟨rfl, .inl ⟨rfl, k + 1, ⟨hk8, fun d hd => ?_⟩, by omega, rfl⟩⟩
        by_cases hd2 : d < k
        · exact hinv d hd2
        · obtain rfl : d = k := by omega
          exact hkk
      · exact absurd trivial hkk
    · obtain rfl : k = 8 := by omega
      unfold eaSt
      by_cases h0 : (nz (fun d => o86 (amt l d) (amt m d)) 8).length = 0
      · simp only [if_pos h0]
        refine (goes (ctx_ok tC4_ok 36) mixed rfl (gs := []) (gh := []) (orc := way [(13, 1)]) (stops := []) (f := 3000) (k := [.code (roundOf 0 (bodyOf Try.f91))]) (o := .norm) (σ := (kn (eaS false false G86 l m 8 .nil) (eaH false false Gh86 l m))) (cs := [¬(↑(8 : Nat) : Int) < (8 : Int)]) (k' := []) (o' := (.exit 0)) (S := (eaS false false G86 l m 8 .nil)) (H := (eaH false false Gh86 l m)) (by kernel_rfl) (by kernel_rfl) (by simp [conj])).mono ?_
        rintro k o σ ⟨rfl, rfl, rfl⟩
        exact ⟨rfl, .inr ⟨by simp, .inl ⟨rfl, rfl, hinv⟩⟩⟩
      · simp only [if_neg h0]
        generalize hnz : nz (fun d => o86 (amt l d) (amt m d)) 8 = z
        refine (goes (ctx_ok tC4_ok 36) mixed rfl (gs := []) (gh := []) (orc := way [(13, 1)]) (stops := []) (f := 3000) (k := [.code (roundOf 0 (bodyOf Try.f91))]) (o := .norm) (σ := (kn (eaS false false G86 l m 8 (.sl 500 5 0 z.length)) (rw5 z :: eaH false false Gh86 l m))) (cs := [¬(↑(8 : Nat) : Int) < (8 : Int)]) (k' := []) (o' := (.exit 0)) (S := (eaS false false G86 l m 8 (.sl 500 5 0 z.length))) (H := (rw5 z :: eaH false false Gh86 l m)) (by kernel_rfl) (by kernel_rfl) (by simp [conj])).mono ?_
        rintro k o σ ⟨rfl, rfl, rfl⟩
        exact ⟨rfl, .inr ⟨by simp, .inl ⟨rfl, rfl, hinv⟩⟩⟩
  · rintro k o σ ⟨rfl, hcase⟩
    rcases hcase with ⟨rfl, rfl, hall⟩ | hbad
    · unfold eaSt
      generalize nz (fun d => o86 (amt l d) (amt m d)) 8 = z
      by_cases h0 : z.length = 0
      · simp only [if_pos h0]
        exact goes_ret (ctx_ok tC4_ok 36) mixed rfl (orc := way []) (stops := []) (f := 3000) (k := (restOf 0 (bodyOf Try.f91))) (o := .norm) (σ := (kn (eaS false false G86 l m 8 .nil) (eaH false false Gh86 l m))) (cs := [True, True, True]) (o' := .ret) (rs := Try.f91.results.toList) (v := (.tup [[.nil], E 0])) (H := Gh86) (by kernel_rfl) (.inr rfl) (by simp [conj]) fun σ hσ => .inl ⟨hall, .inl ⟨h0, rfl⟩, fun s hs => by simp [mkS] at hs, (hσ (1002, _) List.mem_cons_self)⟩
      · simp only [if_neg h0]
        exact goes_ret (ctx_ok tC4_ok 36) mixed rfl (orc := way []) (stops := []) (f := 3000) (k := (restOf 0 (bodyOf Try.f91))) (o := .norm) (σ := (kn (eaS false false G86 l m 8 (.sl 500 5 0 z.length)) (rw5 z :: eaH false false Gh86 l m))) (cs := [True, True, True]) (o' := .ret) (rs := Try.f91.results.toList) (v := (.tup [[.sl 500 5 0 z.length], E 0])) (H := (rw5 z :: Gh86)) (by kernel_rfl) (.inr rfl) (by simp [conj]) fun σ hσ => .inl ⟨hall, .inr ⟨by omega, 500, _, rfl, hσ (500, _) List.mem_cons_self, rfl⟩, fun s hs => by simp [mkS] at hs; exact hs.symm, (hσ (1002, _) (List.mem_cons_of_mem _ List.mem_cons_self))⟩
    · exact hbad.elim

theorem ex87_true_true {w0 : Base} {l m : Cs} (hl : okC l) (hm : okC m) (ha : true = true → l = []) (hc : true = true → m = []) :
    Goes Try.prog Try.f91.ntmps w0 [.code (bodyOf Try.f91)] .norm (kn (argS 0 [inS true 1000 l, inS true 1001 m, G87]) (eaH true true Gh87 l m)) (Fin (ctx tC4 36) Try.f91.results.toList fun v σ =>
      ((∀ d, d < 8 → k87 (amt l d) (amt m d)) ∧ LFin (nz (fun d => o87 (amt l d) (amt m d)) 8) (some (E 0)) v σ ∧ (∀ s, v = mkS (some (E 0)) [.sl s 5 0 (nz (fun d => o87 (amt l d) (amt m d)) 8).length] → s = 500) ∧ J87 σ) ∨ False) := by
  refine (goes (ctx_ok tC4_ok 36) mixed rfl (gs := [12]) (gh := []) (orc := way []) (stops := [0]) (f := 3000) (k := [.code (bodyOf Try.f91)]) (o := .norm) (σ := (kn (argS 0 [inS true 1000 l, inS true 1001 m, G87]) (eaH true true Gh87 l m))) (cs := [True, True, True, True]) (k' := (kOf 0 (bodyOf Try.f91))) (o' := .norm) (S := (eaS true true G87 l m 0 .nil)) (H := (eaH true true Gh87 l m)) (by kernel_rfl) (by kernel_rfl) (by simp [conj])).bind ?_
  rintro k o σ ⟨rfl, rfl, rfl⟩
  have hk : kOf 0 (bodyOf Try.f91) = .code (.block 0 (.loop (roundOf 0 (bodyOf Try.f91)))) :: restOf 0 (bodyOf Try.f91) := by kernel_rfl
  rw [hk]
  have e0 : kn (eaS true true G87 l m 0 .nil) (eaH true true Gh87 l m) = eaSt (eaS true true G87 l m) (eaH true true Gh87 l m) (fun d => o87 (amt l d) (amt m d)) 0 := rfl
  rw [e0]
  refine (goes_loop (eaSt (eaS true true G87 l m) (eaH true true Gh87 l m) (fun d => o87 (amt l d) (amt m d))) (fun k => k ≤ 8 ∧ ∀ d, d < k → k87 (amt l d) (amt m d)) (fun k => 8 - k)
    (fun o σ => (o = .norm ∧ σ = eaSt (eaS true true G87 l m) (eaH true true Gh87 l m) (fun d => o87 (amt l d) (amt m d)) 8 ∧ ∀ d, d < 8 → k87 (amt l d) (amt m d)) ∨ False) ?_ (p := 0) ⟨by omega, fun d hd => by omega⟩).bind ?_
  · rintro k ⟨hk, hinv⟩
    by_cases hk8 : k < 8
    · by_cases hkk : k87 (amt l k) (amt m k)
      · refine (ez87_true_true hl hm ha hc hk8 (fun d hd => ?_)).bind ?_
        · by_cases hd2 : d < k
          · exact hinv d hd2
          · obtain rfl : d = k := by omega
            exact hkk
        rintro k' o σ ⟨rfl, rfl, σ0, rfl, g⟩
        refine g (goes_z ?_)
        refine ⟨rfl, .inl ⟨rfl, k + 1, ⟨hk8, fun d hd => ?_⟩, by omega, rfl⟩⟩
        by_cases hd2 : d < k
        · exact hinv d hd2
        · obtain rfl : d = k := by omega
          exact hkk
      · exact absurd trivial hkk
    · obtain rfl : k = 8 := by omega
      unfold eaSt
      by_cases h0 : (nz (fun d => o87 (amt l d) (amt m d)) 8).length = 0
      · simp only [if_pos h0]
        refine (goes (ctx_ok tC4_ok 36) mixed rfl (gs := []) (gh := []) (orc := way [(13, 1)]) (stops := []) (f := 3000) (k := [.code (roundOf 0 (bodyOf Try.f91))]) (o := .norm) (σ := (kn (eaS true true G87 l m 8 .nil) (eaH true true Gh87 l m))) (cs := [¬(↑(8 : Nat) : Int) < (8 : Int)]) (k' := []) (o' := (.exit 0)) (S := (eaS true true G87 l m 8 .nil)) (H := (eaH true true Gh87 l m)) (by kernel_rfl) (by kernel_rfl) (by simp [conj])).mono ?_
        rintro k o σ ⟨rfl, rfl, rfl⟩
        exact ⟨rfl, .inr ⟨by simp, .inl ⟨rfl, rfl, hinv⟩⟩⟩
      · simp only [if_neg h0]
        generalize hnz : nz (fun d => o87 (amt l d) (amt m d)) 8 = z
        refine (goes (ctx_ok tC4_ok 36) mixed rfl (gs := []) (gh := []) (orc := way [(13, 1)]) (stops := []) (f := 3000) (k := [.code (roundOf 0 (bodyOf Try.f91))]) (o := .norm) (σ := (kn (eaS true true G87 l m 8 (.sl 500 5 0 z.length)) (rw5 z :: eaH true true Gh87 l m))) (cs := [¬(↑(8 : Nat) : Int) < (8 : Int)]) (k' := []) (o' := (.exit 0)) (S := (eaS true true G87 l m 8 (.sl 500 5 0 z.length))) (H := (rw5 z :: eaH true true Gh87 l m)) (by kernel_rfl) (by kernel_rfl) (by simp [conj])).mono ?_
        rintro k o σ ⟨rfl, rfl, rfl⟩
        exact ⟨rfl, .inr ⟨by simp, .inl ⟨rfl, rfl, hinv⟩⟩⟩
  · rintro k o σ ⟨rfl, hcase⟩
    rcases hcase with ⟨rfl, rfl, hall⟩ | hbad
    · unfold eaSt
      generalize nz (fun d => o87 (amt l d) (amt m d)) 8 = z
      by_cases h0 : z.length = 0
      · simp only [if_pos h0]
        exact goes_ret (ctx_ok tC4_ok 36) mixed rfl (orc := way []) (stops := []) (f := 3000) (k := (restOf 0 (bodyOf Try.f91))) (o := .norm) (σ := (kn (eaS true true G87 l m 8 .nil) (eaH true true Gh87 l m))) (cs := [True, True, True]) (o' := .ret) (rs := Try.f91.results.toList) (v := (.tup [[.nil], E 0])) (H := Gh87) (by kernel_rfl) (.inr rfl) (by simp [conj]) fun σ hσ => .inl ⟨hall, .inl ⟨h0, rfl⟩, fun s hs => by simp [mkS] at hs, (hσ (1002, _) List.mem_cons_self)⟩
      · simp only [if_neg h0]
        exact goes_ret (ctx_ok tC4_ok 36) mixed rfl (orc := way []) (stops := []) (f := 3000) (k := (restOf 0 (bodyOf Try.f91))) (o := .norm) (σ := (kn (eaS true true G87 l m 8 (.sl 500 5 0 z.length)) (rw5 z :: eaH true true Gh87 l m))) (cs := [True, True, True]) (o' := .ret) (rs := Try.f91.results.toList) (v := (.tup [[.sl 500 5 0 z.length], E 0])) (H := (rw5 z :: Gh87)) (by kernel_rfl) (.inr rfl) (by simp [conj]) fun σ hσ => .inl ⟨hall, .inr ⟨by omega, 500, _, rfl, hσ (500, _) List.mem_cons_self, rfl⟩, fun s hs => by simp [mkS] at hs; exact hs.symm, (hσ (1002, _) (List.mem_cons_of_mem _ List.mem_cons_self))⟩
    · exact hbad.elim

theorem ex87_true_false {w0 : Base} {l m : Cs} (hl : okC l) (hm : okC m) (ha : true = true → l = []) (hc : false = true → m = []) :
    Goes Try.prog Try.f91.ntmps w0 [.code (bodyOf Try.f91)] .norm (kn (argS 0 [inS true 1000 l, inS false 1001 m, G87]) (eaH true false Gh87 l m)) (Fin (ctx tC4 36) Try.f91.results.toList fun v σ =>
      ((∀ d, d < 8 → k87 (amt l d) (amt m d)) ∧ LFin (nz (fun d => o87 (amt l d) (amt m d)) 8) (some (E 0)) v σ ∧ (∀ s, v = mkS (some (E 0)) [.sl s 5 0 (nz (fun d => o87 (amt l d) (amt m d)) 8).length] → s = 500) ∧ J87 σ) ∨ False) := by
  refine (goes (ctx_ok tC4_ok 36) mixed rfl (gs := [12]) (gh := []) (orc := way []) (stops := [0]) (f := 3000) (k := [.code (bodyOf Try.f91)]) (o := .norm) (σ := (kn (argS 0 [inS true 1000 l, inS false 1001 m, G87]) (eaH true false Gh87 l m))) (cs := [True, True, True, True]) (k' := (kOf 0 (bodyOf Try.f91))) (o' := .norm) (S := (eaS true false G87 l m 0 .nil)) (H := (eaH true false Gh87 l m)) (by kernel_rfl) (by kernel_rfl) (by simp [conj])).bind ?_
  rintro k o σ ⟨rfl, rfl, rfl⟩
  have hk : kOf 0 (bodyOf Try.f91) = .code (.block 0 (.loop (roundOf 0 (bodyOf Try.f91)))) :: restOf 0 (bodyOf Try.f91) := by kernel_rfl
  rw [hk]
  have e0 : kn (eaS true false G87 l m 0 .nil) (eaH true false Gh87 l m) = eaSt (eaS true false G87 l m) (eaH true false Gh87 l m) (fun d => o87 (amt l d) (amt m d)) 0 := rfl
  rw [e0]
  refine (goes_loop (eaSt (eaS true false G87 l m) (eaH true false Gh87 l m) (fun d => o87 (amt l d) (amt m d))) (fun k => k ≤ 8 ∧ ∀ d, d < k → k87 (amt l d) (amt m d)) (fun k => 8 - k)
    (fun o σ => (o = .norm ∧ σ = eaSt (eaS true false G87 l m) (eaH true false Gh87 l m) (fun d => o87 (amt l d) (amt m d)) 8 ∧ ∀ d, d < 8 → k87 (amt l d) (amt m d)) ∨ False) ?_ (p := 0) ⟨by omega, fun d hd => by omega⟩).bind ?_
  · rintro k ⟨hk, hinv⟩
    by_cases hk8 : k < 8
    · by_cases hkk : k87 (amt l k) (amt m k)
      · refine (ez87_true_false hl hm ha hc hk8 (fun d hd => ?_)).bind ?_
        · by_cases hd2 : d < k
          · exact hinv d hd2
          · obtain rfl : d = k := by omega
            exact hkk
        rintro k' o σ ⟨rfl, rfl, σ0, rfl, g⟩
        refine g (goes_z ?_)
        refine ⟨rfl, .inl ⟨rfl, k + 1, ⟨hk8, fun d hd => ?_⟩, by omega, rfl⟩⟩
        by_cases hd2 : d < k
        · exact hinv d hd2
        · obtain rfl : d = k := by omega
          exact hkk
      · exact absurd trivial hkk
    · obtain rfl : k = 8 := by omega
      unfold eaSt
      by_cases h0 : (nz (fun d => o87 (amt l d) (amt m d)) 8).length = 0
      · simp only [if_pos h0]
        refine (goes (ctx_ok tC4_ok 36) mixed rfl (gs := []) (gh := []) (orc := way [(13, 1)]) (stops := []) (f := 3000) (k := [.code (roundOf 0 (bodyOf Try.f91))]) (o := .norm) (σ := (kn (eaS true false G87 l m 8 .nil) (eaH true false Gh87 l m))) (cs := [¬(↑(8 : Nat) : Int) < (8 : Int)]) (k' := []) (o' := (.exit 0)) (S := (eaS true false G87 l m 8 .nil)) (H := (eaH true false Gh87 l m)) (by kernel_rfl) (by kernel_rfl) (by simp [conj])).mono ?_
        rintro k o σ ⟨rfl, rfl, rfl⟩
        exact ⟨rfl, .inr ⟨by simp, .inl ⟨rfl, rfl, hinv⟩⟩⟩
      · simp only [if_neg h0]
        generalize hnz : nz (fun d => o87 (amt l d) (amt m d)) 8 = z
        refine (goes (ctx_ok tC4_ok 36) mixed rfl (gs := []) (gh := []) (orc := way [(13, 1)]) (stops := []) (f := 3000) (k := [.code (roundOf 0 (bodyOf Try.f91))]) (o := .norm) (σ := (kn (eaS true false G87 l m 8 (.sl 500 5 0 z.length)) (rw5 z :: eaH true false Gh87 l m))) (cs := [¬(↑(8 : Nat) : Int) < (8 : Int)]) (k' := []) (o' := (.exit 0)) (S := (eaS true false G87 l m 8 (.sl 500 5 0 z.length))) (H := (rw5 z :: eaH true false Gh87 l m)) (by kernel_rfl) (by kernel_rfl) (by simp [conj])).mono ?_
        rintro k o σ ⟨rfl, rfl, rfl⟩
        exact ⟨rfl, .inr ⟨by simp, .inl ⟨rfl, rfl, hinv⟩⟩⟩
  · rintro k o σ ⟨rfl, hcase⟩
    rcases hcase with ⟨rfl, rfl, hall⟩ | hbad
    · unfold eaSt
      generalize nz (fun d => o87 (amt l d) (amt m d)) 8 = z
      by_cases h0 : z.length = 0
      · simp only [if_pos h0]
        exact goes_ret (ctx_ok tC4_ok 36) mixed rfl (orc := way []) (stops := []) (f := 3000) (k := (restOf 0 (bodyOf Try.f91))) (o := .norm) (σ := (kn (eaS true false G87 l m 8 .nil) (eaH true false Gh87 l m))) (cs := [True, True, True]) (o' := .ret) (rs := Try.f91.results.toList) (v := (.tup [[.nil], E 0])) (H := Gh87) (by kernel_rfl) (.inr rfl) (by simp [conj]) fun σ hσ => .inl ⟨hall, .inl ⟨h0, rfl⟩, fun s hs => by simp [mkS] at hs, (hσ (1002, _) List.mem_cons_self)⟩
      · simp only [if_neg h0]
        exact goes_ret (ctx_ok tC4_ok 36) mixed rfl (orc := way []) (stops := []) (f := 3000) (k := (restOf 0 (bodyOf Try.f91))) (o := .norm) (σ := (kn (eaS true false G87 l m 8 (.sl 500 5 0 z.length)) (rw5 z :: eaH true false Gh87 l m))) (cs := [True, True, True]) (o' := .ret) (rs := Try.f91.results.toList) (v := (.tup [[.sl 500 5 0 z.length], E 0])) (H := (rw5 z :: Gh87)) (by kernel_rfl) (.inr rfl) (by simp [conj]) fun σ hσ => .inl ⟨hall, .inr ⟨by omega, 500, _, rfl, hσ (500, _) List.mem_cons_self, rfl⟩, fun s hs => by simp [mkS] at hs; exact hs.symm, (hσ (1002, _) (List.mem_cons_of_mem _ List.mem_cons_self))⟩
    · exact hbad.elim

theorem ex87_false_true {w0 : Base} {l m : Cs} (hl : okC l) (hm : okC m) (ha : false = true → l = []) (hc : true = true → m = []) :
    Goes Try.prog Try.f91.ntmps w0 [.code (bodyOf Try.f91)] .norm (kn (argS 0 [inS false 1000 l, inS true 1001 m, G87]) (eaH false true Gh87 l m)) (Fin (ctx tC4 36) Try.f91.results.toList fun v σ =>
      ((∀ d, d < 8 → k87 (amt l d) (amt m d)) ∧ LFin (nz (fun d => o87 (amt l d) (amt m d)) 8) (some (E 0)) v σ ∧ (∀ s, v = mkS (some (E 0)) [.sl s 5 0 (nz (fun d => o87 (amt l d) (amt m d)) 8).length] → s = 500) ∧ J87 σ) ∨ False) := by
  refine (goes (ctx_ok tC4_ok 36) mixed rfl (gs := [12]) (gh := []) (orc := way []) (stops := [0]) (f := 3000) (k := [.code (bodyOf Try.f91)]) (o := .norm) (σ := (kn (argS 0 [inS false 1000 l, inS true 1001 m, G87]) (eaH false true Gh87 l m))) (cs := [True, True, True, True]) (k' := (kOf 0 (bodyOf Try.f91))) (o' := .norm) (S := (eaS false true G87 l m 0 .nil)) (H := (eaH false true Gh87 l m)) (by kernel_rfl) (by kernel_rfl) (by simp [conj])).bind ?_
  rintro k o σ ⟨rfl, rfl, rfl⟩
  have hk : kOf 0 (bodyOf Try.f91) = .code (.block 0 (.loop (roundOf 0 (bodyOf Try.f91)))) :: restOf 0 (bodyOf Try.f91) := by kernel_rfl
  rw [hk]
  have e0 : kn (eaS false true G87 l m 0 .nil) (eaH false true Gh87 l m) = eaSt (eaS false true G87 l m) (eaH false true Gh87 l m) (fun d => o87 (amt l d) (amt m d)) 0 := rfl
  rw [e0]
  refine (goes_loop (eaSt (eaS false true G87 l m) (eaH false true Gh87 l m) (fun d => o87 (amt l d) (amt m d))) (fun k => k ≤ 8 ∧ ∀ d, d < k → k87 (amt l d) (amt m d)) (fun k => 8 - k)
    (fun o σ => (o = .norm ∧ σ = eaSt (eaS false true G87 l m) (eaH false true Gh87 l m) (fun d => o87 (amt l d) (amt m d)) 8 ∧ ∀ d, d < 8 → k87 (amt l d) (amt m d)) ∨ False) ?_ (p := 0) ⟨by omega, fun d hd => by omega⟩).bind ?_
  · rintro k ⟨hk, hinv⟩
    by_cases hk8 : k < 8
    · by_cases hkk : k87 (amt l k) (amt m k)
      · refine (ez87_false_true hl hm ha hc hk8 (fun d hd => ?_)).bind ?_
        · by_cases hd2 : d < k
          · exact hinv d hd2
          · obtain rfl : d = k := by omega
            exact hkk
        rintro k' o σ ⟨rfl, rfl, σ0, rfl, g⟩
        refine g (goes_z ?_)
        refine ⟨rfl, .inl ⟨rfl, k + 1, ⟨hk8, fun d hd => ?_⟩, by omega, rfl⟩⟩
        by_cases hd2 : d < k
        · exact hinv d hd2
        · obtain rfl : d = k := by omega
          exact hkk
      · exact absurd trivial hkk
    · obtain rfl : k = 8 := by omega
      unfold eaSt
      by_cases h0 : (nz (fun d => o87 (amt l d) (amt m d)) 8).length = 0
      · simp only [if_pos h0]
        refine (goes (ctx_ok tC4_ok 36) mixed rfl (gs := []) (gh := []) (orc := way [(13, 1)]) (stops := []) (f := 3000) (k := [.code (roundOf 0 (bodyOf Try.f91))]) (o := .norm) (σ := (kn (eaS false true G87 l m 8 .nil) (eaH false true Gh87 l m))) (cs := [¬(↑(8 : Nat) : Int) < (8 : Int)]) (k' := []) (o' := (.exit 0)) (S := (eaS false true G87 l m 8 .nil)) (H := (eaH false true Gh87 l m)) (by kernel_rfl) (by kernel_rfl) (by simp [conj])).mono ?_
        rintro k o σ ⟨rfl, rfl, rfl⟩
        exact ⟨rfl, .inr ⟨by simp, .inl ⟨rfl, rfl, hinv⟩⟩⟩
      · simp only [if_neg h0]
        generalize hnz : nz (fun d => o87 (amt l d) (amt m d)) 8 = z
        refine (goes (ctx_ok tC4_ok 36) mixed rfl (gs := []) (gh := []) (orc := way [(13, 1)]) (stops := []) (f := 3000) (k := [.code (roundOf 0 (bodyOf Try.f91))]) (o := .norm) (σ := (kn (eaS false true G87 l m 8 (.sl 500 5 0 z.length)) (rw5 z :: eaH false true Gh87 l m))) (cs := [¬(↑(8 : Nat) : Int) < (8 : Int)]) (k' := []) (o' := (.exit 0)) (S := (eaS false true G87 l m 8 (.sl 500 5 0 z.length))) (H := (rw5 z :: eaH false true Gh87 l m)) (by kernel_rfl) (by kernel_rfl) (by simp [conj])).mono ?_
        rintro k o σ ⟨rfl, rfl, rfl⟩
        exact ⟨rfl, .inr ⟨by simp, .inl ⟨rfl, rfl, hinv⟩⟩⟩
  · rintro k o σ ⟨rfl, hcase⟩
    rcases hcase with ⟨rfl, rfl, hall⟩ | hbad
    · unfold eaSt
      generalize nz (fun d => o87 (amt l d) (amt m d)) 8 = z
      by_cases h0 : z.length = 0
      · simp only [if_pos h0]
        exact goes_ret (ctx_ok tC4_ok 36) mixed rfl (orc := way []) (stops := []) (f := 3000) (k := (restOf 0 (bodyOf Try.f91))) (o := .norm) (σ := (kn (eaS false true G87 l m 8 .nil) (eaH false true Gh87 l m))) (cs := [True, True, True]) (o' := .ret) (rs := Try.f91.results.toList) (v := (.tup [[.nil], E 0])) (H := Gh87) (by kernel_rfl) (.inr rfl) (by simp [conj]) fun σ hσ => .inl ⟨hall, .inl ⟨h0, rfl⟩, fun s hs => by simp [mkS] at hs, (hσ (1002, _) List.mem_cons_self)⟩
      · simp only [if_neg h0]
        exact goes_ret (ctx_ok tC4_ok 36) mixed rfl (orc := way []) (stops := []) (f := 3000) (k := (restOf 0 (bodyOf Try.f91))) (o := .norm) (σ := (kn (eaS false true G87 l m 8 (.sl 500 5 0 z.length)) (rw5 z :: eaH false true Gh87 l m))) (cs := [True, True, True]) (o' := .ret) (rs := Try.f91.results.toList) (v := (.tup [[.sl 500 5 0 z.length], E 0])) (H := (rw5 z :: Gh87)) (by kernel_rfl) (.inr rfl) (by simp [conj]) fun σ hσ => .inl ⟨hall, .inr ⟨by omega, 500, _, rfl, hσ (500, _) List.mem_cons_self, rfl⟩, fun s hs => by simp [mkS] at hs; exact hs.symm, (hσ (1002, _) (List.mem_cons_of_mem _ List.mem_cons_self))⟩
    · exact hbad.elim

theorem ex87_false_false {w0 : Base} {l m : Cs} (hl : okC l) (hm : okC m) (ha : false = true → l = []) (hc : false = true → m = []) :
    Goes Try.prog Try.f91.ntmps w0 [.code (bodyOf Try.f91)] .norm (kn (argS 0 [inS false 1000 l, inS false 1001 m, G87]) (eaH false false Gh87 l m)) (Fin (ctx tC4 36) Try.f91.results.toList fun v σ =>
      ((∀ d, d < 8 → k87 (amt l d) (amt m d)) ∧ LFin (nz (fun d => o87 (amt l d) (amt m d)) 8) (some (E 0)) v σ ∧ (∀ s, v = mkS (some (E 0)) [.sl s 5 0 (nz (fun d => o87 (amt l d) (amt m d)) 8).length] → s = 500) ∧ J87 σ) ∨ False) := by
  refine (goes (ctx_ok tC4_ok 36) mixed rfl (gs := [12]) (gh := []) (orc := way []) (stops := [0]) (f := 3000) (k := [.code (bodyOf Try.f91)]) (o := .norm) (σ := (kn (argS 0 [inS false 1000 l, inS false 1001 m, G87]) (eaH false false Gh87 l m))) (cs := [True, True, True, True]) (k' := (kOf 0 (bodyOf Try.f91))) (o' := .norm) (S := (eaS false false G87 l m 0 .nil)) (H := (eaH false false Gh87 l m)) (by kernel_rfl) (by kernel_rfl) (by simp [conj])).bind ?_
  rintro k o σ ⟨rfl, rfl, rfl⟩
  have hk : kOf 0 (bodyOf Try.f91) = .code (.block 0 (.loop (roundOf 0 (bodyOf Try.f91)))) :: restOf 0 (bodyOf Try.f91) := by kernel_rfl
  rw [hk]
  have e0 : kn (eaS false false G87 l m 0 .nil) (eaH false false Gh87 l m) = eaSt (eaS false false G87 l m) (eaH false false Gh87 l m) (fun d => o87 (amt l d) (amt m d)) 0 := rfl
  rw [e0]
  refine (goes_loop (eaSt (eaS false false G87 l m) (eaH false false Gh87 l m) (fun d => o87 (amt l d) (amt m d))) (fun k => k ≤ 8 ∧ ∀ d, d < k → k87 (amt l d) (amt m d)) (fun k => 8 - k)
    (fun o σ => (o = .norm ∧ σ = eaSt (eaS false false G87 l m) (eaH false false Gh87 l m) (fun d => o87 (amt l d) (amt m d)) 8 ∧ ∀ d, d < 8 → k87 (amt l d) (amt m d)) ∨ False) ?_ (p := 0) ⟨by omega, fun d hd => by omega⟩).bind ?_
  · rintro k ⟨hk, hinv⟩
    by_cases hk8 : k < 8
    · by_cases hkk : k87 (amt l k) (amt m k)
      · refine (ez87_false_false hl hm ha hc hk8 (fun d hd => ?_)).bind ?_
        · by_cases hd2 : d < k
          · exact hinv d hd2
          · obtain rfl : d = k := by omega
            exact hkk
        rintro k' o σ ⟨rfl, rfl, σ0, rfl, g⟩
        refine g (goes_z ?_)
        refine ⟨rfl, .inl ⟨rfl, k + 1, ⟨hk8, fun d hd => ?_⟩, by omega, rfl⟩⟩
        by_cases hd2 : d < k
        · exact hinv d hd2
        · obtain rfl : d = k := by omega
          exact hkk
      · exact absurd trivial hkk
    · obtain rfl : k = 8 := by omega
      unfold eaSt
      by_cases h0 : (nz (fun d => o87 (amt l d) (amt m d)) 8).length = 0
      · simp only [if_pos h0]
        refine (goes (ctx_ok tC4_ok 36) mixed rfl (gs := []) (gh := []) (orc := way [(13, 1)]) (stops := []) (f := 3000) (k := [.code (roundOf 0 (bodyOf Try.f91))]) (o := .norm) (σ := (kn (eaS false false G87 l m 8 .nil) (eaH false false Gh87 l m))) (cs := [¬(↑(8 : Nat) : Int) < (8 : Int)]) (k' := []) (o' := (.exit 0)) (S := (eaS false false G87 l m 8 .nil)) (H := (eaH false false Gh87 l m)) (by kernel_rfl) (by kernel_rfl) (by simp [conj])).mono ?_
        rintro k o σ ⟨rfl, rfl, rfl⟩
        exact ⟨rfl, .inr ⟨by simp, .inl ⟨rfl, rfl, hinv⟩⟩⟩
      · simp only [if_neg h0]
        generalize hnz : nz (fun d => o87 (amt l d) (amt m d)) 8 = z
        refine (goes (ctx_ok tC4_ok 36) mixed rfl (gs := []) (gh := []) (orc := way [(13, 1)]) (stops := []) (f := 3000) (k := [.code (roundOf 0 (bodyOf Try.f91))]) (o := .norm) (σ := (kn (eaS false false G87 l m 8 (.sl 500 5 0 z.length)) (rw5 z :: eaH false false Gh87 l m))) (cs := [¬(↑(8 : Nat) : Int) < (8 : Int)]) (k' := []) (o' := (.exit 0)) (S := (eaS false false G87 l m 8 (.sl 500 5 0 z.length))) (H := (rw5 z :: eaH false false Gh87 l m)) (by kernel_rfl) (by kernel_rfl) (by simp [conj])).mono ?_
        rintro k o σ ⟨rfl, rfl, rfl⟩
        exact ⟨rfl, .inr ⟨by simp, .inl ⟨rfl, rfl, hinv⟩⟩⟩
  · rintro k o σ ⟨rfl, hcase⟩
    rcases hcase with ⟨rfl, rfl, hall⟩ | hbad
    · unfold eaSt
      generalize nz (fun d => o87 (amt l d) (amt m d)) 8 = z
      by_cases h0 : z.length = 0
      · simp only [if_pos h0]
        exact goes_ret (ctx_ok tC4_ok 36) mixed rfl (orc := way []) (stops := []) (f := 3000) (k := (restOf 0 (bodyOf Try.f91))) (o := .norm) (σ := (kn (eaS false false G87 l m 8 .nil) (eaH false false Gh87 l m))) (cs := [True, True, True]) (o' := .ret) (rs := Try.f91.results.toList) (v := (.tup [[.nil], E 0])) (H := Gh87) (by kernel_rfl) (.inr rfl) (by simp [conj]) fun σ hσ => .inl ⟨hall, .inl ⟨h0, rfl⟩, fun s hs => by simp [mkS] at hs, (hσ (1002, _) List.mem_cons_self)⟩
      · simp only [if_neg h0]
        exact goes_ret (ctx_ok tC4_ok 36) mixed rfl (orc := way []) (stops := []) (f := 3000) (k := (restOf 0 (bodyOf Try.f91))) (o := .norm) (σ := (kn (eaS false false G87 l m 8 (.sl 500 5 0 z.length)) (rw5 z :: eaH false false Gh87 l m))) (cs := [True, True, True]) (o' := .ret) (rs := Try.f91.results.toList) (v := (.tup [[.sl 500 5 0 z.length], E 0])) (H := (rw5 z :: Gh87)) (by kernel_rfl) (.inr rfl) (by simp [conj]) fun σ hσ => .inl ⟨hall, .inr ⟨by omega, 500, _, rfl, hσ (500, _) List.mem_cons_self, rfl⟩, fun s hs => by simp [mkS] at hs; exact hs.symm, (hσ (1002, _) (List.mem_cons_of_mem _ List.mem_cons_self))⟩
    · exact hbad.elim

end M
end Go.Proofs.Ytmjdmhelmgcanaa

/- coins.Add, Sub, Least, Rest, Within. -/
namespace Go.Proofs.Ytmjdmhelmgcanaa
namespace M
open Go.RowKit
set_option linter.unusedSimpArgs false
set_option linter.unusedVariables false

def tC5 : List Entry := ⟨91, 1, lcon eachK⟩ :: tC4
def G40 : List (Prop × Cs × Option (List Av)) := []

/-- one's own row alone -/
theorem rep_only {nt : Nat} {w0 : Base} {w w' : World} {ρ' : Env} {σ' : Ms} {a : Act} {s : Nat} {e : TypeId} {es n : Nat} {f : Nat → List Av} (hr : Rep nt w0 ρ' σ' a w') (hb : Below w.heap.size w w') (hs : σ'.heap s = some (.row true e es n f)) (hlo : w.heap.size ≤ ρ'.b s) :
    Rep nt (base w ρ') ρ' (kn [] [(s, .row true e es n f)]) a w' := by
  have hk : BkOK ρ' w' (fun b => w.heap.size ≤ b) s (.row true e es n f) := by
    obtain ⟨h1, h2, h3, h4, h5, cur, h6⟩ := hr.blocks s _ hs
    exact ⟨h1, h2, h3, hlo, h5, cur, h6⟩
  refine ⟨hr.size, hr.defers, fun i _ => .inl rfl, ⟨hb.os, hb.tape, hb.output, hb.size, fun k hk _ => hb.block k hk⟩, fun id k h => ?_, fun i j ki kj hi hj _ _ _ => ?_, fun i => trivial, fun id k h => ?_, fun id h => ?_, fun i hi => ⟨?_, rfl, rfl, rfl⟩⟩
  · have := lookH_mem h
    simp only [List.mem_singleton, Prod.mk.injEq] at this
    obtain ⟨rfl, rfl⟩ := this
    exact hk
  · have a1 := lookH_mem hi
    have a2 := lookH_mem hj
    simp only [List.mem_singleton, Prod.mk.injEq] at a1 a2
    rw [a1.1, a2.1]
  · have := lookH_mem h
    simp only [List.mem_singleton, Prod.mk.injEq] at this
    obtain ⟨rfl, rfl⟩ := this
    trivial
  · show (Nat.ble 1000 id || (lookH [(s, Bk.row true e es n f)] id).isSome) = true
    have : (lookH [(s, Bk.row true e es n f)] id).isSome = true := h
    rw [this, Bool.or_true]
  · show (Nat.ble 1000 i || _) = true
    rw [Nat.ble_eq_true_of_le hi, Bool.true_or]

theorem each_fn {g : Nat} {l m r : Cs} {o : Option (List Av)} (ho : ∀ e, o = some e → ∀ a ∈ e, a.plain) {c c' : Prop} {A A' : RArg} {x : Option Bk} {ρ : Env} {w : World} {B : Nat → Prop} (h1 : coA 60 A = some (c, l)) (h2 : c) (h3 : coA 60 A' = some (c', m)) (h4 : c')
    (hargs : ∀ Q ∈ [A, A', [(.fn g, x)]], ∀ q ∈ Q, ArgOK ρ w B q)
    (hg : ∀ w0 a c, (a = true → l = []) → (c = true → m = []) → Goes Try.prog Try.f91.ntmps w0 [.code (bodyOf Try.f91)] .norm (kn (argS 0 [inS a 1000 l, inS c 1001 m, .one [.fn g]]) (eaH a c [] l m)) (Fin (ctx tC4 36) Try.f91.results.toList (LFin r o))) :
    Calls Try.prog 91 ([A, A', [(.fn g, x)]].map (argV ρ)).toArray w fun e w' => (r.length = 0 ∧ Below w.heap.size w w' ∧ e = .returned ((mkS o [.nil]).den ρ)) ∨
        (0 < r.length ∧ ∃ nt ρc ρ' σ' a' s gg, e = .returned ((mkS o [.sl s 5 0 r.length]).den ρ') ∧ Rep nt (base w ρc) ρ' σ' a' w' ∧ σ'.heap s = some (.row true 60 5 r.length gg) ∧ rowC gg r.length = rowC (rowL r) r.length) := by
  have hin : CoIn 60 [A, A', [(.fn g, x)]] [l, m] [[.fn g]] := ⟨[A, A'], [[(.fn g, x)]], rfl, .cons h1 h2 (.cons h3 h4 .nil), rfl, fun l hl a ha => by
    simp only [List.mem_singleton] at hl
    subst hl
    simp only [List.mem_singleton] at ha
    subst ha
    rfl⟩
  obtain ⟨ps, ρ2, e1, e2, hpl, e3, e4⟩ := in_coins hin hargs
  obtain ⟨a, b, rfl, e5, e6⟩ := two_in e1 e2
  have hc2 := calls_of (ctx_ok tC4_ok 36) Try.func91 (c := bodyOf Try.f91) rfl rfl (Nat.le_of_ble_eq_true (by kernel_rfl)) e4 (hg _ a b e5 e6)
  have e3' : (insS 1000 [(a, l), (b, m)] ++ [[Av.fn g]].map Sv.one).map (Sv.den (base w ρ2).ρ) = [A, A', [(.fn g, x)]].map (argV ρ) := e3
  rw [e3'] at hc2
  refine hc2.mono ?_
  rintro e w' ⟨v, σ', ρ', a', hfin, rfl, hr, _⟩
  rcases hfin with ⟨h0, rfl⟩ | ⟨h0, s, gg, rfl, hs, hrow⟩
  · exact .inl ⟨h0, kept_below hr.below, congrArg _ (mkS_den ho rfl)⟩
  · exact .inr ⟨h0, _, _, ρ', σ', a', s, gg, rfl, hr, hs, hrow⟩

theorem each_clo {g : Nat} {l m r : Cs} {o : Option (List Av)} (ho : ∀ e, o = some e → ∀ a ∈ e, a.plain) {c c' : Prop} {A A' : RArg} {id : Nat} {ρ : Env} {w : World} {B : Nat → Prop} (h1 : coA 60 A = some (c, l)) (h2 : c) (h3 : coA 60 A' = some (c', m)) (h4 : c')
    (hargs : ∀ Q ∈ [A, A', [(.clo 109 id, some (.var [.fn g] 55))]], ∀ q ∈ Q, ArgOK ρ w B q)
    (hg : ∀ w0 a c, (a = true → l = []) → (c = true → m = []) → Goes Try.prog Try.f91.ntmps w0 [.code (bodyOf Try.f91)] .norm (kn (argS 0 [inS a 1000 l, inS c 1001 m, .one [.clo 109 1002]]) (eaH a c [(1002, .var [.fn g] 55)] l m)) (Fin (ctx tC4 36) Try.f91.results.toList fun v σ =>
      LFin r o v σ ∧ (∀ s, v = mkS o [.sl s 5 0 r.length] → s = 500) ∧ σ.heap 1002 = some (.var [.fn g] 55))) :
    Calls Try.prog 91 ([A, A', [(.clo 109 id, some (.var [.fn g] 55))]].map (argV ρ)).toArray w fun e w' => (r.length = 0 ∧ Below w.heap.size w w' ∧ e = .returned ((mkS o [.nil]).den ρ)) ∨
        (0 < r.length ∧ ∃ nt ρc ρ' σ' a' s gg, e = .returned ((mkS o [.sl s 5 0 r.length]).den ρ') ∧ Rep nt (base w ρc) ρ' σ' a' w' ∧ σ'.heap s = some (.row true 60 5 r.length gg) ∧ rowC gg r.length = rowC (rowL r) r.length) := by
  obtain ⟨ps, e1, e2, ρ2, e3⟩ := ins_open (ρ := ρ) (w := w) (B := B) (CoArgs.cons h1 h2 (CoArgs.cons h3 h4 CoArgs.nil)) (fun Q hQ => hargs Q (by simp only [List.mem_cons, List.not_mem_nil, or_false] at hQ ⊢; rcases hQ with rfl | rfl <;> simp)) 1000
  obtain ⟨a, b, rfl, e5, e6⟩ := two_in e1 e2
  obtain ⟨id', hid, ⟨hb1, hb2⟩, _⟩ := (hargs _ (List.mem_cons_of_mem _ (List.mem_cons_of_mem _ List.mem_cons_self)) _ List.mem_cons_self).2 _ rfl
  cases hid
  obtain ⟨bc, hbc⟩ : ∃ bc, bc = ρ.b id := ⟨_, rfl⟩
  rw [← hbc] at hb1 hb2
  obtain ⟨ρ3, hρ3⟩ : ∃ ρ3 : Env, ρ3 = ⟨fun i => if i = 1002 then bc else ρ2.b i, ρ2.o, ρ2.c⟩ := ⟨_, rfl⟩
  have h3b : ρ3.b 1002 = bc := by rw [hρ3]; show (if (1002 : Nat) = 1002 then bc else ρ2.b 1002) = bc; exact if_pos rfl
  obtain ⟨g1, g2, g3⟩ := e3 ρ3 fun i hi hi2 => by
    rw [hρ3]
    refine ⟨?_, rfl, rfl⟩
    show (if i = 1002 then bc else ρ2.b i) = _
    exact if_neg (by simp only [List.length_cons, List.length_nil] at hi2; omega)
  have hF : ∀ b, w.heap.size ≤ b → b = bc ∨ w.heap.size ≤ b := fun _ h => .inr h
  have hblt : bc < w.heap.size := (Array.getElem?_eq_some_iff.1 hb2).1
  have hfar : ∀ p ∈ insH 60 1000 [(a, l), (b, m)], ρ3.b p.1 ≠ bc := by
    intro p hp he
    obtain ⟨_, _, _, _, _, i0, o', e', n', f', k1, k2⟩ := g2 p hp
    rw [k1] at he
    cases o' with
    | false => exact k2.2.2.2.1 (by rw [he]; exact hb1)
    | true =>
      obtain ⟨_, _, _, _, _, cur, k3, k4, _⟩ := k2
      rw [he, hb2] at k3
      simp only [Option.some.injEq, Obj.cells.injEq] at k3
      rw [← k3.1] at k4
      simp [cellsL, Av.cells] at k4
      omega
  have hH : eaH a b [(1002, .var [.fn g] 55)] l m = insH 60 1000 [(a, l), (b, m)] ++ [(1002, .var [.fn g] 55)] := by
    show inH 60 a 1000 l (inH 60 b 1001 m _) = inH 60 a 1000 l (inH 60 b 1001 m []) ++ _
    cases a <;> cases b <;> rfl
  have hlook : ∀ i k, lookH (eaH a b [(1002, .var [.fn g] 55)] l m) i = some k → (i, k) ∈ insH 60 1000 [(a, l), (b, m)] ∨ (i = 1002 ∧ k = .var [.fn g] 55) := by
    intro i k h
    have := lookH_mem h
    rw [hH] at this
    rcases List.mem_append.1 this with h | h
    · exact .inl h
    · simp only [List.mem_singleton, Prod.mk.injEq] at h
      exact .inr h
  have hin : InOK ⟨w, fun b => b = bc ∨ w.heap.size ≤ b, ρ3, hF⟩ [inS a 1000 l, inS b 1001 m, .one [.clo 109 1002]] (eaH a b [(1002, .var [.fn g] 55)] l m) := by
    refine ⟨?_, fun i k hk => ?_, fun i k hk => ?_, fun i j ki kj hi hj oi oj _ => ?_⟩
    · simp only [List.mem_cons, List.not_mem_nil, or_false]
      cases a <;> cases b
      all_goals
        rintro s (rfl | rfl | rfl) <;> first | exact one1 ⟨rfl, rfl⟩ | exact one1 (AvOK.of_plain trivial)
    · rcases hlook i k hk with h | ⟨rfl, rfl⟩
      · obtain ⟨_, _, k3, _, k5, _⟩ := g2 _ h
        have hne := hfar _ h
        cases k with
        | var l t => cases k3
        | arr l t => cases k3
        | dead => trivial
        | row oo ee es n f =>
          cases oo with
          | true => cases k3
          | false =>
            obtain ⟨q1, q2, q3, q4, q5, q6⟩ := k5
            exact ⟨q1, q2, q3, fun h => h.elim hne q4, q5, q6⟩
      · exact ⟨.inl h3b, by show w.heap[ρ3.b 1002]? = _; rw [h3b]; exact hb2⟩
    · rcases hlook i k hk with h | ⟨rfl, rfl⟩
      · obtain ⟨_, _, k3, _⟩ := g2 _ h
        cases k with
        | var l t => cases k3
        | arr l t => cases k3
        | dead => trivial
        | row oo ee es n f => trivial
      · intro x hx
        simp only [List.mem_singleton] at hx
        subst hx
        exact AvOK.of_plain trivial
    · rcases hlook i ki hi with h | ⟨rfl, rfl⟩
      · have := (g2 _ h).2.2.1
        simp only at this
        rw [this] at oi; cases oi
      · rcases hlook j kj hj with h | ⟨rfl, rfl⟩
        · have := (g2 _ h).2.2.1
          simp only at this
          rw [this] at oj; cases oj
        · rfl
  have hc2 := calls_of (ctx_ok tC4_ok 36) Try.func91 (c := bodyOf Try.f91) rfl rfl (Nat.le_of_ble_eq_true (by kernel_rfl)) hin (hg _ a b e5 e6)
  have ev : [inS a 1000 l, inS b 1001 m, .one [.clo 109 1002]].map (Sv.den ρ3) = [A, A', [(.clo 109 id, some (.var [.fn g] 55))]].map (argV ρ) := by
    have g1' : [inS a 1000 l, inS b 1001 m].map (Sv.den ρ3) = [A, A'].map (argV ρ) := g1
    simp only [List.map_cons, List.map_nil, List.cons.injEq, and_true] at g1' ⊢
    refine ⟨g1'.1, g1'.2, ?_⟩
    show Value.func (.func 109) #[] #[.pointer (some ⟨ρ3.b 1002, 0, none⟩)] = Value.func (.func 109) #[] #[.pointer (some ⟨ρ.b id, 0, none⟩)]
    rw [h3b, hbc]
  have hc3 : Calls Try.prog 91 ([inS a 1000 l, inS b 1001 m, .one [.clo 109 1002]].map (Sv.den ρ3)).toArray w _ := hc2
  rw [ev] at hc3
  refine hc3.mono ?_
  rintro e w' ⟨v, σ', ρ', a', ⟨hfin, h500, hcap⟩, rfl, hr, _⟩
  have hbel : Below w.heap.size w w' := below_cap (l := [.fn g]) hr (by omega : 1000 ≤ 1002) h3b (fun a ha => by simp only [List.mem_singleton] at ha; subst ha; trivial) hb2 hcap
  rcases hfin with ⟨h0, rfl⟩ | ⟨h0, s, gg, rfl, hs, hrow⟩
  · exact .inl ⟨h0, hbel, congrArg _ (mkS_den ho rfl)⟩
  · obtain rfl := h500 s rfl
    have hbk := hr.blocks 500 _ hs
    have hlo : w.heap.size ≤ ρ'.b 500 := by
      rcases hbk.2.2.2.1 with h | h
      · exfalso
        have h2 : ρ'.b 1002 = bc := (hr.names 1002 (by omega)).2.1.trans h3b
        have := hr.inj 500 1002 _ _ hs hcap rfl rfl (by rw [h2]; exact h)
        omega
      · exact h
    exact .inr ⟨h0, _, _, ρ', _, a', 500, gg, rfl, rep_only hr hbel hs hlo, rfl, hrow⟩

theorem nzAdd {l m : Cs} (hl : IsP l) (hm : IsP m) (h : (puL l).fits (puL m)) : nz (fun d => o79 (amt l d) (amt m d)) 8 = ((puL l).add (puL m)).lst := nz_congr fun d _ => by
  show amt l d + amt m d = _
  rw [Purse.add_f h, IsP_amt hl, IsP_amt hm]
theorem nzSub {l m : Cs} (hl : IsP l) (hm : IsP m) : nz (fun d => o80 (amt l d) (amt m d)) 8 = ((puL l).sub (puL m)).lst := nz_congr fun d _ => by
  show amt l d - amt m d = (puL l).f d - (puL m).f d
  rw [IsP_amt hl, IsP_amt hm]
theorem nzMin {l m : Cs} (hl : IsP l) (hm : IsP m) : nz (fun d => o87 (amt l d) (amt m d)) 8 = ((puL l).min (puL m)).lst := nz_congr fun d _ => by
  show min (amt l d) (amt m d) = min ((puL l).f d) ((puL m).f d)
  rw [IsP_amt hl, IsP_amt hm]

theorem E_pl {n : Int} : ∀ e, some (E n) = some e → ∀ a ∈ e, a.plain := fun e h => by cases h; exact E_plain _

theorem ga79 {w0 : Base} {l m : Cs} (hl : okC l) (hm : okC m) (pl : IsP l) (pm : IsP m) {a c : Bool} (ha : a = true → l = []) (hc : c = true → m = []) :
    Goes Try.prog Try.f91.ntmps w0 [.code (bodyOf Try.f91)] .norm (kn (argS 0 [inS a 1000 l, inS c 1001 m, G79]) (eaH a c Gh79 l m)) (Fin (ctx tC4 36) Try.f91.results.toList fun v σ =>
      ((puL l).fits (puL m) ∧ LFin ((puL l).add (puL m)).lst (some (E 0)) v σ) ∨ (¬ (puL l).fits (puL m) ∧ LFin [] (some (E 2)) v σ)) := by
  have key : Goes Try.prog Try.f91.ntmps w0 [.code (bodyOf Try.f91)] .norm (kn (argS 0 [inS a 1000 l, inS c 1001 m, G79]) (eaH a c Gh79 l m)) (Fin (ctx tC4 36) Try.f91.results.toList fun v σ =>
      ((∀ d, d < 8 → k79 (amt l d) (amt m d)) ∧ LFin (nz (fun d => o79 (amt l d) (amt m d)) 8) (some (E 0)) v σ) ∨ (∃ d, d < 8 ∧ ¬ k79 (amt l d) (amt m d) ∧ LFin [] (some (E er79)) v σ)) := by
    cases a <;> cases c
    · refine (ex79_false_false hl hm ha hc).mono fun k o σ hf => Fin.mono ?_ hf
      rintro v σ (⟨h1, h2, _⟩ | h)
      · exact .inl ⟨h1, h2⟩
      · exact .inr h
    · refine (ex79_false_true hl hm ha hc).mono fun k o σ hf => Fin.mono ?_ hf
      rintro v σ (⟨h1, h2, _⟩ | h)
      · exact .inl ⟨h1, h2⟩
      · exact .inr h
    · refine (ex79_true_false hl hm ha hc).mono fun k o σ hf => Fin.mono ?_ hf
      rintro v σ (⟨h1, h2, _⟩ | h)
      · exact .inl ⟨h1, h2⟩
      · exact .inr h
    · refine (ex79_true_true hl hm ha hc).mono fun k o σ hf => Fin.mono ?_ hf
      rintro v σ (⟨h1, h2, _⟩ | h)
      · exact .inl ⟨h1, h2⟩
      · exact .inr h
  refine key.mono fun k o σ hf => Fin.mono ?_ hf
  rintro v σ (⟨h1, h2⟩ | ⟨d, hd, h1, h2⟩)
  · have hf : (puL l).fits (puL m) := fun d => by
      by_cases hd : d < 8
      · rw [IsP_amt pl, IsP_amt pm]; exact h1 d hd
      · rw [(puL l).hm d (by omega), (puL m).hm d (by omega)]; exact top_pos
    rw [nzAdd pl pm hf] at h2
    exact .inl ⟨hf, h2⟩
  · exact .inr ⟨fun h => h1 (by have := h d; rw [IsP_amt pl, IsP_amt pm] at this; exact this), h2⟩

theorem ga80 {w0 : Base} {l m : Cs} (hl : okC l) (hm : okC m) (pl : IsP l) (pm : IsP m) {a c : Bool} (ha : a = true → l = []) (hc : c = true → m = []) :
    Goes Try.prog Try.f91.ntmps w0 [.code (bodyOf Try.f91)] .norm (kn (argS 0 [inS a 1000 l, inS c 1001 m, G80]) (eaH a c Gh80 l m)) (Fin (ctx tC4 36) Try.f91.results.toList fun v σ =>
      ((puL m).le (puL l) ∧ LFin ((puL l).sub (puL m)).lst (some (E 0)) v σ) ∨ (¬ (puL m).le (puL l) ∧ LFin [] (some (E 3)) v σ)) := by
  have key : Goes Try.prog Try.f91.ntmps w0 [.code (bodyOf Try.f91)] .norm (kn (argS 0 [inS a 1000 l, inS c 1001 m, G80]) (eaH a c Gh80 l m)) (Fin (ctx tC4 36) Try.f91.results.toList fun v σ =>
      ((∀ d, d < 8 → k80 (amt l d) (amt m d)) ∧ LFin (nz (fun d => o80 (amt l d) (amt m d)) 8) (some (E 0)) v σ) ∨ (∃ d, d < 8 ∧ ¬ k80 (amt l d) (amt m d) ∧ LFin [] (some (E er80)) v σ)) := by
    cases a <;> cases c
    · refine (ex80_false_false hl hm ha hc).mono fun k o σ hf => Fin.mono ?_ hf
      rintro v σ (⟨h1, h2, _⟩ | h)
      · exact .inl ⟨h1, h2⟩
      · exact .inr h
    · refine (ex80_false_true hl hm ha hc).mono fun k o σ hf => Fin.mono ?_ hf
      rintro v σ (⟨h1, h2, _⟩ | h)
      · exact .inl ⟨h1, h2⟩
      · exact .inr h
    · refine (ex80_true_false hl hm ha hc).mono fun k o σ hf => Fin.mono ?_ hf
      rintro v σ (⟨h1, h2, _⟩ | h)
      · exact .inl ⟨h1, h2⟩
      · exact .inr h
    · refine (ex80_true_true hl hm ha hc).mono fun k o σ hf => Fin.mono ?_ hf
      rintro v σ (⟨h1, h2, _⟩ | h)
      · exact .inl ⟨h1, h2⟩
      · exact .inr h
  refine key.mono fun k o σ hf => Fin.mono ?_ hf
  rintro v σ (⟨h1, h2⟩ | ⟨d, hd, h1, h2⟩)
  · have hf : (puL m).le (puL l) := fun d => by
      by_cases hd : d < 8
      · rw [IsP_amt pl, IsP_amt pm]; exact h1 d hd
      · rw [(puL m).hm d (by omega)]; exact Nat.zero_le _
    rw [nzSub pl pm] at h2
    exact .inl ⟨hf, h2⟩
  · exact .inr ⟨fun h => h1 (by have := h d; rw [IsP_amt pl, IsP_amt pm] at this; exact this), h2⟩

theorem ga86 {w0 : Base} {l m : Cs} (hl : okC l) (hm : okC m) {a c : Bool} (ha : a = true → l = []) (hc : c = true → m = []) :
    Goes Try.prog Try.f91.ntmps w0 [.code (bodyOf Try.f91)] .norm (kn (argS 0 [inS a 1000 l, inS c 1001 m, G86]) (eaH a c Gh86 l m)) (Fin (ctx tC4 36) Try.f91.results.toList fun v σ =>
      LFin (nz (fun d => o86 (amt l d) (amt m d)) 8) (some (E 0)) v σ ∧ (∀ s, v = mkS (some (E 0)) [.sl s 5 0 (nz (fun d => o86 (amt l d) (amt m d)) 8).length] → s = 500) ∧ J86 σ) := by
  cases a <;> cases c
  · refine (ex86_false_false hl hm ha hc).mono fun k o σ hf => Fin.mono ?_ hf
    rintro v σ (⟨_, h2⟩ | h)
    · exact h2
    · exact h.elim
  · refine (ex86_false_true hl hm ha hc).mono fun k o σ hf => Fin.mono ?_ hf
    rintro v σ (⟨_, h2⟩ | h)
    · exact h2
    · exact h.elim
  · refine (ex86_true_false hl hm ha hc).mono fun k o σ hf => Fin.mono ?_ hf
    rintro v σ (⟨_, h2⟩ | h)
    · exact h2
    · exact h.elim
  · refine (ex86_true_true hl hm ha hc).mono fun k o σ hf => Fin.mono ?_ hf
    rintro v σ (⟨_, h2⟩ | h)
    · exact h2
    · exact h.elim

theorem ga87 {w0 : Base} {l m : Cs} (hl : okC l) (hm : okC m) {a c : Bool} (ha : a = true → l = []) (hc : c = true → m = []) :
    Goes Try.prog Try.f91.ntmps w0 [.code (bodyOf Try.f91)] .norm (kn (argS 0 [inS a 1000 l, inS c 1001 m, G87]) (eaH a c Gh87 l m)) (Fin (ctx tC4 36) Try.f91.results.toList fun v σ =>
      LFin (nz (fun d => o87 (amt l d) (amt m d)) 8) (some (E 0)) v σ ∧ (∀ s, v = mkS (some (E 0)) [.sl s 5 0 (nz (fun d => o87 (amt l d) (amt m d)) 8).length] → s = 500) ∧ J87 σ) := by
  cases a <;> cases c
  · refine (ex87_false_false hl hm ha hc).mono fun k o σ hf => Fin.mono ?_ hf
    rintro v σ (⟨_, h2⟩ | h)
    · exact h2
    · exact h.elim
  · refine (ex87_false_true hl hm ha hc).mono fun k o σ hf => Fin.mono ?_ hf
    rintro v σ (⟨_, h2⟩ | h)
    · exact h2
    · exact h.elim
  · refine (ex87_true_false hl hm ha hc).mono fun k o σ hf => Fin.mono ?_ hf
    rintro v σ (⟨_, h2⟩ | h)
    · exact h2
    · exact h.elim
  · refine (ex87_true_true hl hm ha hc).mono fun k o σ hf => Fin.mono ?_ hf
    rintro v σ (⟨_, h2⟩ | h)
    · exact h2
    · exact h.elim

theorem each_e : EOK ⟨91, 1, lcon eachK⟩ := by
  have main : ∀ args ls, eachK args = some ls → ∀ p ∈ ls, p.1 → (okC p.2.1 ∧ (∀ e, p.2.2 = some e → ∀ a ∈ e, a.plain)) ∧ ∀ ρ w (B : Nat → Prop), (∀ b, w.heap.size ≤ b → B b) → (∀ A ∈ args, ∀ q ∈ A, ArgOK ρ w B q) →
      Calls Try.prog 91 (args.map (argV ρ)).toArray w fun e w' => (p.2.1.length = 0 ∧ Below w.heap.size w w' ∧ e = .returned ((mkS p.2.2 [.nil]).den ρ)) ∨
        (0 < p.2.1.length ∧ ∃ nt ρc ρ' σ' a' s g, e = .returned ((mkS p.2.2 [.sl s 5 0 p.2.1.length]).den ρ') ∧ Rep nt (base w ρc) ρ' σ' a' w' ∧ σ'.heap s = some (.row true 60 5 p.2.1.length g) ∧ rowC g p.2.1.length = rowC (rowL p.2.1) p.2.1.length) := by
    intro args ls hk p hp hc
    unfold eachK at hk
    split at hk
    · rename_i A A' x
      obtain ⟨a, ha, hk⟩ := Option.bind_eq_some_iff.1 hk
      obtain ⟨b, hb, rfl⟩ := Option.map_eq_some_iff.1 hk
      obtain ⟨q, hq, rfl⟩ := List.mem_map.1 hp
      simp only [okA79, List.mem_cons, List.not_mem_nil, or_false] at hq
      rcases hq with rfl | rfl
      · obtain ⟨c1, c2, c3, c4, c5⟩ := hc
        refine ⟨⟨okP _, E_pl⟩, fun ρ w B hB hargs => each_fn E_pl ha c1 hb c2 hargs fun w0 x y hx hy => (ga79 (coA_ok ha c1) (coA_ok hb c2) c3 c4 hx hy).mono fun k o σ hf => Fin.mono ?_ hf⟩
        rintro v σ (⟨_, h⟩ | ⟨h, _⟩)
        · exact h
        · exact absurd c5 h
      · obtain ⟨c1, c2, c3, c4, c5⟩ := hc
        refine ⟨⟨okC_nil, E_pl⟩, fun ρ w B hB hargs => each_fn E_pl ha c1 hb c2 hargs fun w0 x y hx hy => (ga79 (coA_ok ha c1) (coA_ok hb c2) c3 c4 hx hy).mono fun k o σ hf => Fin.mono ?_ hf⟩
        rintro v σ (⟨h, _⟩ | ⟨_, h⟩)
        · exact absurd h c5
        · exact h
    · rename_i A A' x
      obtain ⟨a, ha, hk⟩ := Option.bind_eq_some_iff.1 hk
      obtain ⟨b, hb, rfl⟩ := Option.map_eq_some_iff.1 hk
      obtain ⟨q, hq, rfl⟩ := List.mem_map.1 hp
      simp only [okA80, List.mem_cons, List.not_mem_nil, or_false] at hq
      rcases hq with rfl | rfl
      · obtain ⟨c1, c2, c3, c4, c5⟩ := hc
        refine ⟨⟨okP _, E_pl⟩, fun ρ w B hB hargs => each_fn E_pl ha c1 hb c2 hargs fun w0 x y hx hy => (ga80 (coA_ok ha c1) (coA_ok hb c2) c3 c4 hx hy).mono fun k o σ hf => Fin.mono ?_ hf⟩
        rintro v σ (⟨_, h⟩ | ⟨h, _⟩)
        · exact h
        · exact absurd c5 h
      · obtain ⟨c1, c2, c3, c4, c5⟩ := hc
        refine ⟨⟨okC_nil, E_pl⟩, fun ρ w B hB hargs => each_fn E_pl ha c1 hb c2 hargs fun w0 x y hx hy => (ga80 (coA_ok ha c1) (coA_ok hb c2) c3 c4 hx hy).mono fun k o σ hf => Fin.mono ?_ hf⟩
        rintro v σ (⟨h, _⟩ | ⟨_, h⟩)
        · exact absurd h c5
        · exact h
    · rename_i A A' id
      obtain ⟨a, ha, hk⟩ := Option.bind_eq_some_iff.1 hk
      obtain ⟨b, hb, rfl⟩ := Option.map_eq_some_iff.1 hk
      obtain ⟨q, hq, rfl⟩ := List.mem_map.1 hp
      simp only [okA86, List.mem_singleton] at hq
      subst hq
      obtain ⟨c1, c2, c3, c4⟩ := hc
      refine ⟨⟨okP _, E_pl⟩, fun ρ w B hB hargs => each_clo E_pl ha c1 hb c2 hargs fun w0 x y hx hy => ?_⟩
      have hg := ga86 (w0 := w0) (coA_ok ha c1) (coA_ok hb c2) hx hy
      have e : nz (fun d => o86 (amt a.2 d) (amt b.2 d)) 8 = _ := nzSub c3 c4
      rw [e] at hg
      exact hg
    · rename_i A A' id
      obtain ⟨a, ha, hk⟩ := Option.bind_eq_some_iff.1 hk
      obtain ⟨b, hb, rfl⟩ := Option.map_eq_some_iff.1 hk
      obtain ⟨q, hq, rfl⟩ := List.mem_map.1 hp
      simp only [okA87, List.mem_singleton] at hq
      subst hq
      obtain ⟨c1, c2, c3, c4⟩ := hc
      refine ⟨⟨okP _, E_pl⟩, fun ρ w B hB hargs => each_clo E_pl ha c1 hb c2 hargs fun w0 x y hx hy => ?_⟩
      have hg := ga87 (w0 := w0) (coA_ok ha c1) (coA_ok hb c2) hx hy
      have e : nz (fun d => o87 (amt a.2 d) (amt b.2 d)) 8 = _ := nzMin c3 c4
      rw [e] at hg
      exact hg
    · cases hk
  exact lcon_ok (fun a w => Try.call91 a w) (fun args ls hk _ p hp hc => (main args ls hk p hp hc).1) fun args ls hk p hp hc ρ w B hB hargs => ⟨(main args ls hk p hp hc).1, (main args ls hk p hp hc).2 ρ w B hB hargs⟩

theorem tC5_ok : TabOK tC5 := .cons each_e tC4_ok

end M
end Go.Proofs.Ytmjdmhelmgcanaa
