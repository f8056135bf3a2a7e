/- Joined out of smaller texts: CoH. -/
import Derived.Test.YtmjdmhelmgcanaaXI
/- coins.each. -/
namespace Go.Proofs.Ytmjdmhelmgcanaa
namespace M
open Go.RowKit
set_option linter.unusedSimpArgs false
set_option linter.unusedVariables false


theorem row_app (l m : Cs) : rowC (apL l m) (l.length + m.length) = rowC (rowL (l ++ m)) (l.length + m.length) := by
  refine rowC_congr fun i hi => ?_
  unfold apL
  by_cases hi2 : i < l.length
  · have : Nat.blt i l.length = true := Nat.ble_eq_true_of_le hi2
    rw [this, cond_true]
    simp only [rowL, getc_append hi2]
  · have : Nat.blt i l.length = false := by
      cases h : Nat.blt i l.length with
      | false => rfl
      | true => exact absurd (Nat.le_of_ble_eq_true h) (by omega)
    rw [this, cond_false, Nat.zero_add]
    have e : getc (l ++ m) i = getc m (i - l.length) := by unfold getc; rw [List.getElem?_append_right (by omega)]
    simp only [rowL, e]
theorem row_app0 (m : Cs) : rowC (apL0 m) m.length = rowC (rowL m) m.length := rowC_congr fun i _ => by simp only [apL0, Nat.zero_add]

def eaSt (S : Nat → Av → List (Nat × Sv)) (H : List (Nat × Bk)) (g : Nat → Nat) (k : Nat) : Ms := if (nz g k).length = 0 then kn (S k .nil) H else kn (S k (.sl 500 5 0 (nz g k).length)) (rw5 (nz g k) :: H)

theorem nz_one' {g : Nat → Nat} {k : Nat} (hk : k < 8) (hg : g k < TOP) : nz g (k + 1) = nz g k ++ (Purse.one k (g k)).lst := by
  rw [nz, one_lst hg]
  by_cases h : g k = 0
  · rw [if_pos h, if_neg (by omega)]
  · rw [if_neg h, if_pos ⟨hk, h⟩]

theorem ea_round {w0 : Base} {nt : Nat} {c : Code} {S : Nat → Av → List (Nat × Sv)} {H : List (Nat × Bk)} {g : Nat → Nat} {k : Nat} (hk : k < 8) (hg : ∀ d, d ≤ k → g d < TOP)
    (r0 : (Purse.one k (g k)).lst.length = 0 → Goes Try.prog nt w0 [.code c] .norm (kn (S k .nil) H) fun k' o σ => k' = [] ∧ o = .norm ∧ σ = kn (S (k + 1) .nil) H)
    (r1 : ∀ l, (Purse.one k (g k)).lst.length = 0 → Goes Try.prog nt w0 [.code c] .norm (kn (S k (.sl 500 5 0 l.length)) (rw5 l :: H)) fun k' o σ => k' = [] ∧ o = .norm ∧ σ = kn (S (k + 1) (.sl 500 5 0 l.length)) (rw5 l :: H))
    (r2 : 0 < (Purse.one k (g k)).lst.length → Goes Try.prog nt w0 [.code c] .norm (kn (S k .nil) H) fun k' o σ => k' = [] ∧ o = .norm ∧ σ = kn (S (k + 1) (.sl 33 5 0 (Purse.one k (g k)).lst.length)) ((33, .row true 60 5 (Purse.one k (g k)).lst.length (apL0 (Purse.one k (g k)).lst)) :: H))
    (r3 : ∀ l, 0 < l.length → l.length ≤ 8 → 0 < (Purse.one k (g k)).lst.length → Goes Try.prog nt w0 [.code c] .norm (kn (S k (.sl 500 5 0 l.length)) (rw5 l :: H)) fun k' o σ => k' = [] ∧ o = .norm ∧
      σ = kn (S (k + 1) (.sl 33 5 0 (l.length + (Purse.one k (g k)).lst.length))) ((33, .row true 60 5 (l.length + (Purse.one k (g k)).lst.length) (apL l (Purse.one k (g k)).lst)) :: H))
    (hS : ∀ n, renS 33 500 (S (k + 1) (.sl 33 5 0 n)) = S (k + 1) (.sl 500 5 0 n)) (hH : renH 33 500 H = H) (hne : ∀ p ∈ H, p.1 ≠ 500) :
    Goes Try.prog nt w0 [.code c] .norm (eaSt S H g k) fun k' o σ => k' = [] ∧ o = .norm ∧ ∃ σ0, σ = σ0 ∧ ∀ {nt : Nat} {kk : List Fr} {Z : List Fr → Out → Ms → Prop}, Goes Try.prog nt w0 kk .norm (eaSt S H g (k + 1)) Z → Goes Try.prog nt w0 kk .norm σ0 Z := by
  have e := nz_one' hk (hg k (Nat.le_refl _))
  have hok : ∀ c ∈ nz g (k + 1), c.2 < TOP := fun c hc => by
    have := nz_lt c hc
    rw [this.2.1]; exact hg _ (by omega)
  have hrow := rowL_OK hok
  have hname : ∀ n f, ∀ p ∈ ((33, Bk.row true 60 5 n f) :: H), p.1 ≠ 500 := fun n f p hp => by
    rcases List.mem_cons.1 hp with rfl | hp
    · show (33 : Nat) ≠ 500; omega
    · exact hne p hp
  have hren : ∀ n f, renH 33 500 ((33, Bk.row true 60 5 n f) :: H) = (500, Bk.row true 60 5 n f) :: H := fun n f => by
    show (_ :: renH 33 500 H) = _
    rw [hH]; rfl
  by_cases h0 : (nz g k).length = 0
  · have hnil : nz g k = [] := List.length_eq_zero_iff.1 h0
    have e1 : eaSt S H g k = kn (S k .nil) H := by unfold eaSt; rw [if_pos h0]
    rw [hnil, List.nil_append] at e
    rw [e1]
    by_cases h1 : (Purse.one k (g k)).lst.length = 0
    · refine (r0 h1).mono ?_
      rintro k' o σ ⟨rfl, rfl, rfl⟩
      refine ⟨rfl, rfl, _, rfl, fun gg => ?_⟩
      have e2 : eaSt S H g (k + 1) = kn (S (k + 1) .nil) H := by unfold eaSt; rw [e, if_pos h1]
      rw [e2] at gg
      exact gg
    · refine (r2 (by omega)).mono ?_
      rintro k' o σ ⟨rfl, rfl, rfl⟩
      refine ⟨rfl, rfl, _, rfl, fun gg => ?_⟩
      have e2 : eaSt S H g (k + 1) = kn (S (k + 1) (.sl 500 5 0 (Purse.one k (g k)).lst.length)) (rw5 (Purse.one k (g k)).lst :: H) := by unfold eaSt; rw [e, if_neg h1]
      rw [e2] at gg
      refine goes_name (a := 33) (b := 500) (by omega) (by omega) (hname _ _) ?_
      rw [hS, hren]
      rw [e] at hrow
      exact goes_sim (.row hrow (row_app0 _) (HSim.refl _)) gg
  · have e1 : eaSt S H g k = kn (S k (.sl 500 5 0 (nz g k).length)) (rw5 (nz g k) :: H) := by unfold eaSt; rw [if_neg h0]
    rw [e1]
    by_cases h1 : (Purse.one k (g k)).lst.length = 0
    · refine (r1 _ h1).mono ?_
      rintro k' o σ ⟨rfl, rfl, rfl⟩
      refine ⟨rfl, rfl, _, rfl, fun gg => ?_⟩
      rw [List.length_eq_zero_iff.1 h1, List.append_nil] at e
      have e2 : eaSt S H g (k + 1) = kn (S (k + 1) (.sl 500 5 0 (nz g k).length)) (rw5 (nz g k) :: H) := by unfold eaSt; rw [e, if_neg h0]
      rw [e2] at gg
      exact gg
    · refine (r3 _ (by omega) (Nat.le_trans (nz_length g k) (by omega)) (by omega)).mono ?_
      rintro k' o σ ⟨rfl, rfl, rfl⟩
      refine ⟨rfl, rfl, _, rfl, fun gg => ?_⟩
      have hlen : (nz g k).length + (Purse.one k (g k)).lst.length = (nz g (k + 1)).length := by rw [e, List.length_append]
      have e2 : eaSt S H g (k + 1) = kn (S (k + 1) (.sl 500 5 0 (nz g (k + 1)).length)) (rw5 (nz g (k + 1)) :: H) := by unfold eaSt; rw [if_neg (by omega)]
      rw [e2] at gg
      refine goes_name (a := 33) (b := 500) (by omega) (by omega) (hname _ _) ?_
      rw [hS, hren, hlen]
      refine goes_sim (.row hrow ?_ (HSim.refl _)) gg
      rw [← hlen, row_app, e]

theorem laA_eq {b : Bool} {l : Cs} (hb : b = true → l = []) : laA b l = l := by
  cases b
  · exact lst_rowL l
  · exact (hb rfl).symm

theorem ez79_true_true {w0 : Base} {l m : Cs} (hl : okC l) (hm : okC m) (ha : true = true → l = []) (hc : true = true → m = []) {k : Nat} (hk : k < 8) (ho : ∀ d, d ≤ k → k79 (amt l d) (amt m d)) :
    Goes Try.prog Try.f91.ntmps w0 [.code (roundOf 0 (bodyOf Try.f91))] .norm (eaSt (eaS true true G79 l m) (eaH true true Gh79 l m) (fun d => o79 (amt l d) (amt m d)) k)
    fun k' o σ => k' = [] ∧ o = .norm ∧ ∃ σ0, σ = σ0 ∧ ∀ {nt : Nat} {kk : List Fr} {Z : List Fr → Out → Ms → Prop}, Goes Try.prog nt w0 kk .norm (eaSt (eaS true true G79 l m) (eaH true true Gh79 l m) (fun d => o79 (amt l d) (amt m d)) (k + 1)) Z → Goes Try.prog nt w0 kk .norm σ0 Z := by
  have ht := top_eq
  have c1 : Coi (rowL l) l.length := Coi_rowL hl.2
  have c2 : Coi (rowL m) m.length := Coi_rowL hm.2
  have l1 := lst_rowL l
  have l2 := lst_rowL m
  have hok := ho k (Nat.le_refl _)
  have b1 := amt_lt hl k
  have b2 := amt_lt hm k
  have a1 : laA true l = l := laA_eq ha
  have a2 : laA true m = m := laA_eq hc
  have hz : Z79 true true l m k = o79 (amt l k) (amt m k) := by unfold Z79; rw [a1, a2]
  simp only [k79] at hok
  refine ea_round hk (fun d hd => ?_) (fun h => ?_) (fun l0 h => ?_) (fun h => ?_) (fun l0 h1 h2 h => ?_) (fun n => rfl) rfl ?_
  · have b1 := amt_lt hl d
    have b2 := amt_lt hm d
    have := ho d hd
    simp only [o79, k79] at this ⊢
    omega
  · have h' := h
    simp only [o79] at h'
    exact goes (ctx_ok tC4_ok 36) mixed rfl (gs := []) (gh := []) (orc := way []) (stops := []) (f := 3000) (k := [.code (roundOf 0 (bodyOf Try.f91))]) (o := .norm) (σ := (kn (eaS true true G79 l m k .nil) (eaH true true Gh79 l m))) (cs := [(↑k : Int) < (8 : Int), True, True, True, True, True, True ∧ (0 : Int) ≤ (↑k : Int), True, True, True ∧ (0 : Int) ≤ (↑k : Int), amt [] k + amt [] k < TOP, True, True, True, True, True, True, True, True, True, True, True, ((0 : Int) ≤ (↑k : Int) ∧ (↑k : Int) < (256 : Int)) ∧ List.length (Purse.lst (Purse.one k (amt [] k + amt [] k))) = (0 : Nat), True, True, (0 : Int) ≤ (↑k : Int) + (1 : Int) ∧ (↑k : Int) + (1 : Int) < (256 : Int), True]) (k' := []) (o' := .norm) (S := (eaS true true G79 l m (k + 1) .nil)) (H := (eaH true true Gh79 l m)) (by kernel_rfl) (by kernel_rfl) (by
      simp only [conj, and_true, true_and, l1, l2, c1, c2, hl.1, hm.1, Int.toNat_natCast]
      have g1 := hok; have g2 := b1; have g3 := b2; have g4 := h'
      (try simp only [ha rfl] at g1 g2 g3 g4); (try simp only [hc rfl] at g1 g2 g3 g4)
      omega)
  · have h' := h
    simp only [o79] at h'
    exact goes (ctx_ok tC4_ok 36) mixed rfl (gs := []) (gh := []) (orc := way []) (stops := []) (f := 3000) (k := [.code (roundOf 0 (bodyOf Try.f91))]) (o := .norm) (σ := (kn (eaS true true G79 l m k (.sl 500 5 0 l0.length)) (rw5 l0 :: eaH true true Gh79 l m))) (cs := [(↑k : Int) < (8 : Int), True, True, True, True, True, True ∧ (0 : Int) ≤ (↑k : Int), True, True, True ∧ (0 : Int) ≤ (↑k : Int), amt [] k + amt [] k < TOP, True, True, True, True, True, True, True, True, True, True, True, ((0 : Int) ≤ (↑k : Int) ∧ (↑k : Int) < (256 : Int)) ∧ List.length (Purse.lst (Purse.one k (amt [] k + amt [] k))) = (0 : Nat), List.length l0 = List.length l0, True, (0 : Int) ≤ (↑k : Int) + (1 : Int) ∧ (↑k : Int) + (1 : Int) < (256 : Int), True]) (k' := []) (o' := .norm) (S := (eaS true true G79 l m (k + 1) (.sl 500 5 0 l0.length))) (H := (rw5 l0 :: eaH true true Gh79 l m)) (by kernel_rfl) (by kernel_rfl) (by
      simp only [conj, and_true, true_and, l1, l2, c1, c2, hl.1, hm.1, Int.toNat_natCast]
      have g1 := hok; have g2 := b1; have g3 := b2; have g4 := h'
      (try simp only [ha rfl] at g1 g2 g3 g4); (try simp only [hc rfl] at g1 g2 g3 g4)
      omega)
  · have h' := h
    have h8 := (Purse.one k (o79 (amt l k) (amt m k))).len_le
    unfold Purse.len at h8
    simp only [o79] at h' h8
    show Goes _ _ _ _ _ _ fun k' o σ => k' = [] ∧ o = .norm ∧ σ = kn (eaS true true G79 l m (k + 1) (.sl 33 5 0 (Purse.one k (o79 (amt l k) (amt m k))).lst.length)) ((33, Bk.row true 60 5 (Purse.one k (o79 (amt l k) (amt m k))).lst.length (apL0 (Purse.one k (o79 (amt l k) (amt m k))).lst)) :: eaH true true Gh79 l m)
    rw [← hz]
    exact goes (ctx_ok tC4_ok 36) mixed rfl (gs := []) (gh := []) (orc := way [(32, 1)]) (stops := []) (f := 3000) (k := [.code (roundOf 0 (bodyOf Try.f91))]) (o := .norm) (σ := (kn (eaS true true G79 l m k .nil) (eaH true true Gh79 l m))) (cs := [(↑k : Int) < (8 : Int), True, True, True, True, True, True ∧ (0 : Int) ≤ (↑k : Int), True, True, True ∧ (0 : Int) ≤ (↑k : Int), amt [] k + amt [] k < TOP, True, True, True, True, True, True, True, True, True, True, True, ((0 : Int) ≤ (↑k : Int) ∧ (↑k : Int) < (256 : Int)) ∧ (0 : Nat) < List.length (Purse.lst (Purse.one k (amt [] k + amt [] k))), (0 : Nat) < List.length (Purse.lst (Purse.one k (amt [] k + amt [] k))) ∧ (0 : Nat) + List.length (Purse.lst (Purse.one k (amt [] k + amt [] k))) ≤ List.length (Purse.lst (Purse.one k (amt [] k + amt [] k))) ∧ List.length (Purse.lst (Purse.one k (amt [] k + amt [] k))) * (40 : Nat) ≤ (140737488355328 : Nat), True, (0 : Int) ≤ (↑k : Int) + (1 : Int) ∧ (↑k : Int) + (1 : Int) < (256 : Int), True]) (k' := []) (o' := .norm) (S := (eaS true true G79 l m (k + 1) (.sl 33 5 0 (Purse.one k (Z79 true true l m k)).lst.length))) (H := ((33, Bk.row true 60 5 (Purse.one k (Z79 true true l m k)).lst.length (apL0 (Purse.one k (Z79 true true l m k)).lst)) :: eaH true true Gh79 l m)) (by kernel_rfl) (by kernel_rfl) (by
      simp only [conj, and_true, true_and, l1, l2, c1, c2, hl.1, hm.1, Int.toNat_natCast]
      have g1 := hok; have g2 := b1; have g3 := b2; have g4 := h'; have g5 := h8
      (try simp only [ha rfl] at g1 g2 g3 g4 g5); (try simp only [hc rfl] at g1 g2 g3 g4 g5)
      omega)
  · have h' := h
    have h8 := (Purse.one k (o79 (amt l k) (amt m k))).len_le
    unfold Purse.len at h8
    simp only [o79] at h' h8
    show Goes _ _ _ _ _ _ fun k' o σ => k' = [] ∧ o = .norm ∧ σ = kn (eaS true true G79 l m (k + 1) (.sl 33 5 0 (l0.length + (Purse.one k (o79 (amt l k) (amt m k))).lst.length))) ((33, Bk.row true 60 5 (l0.length + (Purse.one k (o79 (amt l k) (amt m k))).lst.length) (apL l0 (Purse.one k (o79 (amt l k) (amt m k))).lst)) :: eaH true true Gh79 l m)
    rw [← hz]
    exact goes (ctx_ok tC4_ok 36) mixed rfl (gs := []) (gh := []) (orc := way [(32, 1)]) (stops := []) (f := 3000) (k := [.code (roundOf 0 (bodyOf Try.f91))]) (o := .norm) (σ := (kn (eaS true true G79 l m k (.sl 500 5 0 l0.length)) (rw5 l0 :: eaH true true Gh79 l m))) (cs := [(↑k : Int) < (8 : Int), True, True, True, True, True, True ∧ (0 : Int) ≤ (↑k : Int), True, True, True ∧ (0 : Int) ≤ (↑k : Int), amt [] k + amt [] k < TOP, True, True, True, True, True, True, True, True, True, True, True, ((0 : Int) ≤ (↑k : Int) ∧ (↑k : Int) < (256 : Int)) ∧ (0 : Nat) < List.length (Purse.lst (Purse.one k (amt [] k + amt [] k))), List.length l0 = List.length l0 ∧ (0 : Nat) < List.length (Purse.lst (Purse.one k (amt [] k + amt [] k))) ∧ (0 : Nat) + List.length (Purse.lst (Purse.one k (amt [] k + amt [] k))) ≤ List.length (Purse.lst (Purse.one k (amt [] k + amt [] k))) ∧ (List.length l0 + List.length (Purse.lst (Purse.one k (amt [] k + amt [] k)))) * (40 : Nat) ≤ (140737488355328 : Nat), True, (0 : Int) ≤ (↑k : Int) + (1 : Int) ∧ (↑k : Int) + (1 : Int) < (256 : Int), True]) (k' := []) (o' := .norm) (S := (eaS true true G79 l m (k + 1) (.sl 33 5 0 (l0.length + (Purse.one k (Z79 true true l m k)).lst.length)))) (H := ((33, Bk.row true 60 5 (l0.length + (Purse.one k (Z79 true true l m k)).lst.length) (apL l0 (Purse.one k (Z79 true true l m k)).lst)) :: eaH true true Gh79 l m)) (by kernel_rfl) (by kernel_rfl) (by
      simp only [conj, and_true, true_and, l1, l2, c1, c2, hl.1, hm.1, Int.toNat_natCast]
      have g1 := hok; have g2 := b1; have g3 := b2; have g4 := h'; have g5 := h8
      (try simp only [ha rfl] at g1 g2 g3 g4 g5); (try simp only [hc rfl] at g1 g2 g3 g4 g5)
      omega)
  · simp [eaH, inH, Gh79]

theorem ez79_true_false {w0 : Base} {l m : Cs} (hl : okC l) (hm : okC m) (ha : true = true → l = []) (hc : false = true → m = []) {k : Nat} (hk : k < 8) (ho : ∀ d, d ≤ k → k79 (amt l d) (amt m d)) :
    Goes Try.prog Try.f91.ntmps w0 [.code (roundOf 0 (bodyOf Try.f91))] .norm (eaSt (eaS true false G79 l m) (eaH true false Gh79 l m) (fun d => o79 (amt l d) (amt m d)) k)
    fun k' o σ => k' = [] ∧ o = .norm ∧ ∃ σ0, σ = σ0 ∧ ∀ {nt : Nat} {kk : List Fr} {Z : List Fr → Out → Ms → Prop}, Goes Try.prog nt w0 kk .norm (eaSt (eaS true false G79 l m) (eaH true false Gh79 l m) (fun d => o79 (amt l d) (amt m d)) (k + 1)) Z → Goes Try.prog nt w0 kk .norm σ0 Z := by
  have ht := top_eq
  have c1 : Coi (rowL l) l.length := Coi_rowL hl.2
  have c2 : Coi (rowL m) m.length := Coi_rowL hm.2
  have l1 := lst_rowL l
  have l2 := lst_rowL m
  have hok := ho k (Nat.le_refl _)
  have b1 := amt_lt hl k
  have b2 := amt_lt hm k
  have a1 : laA true l = l := laA_eq ha
  have a2 : laA false m = m := laA_eq hc
  have hz : Z79 true false l m k = o79 (amt l k) (amt m k) := by unfold Z79; rw [a1, a2]
  simp only [k79] at hok
  refine ea_round hk (fun d hd => ?_) (fun h => ?_) (fun l0 h => ?_) (fun h => ?_) (fun l0 h1 h2 h => ?_) (fun n => rfl) rfl ?_
  · have b1 := amt_lt hl d
    have b2 := amt_lt hm d
    have := ho d hd
    simp only [o79, k79] at this ⊢
    omega
  · have h' := h
    simp only [o79] at h'
    exact goes (ctx_ok tC4_ok 36) mixed rfl (gs := []) (gh := []) (orc := way []) (stops := []) (f := 3000) (k := [.code (roundOf 0 (bodyOf Try.f91))]) (o := .norm) (σ := (kn (eaS true false G79 l m k .nil) (eaH true false Gh79 l m))) (cs := [(↑k : Int) < (8 : Int), True, True, True, True, True, True ∧ (0 : Int) ≤ (↑k : Int), True, True, ((60 : TypeId) = (60 : TypeId) ∧ List.length m = List.length m ∧ List.length m < (4096 : Nat) ∧ Coi (rowL m) (List.length m)) ∧ (0 : Int) ≤ (↑k : Int), amt [] k + amt (lst (rowL m) (List.length m)) k < TOP, True, True, True, True, True, True, True, True, True, True, True, ((0 : Int) ≤ (↑k : Int) ∧ (↑k : Int) < (256 : Int)) ∧ List.length (Purse.lst (Purse.one k (amt [] k + amt (lst (rowL m) (List.length m)) k))) = (0 : Nat), True, True, (0 : Int) ≤ (↑k : Int) + (1 : Int) ∧ (↑k : Int) + (1 : Int) < (256 : Int), True]) (k' := []) (o' := .norm) (S := (eaS true false G79 l m (k + 1) .nil)) (H := (eaH true false Gh79 l m)) (by kernel_rfl) (by kernel_rfl) (by
      simp only [conj, and_true, true_and, l1, l2, c1, c2, hl.1, hm.1, Int.toNat_natCast]
      have g1 := hok; have g2 := b1; have g3 := b2; have g4 := h'
      (try simp only [ha rfl] at g1 g2 g3 g4); (try simp only [hc rfl] at g1 g2 g3 g4)
      omega)
  · have h' := h
    simp only [o79] at h'
    exact goes (ctx_ok tC4_ok 36) mixed rfl (gs := []) (gh := []) (orc := way []) (stops := []) (f := 3000) (k := [.code (roundOf 0 (bodyOf Try.f91))]) (o := .norm) (σ := (kn (eaS true false G79 l m k (.sl 500 5 0 l0.length)) (rw5 l0 :: eaH true false Gh79 l m))) (cs := [(↑k : Int) < (8 : Int), True, True, True, True, True, True ∧ (0 : Int) ≤ (↑k : Int), True, True, ((60 : TypeId) = (60 : TypeId) ∧ List.length m = List.length m ∧ List.length m < (4096 : Nat) ∧ Coi (rowL m) (List.length m)) ∧ (0 : Int) ≤ (↑k : Int), amt [] k + amt (lst (rowL m) (List.length m)) k < TOP, True, True, True, True, True, True, True, True, True, True, True, ((0 : Int) ≤ (↑k : Int) ∧ (↑k : Int) < (256 : Int)) ∧ List.length (Purse.lst (Purse.one k (amt [] k + amt (lst (rowL m) (List.length m)) k))) = (0 : Nat), List.length l0 = List.length l0, True, (0 : Int) ≤ (↑k : Int) + (1 : Int) ∧ (↑k : Int) + (1 : Int) < (256 : Int), True]) (k' := []) (o' := .norm) (S := (eaS true false G79 l m (k + 1) (.sl 500 5 0 l0.length))) (H := (rw5 l0 :: eaH true false Gh79 l m)) (by kernel_rfl) (by kernel_rfl) (by
      simp only [conj, and_true, true_and, l1, l2, c1, c2, hl.1, hm.1, Int.toNat_natCast]
      have g1 := hok; have g2 := b1; have g3 := b2; have g4 := h'
      (try simp only [ha rfl] at g1 g2 g3 g4); (try simp only [hc rfl] at g1 g2 g3 g4)
      omega)
  · have h' := h
    have h8 := (Purse.one k (o79 (amt l k) (amt m k))).len_le
    unfold Purse.len at h8
    simp only [o79] at h' h8
    show Goes _ _ _ _ _ _ fun k' o σ => k' = [] ∧ o = .norm ∧ σ = kn (eaS true false G79 l m (k + 1) (.sl 33 5 0 (Purse.one k (o79 (amt l k) (amt m k))).lst.length)) ((33, Bk.row true 60 5 (Purse.one k (o79 (amt l k) (amt m k))).lst.length (apL0 (Purse.one k (o79 (amt l k) (amt m k))).lst)) :: eaH true false Gh79 l m)
    rw [← hz]
    exact goes (ctx_ok tC4_ok 36) mixed rfl (gs := []) (gh := []) (orc := way [(32, 1)]) (stops := []) (f := 3000) (k := [.code (roundOf 0 (bodyOf Try.f91))]) (o := .norm) (σ := (kn (eaS true false G79 l m k .nil) (eaH true false Gh79 l m))) (cs := [(↑k : Int) < (8 : Int), True, True, True, True, True, True ∧ (0 : Int) ≤ (↑k : Int), True, True, ((60 : TypeId) = (60 : TypeId) ∧ List.length m = List.length m ∧ List.length m < (4096 : Nat) ∧ Coi (rowL m) (List.length m)) ∧ (0 : Int) ≤ (↑k : Int), amt [] k + amt (lst (rowL m) (List.length m)) k < TOP, True, True, True, True, True, True, True, True, True, True, True, ((0 : Int) ≤ (↑k : Int) ∧ (↑k : Int) < (256 : Int)) ∧ (0 : Nat) < List.length (Purse.lst (Purse.one k (amt [] k + amt (lst (rowL m) (List.length m)) k))), (0 : Nat) < List.length (Purse.lst (Purse.one k (amt [] k + amt (lst (rowL m) (List.length m)) k))) ∧ (0 : Nat) + List.length (Purse.lst (Purse.one k (amt [] k + amt (lst (rowL m) (List.length m)) k))) ≤ List.length (Purse.lst (Purse.one k (amt [] k + amt (lst (rowL m) (List.length m)) k))) ∧ List.length (Purse.lst (Purse.one k (amt [] k + amt (lst (rowL m) (List.length m)) k))) * (40 : Nat) ≤ (140737488355328 : Nat), True, (0 : Int) ≤ (↑k : Int) + (1 : Int) ∧ (↑k : Int) + (1 : Int) < (256 : Int), True]) (k' := []) (o' := .norm) (S := (eaS true false G79 l m (k + 1) (.sl 33 5 0 (Purse.one k (Z79 true false l m k)).lst.length))) (H := ((33, Bk.row true 60 5 (Purse.one k (Z79 true false l m k)).lst.length (apL0 (Purse.one k (Z79 true false l m k)).lst)) :: eaH true false Gh79 l m)) (by kernel_rfl) (by kernel_rfl) (by
      simp only [conj, and_true, true_and, l1, l2, c1, c2, hl.1, hm.1, Int.toNat_natCast]
      have g1 := hok; have g2 := b1; have g3 := b2; have g4 := h'; have g5 := h8
      (try simp only [ha rfl] at g1 g2 g3 g4 g5); (try simp only [hc rfl] at g1 g2 g3 g4 g5)
      omega)
  · have h' := h
    have h8 := (Purse.one k (o79 (amt l k) (amt m k))).len_le
    unfold Purse.len at h8
    simp only [o79] at h' h8
    show Goes _ _ _ _ _ _ fun k' o σ => k' = [] ∧ o = .norm ∧ σ = kn (eaS true false G79 l m (k + 1) (.sl 33 5 0 (l0.length + (Purse.one k (o79 (amt l k) (amt m k))).lst.length))) ((33, Bk.row true 60 5 (l0.length + (Purse.one k (o79 (amt l k) (amt m k))).lst.length) (apL l0 (Purse.one k (o79 (amt l k) (amt m k))).lst)) :: eaH true false Gh79 l m)
    rw [← hz]
    exact goes (ctx_ok tC4_ok 36) mixed rfl (gs := []) (gh := []) (orc := way [(32, 1)]) (stops := []) (f := 3000) (k := [.code (roundOf 0 (bodyOf Try.f91))]) (o := .norm) (σ := (kn (eaS true false G79 l m k (.sl 500 5 0 l0.length)) (rw5 l0 :: eaH true false Gh79 l m))) (cs := [(↑k : Int) < (8 : Int), True, True, True, True, True, True ∧ (0 : Int) ≤ (↑k : Int), True, True, ((60 : TypeId) = (60 : TypeId) ∧ List.length m = List.length m ∧ List.length m < (4096 : Nat) ∧ Coi (rowL m) (List.length m)) ∧ (0 : Int) ≤ (↑k : Int), amt [] k + amt (lst (rowL m) (List.length m)) k < TOP, True, True, True, True, True, True, True, True, True, True, True, ((0 : Int) ≤ (↑k : Int) ∧ (↑k : Int) < (256 : Int)) ∧ (0 : Nat) < List.length (Purse.lst (Purse.one k (amt [] k + amt (lst (rowL m) (List.length m)) k))), List.length l0 = List.length l0 ∧ (0 : Nat) < List.length (Purse.lst (Purse.one k (amt [] k + amt (lst (rowL m) (List.length m)) k))) ∧ (0 : Nat) + List.length (Purse.lst (Purse.one k (amt [] k + amt (lst (rowL m) (List.length m)) k))) ≤ List.length (Purse.lst (Purse.one k (amt [] k + amt (lst (rowL m) (List.length m)) k))) ∧ (List.length l0 + List.length (Purse.lst (Purse.one k (amt [] k + amt (lst (rowL m) (List.length m)) k)))) * (40 : Nat) ≤ (140737488355328 : Nat), True, (0 : Int) ≤ (↑k : Int) + (1 : Int) ∧ (↑k : Int) + (1 : Int) < (256 : Int), True]) (k' := []) (o' := .norm) (S := (eaS true false G79 l m (k + 1) (.sl 33 5 0 (l0.length + (Purse.one k (Z79 true false l m k)).lst.length)))) (H := ((33, Bk.row true 60 5 (l0.length + (Purse.one k (Z79 true false l m k)).lst.length) (apL l0 (Purse.one k (Z79 true false l m k)).lst)) :: eaH true false Gh79 l m)) (by kernel_rfl) (by kernel_rfl) (by
      simp only [conj, and_true, true_and, l1, l2, c1, c2, hl.1, hm.1, Int.toNat_natCast]
      have g1 := hok; have g2 := b1; have g3 := b2; have g4 := h'; have g5 := h8
      (try simp only [ha rfl] at g1 g2 g3 g4 g5); (try simp only [hc rfl] at g1 g2 g3 g4 g5)
      omega)
  · simp [eaH, inH, Gh79]

theorem ez79_false_true {w0 : Base} {l m : Cs} (hl : okC l) (hm : okC m) (ha : false = true → l = []) (hc : true = true → m = []) {k : Nat} (hk : k < 8) (ho : ∀ d, d ≤ k → k79 (amt l d) (amt m d)) :
    Goes Try.prog Try.f91.ntmps w0 [.code (roundOf 0 (bodyOf Try.f91))] .norm (eaSt (eaS false true G79 l m) (eaH false true Gh79 l m) (fun d => o79 (amt l d) (amt m d)) k)
    fun k' o σ => k' = [] ∧ o = .norm ∧ ∃ σ0, σ = σ0 ∧ ∀ {nt : Nat} {kk : List Fr} {Z : List Fr → Out → Ms → Prop}, Goes Try.prog nt w0 kk .norm (eaSt (eaS false true G79 l m) (eaH false true Gh79 l m) (fun d => o79 (amt l d) (amt m d)) (k + 1)) Z → Goes Try.prog nt w0 kk .norm σ0 Z := by
  have ht := top_eq
  have c1 : Coi (rowL l) l.length := Coi_rowL hl.2
  have c2 : Coi (rowL m) m.length := Coi_rowL hm.2
  have l1 := lst_rowL l
  have l2 := lst_rowL m
  have hok := ho k (Nat.le_refl _)
  have b1 := amt_lt hl k
  have b2 := amt_lt hm k
  have a1 : laA false l = l := laA_eq ha
  have a2 : laA true m = m := laA_eq hc
  have hz : Z79 false true l m k = o79 (amt l k) (amt m k) := by unfold Z79; rw [a1, a2]
  simp only [k79] at hok
  refine ea_round hk (fun d hd => ?_) (fun h => ?_) (fun l0 h => ?_) (fun h => ?_) (fun l0 h1 h2 h => ?_) (fun n => rfl) rfl ?_
  · have b1 := amt_lt hl d
    have b2 := amt_lt hm d
    have := ho d hd
    simp only [o79, k79] at this ⊢
    omega
  · have h' := h
    simp only [o79] at h'
    exact goes (ctx_ok tC4_ok 36) mixed rfl (gs := []) (gh := []) (orc := way []) (stops := []) (f := 3000) (k := [.code (roundOf 0 (bodyOf Try.f91))]) (o := .norm) (σ := (kn (eaS false true G79 l m k .nil) (eaH false true Gh79 l m))) (cs := [(↑k : Int) < (8 : Int), True, True, True, True, True, ((60 : TypeId) = (60 : TypeId) ∧ List.length l = List.length l ∧ List.length l < (4096 : Nat) ∧ Coi (rowL l) (List.length l)) ∧ (0 : Int) ≤ (↑k : Int), True, True, True ∧ (0 : Int) ≤ (↑k : Int), amt (lst (rowL l) (List.length l)) k + amt [] k < TOP, True, True, True, True, True, True, True, True, True, True, True, ((0 : Int) ≤ (↑k : Int) ∧ (↑k : Int) < (256 : Int)) ∧ List.length (Purse.lst (Purse.one k (amt (lst (rowL l) (List.length l)) k + amt [] k))) = (0 : Nat), True, True, (0 : Int) ≤ (↑k : Int) + (1 : Int) ∧ (↑k : Int) + (1 : Int) < (256 : Int), True]) (k' := []) (o' := .norm) (S := (eaS false true G79 l m (k + 1) .nil)) (H := (eaH false true Gh79 l m)) (by kernel_rfl) (by kernel_rfl) (by
      simp only [conj, and_true, true_and, l1, l2, c1, c2, hl.1, hm.1, Int.toNat_natCast]
      have g1 := hok; have g2 := b1; have g3 := b2; have g4 := h'
      (try simp only [ha rfl] at g1 g2 g3 g4); (try simp only [hc rfl] at g1 g2 g3 g4)
      omega)
  · have h' := h
    simp only [o79] at h'
    exact goes (ctx_ok tC4_ok 36) mixed rfl (gs := []) (gh := []) (orc := way []) (stops := []) (f := 3000) (k := [.code (roundOf 0 (bodyOf Try.f91))]) (o := .norm) (σ := (kn (eaS false true G79 l m k (.sl 500 5 0 l0.length)) (rw5 l0 :: eaH false true Gh79 l m))) (cs := [(↑k : Int) < (8 : Int), True, True, True, True, True, ((60 : TypeId) = (60 : TypeId) ∧ List.length l = List.length l ∧ List.length l < (4096 : Nat) ∧ Coi (rowL l) (List.length l)) ∧ (0 : Int) ≤ (↑k : Int), True, True, True ∧ (0 : Int) ≤ (↑k : Int), amt (lst (rowL l) (List.length l)) k + amt [] k < TOP, True, True, True, True, True, True, True, True, True, True, True, ((0 : Int) ≤ (↑k : Int) ∧ (↑k : Int) < (256 : Int)) ∧ List.length (Purse.lst (Purse.one k (amt (lst (rowL l) (List.length l)) k + amt [] k))) = (0 : Nat), List.length l0 = List.length l0, True, (0 : Int) ≤ (↑k : Int) + (1 : Int) ∧ (↑k : Int) + (1 : Int) < (256 : Int), True]) (k' := []) (o' := .norm) (S := (eaS false true G79 l m (k + 1) (.sl 500 5 0 l0.length))) (H := (rw5 l0 :: eaH false true Gh79 l m)) (by kernel_rfl) (by kernel_rfl) (by
      simp only [conj, and_true, true_and, l1, l2, c1, c2, hl.1, hm.1, Int.toNat_natCast]
      have g1 := hok; have g2 := b1; have g3 := b2; have g4 := h'
      (try simp only [ha rfl] at g1 g2 g3 g4); (try simp only [hc rfl] at g1 g2 g3 g4)
      omega)
  · have h' := h
    have h8 := (Purse.one k (o79 (amt l k) (amt m k))).len_le
    unfold Purse.len at h8
    simp only [o79] at h' h8
    show Goes _ _ _ _ _ _ fun k' o σ => k' = [] ∧ o = .norm ∧ σ = kn (eaS false true G79 l m (k + 1) (.sl 33 5 0 (Purse.one k (o79 (amt l k) (amt m k))).lst.length)) ((33, Bk.row true 60 5 (Purse.one k (o79 (amt l k) (amt m k))).lst.length (apL0 (Purse.one k (o79 (amt l k) (amt m k))).lst)) :: eaH false true Gh79 l m)
    rw [← hz]
    exact goes (ctx_ok tC4_ok 36) mixed rfl (gs := []) (gh := []) (orc := way [(32, 1)]) (stops := []) (f := 3000) (k := [.code (roundOf 0 (bodyOf Try.f91))]) (o := .norm) (σ := (kn (eaS false true G79 l m k .nil) (eaH false true Gh79 l m))) (cs := [(↑k : Int) < (8 : Int), True, True, True, True, True, ((60 : TypeId) = (60 : TypeId) ∧ List.length l = List.length l ∧ List.length l < (4096 : Nat) ∧ Coi (rowL l) (List.length l)) ∧ (0 : Int) ≤ (↑k : Int), True, True, True ∧ (0 : Int) ≤ (↑k : Int), amt (lst (rowL l) (List.length l)) k + amt [] k < TOP, True, True, True, True, True, True, True, True, True, True, True, ((0 : Int) ≤ (↑k : Int) ∧ (↑k : Int) < (256 : Int)) ∧ (0 : Nat) < List.length (Purse.lst (Purse.one k (amt (lst (rowL l) (List.length l)) k + amt [] k))), (0 : Nat) < List.length (Purse.lst (Purse.one k (amt (lst (rowL l) (List.length l)) k + amt [] k))) ∧ (0 : Nat) + List.length (Purse.lst (Purse.one k (amt (lst (rowL l) (List.length l)) k + amt [] k))) ≤ List.length (Purse.lst (Purse.one k (amt (lst (rowL l) (List.length l)) k + amt [] k))) ∧ List.length (Purse.lst (Purse.one k (amt (lst (rowL l) (List.length l)) k + amt [] k))) * (40 : Nat) ≤ (140737488355328 : Nat), True, (0 : Int) ≤ (↑k : Int) + (1 : Int) ∧ (↑k : Int) + (1 : Int) < (256 : Int), True]) (k' := []) (o' := .norm) (S := (eaS false true G79 l m (k + 1) (.sl 33 5 0 (Purse.one k (Z79 false true l m k)).lst.length))) (H := ((33, Bk.row true 60 5 (Purse.one k (Z79 false true l m k)).lst.length (apL0 (Purse.one k (Z79 false true l m k)).lst)) :: eaH false true Gh79 l m)) (by kernel_rfl) (by kernel_rfl) (by
      simp only [conj, and_true, true_and, l1, l2, c1, c2, hl.1, hm.1, Int.toNat_natCast]
      have g1 := hok; have g2 := b1; have g3 := b2; have g4 := h'; have g5 := h8
      (try simp only [ha rfl] at g1 g2 g3 g4 g5); (try simp only [hc rfl] at g1 g2 g3 g4 g5)
      omega)
  · have h' := h
    have h8 := (Purse.one k (o79 (amt l k) (amt m k))).len_le
    unfold Purse.len at h8
    simp only [o79] at h' h8
    show Goes _ _ _ _ _ _ fun k' o σ => k' = [] ∧ o = .norm ∧ σ = kn (eaS false true G79 l m (k + 1) (.sl 33 5 0 (l0.length + (Purse.one k (o79 (amt l k) (amt m k))).lst.length))) ((33, Bk.row true 60 5 (l0.length + (Purse.one k (o79 (amt l k) (amt m k))).lst.length) (apL l0 (Purse.one k (o79 (amt l k) (amt m k))).lst)) :: eaH false true Gh79 l m)
    rw [← hz]
    exact goes (ctx_ok tC4_ok 36) mixed rfl (gs := []) (gh := []) (orc := way [(32, 1)]) (stops := []) (f := 3000) (k := [.code (roundOf 0 (bodyOf Try.f91))]) (o := .norm) (σ := (kn (eaS false true G79 l m k (.sl 500 5 0 l0.length)) (rw5 l0 :: eaH false true Gh79 l m))) (cs := [(↑k : Int) < (8 : Int), True, True, True, True, True, ((60 : TypeId) = (60 : TypeId) ∧ List.length l = List.length l ∧ List.length l < (4096 : Nat) ∧ Coi (rowL l) (List.length l)) ∧ (0 : Int) ≤ (↑k : Int), True, True, True ∧ (0 : Int) ≤ (↑k : Int), amt (lst (rowL l) (List.length l)) k + amt [] k < TOP, True, True, True, True, True, True, True, True, True, True, True, ((0 : Int) ≤ (↑k : Int) ∧ (↑k : Int) < (256 : Int)) ∧ (0 : Nat) < List.length (Purse.lst (Purse.one k (amt (lst (rowL l) (List.length l)) k + amt [] k))), List.length l0 = List.length l0 ∧ (0 : Nat) < List.length (Purse.lst (Purse.one k (amt (lst (rowL l) (List.length l)) k + amt [] k))) ∧ (0 : Nat) + List.length (Purse.lst (Purse.one k (amt (lst (rowL l) (List.length l)) k + amt [] k))) ≤ List.length (Purse.lst (Purse.one k (amt (lst (rowL l) (List.length l)) k + amt [] k))) ∧ (List.length l0 + List.length (Purse.lst (Purse.one k (amt (lst (rowL l) (List.length l)) k + amt [] k)))) * (40 : Nat) ≤ (140737488355328 : Nat), True, (0 : Int) ≤ (↑k : Int) + (1 : Int) ∧ (↑k : Int) + (1 : Int) < (256 : Int), True]) (k' := []) (o' := .norm) (S := (eaS false true G79 l m (k + 1) (.sl 33 5 0 (l0.length + (Purse.one k (Z79 false true l m k)).lst.length)))) (H := ((33, Bk.row true 60 5 (l0.length + (Purse.one k (Z79 false true l m k)).lst.length) (apL l0 (Purse.one k (Z79 false true l m k)).lst)) :: eaH false true Gh79 l m)) (by kernel_rfl) (by kernel_rfl) (by
      simp only [conj, and_true, true_and, l1, l2, c1, c2, hl.1, hm.1, Int.toNat_natCast]
      have g1 := hok; have g2 := b1; have g3 := b2; have g4 := h'; have g5 := h8
      (try simp only [ha rfl] at g1 g2 g3 g4 g5); (try simp only [hc rfl] at g1 g2 g3 g4 g5)
      omega)
  · simp [eaH, inH, Gh79]

theorem ez79_false_false {w0 : Base} {l m : Cs} (hl : okC l) (hm : okC m) (ha : false = true → l = []) (hc : false = true → m = []) {k : Nat} (hk : k < 8) (ho : ∀ d, d ≤ k → k79 (amt l d) (amt m d)) :
    Goes Try.prog Try.f91.ntmps w0 [.code (roundOf 0 (bodyOf Try.f91))] .norm (eaSt (eaS false false G79 l m) (eaH false false Gh79 l m) (fun d => o79 (amt l d) (amt m d)) k)
    fun k' o σ => k' = [] ∧ o = .norm ∧ ∃ σ0, σ = σ0 ∧ ∀ {nt : Nat} {kk : List Fr} {Z : List Fr → Out → Ms → Prop}, Goes Try.prog nt w0 kk .norm (eaSt (eaS false false G79 l m) (eaH false false Gh79 l m) (fun d => o79 (amt l d) (amt m d)) (k + 1)) Z → Goes Try.prog nt w0 kk .norm σ0 Z := by
  have ht := top_eq
  have c1 : Coi (rowL l) l.length := Coi_rowL hl.2
  have c2 : Coi (rowL m) m.length := Coi_rowL hm.2
  have l1 := lst_rowL l
  have l2 := lst_rowL m
  have hok := ho k (Nat.le_refl _)
  have b1 := amt_lt hl k
  have b2 := amt_lt hm k
  have a1 : laA false l = l := laA_eq ha
  have a2 : laA false m = m := laA_eq hc
  have hz : Z79 false false l m k = o79 (amt l k) (amt m k) := by unfold Z79; rw [a1, a2]
  simp only [k79] at hok
  refine ea_round hk (fun d hd => ?_) (fun h => ?_) (fun l0 h => ?_) (fun h => ?_) (fun l0 h1 h2 h => ?_) (fun n => rfl) rfl ?_
  · have b1 := amt_lt hl d
    have b2 := amt_lt hm d
    have := ho d hd
    simp only [o79, k79] at this ⊢
    omega
  · have h' := h
    simp only [o79] at h'
    exact goes (ctx_ok tC4_ok 36) mixed rfl (gs := []) (gh := []) (orc := way []) (stops := []) (f := 3000) (k := [.code (roundOf 0 (bodyOf Try.f91))]) (o := .norm) (σ := (kn (eaS false false G79 l m k .nil) (eaH false false Gh79 l m))) (cs := [(↑k : Int) < (8 : Int), True, True, True, True, True, ((60 : TypeId) = (60 : TypeId) ∧ List.length l = List.length l ∧ List.length l < (4096 : Nat) ∧ Coi (rowL l) (List.length l)) ∧ (0 : Int) ≤ (↑k : Int), True, True, ((60 : TypeId) = (60 : TypeId) ∧ List.length m = List.length m ∧ List.length m < (4096 : Nat) ∧ Coi (rowL m) (List.length m)) ∧ (0 : Int) ≤ (↑k : Int), amt (lst (rowL l) (List.length l)) k + amt (lst (rowL m) (List.length m)) k < TOP, True, True, True, True, True, True, True, True, True, True, True, ((0 : Int) ≤ (↑k : Int) ∧ (↑k : Int) < (256 : Int)) ∧ List.length (Purse.lst (Purse.one k (amt (lst (rowL l) (List.length l)) k + amt (lst (rowL m) (List.length m)) k))) = (0 : Nat), True, True, (0 : Int) ≤ (↑k : Int) + (1 : Int) ∧ (↑k : Int) + (1 : Int) < (256 : Int), True]) (k' := []) (o' := .norm) (S := (eaS false false G79 l m (k + 1) .nil)) (H := (eaH false false Gh79 l m)) (by kernel_rfl) (by kernel_rfl) (by
      simp only [conj, and_true, true_and, l1, l2, c1, c2, hl.1, hm.1, Int.toNat_natCast]
      have g1 := hok; have g2 := b1; have g3 := b2; have g4 := h'
      (try simp only [ha rfl] at g1 g2 g3 g4); (try simp only [hc rfl] at g1 g2 g3 g4)
      omega)
  · have h' := h
    simp only [o79] at h'
    exact goes (ctx_ok tC4_ok 36) mixed rfl (gs := []) (gh := []) (orc := way []) (stops := []) (f := 3000) (k := [.code (roundOf 0 (bodyOf Try.f91))]) (o := .norm) (σ := (kn (eaS false false G79 l m k (.sl 500 5 0 l0.length)) (rw5 l0 :: eaH false false Gh79 l m))) (cs := [(↑k : Int) < (8 : Int), True, True, True, True, True, ((60 : TypeId) = (60 : TypeId) ∧ List.length l = List.length l ∧ List.length l < (4096 : Nat) ∧ Coi (rowL l) (List.length l)) ∧ (0 : Int) ≤ (↑k : Int), True, True, ((60 : TypeId) = (60 : TypeId) ∧ List.length m = List.length m ∧ List.length m < (4096 : Nat) ∧ Coi (rowL m) (List.length m)) ∧ (0 : Int) ≤ (↑k : Int), amt (lst (rowL l) (List.length l)) k + amt (lst (rowL m) (List.length m)) k < TOP, True, True, True, True, True, True, True, True, True, True, True, ((0 : Int) ≤ (↑k : Int) ∧ (↑k : Int) < (256 : Int)) ∧ List.length (Purse.lst (Purse.one k (amt (lst (rowL l) (List.length l)) k + amt (lst (rowL m) (List.length m)) k))) = (0 : Nat), List.length l0 = List.length l0, True, (0 : Int) ≤ (↑k : Int) + (1 : Int) ∧ (↑k : Int) + (1 : Int) < (256 : Int), True]) (k' := []) (o' := .norm) (S := (eaS false false G79 l m (k + 1) (.sl 500 5 0 l0.length))) (H := (rw5 l0 :: eaH false false Gh79 l m)) (by kernel_rfl) (by kernel_rfl) (by
      simp only [conj, and_true, true_and, l1, l2, c1, c2, hl.1, hm.1, Int.toNat_natCast]
      have g1 := hok; have g2 := b1; have g3 := b2; have g4 := h'
      (try simp only [ha rfl] at g1 g2 g3 g4); (try simp only [hc rfl] at g1 g2 g3 g4)
      omega)
  · have h' := h
    have h8 := (Purse.one k (o79 (amt l k) (amt m k))).len_le
    unfold Purse.len at h8
    simp only [o79] at h' h8
    show Goes _ _ _ _ _ _ fun k' o σ => k' = [] ∧ o = .norm ∧ σ = kn (eaS false false G79 l m (k + 1) (.sl 33 5 0 (Purse.one k (o79 (amt l k) (amt m k))).lst.length)) ((33, Bk.row true 60 5 (Purse.one k (o79 (amt l k) (amt m k))).lst.length (apL0 (Purse.one k (o79 (amt l k) (amt m k))).lst)) :: eaH false false Gh79 l m)
    rw [← hz]
    exact goes (ctx_ok tC4_ok 36) mixed rfl (gs := []) (gh := []) (orc := way [(32, 1)]) (stops := []) (f := 3000) (k := [.code (roundOf 0 (bodyOf Try.f91))]) (o := .norm) (σ := (kn (eaS false false G79 l m k .nil) (eaH false false Gh79 l m))) (cs := [(↑k : Int) < (8 : Int), True, True, True, True, True, ((60 : TypeId) = (60 : TypeId) ∧ List.length l = List.length l ∧ List.length l < (4096 : Nat) ∧ Coi (rowL l) (List.length l)) ∧ (0 : Int) ≤ (↑k : Int), True, True, ((60 : TypeId) = (60 : TypeId) ∧ List.length m = List.length m ∧ List.length m < (4096 : Nat) ∧ Coi (rowL m) (List.length m)) ∧ (0 : Int) ≤ (↑k : Int), amt (lst (rowL l) (List.length l)) k + amt (lst (rowL m) (List.length m)) k < TOP, True, True, True, True, True, True, True, True, True, True, True, ((0 : Int) ≤ (↑k : Int) ∧ (↑k : Int) < (256 : Int)) ∧ (0 : Nat) < List.length (Purse.lst (Purse.one k (amt (lst (rowL l) (List.length l)) k + amt (lst (rowL m) (List.length m)) k))), (0 : Nat) < List.length (Purse.lst (Purse.one k (amt (lst (rowL l) (List.length l)) k + amt (lst (rowL m) (List.length m)) k))) ∧ (0 : Nat) + List.length (Purse.lst (Purse.one k (amt (lst (rowL l) (List.length l)) k + amt (lst (rowL m) (List.length m)) k))) ≤ List.length (Purse.lst (Purse.one k (amt (lst (rowL l) (List.length l)) k + amt (lst (rowL m) (List.length m)) k))) ∧ List.length (Purse.lst (Purse.one k (amt (lst (rowL l) (List.length l)) k + amt (lst (rowL m) (List.length m)) k))) * (40 : Nat) ≤ (140737488355328 : Nat), True, (0 : Int) ≤ (↑k : Int) + (1 : Int) ∧ (↑k : Int) + (1 : Int) < (256 : Int), True]) (k' := []) (o' := .norm) (S := (eaS false false G79 l m (k + 1) (.sl 33 5 0 (Purse.one k (Z79 false false l m k)).lst.length))) (H := ((33, Bk.row true 60 5 (Purse.one k (Z79 false false l m k)).lst.length (apL0 (Purse.one k (Z79 false false l m k)).lst)) :: eaH false false Gh79 l m)) (by kernel_rfl) (by kernel_rfl) (by
      simp only [conj, and_true, true_and, l1, l2, c1, c2, hl.1, hm.1, Int.toNat_natCast]
      have g1 := hok; have g2 := b1; have g3 := b2; have g4 := h'; have g5 := h8
      (try simp only [ha rfl] at g1 g2 g3 g4 g5); (try simp only [hc rfl] at g1 g2 g3 g4 g5)
      omega)
  · have h' := h
    have h8 := (Purse.one k (o79 (amt l k) (amt m k))).len_le
    unfold Purse.len at h8
    simp only [o79] at h' h8
    show Goes _ _ _ _ _ _ fun k' o σ => k' = [] ∧ o = .norm ∧ σ = kn (eaS false false G79 l m (k + 1) (.sl 33 5 0 (l0.length + (Purse.one k (o79 (amt l k) (amt m k))).lst.length))) ((33, Bk.row true 60 5 (l0.length + (Purse.one k (o79 (amt l k) (amt m k))).lst.length) (apL l0 (Purse.one k (o79 (amt l k) (amt m k))).lst)) :: eaH false false Gh79 l m)
    rw [← hz]
    exact goes (ctx_ok tC4_ok 36) mixed rfl (gs := []) (gh := []) (orc := way [(32, 1)]) (stops := []) (f := 3000) (k := [.code (roundOf 0 (bodyOf Try.f91))]) (o := .norm) (σ := (kn (eaS false false G79 l m k (.sl 500 5 0 l0.length)) (rw5 l0 :: eaH false false Gh79 l m))) (cs := [(↑k : Int) < (8 : Int), True, True, True, True, True, ((60 : TypeId) = (60 : TypeId) ∧ List.length l = List.length l ∧ List.length l < (4096 : Nat) ∧ Coi (rowL l) (List.length l)) ∧ (0 : Int) ≤ (↑k : Int), True, True, ((60 : TypeId) = (60 : TypeId) ∧ List.length m = List.length m ∧ List.length m < (4096 : Nat) ∧ Coi (rowL m) (List.length m)) ∧ (0 : Int) ≤ (↑k : Int), amt (lst (rowL l) (List.length l)) k + amt (lst (rowL m) (List.length m)) k < TOP, True, True, True, True, True, True, True, True, True, True, True, ((0 : Int) ≤ (↑k : Int) ∧ (↑k : Int) < (256 : Int)) ∧ (0 : Nat) < List.length (Purse.lst (Purse.one k (amt (lst (rowL l) (List.length l)) k + amt (lst (rowL m) (List.length m)) k))), List.length l0 = List.length l0 ∧ (0 : Nat) < List.length (Purse.lst (Purse.one k (amt (lst (rowL l) (List.length l)) k + amt (lst (rowL m) (List.length m)) k))) ∧ (0 : Nat) + List.length (Purse.lst (Purse.one k (amt (lst (rowL l) (List.length l)) k + amt (lst (rowL m) (List.length m)) k))) ≤ List.length (Purse.lst (Purse.one k (amt (lst (rowL l) (List.length l)) k + amt (lst (rowL m) (List.length m)) k))) ∧ (List.length l0 + List.length (Purse.lst (Purse.one k (amt (lst (rowL l) (List.length l)) k + amt (lst (rowL m) (List.length m)) k)))) * (40 : Nat) ≤ (140737488355328 : Nat), True, (0 : Int) ≤ (↑k : Int) + (1 : Int) ∧ (↑k : Int) + (1 : Int) < (256 : Int), True]) (k' := []) (o' := .norm) (S := (eaS false false G79 l m (k + 1) (.sl 33 5 0 (l0.length + (Purse.one k (Z79 false false l m k)).lst.length)))) (H := ((33, Bk.row true 60 5 (l0.length + (Purse.one k (Z79 false false l m k)).lst.length) (apL l0 (Purse.one k (Z79 false false l m k)).lst)) :: eaH false false Gh79 l m)) (by kernel_rfl) (by kernel_rfl) (by
      simp only [conj, and_true, true_and, l1, l2, c1, c2, hl.1, hm.1, Int.toNat_natCast]
      have g1 := hok; have g2 := b1; have g3 := b2; have g4 := h'; have g5 := h8
      (try simp only [ha rfl] at g1 g2 g3 g4 g5); (try simp only [hc rfl] at g1 g2 g3 g4 g5)
      omega)
  · simp [eaH, inH, Gh79]

theorem ez80_true_true {w0 : Base} {l m : Cs} (hl : okC l) (hm : okC m) (ha : true = true → l = []) (hc : true = true → m = []) {k : Nat} (hk : k < 8) (ho : ∀ d, d ≤ k → k80 (amt l d) (amt m d)) :
    Goes Try.prog Try.f91.ntmps w0 [.code (roundOf 0 (bodyOf Try.f91))] .norm (eaSt (eaS true true G80 l m) (eaH true true Gh80 l m) (fun d => o80 (amt l d) (amt m d)) k)
    fun k' o σ => k' = [] ∧ o = .norm ∧ ∃ σ0, σ = σ0 ∧ ∀ {nt : Nat} {kk : List Fr} {Z : List Fr → Out → Ms → Prop}, Goes Try.prog nt w0 kk .norm (eaSt (eaS true true G80 l m) (eaH true true Gh80 l m) (fun d => o80 (amt l d) (amt m d)) (k + 1)) Z → Goes Try.prog nt w0 kk .norm σ0 Z := by
  have ht := top_eq
  have c1 : Coi (rowL l) l.length := Coi_rowL hl.2
  have c2 : Coi (rowL m) m.length := Coi_rowL hm.2
  have l1 := lst_rowL l
  have l2 := lst_rowL m
  have hok := ho k (Nat.le_refl _)
  have b1 := amt_lt hl k
  have b2 := amt_lt hm k
  have a1 : laA true l = l := laA_eq ha
  have a2 : laA true m = m := laA_eq hc
  have hz : Z80 true true l m k = o80 (amt l k) (amt m k) := by unfold Z80; rw [a1, a2]
  simp only [k80] at hok
  refine ea_round hk (fun d hd => ?_) (fun h => ?_) (fun l0 h => ?_) (fun h => ?_) (fun l0 h1 h2 h => ?_) (fun n => rfl) rfl ?_
  · have b1 := amt_lt hl d
    have b2 := amt_lt hm d
    have := ho d hd
    simp only [o80, k80] at this ⊢
    omega
  · have h' := h
    simp only [o80] at h'
    exact goes (ctx_ok tC4_ok 36) mixed rfl (gs := []) (gh := []) (orc := way []) (stops := []) (f := 3000) (k := [.code (roundOf 0 (bodyOf Try.f91))]) (o := .norm) (σ := (kn (eaS true true G80 l m k .nil) (eaH true true Gh80 l m))) (cs := [(↑k : Int) < (8 : Int), True, True, True, True, True, True ∧ (0 : Int) ≤ (↑k : Int), True, True, True ∧ (0 : Int) ≤ (↑k : Int), amt [] k ≤ amt [] k, True, True, True, True, True, True, True, True, True, True, True, ((0 : Int) ≤ (↑k : Int) ∧ (↑k : Int) < (256 : Int)) ∧ List.length (Purse.lst (Purse.one k (amt [] k - amt [] k))) = (0 : Nat), True, True, (0 : Int) ≤ (↑k : Int) + (1 : Int) ∧ (↑k : Int) + (1 : Int) < (256 : Int), True]) (k' := []) (o' := .norm) (S := (eaS true true G80 l m (k + 1) .nil)) (H := (eaH true true Gh80 l m)) (by kernel_rfl) (by kernel_rfl) (by
      simp only [conj, and_true, true_and, l1, l2, c1, c2, hl.1, hm.1, Int.toNat_natCast]
      have g1 := hok; have g2 := b1; have g3 := b2; have g4 := h'
      (try simp only [ha rfl] at g1 g2 g3 g4); (try simp only [hc rfl] at g1 g2 g3 g4)
      omega)
  · have h' := h
    simp only [o80] at h'
    exact goes (ctx_ok tC4_ok 36) mixed rfl (gs := []) (gh := []) (orc := way []) (stops := []) (f := 3000) (k := [.code (roundOf 0 (bodyOf Try.f91))]) (o := .norm) (σ := (kn (eaS true true G80 l m k (.sl 500 5 0 l0.length)) (rw5 l0 :: eaH true true Gh80 l m))) (cs := [(↑k : Int) < (8 : Int), True, True, True, True, True, True ∧ (0 : Int) ≤ (↑k : Int), True, True, True ∧ (0 : Int) ≤ (↑k : Int), amt [] k ≤ amt [] k, True, True, True, True, True, True, True, True, True, True, True, ((0 : Int) ≤ (↑k : Int) ∧ (↑k : Int) < (256 : Int)) ∧ List.length (Purse.lst (Purse.one k (amt [] k - amt [] k))) = (0 : Nat), List.length l0 = List.length l0, True, (0 : Int) ≤ (↑k : Int) + (1 : Int) ∧ (↑k : Int) + (1 : Int) < (256 : Int), True]) (k' := []) (o' := .norm) (S := (eaS true true G80 l m (k + 1) (.sl 500 5 0 l0.length))) (H := (rw5 l0 :: eaH true true Gh80 l m)) (by kernel_rfl) (by kernel_rfl) (by
      simp only [conj, and_true, true_and, l1, l2, c1, c2, hl.1, hm.1, Int.toNat_natCast]
      have g1 := hok; have g2 := b1; have g3 := b2; have g4 := h'
      (try simp only [ha rfl] at g1 g2 g3 g4); (try simp only [hc rfl] at g1 g2 g3 g4)
      omega)
  · have h' := h
    have h8 := (Purse.one k (o80 (amt l k) (amt m k))).len_le
    unfold Purse.len at h8
    simp only [o80] at h' h8
    show Goes _ _ _ _ _ _ fun k' o σ => k' = [] ∧ o = .norm ∧ σ = kn (eaS true true G80 l m (k + 1) (.sl 33 5 0 (Purse.one k (o80 (amt l k) (amt m k))).lst.length)) ((33, Bk.row true 60 5 (Purse.one k (o80 (amt l k) (amt m k))).lst.length (apL0 (Purse.one k (o80 (amt l k) (amt m k))).lst)) :: eaH true true Gh80 l m)
    rw [← hz]
    exact goes (ctx_ok tC4_ok 36) mixed rfl (gs := []) (gh := []) (orc := way [(32, 1)]) (stops := []) (f := 3000) (k := [.code (roundOf 0 (bodyOf Try.f91))]) (o := .norm) (σ := (kn (eaS true true G80 l m k .nil) (eaH true true Gh80 l m))) (cs := [(↑k : Int) < (8 : Int), True, True, True, True, True, True ∧ (0 : Int) ≤ (↑k : Int), True, True, True ∧ (0 : Int) ≤ (↑k : Int), amt [] k ≤ amt [] k, True, True, True, True, True, True, True, True, True, True, True, ((0 : Int) ≤ (↑k : Int) ∧ (↑k : Int) < (256 : Int)) ∧ (0 : Nat) < List.length (Purse.lst (Purse.one k (amt [] k - amt [] k))), (0 : Nat) < List.length (Purse.lst (Purse.one k (amt [] k - amt [] k))) ∧ (0 : Nat) + List.length (Purse.lst (Purse.one k (amt [] k - amt [] k))) ≤ List.length (Purse.lst (Purse.one k (amt [] k - amt [] k))) ∧ List.length (Purse.lst (Purse.one k (amt [] k - amt [] k))) * (40 : Nat) ≤ (140737488355328 : Nat), True, (0 : Int) ≤ (↑k : Int) + (1 : Int) ∧ (↑k : Int) + (1 : Int) < (256 : Int), True]) (k' := []) (o' := .norm) (S := (eaS true true G80 l m (k + 1) (.sl 33 5 0 (Purse.one k (Z80 true true l m k)).lst.length))) (H := ((33, Bk.row true 60 5 (Purse.one k (Z80 true true l m k)).lst.length (apL0 (Purse.one k (Z80 true true l m k)).lst)) :: eaH true true Gh80 l m)) (by kernel_rfl) (by kernel_rfl) (by
      simp only [conj, and_true, true_and, l1, l2, c1, c2, hl.1, hm.1, Int.toNat_natCast]
      have g1 := hok; have g2 := b1; have g3 := b2; have g4 := h'; have g5 := h8
      (try simp only [ha rfl] at g1 g2 g3 g4 g5); (try simp only [hc rfl] at g1 g2 g3 g4 g5)
      omega)
  · have h' := h
    have h8 := (Purse.one k (o80 (amt l k) (amt m k))).len_le
    unfold Purse.len at h8
    simp only [o80] at h' h8
    show Goes _ _ _ _ _ _ fun k' o σ => k' = [] ∧ o = .norm ∧ σ = kn (eaS true true G80 l m (k + 1) (.sl 33 5 0 (l0.length + (Purse.one k (o80 (amt l k) (amt m k))).lst.length))) ((33, Bk.row true 60 5 (l0.length + (Purse.one k (o80 (amt l k) (amt m k))).lst.length) (apL l0 (Purse.one k (o80 (amt l k) (amt m k))).lst)) :: eaH true true Gh80 l m)
    rw [← hz]
    exact goes (ctx_ok tC4_ok 36) mixed rfl (gs := []) (gh := []) (orc := way [(32, 1)]) (stops := []) (f := 3000) (k := [.code (roundOf 0 (bodyOf Try.f91))]) (o := .norm) (σ := (kn (eaS true true G80 l m k (.sl 500 5 0 l0.length)) (rw5 l0 :: eaH true true Gh80 l m))) (cs := [(↑k : Int) < (8 : Int), True, True, True, True, True, True ∧ (0 : Int) ≤ (↑k : Int), True, True, True ∧ (0 : Int) ≤ (↑k : Int), amt [] k ≤ amt [] k, True, True, True, True, True, True, True, True, True, True, True, ((0 : Int) ≤ (↑k : Int) ∧ (↑k : Int) < (256 : Int)) ∧ (0 : Nat) < List.length (Purse.lst (Purse.one k (amt [] k - amt [] k))), List.length l0 = List.length l0 ∧ (0 : Nat) < List.length (Purse.lst (Purse.one k (amt [] k - amt [] k))) ∧ (0 : Nat) + List.length (Purse.lst (Purse.one k (amt [] k - amt [] k))) ≤ List.length (Purse.lst (Purse.one k (amt [] k - amt [] k))) ∧ (List.length l0 + List.length (Purse.lst (Purse.one k (amt [] k - amt [] k)))) * (40 : Nat) ≤ (140737488355328 : Nat), True, (0 : Int) ≤ (↑k : Int) + (1 : Int) ∧ (↑k : Int) + (1 : Int) < (256 : Int), True]) (k' := []) (o' := .norm) (S := (eaS true true G80 l m (k + 1) (.sl 33 5 0 (l0.length + (Purse.one k (Z80 true true l m k)).lst.length)))) (H := ((33, Bk.row true 60 5 (l0.length + (Purse.one k (Z80 true true l m k)).lst.length) (apL l0 (Purse.one k (Z80 true true l m k)).lst)) :: eaH true true Gh80 l m)) (by kernel_rfl) (by kernel_rfl) (by
      simp only [conj, and_true, true_and, l1, l2, c1, c2, hl.1, hm.1, Int.toNat_natCast]
      have g1 := hok; have g2 := b1; have g3 := b2; have g4 := h'; have g5 := h8
      (try simp only [ha rfl] at g1 g2 g3 g4 g5); (try simp only [hc rfl] at g1 g2 g3 g4 g5)
      omega)
  · simp [eaH, inH, Gh80]

theorem ez80_true_false {w0 : Base} {l m : Cs} (hl : okC l) (hm : okC m) (ha : true = true → l = []) (hc : false = true → m = []) {k : Nat} (hk : k < 8) (ho : ∀ d, d ≤ k → k80 (amt l d) (amt m d)) :
    Goes Try.prog Try.f91.ntmps w0 [.code (roundOf 0 (bodyOf Try.f91))] .norm (eaSt (eaS true false G80 l m) (eaH true false Gh80 l m) (fun d => o80 (amt l d) (amt m d)) k)
    fun k' o σ => k' = [] ∧ o = .norm ∧ ∃ σ0, σ = σ0 ∧ ∀ {nt : Nat} {kk : List Fr} {Z : List Fr → Out → Ms → Prop}, Goes Try.prog nt w0 kk .norm (eaSt (eaS true false G80 l m) (eaH true false Gh80 l m) (fun d => o80 (amt l d) (amt m d)) (k + 1)) Z → Goes Try.prog nt w0 kk .norm σ0 Z := by
  have ht := top_eq
  have c1 : Coi (rowL l) l.length := Coi_rowL hl.2
  have c2 : Coi (rowL m) m.length := Coi_rowL hm.2
  have l1 := lst_rowL l
  have l2 := lst_rowL m
  have hok := ho k (Nat.le_refl _)
  have b1 := amt_lt hl k
  have b2 := amt_lt hm k
  have a1 : laA true l = l := laA_eq ha
  have a2 : laA false m = m := laA_eq hc
  have hz : Z80 true false l m k = o80 (amt l k) (amt m k) := by unfold Z80; rw [a1, a2]
  simp only [k80] at hok
  refine ea_round hk (fun d hd => ?_) (fun h => ?_) (fun l0 h => ?_) (fun h => ?_) (fun l0 h1 h2 h => ?_) (fun n => rfl) rfl ?_
  · have b1 := amt_lt hl d
    have b2 := amt_lt hm d
    have := ho d hd
    simp only [o80, k80] at this ⊢
    omega
  · have h' := h
    simp only [o80] at h'
    exact goes (ctx_ok tC4_ok 36) mixed rfl (gs := []) (gh := []) (orc := way []) (stops := []) (f := 3000) (k := [.code (roundOf 0 (bodyOf Try.f91))]) (o := .norm) (σ := (kn (eaS true false G80 l m k .nil) (eaH true false Gh80 l m))) (cs := [(↑k : Int) < (8 : Int), True, True, True, True, True, True ∧ (0 : Int) ≤ (↑k : Int), True, True, ((60 : TypeId) = (60 : TypeId) ∧ List.length m = List.length m ∧ List.length m < (4096 : Nat) ∧ Coi (rowL m) (List.length m)) ∧ (0 : Int) ≤ (↑k : Int), amt (lst (rowL m) (List.length m)) k ≤ amt [] k, True, True, True, True, True, True, True, True, True, True, True, ((0 : Int) ≤ (↑k : Int) ∧ (↑k : Int) < (256 : Int)) ∧ List.length (Purse.lst (Purse.one k (amt [] k - amt (lst (rowL m) (List.length m)) k))) = (0 : Nat), True, True, (0 : Int) ≤ (↑k : Int) + (1 : Int) ∧ (↑k : Int) + (1 : Int) < (256 : Int), True]) (k' := []) (o' := .norm) (S := (eaS true false G80 l m (k + 1) .nil)) (H := (eaH true false Gh80 l m)) (by kernel_rfl) (by kernel_rfl) (by
      simp only [conj, and_true, true_and, l1, l2, c1, c2, hl.1, hm.1, Int.toNat_natCast]
      have g1 := hok; have g2 := b1; have g3 := b2; have g4 := h'
      (try simp only [ha rfl] at g1 g2 g3 g4); (try simp only [hc rfl] at g1 g2 g3 g4)
      omega)
  · have h' := h
    simp only [o80] at h'
    exact goes (ctx_ok tC4_ok 36) mixed rfl (gs := []) (gh := []) (orc := way []) (stops := []) (f := 3000) (k := [.code (roundOf 0 (bodyOf Try.f91))]) (o := .norm) (σ := (kn (eaS true false G80 l m k (.sl 500 5 0 l0.length)) (rw5 l0 :: eaH true false Gh80 l m))) (cs := [(↑k : Int) < (8 : Int), True, True, True, True, True, True ∧ (0 : Int) ≤ (↑k : Int), True, True, ((60 : TypeId) = (60 : TypeId) ∧ List.length m = List.length m ∧ List.length m < (4096 : Nat) ∧ Coi (rowL m) (List.length m)) ∧ (0 : Int) ≤ (↑k : Int), amt (lst (rowL m) (List.length m)) k ≤ amt [] k, True, True, True, True, True, True, True, True, True, True, True, ((0 : Int) ≤ (↑k : Int) ∧ (↑k : Int) < (256 : Int)) ∧ List.length (Purse.lst (Purse.one k (amt [] k - amt (lst (rowL m) (List.length m)) k))) = (0 : Nat), List.length l0 = List.length l0, True, (0 : Int) ≤ (↑k : Int) + (1 : Int) ∧ (↑k : Int) + (1 : Int) < (256 : Int), True]) (k' := []) (o' := .norm) (S := (eaS true false G80 l m (k + 1) (.sl 500 5 0 l0.length))) (H := (rw5 l0 :: eaH true false Gh80 l m)) (by kernel_rfl) (by kernel_rfl) (by
      simp only [conj, and_true, true_and, l1, l2, c1, c2, hl.1, hm.1, Int.toNat_natCast]
      have g1 := hok; have g2 := b1; have g3 := b2; have g4 := h'
      (try simp only [ha rfl] at g1 g2 g3 g4); (try simp only [hc rfl] at g1 g2 g3 g4)
      omega)
  · have h' := h
    have h8 := (Purse.one k (o80 (amt l k) (amt m k))).len_le
    unfold Purse.len at h8
    simp only [o80] at h' h8
    show Goes _ _ _ _ _ _ fun k' o σ => k' = [] ∧ o = .norm ∧ σ = kn (eaS true false G80 l m (k + 1) (.sl 33 5 0 (Purse.one k (o80 (amt l k) (amt m k))).lst.length)) ((33, Bk.row true 60 5 (Purse.one k (o80 (amt l k) (amt m k))).lst.length (apL0 (Purse.one k (o80 (amt l k) (amt m k))).lst)) :: eaH true false Gh80 l m)
    rw [← hz]
    exact goes (ctx_ok tC4_ok 36) mixed rfl (gs := []) (gh := []) (orc := way [(32, 1)]) (stops := []) (f := 3000) (k := [.code (roundOf 0 (bodyOf Try.f91))]) (o := .norm) (σ := (kn (eaS true false G80 l m k .nil) (eaH true false Gh80 l m))) (cs := [(↑k : Int) < (8 : Int), True, True, True, True, True, True ∧ (0 : Int) ≤ (↑k : Int), True, True, ((60 : TypeId) = (60 : TypeId) ∧ List.length m = List.length m ∧ List.length m < (4096 : Nat) ∧ Coi (rowL m) (List.length m)) ∧ (0 : Int) ≤ (↑k : Int), amt (lst (rowL m) (List.length m)) k ≤ amt [] k, True, True, True, True, True, True, True, True, True, True, True, ((0 : Int) ≤ (↑k : Int) ∧ (↑k : Int) < (256 : Int)) ∧ (0 : Nat) < List.length (Purse.lst (Purse.one k (amt [] k - amt (lst (rowL m) (List.length m)) k))), (0 : Nat) < List.length (Purse.lst (Purse.one k (amt [] k - amt (lst (rowL m) (List.length m)) k))) ∧ (0 : Nat) + List.length (Purse.lst (Purse.one k (amt [] k - amt (lst (rowL m) (List.length m)) k))) ≤ List.length (Purse.lst (Purse.one k (amt [] k - amt (lst (rowL m) (List.length m)) k))) ∧ List.length (Purse.lst (Purse.one k (amt [] k - amt (lst (rowL m) (List.length m)) k))) * (40 : Nat) ≤ (140737488355328 : Nat), True, (0 : Int) ≤ (↑k : Int) + (1 : Int) ∧ (↑k : Int) + (1 : Int) < (256 : Int), True]) (k' := []) (o' := .norm) (S := (eaS true false G80 l m (k + 1) (.sl 33 5 0 (Purse.one k (Z80 true false l m k)).lst.length))) (H := ((33, Bk.row true 60 5 (Purse.one k (Z80 true false l m k)).lst.length (apL0 (Purse.one k (Z80 true false l m k)).lst)) :: eaH true false Gh80 l m)) (by kernel_rfl) (by kernel_rfl) (by
      simp only [conj, and_true, true_and, l1, l2, c1, c2, hl.1, hm.1, Int.toNat_natCast]
      have g1 := hok; have g2 := b1; have g3 := b2; have g4 := h'; have g5 := h8
      (try simp only [ha rfl] at g1 g2 g3 g4 g5); (try simp only [hc rfl] at g1 g2 g3 g4 g5)
      omega)
  · have h' := h
    have h8 := (Purse.one k (o80 (amt l k) (amt m k))).len_le
    unfold Purse.len at h8
    simp only [o80] at h' h8
    show Goes _ _ _ _ _ _ fun k' o σ => k' = [] ∧ o = .norm ∧ σ = kn (eaS true false G80 l m (k + 1) (.sl 33 5 0 (l0.length + (Purse.one k (o80 (amt l k) (amt m k))).lst.length))) ((33, Bk.row true 60 5 (l0.length + (Purse.one k (o80 (amt l k) (amt m k))).lst.length) (apL l0 (Purse.one k (o80 (amt l k) (amt m k))).lst)) :: eaH true false Gh80 l m)
    rw [← hz]
    exact goes (ctx_ok tC4_ok 36) mixed rfl (gs := []) (gh := []) (orc := way [(32, 1)]) (stops := []) (f := 3000) (k := [.code (roundOf 0 (bodyOf Try.f91))]) (o := .norm) (σ := (kn (eaS true false G80 l m k (.sl 500 5 0 l0.length)) (rw5 l0 :: eaH true false Gh80 l m))) (cs := [(↑k : Int) < (8 : Int), True, True, True, True, True, True ∧ (0 : Int) ≤ (↑k : Int), True, True, ((60 : TypeId) = (60 : TypeId) ∧ List.length m = List.length m ∧ List.length m < (4096 : Nat) ∧ Coi (rowL m) (List.length m)) ∧ (0 : Int) ≤ (↑k : Int), amt (lst (rowL m) (List.length m)) k ≤ amt [] k, True, True, True, True, True, True, True, True, True, True, True, ((0 : Int) ≤ (↑k : Int) ∧ (↑k : Int) < (256 : Int)) ∧ (0 : Nat) < List.length (Purse.lst (Purse.one k (amt [] k - amt (lst (rowL m) (List.length m)) k))), List.length l0 = List.length l0 ∧ (0 : Nat) < List.length (Purse.lst (Purse.one k (amt [] k - amt (lst (rowL m) (List.length m)) k))) ∧ (0 : Nat) + List.length (Purse.lst (Purse.one k (amt [] k - amt (lst (rowL m) (List.length m)) k))) ≤ List.length (Purse.lst (Purse.one k (amt [] k - amt (lst (rowL m) (List.length m)) k))) ∧ (List.length l0 + List.length (Purse.lst (Purse.one k (amt [] k - amt (lst (rowL m) (List.length m)) k)))) * (40 : Nat) ≤ (140737488355328 : Nat), True, (0 : Int) ≤ (↑k : Int) + (1 : Int) ∧ (↑k : Int) + (1 : Int) < (256 : Int), True]) (k' := []) (o' := .norm) (S := (eaS true false G80 l m (k + 1) (.sl 33 5 0 (l0.length + (Purse.one k (Z80 true false l m k)).lst.length)))) (H := ((33, Bk.row true 60 5 (l0.length + (Purse.one k (Z80 true false l m k)).lst.length) (apL l0 (Purse.one k (Z80 true false l m k)).lst)) :: eaH true false Gh80 l m)) (by kernel_rfl) (by kernel_rfl) (by
      simp only [conj, and_true, true_and, l1, l2, c1, c2, hl.1, hm.1, Int.toNat_natCast]
      have g1 := hok; have g2 := b1; have g3 := b2; have g4 := h'; have g5 := h8
      (try simp only [ha rfl] at g1 g2 g3 g4 g5); (try simp only [hc rfl] at g1 g2 g3 g4 g5)
      omega)
  · simp [eaH, inH, Gh80]

theorem ez80_false_true {w0 : Base} {l m : Cs} (hl : okC l) (hm : okC m) (ha : false = true → l = []) (hc : true = true → m = []) {k : Nat} (hk : k < 8) (ho : ∀ d, d ≤ k → k80 (amt l d) (amt m d)) :
    Goes Try.prog Try.f91.ntmps w0 [.code (roundOf 0 (bodyOf Try.f91))] .norm (eaSt (eaS false true G80 l m) (eaH false true Gh80 l m) (fun d => o80 (amt l d) (amt m d)) k)
    fun k' o σ => k' = [] ∧ o = .norm ∧ ∃ σ0, σ = σ0 ∧ ∀ {nt : Nat} {kk : List Fr} {Z : List Fr → Out → Ms → Prop}, Goes Try.prog nt w0 kk .norm (eaSt (eaS false true G80 l m) (eaH false true Gh80 l m) (fun d => o80 (amt l d) (amt m d)) (k + 1)) Z → Goes Try.prog nt w0 kk .norm σ0 Z := by
  have ht := top_eq
  have c1 : Coi (rowL l) l.length := Coi_rowL hl.2
  have c2 : Coi (rowL m) m.length := Coi_rowL hm.2
  have l1 := lst_rowL l
  have l2 := lst_rowL m
  have hok := ho k (Nat.le_refl _)
  have b1 := amt_lt hl k
  have b2 := amt_lt hm k
  have a1 : laA false l = l := laA_eq ha
  have a2 : laA true m = m := laA_eq hc
  have hz : Z80 false true l m k = o80 (amt l k) (amt m k) := by unfold Z80; rw [a1, a2]
  simp only [k80] at hok
  refine ea_round hk (fun d hd => ?_) (fun h => ?_) (fun l0 h => ?_) (fun h => ?_) (fun l0 h1 h2 h => ?_) (fun n => rfl) rfl ?_
  · have b1 := amt_lt hl d
    have b2 := amt_lt hm d
    have := ho d hd
    simp only [o80, k80] at this ⊢
    omega
  · have h' := h
    simp only [o80] at h'
    exact goes (ctx_ok tC4_ok 36) mixed rfl (gs := []) (gh := []) (orc := way []) (stops := []) (f := 3000) (k := [.code (roundOf 0 (bodyOf Try.f91))]) (o := .norm) (σ := (kn (eaS false true G80 l m k .nil) (eaH false true Gh80 l m))) (cs := [(↑k : Int) < (8 : Int), True, True, True, True, True, ((60 : TypeId) = (60 : TypeId) ∧ List.length l = List.length l ∧ List.length l < (4096 : Nat) ∧ Coi (rowL l) (List.length l)) ∧ (0 : Int) ≤ (↑k : Int), True, True, True ∧ (0 : Int) ≤ (↑k : Int), amt [] k ≤ amt (lst (rowL l) (List.length l)) k, True, True, True, True, True, True, True, True, True, True, True, ((0 : Int) ≤ (↑k : Int) ∧ (↑k : Int) < (256 : Int)) ∧ List.length (Purse.lst (Purse.one k (amt (lst (rowL l) (List.length l)) k - amt [] k))) = (0 : Nat), True, True, (0 : Int) ≤ (↑k : Int) + (1 : Int) ∧ (↑k : Int) + (1 : Int) < (256 : Int), True]) (k' := []) (o' := .norm) (S := (eaS false true G80 l m (k + 1) .nil)) (H := (eaH false true Gh80 l m)) (by kernel_rfl) (by kernel_rfl) (by
      simp only [conj, and_true, true_and, l1, l2, c1, c2, hl.1, hm.1, Int.toNat_natCast]
      have g1 := hok; have g2 := b1; have g3 := b2; have g4 := h'
      (try simp only [ha rfl] at g1 g2 g3 g4); (try simp only [hc rfl] at g1 g2 g3 g4)
      omega)
  · have h' := h
    simp only [o80] at h'
    exact goes (ctx_ok tC4_ok 36) mixed rfl (gs := []) (gh := []) (orc := way []) (stops := []) (f := 3000) (k := [.code (roundOf 0 (bodyOf Try.f91))]) (o := .norm) (σ := (kn (eaS false true G80 l m k (.sl 500 5 0 l0.length)) (rw5 l0 :: eaH false true Gh80 l m))) (cs := [(↑k : Int) < (8 : Int), True, True, True, True, True, ((60 : TypeId) = (60 : TypeId) ∧ List.length l = List.length l ∧ List.length l < (4096 : Nat) ∧ Coi (rowL l) (List.length l)) ∧ (0 : Int) ≤ (↑k : Int), True, True, True ∧ (0 : Int) ≤ (↑k : Int), amt [] k ≤ amt (lst (rowL l) (List.length l)) k, True, True, True, True, True, True, True, True, True, True, True, ((0 : Int) ≤ (↑k : Int) ∧ (↑k : Int) < (256 : Int)) ∧ List.length (Purse.lst (Purse.one k (amt (lst (rowL l) (List.length l)) k - amt [] k))) = (0 : Nat), List.length l0 = List.length l0, True, (0 : Int) ≤ (↑k : Int) + (1 : Int) ∧ (↑k : Int) + (1 : Int) < (256 : Int), True]) (k' := []) (o' := .norm) (S := (eaS false true G80 l m (k + 1) (.sl 500 5 0 l0.length))) (H := (rw5 l0 :: eaH false true Gh80 l m)) (by kernel_rfl) (by kernel_rfl) (by
      simp only [conj, and_true, true_and, l1, l2, c1, c2, hl.1, hm.1, Int.toNat_natCast]
      have g1 := hok; have g2 := b1; have g3 := b2; have g4 := h'
      (try simp only [ha rfl] at g1 g2 g3 g4); (try simp only [hc rfl] at g1 g2 g3 g4)
      omega)
  · have h' := h
    have h8 := (Purse.one k (o80 (amt l k) (amt m k))).len_le
    unfold Purse.len at h8
    simp only [o80] at h' h8
    show Goes _ _ _ _ _ _ fun k' o σ => k' = [] ∧ o = .norm ∧ σ = kn (eaS false true G80 l m (k + 1) (.sl 33 5 0 (Purse.one k (o80 (amt l k) (amt m k))).lst.length)) ((33, Bk.row true 60 5 (Purse.one k (o80 (amt l k) (amt m k))).lst.length (apL0 (Purse.one k (o80 (amt l k) (amt m k))).lst)) :: eaH false true Gh80 l m)
    rw [← hz]
    exact goes (ctx_ok tC4_ok 36) mixed rfl (gs := []) (gh := []) (orc := way [(32, 1)]) (stops := []) (f := 3000) (k := [.code (roundOf 0 (bodyOf Try.f91))]) (o := .norm) (σ := (kn (eaS false true G80 l m k .nil) (eaH false true Gh80 l m))) (cs := [(↑k : Int) < (8 : Int), True, True, True, True, True, ((60 : TypeId) = (60 : TypeId) ∧ List.length l = List.length l ∧ List.length l < (4096 : Nat) ∧ Coi (rowL l) (List.length l)) ∧ (0 : Int) ≤ (↑k : Int), True, True, True ∧ (0 : Int) ≤ (↑k : Int), amt [] k ≤ amt (lst (rowL l) (List.length l)) k, True, True, True, True, True, True, True, True, True, True, True, ((0 : Int) ≤ (↑k : Int) ∧ (↑k : Int) < (256 : Int)) ∧ (0 : Nat) < List.length (Purse.lst (Purse.one k (amt (lst (rowL l) (List.length l)) k - amt [] k))), (0 : Nat) < List.length (Purse.lst (Purse.one k (amt (lst (rowL l) (List.length l)) k - amt [] k))) ∧ (0 : Nat) + List.length (Purse.lst (Purse.one k (amt (lst (rowL l) (List.length l)) k - amt [] k))) ≤ List.length (Purse.lst (Purse.one k (amt (lst (rowL l) (List.length l)) k - amt [] k))) ∧ List.length (Purse.lst (Purse.one k (amt (lst (rowL l) (List.length l)) k - amt [] k))) * (40 : Nat) ≤ (140737488355328 : Nat), True, (0 : Int) ≤ (↑k : Int) + (1 : Int) ∧ (↑k : Int) + (1 : Int) < (256 : Int), True]) (k' := []) (o' := .norm) (S := (eaS false true G80 l m (k + 1) (.sl 33 5 0 (Purse.one k (Z80 false true l m k)).lst.length))) (H := ((33, Bk.row true 60 5 (Purse.one k (Z80 false true l m k)).lst.length (apL0 (Purse.one k (Z80 false true l m k)).lst)) :: eaH false true Gh80 l m)) (by kernel_rfl) (by kernel_rfl) (by
      simp only [conj, and_true, true_and, l1, l2, c1, c2, hl.1, hm.1, Int.toNat_natCast]
      have g1 := hok; have g2 := b1; have g3 := b2; have g4 := h'; have g5 := h8
      (try simp only [ha rfl] at g1 g2 g3 g4 g5); (try simp only [hc rfl] at g1 g2 g3 g4 g5)
      omega)
  · have h' := h
    have h8 := (Purse.one k (o80 (amt l k) (amt m k))).len_le
    unfold Purse.len at h8
    simp only [o80] at h' h8
    show Goes _ _ _ _ _ _ fun k' o σ => k' = [] ∧ o = .norm ∧ σ = kn (eaS false true G80 l m (k + 1) (.sl 33 5 0 (l0.length + (Purse.one k (o80 (amt l k) (amt m k))).lst.length))) ((33, Bk.row true 60 5 (l0.length + (Purse.one k (o80 (amt l k) (amt m k))).lst.length) (apL l0 (Purse.one k (o80 (amt l k) (amt m k))).lst)) :: eaH false true Gh80 l m)
    rw [← hz]
    exact goes (ctx_ok tC4_ok 36) mixed rfl (gs := []) (gh := []) (orc := way [(32, 1)]) (stops := []) (f := 3000) (k := [.code (roundOf 0 (bodyOf Try.f91))]) (o := .norm) (σ := (kn (eaS false true G80 l m k (.sl 500 5 0 l0.length)) (rw5 l0 :: eaH false true Gh80 l m))) (cs := [(↑k : Int) < (8 : Int), True, True, True, True, True, ((60 : TypeId) = (60 : TypeId) ∧ List.length l = List.length l ∧ List.length l < (4096 : Nat) ∧ Coi (rowL l) (List.length l)) ∧ (0 : Int) ≤ (↑k : Int), True, True, True ∧ (0 : Int) ≤ (↑k : Int), amt [] k ≤ amt (lst (rowL l) (List.length l)) k, True, True, True, True, True, True, True, True, True, True, True, ((0 : Int) ≤ (↑k : Int) ∧ (↑k : Int) < (256 : Int)) ∧ (0 : Nat) < List.length (Purse.lst (Purse.one k (amt (lst (rowL l) (List.length l)) k - amt [] k))), List.length l0 = List.length l0 ∧ (0 : Nat) < List.length (Purse.lst (Purse.one k (amt (lst (rowL l) (List.length l)) k - amt [] k))) ∧ (0 : Nat) + List.length (Purse.lst (Purse.one k (amt (lst (rowL l) (List.length l)) k - amt [] k))) ≤ List.length (Purse.lst (Purse.one k (amt (lst (rowL l) (List.length l)) k - amt [] k))) ∧ (List.length l0 + List.length (Purse.lst (Purse.one k (amt (lst (rowL l) (List.length l)) k - amt [] k)))) * (40 : Nat) ≤ (140737488355328 : Nat), True, (0 : Int) ≤ (↑k : Int) + (1 : Int) ∧ (↑k : Int) + (1 : Int) < (256 : Int), True]) (k' := []) (o' := .norm) (S := (eaS false true G80 l m (k + 1) (.sl 33 5 0 (l0.length + (Purse.one k (Z80 false true l m k)).lst.length)))) (H := ((33, Bk.row true 60 5 (l0.length + (Purse.one k (Z80 false true l m k)).lst.length) (apL l0 (Purse.one k (Z80 false true l m k)).lst)) :: eaH false true Gh80 l m)) (by kernel_rfl) (by kernel_rfl) (by
      simp only [conj, and_true, true_and, l1, l2, c1, c2, hl.1, hm.1, Int.toNat_natCast]
      have g1 := hok; have g2 := b1; have g3 := b2; have g4 := h'; have g5 := h8
      (try simp only [ha rfl] at g1 g2 g3 g4 g5); (try simp only [hc rfl] at g1 g2 g3 g4 g5)
      omega)
  · simp [eaH, inH, Gh80]

theorem ez80_false_false {w0 : Base} {l m : Cs} (hl : okC l) (hm : okC m) (ha : false = true → l = []) (hc : false = true → m = []) {k : Nat} (hk : k < 8) (ho : ∀ d, d ≤ k → k80 (amt l d) (amt m d)) :
    Goes Try.prog Try.f91.ntmps w0 [.code (roundOf 0 (bodyOf Try.f91))] .norm (eaSt (eaS false false G80 l m) (eaH false false Gh80 l m) (fun d => o80 (amt l d) (amt m d)) k)
    fun k' o σ => k' = [] ∧ o = .norm ∧ ∃ σ0, σ = σ0 ∧ ∀ {nt : Nat} {kk : List Fr} {Z : List Fr → Out → Ms → Prop}, Goes Try.prog nt w0 kk .norm (eaSt (eaS false false G80 l m) (eaH false false Gh80 l m) (fun d => o80 (amt l d) (amt m d)) (k + 1)) Z → Goes Try.prog nt w0 kk .norm σ0 Z := by
  have ht := top_eq
  have c1 : Coi (rowL l) l.length := Coi_rowL hl.2
  have c2 : Coi (rowL m) m.length := Coi_rowL hm.2
  have l1 := lst_rowL l
  have l2 := lst_rowL m
  have hok := ho k (Nat.le_refl _)
  have b1 := amt_lt hl k
  have b2 := amt_lt hm k
  have a1 : laA false l = l := laA_eq ha
  have a2 : laA false m = m := laA_eq hc
  have hz : Z80 false false l m k = o80 (amt l k) (amt m k) := by unfold Z80; rw [a1, a2]
  simp only [k80] at hok
  refine ea_round hk (fun d hd => ?_) (fun h => ?_) (fun l0 h => ?_) (fun h => ?_) (fun l0 h1 h2 h => ?_) (fun n => rfl) rfl ?_
  · have b1 := amt_lt hl d
    have b2 := amt_lt hm d
    have := ho d hd
    simp only [o80, k80] at this ⊢
    omega
  · have h' := h
    simp only [o80] at h'
    exact goes (ctx_ok tC4_ok 36) mixed rfl (gs := []) (gh := []) (orc := way []) (stops := []) (f := 3000) (k := [.code (roundOf 0 (bodyOf Try.f91))]) (o := .norm) (σ := (kn (eaS false false G80 l m k .nil) (eaH false false Gh80 l m))) (cs := [(↑k : Int) < (8 : Int), True, True, True, True, True, ((60 : TypeId) = (60 : TypeId) ∧ List.length l = List.length l ∧ List.length l < (4096 : Nat) ∧ Coi (rowL l) (List.length l)) ∧ (0 : Int) ≤ (↑k : Int), True, True, ((60 : TypeId) = (60 : TypeId) ∧ List.length m = List.length m ∧ List.length m < (4096 : Nat) ∧ Coi (rowL m) (List.length m)) ∧ (0 : Int) ≤ (↑k : Int), amt (lst (rowL m) (List.length m)) k ≤ amt (lst (rowL l) (List.length l)) k, True, True, True, True, True, True, True, True, True, True, True, ((0 : Int) ≤ (↑k : Int) ∧ (↑k : Int) < (256 : Int)) ∧ List.length (Purse.lst (Purse.one k (amt (lst (rowL l) (List.length l)) k - amt (lst (rowL m) (List.length m)) k))) = (0 : Nat), True, True, (0 : Int) ≤ (↑k : Int) + (1 : Int) ∧ (↑k : Int) + (1 : Int) < (256 : Int), True]) (k' := []) (o' := .norm) (S := (eaS false false G80 l m (k + 1) .nil)) (H := (eaH false false Gh80 l m)) (by kernel_rfl) (by kernel_rfl) (by
      simp only [conj, and_true, true_and, l1, l2, c1, c2, hl.1, hm.1, Int.toNat_natCast]
      have g1 := hok; have g2 := b1; have g3 := b2; have g4 := h'
      (try simp only [ha rfl] at g1 g2 g3 g4); (try simp only [hc rfl] at g1 g2 g3 g4)
      omega)
  · have h' := h
    simp only [o80] at h'
    exact goes (ctx_ok tC4_ok 36) mixed rfl (gs := []) (gh := []) (orc := way []) (stops := []) (f := 3000) (k := [.code (roundOf 0 (bodyOf Try.f91))]) (o := .norm) (σ := (kn (eaS false false G80 l m k (.sl 500 5 0 l0.length)) (rw5 l0 :: eaH false false Gh80 l m))) (cs := [(↑k : Int) < (8 : Int), True, True, True, True, True, ((60 : TypeId) = (60 : TypeId) ∧ List.length l = List.length l ∧ List.length l < (4096 : Nat) ∧ Coi (rowL l) (List.length l)) ∧ (0 : Int) ≤ (↑k : Int), True, True, ((60 : TypeId) = (60 : TypeId) ∧ List.length m = List.length m ∧ List.length m < (4096 : Nat) ∧ Coi (rowL m) (List.length m)) ∧ (0 : Int) ≤ (↑k : Int), amt (lst (rowL m) (List.length m)) k ≤ amt (lst (rowL l) (List.length l)) k, True, True, True, True, True, True, True, True, True, True, True, ((0 : Int) ≤ (↑k : Int) ∧ (↑k : Int) < (256 : Int)) ∧ List.length (Purse.lst (Purse.one k (amt (lst (rowL l) (List.length l)) k - amt (lst (rowL m) (List.length m)) k))) = (0 : Nat), List.length l0 = List.length l0, True, (0 : Int) ≤ (↑k : Int) + (1 : Int) ∧ (↑k : Int) + (1 : Int) < (256 : Int), True]) (k' := []) (o' := .norm) (S := (eaS false false G80 l m (k + 1) (.sl 500 5 0 l0.length))) (H := (rw5 l0 :: eaH false false Gh80 l m)) (by kernel_rfl) (by kernel_rfl) (by
      simp only [conj, and_true, true_and, l1, l2, c1, c2, hl.1, hm.1, Int.toNat_natCast]
      have g1 := hok; have g2 := b1; have g3 := b2; have g4 := h'
      (try simp only [ha rfl] at g1 g2 g3 g4); (try simp only [hc rfl] at g1 g2 g3 g4)
      omega)
  · have h' := h
    have h8 := (Purse.one k (o80 (amt l k) (amt m k))).len_le
    unfold Purse.len at h8
    simp only [o80] at h' h8
    show Goes _ _ _ _ _ _ fun k' o σ => k' = [] ∧ o = .norm ∧ σ = kn (eaS false false G80 l m (k + 1) (.sl 33 5 0 (Purse.one k (o80 (amt l k) (amt m k))).lst.length)) ((33, Bk.row true 60 5 (Purse.one k (o80 (amt l k) (amt m k))).lst.length (apL0 (Purse.one k (o80 (amt l k) (amt m k))).lst)) :: eaH false false Gh80 l m)
    rw [← hz]
    exact goes (ctx_ok tC4_ok 36) mixed rfl (gs := []) (gh := []) (orc := way [(32, 1)]) (stops := []) (f := 3000) (k := [.code (roundOf 0 (bodyOf Try.f91))]) (o := .norm) (σ := (kn (eaS false false G80 l m k .nil) (eaH false false Gh80 l m))) (cs := [(↑k : Int) < (8 : Int), True, True, True, True, True, ((60 : TypeId) = (60 : TypeId) ∧ List.length l = List.length l ∧ List.length l < (4096 : Nat) ∧ Coi (rowL l) (List.length l)) ∧ (0 : Int) ≤ (↑k : Int), True, True, ((60 : TypeId) = (60 : TypeId) ∧ List.length m = List.length m ∧ List.length m < (4096 : Nat) ∧ Coi (rowL m) (List.length m)) ∧ (0 : Int) ≤ (↑k : Int), amt (lst (rowL m) (List.length m)) k ≤ amt (lst (rowL l) (List.length l)) k, True, True, True, True, True, True, True, True, True, True, True, ((0 : Int) ≤ (↑k : Int) ∧ (↑k : Int) < (256 : Int)) ∧ (0 : Nat) < List.length (Purse.lst (Purse.one k (amt (lst (rowL l) (List.length l)) k - amt (lst (rowL m) (List.length m)) k))), (0 : Nat) < List.length (Purse.lst (Purse.one k (amt (lst (rowL l) (List.length l)) k - amt (lst (rowL m) (List.length m)) k))) ∧ (0 : Nat) + List.length (Purse.lst (Purse.one k (amt (lst (rowL l) (List.length l)) k - amt (lst (rowL m) (List.length m)) k))) ≤ List.length (Purse.lst (Purse.one k (amt (lst (rowL l) (List.length l)) k - amt (lst (rowL m) (List.length m)) k))) ∧ List.length (Purse.lst (Purse.one k (amt (lst (rowL l) (List.length l)) k - amt (lst (rowL m) (List.length m)) k))) * (40 : Nat) ≤ (140737488355328 : Nat), True, (0 : Int) ≤ (↑k : Int) + (1 : Int) ∧ (↑k : Int) + (1 : Int) < (256 : Int), True]) (k' := []) (o' := .norm) (S := (eaS false false G80 l m (k + 1) (.sl 33 5 0 (Purse.one k (Z80 false false l m k)).lst.length))) (H := ((33, Bk.row true 60 5 (Purse.one k (Z80 false false l m k)).lst.length (apL0 (Purse.one k (Z80 false false l m k)).lst)) :: eaH false false Gh80 l m)) (by kernel_rfl) (by kernel_rfl) (by
      simp only [conj, and_true, true_and, l1, l2, c1, c2, hl.1, hm.1, Int.toNat_natCast]
      have g1 := hok; have g2 := b1; have g3 := b2; have g4 := h'; have g5 := h8
      (try simp only [ha rfl] at g1 g2 g3 g4 g5); (try simp only [hc rfl] at g1 g2 g3 g4 g5)
      omega)
  · have h' := h
    have h8 := (Purse.one k (o80 (amt l k) (amt m k))).len_le
    unfold Purse.len at h8
    simp only [o80] at h' h8
    show Goes _ _ _ _ _ _ fun k' o σ => k' = [] ∧ o = .norm ∧ σ = kn (eaS false false G80 l m (k + 1) (.sl 33 5 0 (l0.length + (Purse.one k (o80 (amt l k) (amt m k))).lst.length))) ((33, Bk.row true 60 5 (l0.length + (Purse.one k (o80 (amt l k) (amt m k))).lst.length) (apL l0 (Purse.one k (o80 (amt l k) (amt m k))).lst)) :: eaH false false Gh80 l m)
    rw [← hz]
    exact goes (ctx_ok tC4_ok 36) mixed rfl (gs := []) (gh := []) (orc := way [(32, 1)]) (stops := []) (f := 3000) (k := [.code (roundOf 0 (bodyOf Try.f91))]) (o := .norm) (σ := (kn (eaS false false G80 l m k (.sl 500 5 0 l0.length)) (rw5 l0 :: eaH false false Gh80 l m))) (cs := [(↑k : Int) < (8 : Int), True, True, True, True, True, ((60 : TypeId) = (60 : TypeId) ∧ List.length l = List.length l ∧ List.length l < (4096 : Nat) ∧ Coi (rowL l) (List.length l)) ∧ (0 : Int) ≤ (↑k : Int), True, True, ((60 : TypeId) = (60 : TypeId) ∧ List.length m = List.length m ∧ List.length m < (4096 : Nat) ∧ Coi (rowL m) (List.length m)) ∧ (0 : Int) ≤ (↑k : Int), amt (lst (rowL m) (List.length m)) k ≤ amt (lst (rowL l) (List.length l)) k, True, True, True, True, True, True, True, True, True, True, True, ((0 : Int) ≤ (↑k : Int) ∧ (↑k : Int) < (256 : Int)) ∧ (0 : Nat) < List.length (Purse.lst (Purse.one k (amt (lst (rowL l) (List.length l)) k - amt (lst (rowL m) (List.length m)) k))), List.length l0 = List.length l0 ∧ (0 : Nat) < List.length (Purse.lst (Purse.one k (amt (lst (rowL l) (List.length l)) k - amt (lst (rowL m) (List.length m)) k))) ∧ (0 : Nat) + List.length (Purse.lst (Purse.one k (amt (lst (rowL l) (List.length l)) k - amt (lst (rowL m) (List.length m)) k))) ≤ List.length (Purse.lst (Purse.one k (amt (lst (rowL l) (List.length l)) k - amt (lst (rowL m) (List.length m)) k))) ∧ (List.length l0 + List.length (Purse.lst (Purse.one k (amt (lst (rowL l) (List.length l)) k - amt (lst (rowL m) (List.length m)) k)))) * (40 : Nat) ≤ (140737488355328 : Nat), True, (0 : Int) ≤ (↑k : Int) + (1 : Int) ∧ (↑k : Int) + (1 : Int) < (256 : Int), True]) (k' := []) (o' := .norm) (S := (eaS false false G80 l m (k + 1) (.sl 33 5 0 (l0.length + (Purse.one k (Z80 false false l m k)).lst.length)))) (H := ((33, Bk.row true 60 5 (l0.length + (Purse.one k (Z80 false false l m k)).lst.length) (apL l0 (Purse.one k (Z80 false false l m k)).lst)) :: eaH false false Gh80 l m)) (by kernel_rfl) (by kernel_rfl) (by
      simp only [conj, and_true, true_and, l1, l2, c1, c2, hl.1, hm.1, Int.toNat_natCast]
      have g1 := hok; have g2 := b1; have g3 := b2; have g4 := h'; have g5 := h8
      (try simp only [ha rfl] at g1 g2 g3 g4 g5); (try simp only [hc rfl] at g1 g2 g3 g4 g5)
      omega)
  · simp [eaH, inH, Gh80]

theorem ez86_true_true {w0 : Base} {l m : Cs} (hl : okC l) (hm : okC m) (ha : true = true → l = []) (hc : true = true → m = []) {k : Nat} (hk : k < 8) (ho : ∀ d, d ≤ k → k86 (amt l d) (amt m d)) :
    Goes Try.prog Try.f91.ntmps w0 [.code (roundOf 0 (bodyOf Try.f91))] .norm (eaSt (eaS true true G86 l m) (eaH true true Gh86 l m) (fun d => o86 (amt l d) (amt m d)) k)
    fun k' o σ => k' = [] ∧ o = .norm ∧ ∃ σ0, σ = σ0 ∧ ∀ {nt : Nat} {kk : List Fr} {Z : List Fr → Out → Ms → Prop}, Goes Try.prog nt w0 kk .norm (eaSt (eaS true true G86 l m) (eaH true true Gh86 l m) (fun d => o86 (amt l d) (amt m d)) (k + 1)) Z → Goes Try.prog nt w0 kk .norm σ0 Z := by
  have ht := top_eq
  have c1 : Coi (rowL l) l.length := Coi_rowL hl.2
  have c2 : Coi (rowL m) m.length := Coi_rowL hm.2
  have l1 := lst_rowL l
  have l2 := lst_rowL m
  have hok := ho k (Nat.le_refl _)
  have b1 := amt_lt hl k
  have b2 := amt_lt hm k
  have a1 : laA true l = l := laA_eq ha
  have a2 : laA true m = m := laA_eq hc
  have hz : Z86 true true l m k = o86 (amt l k) (amt m k) := by unfold Z86; rw [a1, a2]
  simp only [k86] at hok
  refine ea_round hk (fun d hd => ?_) (fun h => ?_) (fun l0 h => ?_) (fun h => ?_) (fun l0 h1 h2 h => ?_) (fun n => rfl) rfl ?_
  · have b1 := amt_lt hl d
    have b2 := amt_lt hm d
    have := ho d hd
    simp only [o86, k86] at this ⊢
    omega
  · have h' := h
    simp only [o86] at h'
    exact goes (ctx_ok tC4_ok 36) mixed rfl (gs := []) (gh := []) (orc := way []) (stops := []) (f := 3000) (k := [.code (roundOf 0 (bodyOf Try.f91))]) (o := .norm) (σ := (kn (eaS true true G86 l m k .nil) (eaH true true Gh86 l m))) (cs := [(↑k : Int) < (8 : Int), True, True, True, True, True, True ∧ (0 : Int) ≤ (↑k : Int), True, True, True ∧ (0 : Int) ≤ (↑k : Int), amt [] k < TOP ∧ amt [] k < TOP, True, True, True, True, True, True, True, True, True, True, True, ((0 : Int) ≤ (↑k : Int) ∧ (↑k : Int) < (256 : Int)) ∧ List.length (Purse.lst (Purse.one k (amt [] k - amt [] k))) = (0 : Nat), True, True, (0 : Int) ≤ (↑k : Int) + (1 : Int) ∧ (↑k : Int) + (1 : Int) < (256 : Int), True]) (k' := []) (o' := .norm) (S := (eaS true true G86 l m (k + 1) .nil)) (H := (eaH true true Gh86 l m)) (by kernel_rfl) (by kernel_rfl) (by
      simp only [conj, and_true, true_and, l1, l2, c1, c2, hl.1, hm.1, Int.toNat_natCast]
      have g1 := hok; have g2 := b1; have g3 := b2; have g4 := h'
      (try simp only [ha rfl] at g1 g2 g3 g4); (try simp only [hc rfl] at g1 g2 g3 g4)
      omega)
  · have h' := h
    simp only [o86] at h'
    exact goes (ctx_ok tC4_ok 36) mixed rfl (gs := []) (gh := []) (orc := way []) (stops := []) (f := 3000) (k := [.code (roundOf 0 (bodyOf Try.f91))]) (o := .norm) (σ := (kn (eaS true true G86 l m k (.sl 500 5 0 l0.length)) (rw5 l0 :: eaH true true Gh86 l m))) (cs := [(↑k : Int) < (8 : Int), True, True, True, True, True, True ∧ (0 : Int) ≤ (↑k : Int), True, True, True ∧ (0 : Int) ≤ (↑k : Int), amt [] k < TOP ∧ amt [] k < TOP, True, True, True, True, True, True, True, True, True, True, True, ((0 : Int) ≤ (↑k : Int) ∧ (↑k : Int) < (256 : Int)) ∧ List.length (Purse.lst (Purse.one k (amt [] k - amt [] k))) = (0 : Nat), List.length l0 = List.length l0, True, (0 : Int) ≤ (↑k : Int) + (1 : Int) ∧ (↑k : Int) + (1 : Int) < (256 : Int), True]) (k' := []) (o' := .norm) (S := (eaS true true G86 l m (k + 1) (.sl 500 5 0 l0.length))) (H := (rw5 l0 :: eaH true true Gh86 l m)) (by kernel_rfl) (by kernel_rfl) (by
      simp only [conj, and_true, true_and, l1, l2, c1, c2, hl.1, hm.1, Int.toNat_natCast]
      have g1 := hok; have g2 := b1; have g3 := b2; have g4 := h'
      (try simp only [ha rfl] at g1 g2 g3 g4); (try simp only [hc rfl] at g1 g2 g3 g4)
      omega)
  · have h' := h
    have h8 := (Purse.one k (o86 (amt l k) (amt m k))).len_le
    unfold Purse.len at h8
    simp only [o86] at h' h8
    show Goes _ _ _ _ _ _ fun k' o σ => k' = [] ∧ o = .norm ∧ σ = kn (eaS true true G86 l m (k + 1) (.sl 33 5 0 (Purse.one k (o86 (amt l k) (amt m k))).lst.length)) ((33, Bk.row true 60 5 (Purse.one k (o86 (amt l k) (amt m k))).lst.length (apL0 (Purse.one k (o86 (amt l k) (amt m k))).lst)) :: eaH true true Gh86 l m)
    rw [← hz]
    exact goes (ctx_ok tC4_ok 36) mixed rfl (gs := []) (gh := []) (orc := way [(32, 1)]) (stops := []) (f := 3000) (k := [.code (roundOf 0 (bodyOf Try.f91))]) (o := .norm) (σ := (kn (eaS true true G86 l m k .nil) (eaH true true Gh86 l m))) (cs := [(↑k : Int) < (8 : Int), True, True, True, True, True, True ∧ (0 : Int) ≤ (↑k : Int), True, True, True ∧ (0 : Int) ≤ (↑k : Int), amt [] k < TOP ∧ amt [] k < TOP, True, True, True, True, True, True, True, True, True, True, True, ((0 : Int) ≤ (↑k : Int) ∧ (↑k : Int) < (256 : Int)) ∧ (0 : Nat) < List.length (Purse.lst (Purse.one k (amt [] k - amt [] k))), (0 : Nat) < List.length (Purse.lst (Purse.one k (amt [] k - amt [] k))) ∧ (0 : Nat) + List.length (Purse.lst (Purse.one k (amt [] k - amt [] k))) ≤ List.length (Purse.lst (Purse.one k (amt [] k - amt [] k))) ∧ List.length (Purse.lst (Purse.one k (amt [] k - amt [] k))) * (40 : Nat) ≤ (140737488355328 : Nat), True, (0 : Int) ≤ (↑k : Int) + (1 : Int) ∧ (↑k : Int) + (1 : Int) < (256 : Int), True]) (k' := []) (o' := .norm) (S := (eaS true true G86 l m (k + 1) (.sl 33 5 0 (Purse.one k (Z86 true true l m k)).lst.length))) (H := ((33, Bk.row true 60 5 (Purse.one k (Z86 true true l m k)).lst.length (apL0 (Purse.one k (Z86 true true l m k)).lst)) :: eaH true true Gh86 l m)) (by kernel_rfl) (by kernel_rfl) (by
      simp only [conj, and_true, true_and, l1, l2, c1, c2, hl.1, hm.1, Int.toNat_natCast]
      have g1 := hok; have g2 := b1; have g3 := b2; have g4 := h'; have g5 := h8
      (try simp only [ha rfl] at g1 g2 g3 g4 g5); (try simp only [hc rfl] at g1 g2 g3 g4 g5)
      omega)
  · have h' := h
    have h8 := (Purse.one k (o86 (amt l k) (amt m k))).len_le
    unfold Purse.len at h8
    simp only [o86] at h' h8
    show Goes _ _ _ _ _ _ fun k' o σ => k' = [] ∧ o = .norm ∧ σ = kn (eaS true true G86 l m (k + 1) (.sl 33 5 0 (l0.length + (Purse.one k (o86 (amt l k) (amt m k))).lst.length))) ((33, Bk.row true 60 5 (l0.length + (Purse.one k (o86 (amt l k) (amt m k))).lst.length) (apL l0 (Purse.one k (o86 (amt l k) (amt m k))).lst)) :: eaH true true Gh86 l m)
    rw [← hz]
    exact goes (ctx_ok tC4_ok 36) mixed rfl (gs := []) (gh := []) (orc := way [(32, 1)]) (stops := []) (f := 3000) (k := [.code (roundOf 0 (bodyOf Try.f91))]) (o := .norm) (σ := (kn (eaS true true G86 l m k (.sl 500 5 0 l0.length)) (rw5 l0 :: eaH true true Gh86 l m))) (cs := [(↑k : Int) < (8 : Int), True, True, True, True, True, True ∧ (0 : Int) ≤ (↑k : Int), True, True, True ∧ (0 : Int) ≤ (↑k : Int), amt [] k < TOP ∧ amt [] k < TOP, True, True, True, True, True, True, True, True, True, True, True, ((0 : Int) ≤ (↑k : Int) ∧ (↑k : Int) < (256 : Int)) ∧ (0 : Nat) < List.length (Purse.lst (Purse.one k (amt [] k - amt [] k))), List.length l0 = List.length l0 ∧ (0 : Nat) < List.length (Purse.lst (Purse.one k (amt [] k - amt [] k))) ∧ (0 : Nat) + List.length (Purse.lst (Purse.one k (amt [] k - amt [] k))) ≤ List.length (Purse.lst (Purse.one k (amt [] k - amt [] k))) ∧ (List.length l0 + List.length (Purse.lst (Purse.one k (amt [] k - amt [] k)))) * (40 : Nat) ≤ (140737488355328 : Nat), True, (0 : Int) ≤ (↑k : Int) + (1 : Int) ∧ (↑k : Int) + (1 : Int) < (256 : Int), True]) (k' := []) (o' := .norm) (S := (eaS true true G86 l m (k + 1) (.sl 33 5 0 (l0.length + (Purse.one k (Z86 true true l m k)).lst.length)))) (H := ((33, Bk.row true 60 5 (l0.length + (Purse.one k (Z86 true true l m k)).lst.length) (apL l0 (Purse.one k (Z86 true true l m k)).lst)) :: eaH true true Gh86 l m)) (by kernel_rfl) (by kernel_rfl) (by
      simp only [conj, and_true, true_and, l1, l2, c1, c2, hl.1, hm.1, Int.toNat_natCast]
      have g1 := hok; have g2 := b1; have g3 := b2; have g4 := h'; have g5 := h8
      (try simp only [ha rfl] at g1 g2 g3 g4 g5); (try simp only [hc rfl] at g1 g2 g3 g4 g5)
      omega)
  · simp [eaH, inH, Gh86]

theorem ez86_true_false {w0 : Base} {l m : Cs} (hl : okC l) (hm : okC m) (ha : true = true → l = []) (hc : false = true → m = []) {k : Nat} (hk : k < 8) (ho : ∀ d, d ≤ k → k86 (amt l d) (amt m d)) :
    Goes Try.prog Try.f91.ntmps w0 [.code (roundOf 0 (bodyOf Try.f91))] .norm (eaSt (eaS true false G86 l m) (eaH true false Gh86 l m) (fun d => o86 (amt l d) (amt m d)) k)
    fun k' o σ => k' = [] ∧ o = .norm ∧ ∃ σ0, σ = σ0 ∧ ∀ {nt : Nat} {kk : List Fr} {Z : List Fr → Out → Ms → Prop}, Goes Try.prog nt w0 kk .norm (eaSt (eaS true false G86 l m) (eaH true false Gh86 l m) (fun d => o86 (amt l d) (amt m d)) (k + 1)) Z → Goes Try.prog nt w0 kk .norm σ0 Z := by
  have ht := top_eq
  have c1 : Coi (rowL l) l.length := Coi_rowL hl.2
  have c2 : Coi (rowL m) m.length := Coi_rowL hm.2
  have l1 := lst_rowL l
  have l2 := lst_rowL m
  have hok := ho k (Nat.le_refl _)
  have b1 := amt_lt hl k
  have b2 := amt_lt hm k
  have a1 : laA true l = l := laA_eq ha
  have a2 : laA false m = m := laA_eq hc
  have hz : Z86 true false l m k = o86 (amt l k) (amt m k) := by unfold Z86; rw [a1, a2]
  simp only [k86] at hok
  refine ea_round hk (fun d hd => ?_) (fun h => ?_) (fun l0 h => ?_) (fun h => ?_) (fun l0 h1 h2 h => ?_) (fun n => rfl) rfl ?_
  · have b1 := amt_lt hl d
    have b2 := amt_lt hm d
    have := ho d hd
    simp only [o86, k86] at this ⊢
    omega
  · have h' := h
    simp only [o86] at h'
    exact goes (ctx_ok tC4_ok 36) mixed rfl (gs := []) (gh := []) (orc := way []) (stops := []) (f := 3000) (k := [.code (roundOf 0 (bodyOf Try.f91))]) (o := .norm) (σ := (kn (eaS true false G86 l m k .nil) (eaH true false Gh86 l m))) (cs := [(↑k : Int) < (8 : Int), True, True, True, True, True, True ∧ (0 : Int) ≤ (↑k : Int), True, True, ((60 : TypeId) = (60 : TypeId) ∧ List.length m = List.length m ∧ List.length m < (4096 : Nat) ∧ Coi (rowL m) (List.length m)) ∧ (0 : Int) ≤ (↑k : Int), amt [] k < TOP ∧ amt (lst (rowL m) (List.length m)) k < TOP, True, True, True, True, True, True, True, True, True, True, True, ((0 : Int) ≤ (↑k : Int) ∧ (↑k : Int) < (256 : Int)) ∧ List.length (Purse.lst (Purse.one k (amt [] k - amt (lst (rowL m) (List.length m)) k))) = (0 : Nat), True, True, (0 : Int) ≤ (↑k : Int) + (1 : Int) ∧ (↑k : Int) + (1 : Int) < (256 : Int), True]) (k' := []) (o' := .norm) (S := (eaS true false G86 l m (k + 1) .nil)) (H := (eaH true false Gh86 l m)) (by kernel_rfl) (by kernel_rfl) (by
      simp only [conj, and_true, true_and, l1, l2, c1, c2, hl.1, hm.1, Int.toNat_natCast]
      have g1 := hok; have g2 := b1; have g3 := b2; have g4 := h'
      (try simp only [ha rfl] at g1 g2 g3 g4); (try simp only [hc rfl] at g1 g2 g3 g4)
      omega)
  · have h' := h
    simp only [o86] at h'
    exact goes (ctx_ok tC4_ok 36) mixed rfl (gs := []) (gh := []) (orc := way []) (stops := []) (f := 3000) (k := [.code (roundOf 0 (bodyOf Try.f91))]) (o := .norm) (σ := (kn (eaS true false G86 l m k (.sl 500 5 0 l0.length)) (rw5 l0 :: eaH true false Gh86 l m))) (cs := [(↑k : Int) < (8 : Int), True, True, True, True, True, True ∧ (0 : Int) ≤ (↑k : Int), True, True, ((60 : TypeId) = (60 : TypeId) ∧ List.length m = List.length m ∧ List.length m < (4096 : Nat) ∧ Coi (rowL m) (List.length m)) ∧ (0 : Int) ≤ (↑k : Int), amt [] k < TOP ∧ amt (lst (rowL m) (List.length m)) k < TOP, True, True, True, True, True, True, True, True, True, True, True, ((0 : Int) ≤ (↑k : Int) ∧ (↑k : Int) < (256 : Int)) ∧ List.length (Purse.lst (Purse.one k (amt [] k - amt (lst (rowL m) (List.length m)) k))) = (0 : Nat), List.length l0 = List.length l0, True, (0 : Int) ≤ (↑k : Int) + (1 : Int) ∧ (↑k : Int) + (1 : Int) < (256 : Int), True]) (k' := []) (o' := .norm) (S := (eaS true false G86 l m (k + 1) (.sl 500 5 0 l0.length))) (H := (rw5 l0 :: eaH true false Gh86 l m)) (by kernel_rfl) (by kernel_rfl) (by
      simp only [conj, and_true, true_and, l1, l2, c1, c2, hl.1, hm.1, Int.toNat_natCast]
      have g1 := hok; have g2 := b1; have g3 := b2; have g4 := h'
      (try simp only [ha rfl] at g1 g2 g3 g4); (try simp only [hc rfl] at g1 g2 g3 g4)
      omega)
  · have h' := h
    have h8 := (Purse.one k (o86 (amt l k) (amt m k))).len_le
    unfold Purse.len at h8
    simp only [o86] at h' h8
    show Goes _ _ _ _ _ _ fun k' o σ => k' = [] ∧ o = .norm ∧ σ = kn (eaS true false G86 l m (k + 1) (.sl 33 5 0 (Purse.one k (o86 (amt l k) (amt m k))).lst.length)) ((33, Bk.row true 60 5 (Purse.one k (o86 (amt l k) (amt m k))).lst.length (apL0 (Purse.one k (o86 (amt l k) (amt m k))).lst)) :: eaH true false Gh86 l m)
    rw [← hz]
    exact goes (ctx_ok tC4_ok 36) mixed rfl (gs := []) (gh := []) (orc := way [(32, 1)]) (stops := []) (f := 3000) (k := [.code (roundOf 0 (bodyOf Try.f91))]) (o := .norm) (σ := (kn (eaS true false G86 l m k .nil) (eaH true false Gh86 l m))) (cs := [(↑k : Int) < (8 : Int), True, True, True, True, True, True ∧ (0 : Int) ≤ (↑k : Int), True, True, ((60 : TypeId) = (60 : TypeId) ∧ List.length m = List.length m ∧ List.length m < (4096 : Nat) ∧ Coi (rowL m) (List.length m)) ∧ (0 : Int) ≤ (↑k : Int), amt [] k < TOP ∧ amt (lst (rowL m) (List.length m)) k < TOP, True, True, True, True, True, True, True, True, True, True, True, ((0 : Int) ≤ (↑k : Int) ∧ (↑k : Int) < (256 : Int)) ∧ (0 : Nat) < List.length (Purse.lst (Purse.one k (amt [] k - amt (lst (rowL m) (List.length m)) k))), (0 : Nat) < List.length (Purse.lst (Purse.one k (amt [] k - amt (lst (rowL m) (List.length m)) k))) ∧ (0 : Nat) + List.length (Purse.lst (Purse.one k (amt [] k - amt (lst (rowL m) (List.length m)) k))) ≤ List.length (Purse.lst (Purse.one k (amt [] k - amt (lst (rowL m) (List.length m)) k))) ∧ List.length (Purse.lst (Purse.one k (amt [] k - amt (lst (rowL m) (List.length m)) k))) * (40 : Nat) ≤ (140737488355328 : Nat), True, (0 : Int) ≤ (↑k : Int) + (1 : Int) ∧ (↑k : Int) + (1 : Int) < (256 : Int), True]) (k' := []) (o' := .norm) (S := (eaS true false G86 l m (k + 1) (.sl 33 5 0 (Purse.one k (Z86 true false l m k)).lst.length))) (H := ((33, Bk.row true 60 5 (Purse.one k (Z86 true false l m k)).lst.length (apL0 (Purse.one k (Z86 true false l m k)).lst)) :: eaH true false Gh86 l m)) (by kernel_rfl) (by kernel_rfl) (by
      simp only [conj, and_true, true_and, l1, l2, c1, c2, hl.1, hm.1, Int.toNat_natCast]
      have g1 := hok; have g2 := b1; have g3 := b2; have g4 := h'; have g5 := h8
      (try simp only [ha rfl] at g1 g2 g3 g4 g5); (try simp only [hc rfl] at g1 g2 g3 g4 g5)
      omega)
  · have h' := h
    have h8 := (Purse.one k (o86 (amt l k) (amt m k))).len_le
    unfold Purse.len at h8
    simp only [o86] at h' h8
    show Goes _ _ _ _ _ _ fun k' o σ => k' = [] ∧ o = .norm ∧ σ = kn (eaS true false G86 l m (k + 1) (.sl 33 5 0 (l0.length + (Purse.one k (o86 (amt l k) (amt m k))).lst.length))) ((33, Bk.row true 60 5 (l0.length + (Purse.one k (o86 (amt l k) (amt m k))).lst.length) (apL l0 (Purse.one k (o86 (amt l k) (amt m k))).lst)) :: eaH true false Gh86 l m)
    rw [← hz]
    exact goes (ctx_ok tC4_ok 36) mixed rfl (gs := []) (gh := []) (orc := way [(32, 1)]) (stops := []) (f := 3000) (k := [.code (roundOf 0 (bodyOf Try.f91))]) (o := .norm) (σ := (kn (eaS true false G86 l m k (.sl 500 5 0 l0.length)) (rw5 l0 :: eaH true false Gh86 l m))) (cs := [(↑k : Int) < (8 : Int), True, True, True, True, True, True ∧ (0 : Int) ≤ (↑k : Int), True, True, ((60 : TypeId) = (60 : TypeId) ∧ List.length m = List.length m ∧ List.length m < (4096 : Nat) ∧ Coi (rowL m) (List.length m)) ∧ (0 : Int) ≤ (↑k : Int), amt [] k < TOP ∧ amt (lst (rowL m) (List.length m)) k < TOP, True, True, True, True, True, True, True, True, True, True, True, ((0 : Int) ≤ (↑k : Int) ∧ (↑k : Int) < (256 : Int)) ∧ (0 : Nat) < List.length (Purse.lst (Purse.one k (amt [] k - amt (lst (rowL m) (List.length m)) k))), List.length l0 = List.length l0 ∧ (0 : Nat) < List.length (Purse.lst (Purse.one k (amt [] k - amt (lst (rowL m) (List.length m)) k))) ∧ (0 : Nat) + List.length (Purse.lst (Purse.one k (amt [] k - amt (lst (rowL m) (List.length m)) k))) ≤ List.length (Purse.lst (Purse.one k (amt [] k - amt (lst (rowL m) (List.length m)) k))) ∧ (List.length l0 + List.length (Purse.lst (Purse.one k (amt [] k - amt (lst (rowL m) (List.length m)) k)))) * (40 : Nat) ≤ (140737488355328 : Nat), True, (0 : Int) ≤ (↑k : Int) + (1 : Int) ∧ (↑k : Int) + (1 : Int) < (256 : Int), True]) (k' := []) (o' := .norm) (S := (eaS true false G86 l m (k + 1) (.sl 33 5 0 (l0.length + (Purse.one k (Z86 true false l m k)).lst.length)))) (H := ((33, Bk.row true 60 5 (l0.length + (Purse.one k (Z86 true false l m k)).lst.length) (apL l0 (Purse.one k (Z86 true false l m k)).lst)) :: eaH true false Gh86 l m)) (by kernel_rfl) (by kernel_rfl) (by
      simp only [conj, and_true, true_and, l1, l2, c1, c2, hl.1, hm.1, Int.toNat_natCast]
      have g1 := hok; have g2 := b1; have g3 := b2; have g4 := h'; have g5 := h8
      (try simp only [ha rfl] at g1 g2 g3 g4 g5); (try simp only [hc rfl] at g1 g2 g3 g4 g5)
      omega)
  · simp [eaH, inH, Gh86]

theorem ez86_false_true {w0 : Base} {l m : Cs} (hl : okC l) (hm : okC m) (ha : false = true → l = []) (hc : true = true → m = []) {k : Nat} (hk : k < 8) (ho : ∀ d, d ≤ k → k86 (amt l d) (amt m d)) :
    Goes Try.prog Try.f91.ntmps w0 [.code (roundOf 0 (bodyOf Try.f91))] .norm (eaSt (eaS false true G86 l m) (eaH false true Gh86 l m) (fun d => o86 (amt l d) (amt m d)) k)
    fun k' o σ => k' = [] ∧ o = .norm ∧ ∃ σ0, σ = σ0 ∧ ∀ {nt : Nat} {kk : List Fr} {Z : List Fr → Out → Ms → Prop}, Goes Try.prog nt w0 kk .norm (eaSt (eaS false true G86 l m) (eaH false true Gh86 l m) (fun d => o86 (amt l d) (amt m d)) (k + 1)) Z → Goes Try.prog nt w0 kk .norm σ0 Z := by
  have ht := top_eq
  have c1 : Coi (rowL l) l.length := Coi_rowL hl.2
  have c2 : Coi (rowL m) m.length := Coi_rowL hm.2
  have l1 := lst_rowL l
  have l2 := lst_rowL m
  have hok := ho k (Nat.le_refl _)
  have b1 := amt_lt hl k
  have b2 := amt_lt hm k
  have a1 : laA false l = l := laA_eq ha
  have a2 : laA true m = m := laA_eq hc
  have hz : Z86 false true l m k = o86 (amt l k) (amt m k) := by unfold Z86; rw [a1, a2]
  simp only [k86] at hok
  refine ea_round hk (fun d hd => ?_) (fun h => ?_) (fun l0 h => ?_) (fun h => ?_) (fun l0 h1 h2 h => ?_) (fun n => rfl) rfl ?_
  · have b1 := amt_lt hl d
    have b2 := amt_lt hm d
    have := ho d hd
    simp only [o86, k86] at this ⊢
    omega
  · have h' := h
    simp only [o86] at h'
    exact goes (ctx_ok tC4_ok 36) mixed rfl (gs := []) (gh := []) (orc := way []) (stops := []) (f := 3000) (k := [.code (roundOf 0 (bodyOf Try.f91))]) (o := .norm) (σ := (kn (eaS false true G86 l m k .nil) (eaH false true Gh86 l m))) (cs := [(↑k : Int) < (8 : Int), True, True, True, True, True, ((60 : TypeId) = (60 : TypeId) ∧ List.length l = List.length l ∧ List.length l < (4096 : Nat) ∧ Coi (rowL l) (List.length l)) ∧ (0 : Int) ≤ (↑k : Int), True, True, True ∧ (0 : Int) ≤ (↑k : Int), amt (lst (rowL l) (List.length l)) k < TOP ∧ amt [] k < TOP, True, True, True, True, True, True, True, True, True, True, True, ((0 : Int) ≤ (↑k : Int) ∧ (↑k : Int) < (256 : Int)) ∧ List.length (Purse.lst (Purse.one k (amt (lst (rowL l) (List.length l)) k - amt [] k))) = (0 : Nat), True, True, (0 : Int) ≤ (↑k : Int) + (1 : Int) ∧ (↑k : Int) + (1 : Int) < (256 : Int), True]) (k' := []) (o' := .norm) (S := (eaS false true G86 l m (k + 1) .nil)) (H := (eaH false true Gh86 l m)) (by kernel_rfl) (by kernel_rfl) (by
      simp only [conj, and_true, true_and, l1, l2, c1, c2, hl.1, hm.1, Int.toNat_natCast]
      have g1 := hok; have g2 := b1; have g3 := b2; have g4 := h'
      (try simp only [ha rfl] at g1 g2 g3 g4); (try simp only [hc rfl] at g1 g2 g3 g4)
      omega)
  · have h' := h
    simp only [o86] at h'
    exact goes (ctx_ok tC4_ok 36) mixed rfl (gs := []) (gh := []) (orc := way []) (stops := []) (f := 3000) (k := [.code (roundOf 0 (bodyOf Try.f91))]) (o := .norm) (σ := (kn (eaS false true G86 l m k (.sl 500 5 0 l0.length)) (rw5 l0 :: eaH false true Gh86 l m))) (cs := [(↑k : Int) < (8 : Int), True, True, True, True, True, ((60 : TypeId) = (60 : TypeId) ∧ List.length l = List.length l ∧ List.length l < (4096 : Nat) ∧ Coi (rowL l) (List.length l)) ∧ (0 : Int) ≤ (↑k : Int), True, True, True ∧ (0 : Int) ≤ (↑k : Int), amt (lst (rowL l) (List.length l)) k < TOP ∧ amt [] k < TOP, True, True, True, True, True, True, True, True, True, True, True, ((0 : Int) ≤ (↑k : Int) ∧ (↑k : Int) < (256 : Int)) ∧ List.length (Purse.lst (Purse.one k (amt (lst (rowL l) (List.length l)) k - amt [] k))) = (0 : Nat), List.length l0 = List.length l0, True, (0 : Int) ≤ (↑k : Int) + (1 : Int) ∧ (↑k : Int) + (1 : Int) < (256 : Int), True]) (k' := []) (o' := .norm) (S := (eaS false true G86 l m (k + 1) (.sl 500 5 0 l0.length))) (H := (rw5 l0 :: eaH false true Gh86 l m)) (by kernel_rfl) (by kernel_rfl) (by
      simp only [conj, and_true, true_and, l1, l2, c1, c2, hl.1, hm.1, Int.toNat_natCast]
      have g1 := hok; have g2 := b1; have g3 := b2; have g4 := h'
      (try simp only [ha rfl] at g1 g2 g3 g4); (try simp only [hc rfl] at g1 g2 g3 g4)
      omega)
  · have h' := h
    have h8 := (Purse.one k (o86 (amt l k) (amt m k))).len_le
    unfold Purse.len at h8
    simp only [o86] at h' h8
    show Goes _ _ _ _ _ _ fun k' o σ => k' = [] ∧ o = .norm ∧ σ = kn (eaS false true G86 l m (k + 1) (.sl 33 5 0 (Purse.one k (o86 (amt l k) (amt m k))).lst.length)) ((33, Bk.row true 60 5 (Purse.one k (o86 (amt l k) (amt m k))).lst.length (apL0 (Purse.one k (o86 (amt l k) (amt m k))).lst)) :: eaH false true Gh86 l m)
    rw [← hz]
    exact goes (ctx_ok tC4_ok 36) mixed rfl (gs := []) (gh := []) (orc := way [(32, 1)]) (stops := []) (f := 3000) (k := [.code (roundOf 0 (bodyOf Try.f91))]) (o := .norm) (σ := (kn (eaS false true G86 l m k .nil) (eaH false true Gh86 l m))) (cs := [(↑k : Int) < (8 : Int), True, True, True, True, True, ((60 : TypeId) = (60 : TypeId) ∧ List.length l = List.length l ∧ List.length l < (4096 : Nat) ∧ Coi (rowL l) (List.length l)) ∧ (0 : Int) ≤ (↑k : Int), True, True, True ∧ (0 : Int) ≤ (↑k : Int), amt (lst (rowL l) (List.length l)) k < TOP ∧ amt [] k < TOP, True, True, True, True, True, True, True, True, True, True, True, ((0 : Int) ≤ (↑k : Int) ∧ (↑k : Int) < (256 : Int)) ∧ (0 : Nat) < List.length (Purse.lst (Purse.one k (amt (lst (rowL l) (List.length l)) k - amt [] k))), (0 : Nat) < List.length (Purse.lst (Purse.one k (amt (lst (rowL l) (List.length l)) k - amt [] k))) ∧ (0 : Nat) + List.length (Purse.lst (Purse.one k (amt (lst (rowL l) (List.length l)) k - amt [] k))) ≤ List.length (Purse.lst (Purse.one k (amt (lst (rowL l) (List.length l)) k - amt [] k))) ∧ List.length (Purse.lst (Purse.one k (amt (lst (rowL l) (List.length l)) k - amt [] k))) * (40 : Nat) ≤ (140737488355328 : Nat), True, (0 : Int) ≤ (↑k : Int) + (1 : Int) ∧ (↑k : Int) + (1 : Int) < (256 : Int), True]) (k' := []) (o' := .norm) (S := (eaS false true G86 l m (k + 1) (.sl 33 5 0 (Purse.one k (Z86 false true l m k)).lst.length))) (H := ((33, Bk.row true 60 5 (Purse.one k (Z86 false true l m k)).lst.length (apL0 (Purse.one k (Z86 false true l m k)).lst)) :: eaH false true Gh86 l m)) (by kernel_rfl) (by kernel_rfl) (by
      simp only [conj, and_true, true_and, l1, l2, c1, c2, hl.1, hm.1, Int.toNat_natCast]
      have g1 := hok; have g2 := b1; have g3 := b2; have g4 := h'; have g5 := h8
      (try simp only [ha rfl] at g1 g2 g3 g4 g5); (try simp only [hc rfl] at g1 g2 g3 g4 g5)
      omega)
  · have h' := h
    have h8 := (Purse.one k (o86 (amt l k) (amt m k))).len_le
    unfold Purse.len at h8
    simp only [o86] at h' h8
    show Goes _ _ _ _ _ _ fun k' o σ => k' = [] ∧ o = .norm ∧ σ = kn (eaS false true G86 l m (k + 1) (.sl 33 5 0 (l0.length + (Purse.one k (o86 (amt l k) (amt m k))).lst.length))) ((33, Bk.row true 60 5 (l0.length + (Purse.one k (o86 (amt l k) (amt m k))).lst.length) (apL l0 (Purse.one k (o86 (amt l k) (amt m k))).lst)) :: eaH false true Gh86 l m)
    rw [← hz]
    exact goes (ctx_ok tC4_ok 36) mixed rfl (gs := []) (gh := []) (orc := way [(32, 1)]) (stops := []) (f := 3000) (k := [.code (roundOf 0 (bodyOf Try.f91))]) (o := .norm) (σ := (kn (eaS false true G86 l m k (.sl 500 5 0 l0.length)) (rw5 l0 :: eaH false true Gh86 l m))) (cs := [(↑k : Int) < (8 : Int), True, True, True, True, True, ((60 : TypeId) = (60 : TypeId) ∧ List.length l = List.length l ∧ List.length l < (4096 : Nat) ∧ Coi (rowL l) (List.length l)) ∧ (0 : Int) ≤ (↑k : Int), True, True, True ∧ (0 : Int) ≤ (↑k : Int), amt (lst (rowL l) (List.length l)) k < TOP ∧ amt [] k < TOP, True, True, True, True, True, True, True, True, True, True, True, ((0 : Int) ≤ (↑k : Int) ∧ (↑k : Int) < (256 : Int)) ∧ (0 : Nat) < List.length (Purse.lst (Purse.one k (amt (lst (rowL l) (List.length l)) k - amt [] k))), List.length l0 = List.length l0 ∧ (0 : Nat) < List.length (Purse.lst (Purse.one k (amt (lst (rowL l) (List.length l)) k - amt [] k))) ∧ (0 : Nat) + List.length (Purse.lst (Purse.one k (amt (lst (rowL l) (List.length l)) k - amt [] k))) ≤ List.length (Purse.lst (Purse.one k (amt (lst (rowL l) (List.length l)) k - amt [] k))) ∧ (List.length l0 + List.length (Purse.lst (Purse.one k (amt (lst (rowL l) (List.length l)) k - amt [] k)))) * (40 : Nat) ≤ (140737488355328 : Nat), True, (0 : Int) ≤ (↑k : Int) + (1 : Int) ∧ (↑k : Int) + (1 : Int) < (256 : Int), True]) (k' := []) (o' := .norm) (S := (eaS false true G86 l m (k + 1) (.sl 33 5 0 (l0.length + (Purse.one k (Z86 false true l m k)).lst.length)))) (H := ((33, Bk.row true 60 5 (l0.length + (Purse.one k (Z86 false true l m k)).lst.length) (apL l0 (Purse.one k (Z86 false true l m k)).lst)) :: eaH false true Gh86 l m)) (by kernel_rfl) (by kernel_rfl) (by
      simp only [conj, and_true, true_and, l1, l2, c1, c2, hl.1, hm.1, Int.toNat_natCast]
      have g1 := hok; have g2 := b1; have g3 := b2; have g4 := h'; have g5 := h8
      (try simp only [ha rfl] at g1 g2 g3 g4 g5); (try simp only [hc rfl] at g1 g2 g3 g4 g5)
      omega)
  · simp [eaH, inH, Gh86]

theorem ez86_false_false {w0 : Base} {l m : Cs} (hl : okC l) (hm : okC m) (ha : false = true → l = []) (hc : false = true → m = []) {k : Nat} (hk : k < 8) (ho : ∀ d, d ≤ k → k86 (amt l d) (amt m d)) :
    Goes Try.prog Try.f91.ntmps w0 [.code (roundOf 0 (bodyOf Try.f91))] .norm (eaSt (eaS false false G86 l m) (eaH false false Gh86 l m) (fun d => o86 (amt l d) (amt m d)) k)
    fun k' o σ => k' = [] ∧ o = .norm ∧ ∃ σ0, σ = σ0 ∧ ∀ {nt : Nat} {kk : List Fr} {Z : List Fr → Out → Ms → Prop}, Goes Try.prog nt w0 kk .norm (eaSt (eaS false false G86 l m) (eaH false false Gh86 l m) (fun d => o86 (amt l d) (amt m d)) (k + 1)) Z → Goes Try.prog nt w0 kk .norm σ0 Z := by
  have ht := top_eq
  have c1 : Coi (rowL l) l.length := Coi_rowL hl.2
  have c2 : Coi (rowL m) m.length := Coi_rowL hm.2
  have l1 := lst_rowL l
  have l2 := lst_rowL m
  have hok := ho k (Nat.le_refl _)
  have b1 := amt_lt hl k
  have b2 := amt_lt hm k
  have a1 : laA false l = l := laA_eq ha
  have a2 : laA false m = m := laA_eq hc
  have hz : Z86 false false l m k = o86 (amt l k) (amt m k) := by unfold Z86; rw [a1, a2]
  simp only [k86] at hok
  refine ea_round hk (fun d hd => ?_) (fun h => ?_) (fun l0 h => ?_) (fun h => ?_) (fun l0 h1 h2 h => ?_) (fun n => rfl) rfl ?_
  · have b1 := amt_lt hl d
    have b2 := amt_lt hm d
    have := ho d hd
    simp only [o86, k86] at this ⊢
    omega
  · have h' := h
    simp only [o86] at h'
    exact goes (ctx_ok tC4_ok 36) mixed rfl (gs := []) (gh := []) (orc := way []) (stops := []) (f := 3000) (k := [.code (roundOf 0 (bodyOf Try.f91))]) (o := .norm) (σ := (kn (eaS false false G86 l m k .nil) (eaH false false Gh86 l m))) (cs := [(↑k : Int) < (8 : Int), True, True, True, True, True, ((60 : TypeId) = (60 : TypeId) ∧ List.length l = List.length l ∧ List.length l < (4096 : Nat) ∧ Coi (rowL l) (List.length l)) ∧ (0 : Int) ≤ (↑k : Int), True, True, ((60 : TypeId) = (60 : TypeId) ∧ List.length m = List.length m ∧ List.length m < (4096 : Nat) ∧ Coi (rowL m) (List.length m)) ∧ (0 : Int) ≤ (↑k : Int), amt (lst (rowL l) (List.length l)) k < TOP ∧ amt (lst (rowL m) (List.length m)) k < TOP, True, True, True, True, True, True, True, True, True, True, True, ((0 : Int) ≤ (↑k : Int) ∧ (↑k : Int) < (256 : Int)) ∧ List.length (Purse.lst (Purse.one k (amt (lst (rowL l) (List.length l)) k - amt (lst (rowL m) (List.length m)) k))) = (0 : Nat), True, True, (0 : Int) ≤ (↑k : Int) + (1 : Int) ∧ (↑k : Int) + (1 : Int) < (256 : Int), True]) (k' := []) (o' := .norm) (S := (eaS false false G86 l m (k + 1) .nil)) (H := (eaH false false Gh86 l m)) (by kernel_rfl) (by kernel_rfl) (by
      simp only [conj, and_true, true_and, l1, l2, c1, c2, hl.1, hm.1, Int.toNat_natCast]
      have g1 := hok; have g2 := b1; have g3 := b2; have g4 := h'
      (try simp only [ha rfl] at g1 g2 g3 g4); (try simp only [hc rfl] at g1 g2 g3 g4)
      omega)
  · have h' := h
    simp only [o86] at h'
    exact goes (ctx_ok tC4_ok 36) mixed rfl (gs := []) (gh := []) (orc := way []) (stops := []) (f := 3000) (k := [.code (roundOf 0 (bodyOf Try.f91))]) (o := .norm) (σ := (kn (eaS false false G86 l m k (.sl 500 5 0 l0.length)) (rw5 l0 :: eaH false false Gh86 l m))) (cs := [(↑k : Int) < (8 : Int), True, True, True, True, True, ((60 : TypeId) = (60 : TypeId) ∧ List.length l = List.length l ∧ List.length l < (4096 : Nat) ∧ Coi (rowL l) (List.length l)) ∧ (0 : Int) ≤ (↑k : Int), True, True, ((60 : TypeId) = (60 : TypeId) ∧ List.length m = List.length m ∧ List.length m < (4096 : Nat) ∧ Coi (rowL m) (List.length m)) ∧ (0 : Int) ≤ (↑k : Int), amt (lst (rowL l) (List.length l)) k < TOP ∧ amt (lst (rowL m) (List.length m)) k < TOP, True, True, True, True, True, True, True, True, True, True, True, ((0 : Int) ≤ (↑k : Int) ∧ (↑k : Int) < (256 : Int)) ∧ List.length (Purse.lst (Purse.one k (amt (lst (rowL l) (List.length l)) k - amt (lst (rowL m) (List.length m)) k))) = (0 : Nat), List.length l0 = List.length l0, True, (0 : Int) ≤ (↑k : Int) + (1 : Int) ∧ (↑k : Int) + (1 : Int) < (256 : Int), True]) (k' := []) (o' := .norm) (S := (eaS false false G86 l m (k + 1) (.sl 500 5 0 l0.length))) (H := (rw5 l0 :: eaH false false Gh86 l m)) (by kernel_rfl) (by kernel_rfl) (by
      simp only [conj, and_true, true_and, l1, l2, c1, c2, hl.1, hm.1, Int.toNat_natCast]
      have g1 := hok; have g2 := b1; have g3 := b2; have g4 := h'
      (try simp only [ha rfl] at g1 g2 g3 g4); (try simp only [hc rfl] at g1 g2 g3 g4)
      omega)
  · have h' := h
    have h8 := (Purse.one k (o86 (amt l k) (amt m k))).len_le
    unfold Purse.len at h8
    simp only [o86] at h' h8
    show Goes _ _ _ _ _ _ fun k' o σ => k' = [] ∧ o = .norm ∧ σ = kn (eaS false false G86 l m (k + 1) (.sl 33 5 0 (Purse.one k (o86 (amt l k) (amt m k))).lst.length)) ((33, Bk.row true 60 5 (Purse.one k (o86 (amt l k) (amt m k))).lst.length (apL0 (Purse.one k (o86 (amt l k) (amt m k))).lst)) :: eaH false false Gh86 l m)
    rw [← hz]
    exact goes (ctx_ok tC4_ok 36) mixed rfl (gs := []) (gh := []) (orc := way [(32, 1)]) (stops := []) (f := 3000) (k := [.code (roundOf 0 (bodyOf Try.f91))]) (o := .norm) (σ := (kn (eaS false false G86 l m k .nil) (eaH false false Gh86 l m))) (cs := [(↑k : Int) < (8 : Int), True, True, True, True, True, ((60 : TypeId) = (60 : TypeId) ∧ List.length l = List.length l ∧ List.length l < (4096 : Nat) ∧ Coi (rowL l) (List.length l)) ∧ (0 : Int) ≤ (↑k : Int), True, True, ((60 : TypeId) = (60 : TypeId) ∧ List.length m = List.length m ∧ List.length m < (4096 : Nat) ∧ Coi (rowL m) (List.length m)) ∧ (0 : Int) ≤ (↑k : Int), amt (lst (rowL l) (List.length l)) k < TOP ∧ amt (lst (rowL m) (List.length m)) k < TOP, True, True, True, True, True, True, True, True, True, True, True, ((0 : Int) ≤ (↑k : Int) ∧ (↑k : Int) < (256 : Int)) ∧ (0 : Nat) < List.length (Purse.lst (Purse.one k (amt (lst (rowL l) (List.length l)) k - amt (lst (rowL m) (List.length m)) k))), (0 : Nat) < List.length (Purse.lst (Purse.one k (amt (lst (rowL l) (List.length l)) k - amt (lst (rowL m) (List.length m)) k))) ∧ (0 : Nat) + List.length (Purse.lst (Purse.one k (amt (lst (rowL l) (List.length l)) k - amt (lst (rowL m) (List.length m)) k))) ≤ List.length (Purse.lst (Purse.one k (amt (lst (rowL l) (List.length l)) k - amt (lst (rowL m) (List.length m)) k))) ∧ List.length (Purse.lst (Purse.one k (amt (lst (rowL l) (List.length l)) k - amt (lst (rowL m) (List.length m)) k))) * (40 : Nat) ≤ (140737488355328 : Nat), True, (0 : Int) ≤ (↑k : Int) + (1 : Int) ∧ (↑k : Int) + (1 : Int) < (256 : Int), True]) (k' := []) (o' := .norm) (S := (eaS false false G86 l m (k + 1) (.sl 33 5 0 (Purse.one k (Z86 false false l m k)).lst.length))) (H := ((33, Bk.row true 60 5 (Purse.one k (Z86 false false l m k)).lst.length (apL0 (Purse.one k (Z86 false false l m k)).lst)) :: eaH false false Gh86 l m)) (by kernel_rfl) (by kernel_rfl) (by
      simp only [conj, and_true, true_and, l1, l2, c1, c2, hl.1, hm.1, Int.toNat_natCast]
      have g1 := hok; have g2 := b1; have g3 := b2; have g4 := h'; have g5 := h8
      (try simp only [ha rfl] at g1 g2 g3 g4 g5); (try simp only [hc rfl] at g1 g2 g3 g4 g5)
      omega)
  · have h' := h
    have h8 := (Purse.one k (o86 (amt l k) (amt m k))).len_le
    unfold Purse.len at h8
    simp only [o86] at h' h8
    show Goes _ _ _ _ _ _ fun k' o σ => k' = [] ∧ o = .norm ∧ σ = kn (eaS false false G86 l m (k + 1) (.sl 33 5 0 (l0.length + (Purse.one k (o86 (amt l k) (amt m k))).lst.length))) ((33, Bk.row true 60 5 (l0.length + (Purse.one k (o86 (amt l k) (amt m k))).lst.length) (apL l0 (Purse.one k (o86 (amt l k) (amt m k))).lst)) :: eaH false false Gh86 l m)
    rw [← hz]
    exact goes (ctx_ok tC4_ok 36) mixed rfl (gs := []) (gh := []) (orc := way [(32, 1)]) (stops := []) (f := 3000) (k := [.code (roundOf 0 (bodyOf Try.f91))]) (o := .norm) (σ := (kn (eaS false false G86 l m k (.sl 500 5 0 l0.length)) (rw5 l0 :: eaH false false Gh86 l m))) (cs := [(↑k : Int) < (8 : Int), True, True, True, True, True, ((60 : TypeId) = (60 : TypeId) ∧ List.length l = List.length l ∧ List.length l < (4096 : Nat) ∧ Coi (rowL l) (List.length l)) ∧ (0 : Int) ≤ (↑k : Int), True, True, ((60 : TypeId) = (60 : TypeId) ∧ List.length m = List.length m ∧ List.length m < (4096 : Nat) ∧ Coi (rowL m) (List.length m)) ∧ (0 : Int) ≤ (↑k : Int), amt (lst (rowL l) (List.length l)) k < TOP ∧ amt (lst (rowL m) (List.length m)) k < TOP, True, True, True, True, True, True, True, True, True, True, True, ((0 : Int) ≤ (↑k : Int) ∧ (↑k : Int) < (256 : Int)) ∧ (0 : Nat) < List.length (Purse.lst (Purse.one k (amt (lst (rowL l) (List.length l)) k - amt (lst (rowL m) (List.length m)) k))), List.length l0 = List.length l0 ∧ (0 : Nat) < List.length (Purse.lst (Purse.one k (amt (lst (rowL l) (List.length l)) k - amt (lst (rowL m) (List.length m)) k))) ∧ (0 : Nat) + List.length (Purse.lst (Purse.one k (amt (lst (rowL l) (List.length l)) k - amt (lst (rowL m) (List.length m)) k))) ≤ List.length (Purse.lst (Purse.one k (amt (lst (rowL l) (List.length l)) k - amt (lst (rowL m) (List.length m)) k))) ∧ (List.length l0 + List.length (Purse.lst (Purse.one k (amt (lst (rowL l) (List.length l)) k - amt (lst (rowL m) (List.length m)) k)))) * (40 : Nat) ≤ (140737488355328 : Nat), True, (0 : Int) ≤ (↑k : Int) + (1 : Int) ∧ (↑k : Int) + (1 : Int) < (256 : Int), True]) (k' := []) (o' := .norm) (S := (eaS false false G86 l m (k + 1) (.sl 33 5 0 (l0.length + (Purse.one k (Z86 false false l m k)).lst.length)))) (H := ((33, Bk.row true 60 5 (l0.length + (Purse.one k (Z86 false false l m k)).lst.length) (apL l0 (Purse.one k (Z86 false false l m k)).lst)) :: eaH false false Gh86 l m)) (by kernel_rfl) (by kernel_rfl) (by
      simp only [conj, and_true, true_and, l1, l2, c1, c2, hl.1, hm.1, Int.toNat_natCast]
      have g1 := hok; have g2 := b1; have g3 := b2; have g4 := h'; have g5 := h8
      (try simp only [ha rfl] at g1 g2 g3 g4 g5); (try simp only [hc rfl] at g1 g2 g3 g4 g5)
      omega)
  · simp [eaH, inH, Gh86]

theorem ez87_true_true {w0 : Base} {l m : Cs} (hl : okC l) (hm : okC m) (ha : true = true → l = []) (hc : true = true → m = []) {k : Nat} (hk : k < 8) (ho : ∀ d, d ≤ k → k87 (amt l d) (amt m d)) :
    Goes Try.prog Try.f91.ntmps w0 [.code (roundOf 0 (bodyOf Try.f91))] .norm (eaSt (eaS true true G87 l m) (eaH true true Gh87 l m) (fun d => o87 (amt l d) (amt m d)) k)
    fun k' o σ => k' = [] ∧ o = .norm ∧ ∃ σ0, σ = σ0 ∧ ∀ {nt : Nat} {kk : List Fr} {Z : List Fr → Out → Ms → Prop}, Goes Try.prog nt w0 kk .norm (eaSt (eaS true true G87 l m) (eaH true true Gh87 l m) (fun d => o87 (amt l d) (amt m d)) (k + 1)) Z → Goes Try.prog nt w0 kk .norm σ0 Z := by
  have ht := top_eq
  have c1 : Coi (rowL l) l.length := Coi_rowL hl.2
  have c2 : Coi (rowL m) m.length := Coi_rowL hm.2
  have l1 := lst_rowL l
  have l2 := lst_rowL m
  have hok := ho k (Nat.le_refl _)
  have b1 := amt_lt hl k
  have b2 := amt_lt hm k
  have a1 : laA true l = l := laA_eq ha
  have a2 : laA true m = m := laA_eq hc
  have hz : Z87 true true l m k = o87 (amt l k) (amt m k) := by unfold Z87; rw [a1, a2]
  simp only [k87] at hok
  refine ea_round hk (fun d hd => ?_) (fun h => ?_) (fun l0 h => ?_) (fun h => ?_) (fun l0 h1 h2 h => ?_) (fun n => rfl) rfl ?_
  · have b1 := amt_lt hl d
    have b2 := amt_lt hm d
    have := ho d hd
    simp only [o87, k87] at this ⊢
    omega
  · have h' := h
    simp only [o87] at h'
    exact goes (ctx_ok tC4_ok 36) mixed rfl (gs := []) (gh := []) (orc := way []) (stops := []) (f := 3000) (k := [.code (roundOf 0 (bodyOf Try.f91))]) (o := .norm) (σ := (kn (eaS true true G87 l m k .nil) (eaH true true Gh87 l m))) (cs := [(↑k : Int) < (8 : Int), True, True, True, True, True, True ∧ (0 : Int) ≤ (↑k : Int), True, True, True ∧ (0 : Int) ≤ (↑k : Int), amt [] k < TOP ∧ amt [] k < TOP, True, True, True, True, True, True, True, True, True, True, True, ((0 : Int) ≤ (↑k : Int) ∧ (↑k : Int) < (256 : Int)) ∧ List.length (Purse.lst (Purse.one k (min (amt [] k) (amt [] k)))) = (0 : Nat), True, True, (0 : Int) ≤ (↑k : Int) + (1 : Int) ∧ (↑k : Int) + (1 : Int) < (256 : Int), True]) (k' := []) (o' := .norm) (S := (eaS true true G87 l m (k + 1) .nil)) (H := (eaH true true Gh87 l m)) (by kernel_rfl) (by kernel_rfl) (by
      simp only [conj, and_true, true_and, l1, l2, c1, c2, hl.1, hm.1, Int.toNat_natCast]
      have g1 := hok; have g2 := b1; have g3 := b2; have g4 := h'
      (try simp only [ha rfl] at g1 g2 g3 g4); (try simp only [hc rfl] at g1 g2 g3 g4)
      omega)
  · have h' := h
    simp only [o87] at h'
    exact goes (ctx_ok tC4_ok 36) mixed rfl (gs := []) (gh := []) (orc := way []) (stops := []) (f := 3000) (k := [.code (roundOf 0 (bodyOf Try.f91))]) (o := .norm) (σ := (kn (eaS true true G87 l m k (.sl 500 5 0 l0.length)) (rw5 l0 :: eaH true true Gh87 l m))) (cs := [(↑k : Int) < (8 : Int), True, True, True, True, True, True ∧ (0 : Int) ≤ (↑k : Int), True, True, True ∧ (0 : Int) ≤ (↑k : Int), amt [] k < TOP ∧ amt [] k < TOP, True, True, True, True, True, True, True, True, True, True, True, ((0 : Int) ≤ (↑k : Int) ∧ (↑k : Int) < (256 : Int)) ∧ List.length (Purse.lst (Purse.one k (min (amt [] k) (amt [] k)))) = (0 : Nat), List.length l0 = List.length l0, True, (0 : Int) ≤ (↑k : Int) + (1 : Int) ∧ (↑k : Int) + (1 : Int) < (256 : Int), True]) (k' := []) (o' := .norm) (S := (eaS true true G87 l m (k + 1) (.sl 500 5 0 l0.length))) (H := (rw5 l0 :: eaH true true Gh87 l m)) (by kernel_rfl) (by kernel_rfl) (by
      simp only [conj, and_true, true_and, l1, l2, c1, c2, hl.1, hm.1, Int.toNat_natCast]
      have g1 := hok; have g2 := b1; have g3 := b2; have g4 := h'
      (try simp only [ha rfl] at g1 g2 g3 g4); (try simp only [hc rfl] at g1 g2 g3 g4)
      omega)
  · have h' := h
    have h8 := (Purse.one k (o87 (amt l k) (amt m k))).len_le
    unfold Purse.len at h8
    simp only [o87] at h' h8
    show Goes _ _ _ _ _ _ fun k' o σ => k' = [] ∧ o = .norm ∧ σ = kn (eaS true true G87 l m (k + 1) (.sl 33 5 0 (Purse.one k (o87 (amt l k) (amt m k))).lst.length)) ((33, Bk.row true 60 5 (Purse.one k (o87 (amt l k) (amt m k))).lst.length (apL0 (Purse.one k (o87 (amt l k) (amt m k))).lst)) :: eaH true true Gh87 l m)
    rw [← hz]
    exact goes (ctx_ok tC4_ok 36) mixed rfl (gs := []) (gh := []) (orc := way [(32, 1)]) (stops := []) (f := 3000) (k := [.code (roundOf 0 (bodyOf Try.f91))]) (o := .norm) (σ := (kn (eaS true true G87 l m k .nil) (eaH true true Gh87 l m))) (cs := [(↑k : Int) < (8 : Int), True, True, True, True, True, True ∧ (0 : Int) ≤ (↑k : Int), True, True, True ∧ (0 : Int) ≤ (↑k : Int), amt [] k < TOP ∧ amt [] k < TOP, True, True, True, True, True, True, True, True, True, True, True, ((0 : Int) ≤ (↑k : Int) ∧ (↑k : Int) < (256 : Int)) ∧ (0 : Nat) < List.length (Purse.lst (Purse.one k (min (amt [] k) (amt [] k)))), (0 : Nat) < List.length (Purse.lst (Purse.one k (min (amt [] k) (amt [] k)))) ∧ (0 : Nat) + List.length (Purse.lst (Purse.one k (min (amt [] k) (amt [] k)))) ≤ List.length (Purse.lst (Purse.one k (min (amt [] k) (amt [] k)))) ∧ List.length (Purse.lst (Purse.one k (min (amt [] k) (amt [] k)))) * (40 : Nat) ≤ (140737488355328 : Nat), True, (0 : Int) ≤ (↑k : Int) + (1 : Int) ∧ (↑k : Int) + (1 : Int) < (256 : Int), True]) (k' := []) (o' := .norm) (S := (eaS true true G87 l m (k + 1) (.sl 33 5 0 (Purse.one k (Z87 true true l m k)).lst.length))) (H := ((33, Bk.row true 60 5 (Purse.one k (Z87 true true l m k)).lst.length (apL0 (Purse.one k (Z87 true true l m k)).lst)) :: eaH true true Gh87 l m)) (by kernel_rfl) (by kernel_rfl) (by
      simp only [conj, and_true, true_and, l1, l2, c1, c2, hl.1, hm.1, Int.toNat_natCast]
      have g1 := hok; have g2 := b1; have g3 := b2; have g4 := h'; have g5 := h8
      (try simp only [ha rfl] at g1 g2 g3 g4 g5); (try simp only [hc rfl] at g1 g2 g3 g4 g5)
      omega)
  · have h' := h
    have h8 := (Purse.one k (o87 (amt l k) (amt m k))).len_le
    unfold Purse.len at h8
    simp only [o87] at h' h8
    show Goes _ _ _ _ _ _ fun k' o σ => k' = [] ∧ o = .norm ∧ σ = kn (eaS true true G87 l m (k + 1) (.sl 33 5 0 (l0.length + (Purse.one k (o87 (amt l k) (amt m k))).lst.length))) ((33, Bk.row true 60 5 (l0.length + (Purse.one k (o87 (amt l k) (amt m k))).lst.length) (apL l0 (Purse.one k (o87 (amt l k) (amt m k))).lst)) :: eaH true true Gh87 l m)
    rw [← hz]
    exact goes (ctx_ok tC4_ok 36) mixed rfl (gs := []) (gh := []) (orc := way [(32, 1)]) (stops := []) (f := 3000) (k := [.code (roundOf 0 (bodyOf Try.f91))]) (o := .norm) (σ := (kn (eaS true true G87 l m k (.sl 500 5 0 l0.length)) (rw5 l0 :: eaH true true Gh87 l m))) (cs := [(↑k : Int) < (8 : Int), True, True, True, True, True, True ∧ (0 : Int) ≤ (↑k : Int), True, True, True ∧ (0 : Int) ≤ (↑k : Int), amt [] k < TOP ∧ amt [] k < TOP, True, True, True, True, True, True, True, True, True, True, True, ((0 : Int) ≤ (↑k : Int) ∧ (↑k : Int) < (256 : Int)) ∧ (0 : Nat) < List.length (Purse.lst (Purse.one k (min (amt [] k) (amt [] k)))), List.length l0 = List.length l0 ∧ (0 : Nat) < List.length (Purse.lst (Purse.one k (min (amt [] k) (amt [] k)))) ∧ (0 : Nat) + List.length (Purse.lst (Purse.one k (min (amt [] k) (amt [] k)))) ≤ List.length (Purse.lst (Purse.one k (min (amt [] k) (amt [] k)))) ∧ (List.length l0 + List.length (Purse.lst (Purse.one k (min (amt [] k) (amt [] k))))) * (40 : Nat) ≤ (140737488355328 : Nat), True, (0 : Int) ≤ (↑k : Int) + (1 : Int) ∧ (↑k : Int) + (1 : Int) < (256 : Int), True]) (k' := []) (o' := .norm) (S := (eaS true true G87 l m (k + 1) (.sl 33 5 0 (l0.length + (Purse.one k (Z87 true true l m k)).lst.length)))) (H := ((33, Bk.row true 60 5 (l0.length + (Purse.one k (Z87 true true l m k)).lst.length) (apL l0 (Purse.one k (Z87 true true l m k)).lst)) :: eaH true true Gh87 l m)) (by kernel_rfl) (by kernel_rfl) (by
      simp only [conj, and_true, true_and, l1, l2, c1, c2, hl.1, hm.1, Int.toNat_natCast]
      have g1 := hok; have g2 := b1; have g3 := b2; have g4 := h'; have g5 := h8
      (try simp only [ha rfl] at g1 g2 g3 g4 g5); (try simp only [hc rfl] at g1 g2 g3 g4 g5)
      omega)
  · simp [eaH, inH, Gh87]

theorem ez87_true_false {w0 : Base} {l m : Cs} (hl : okC l) (hm : okC m) (ha : true = true → l = []) (hc : false = true → m = []) {k : Nat} (hk : k < 8) (ho : ∀ d, d ≤ k → k87 (amt l d) (amt m d)) :
    Goes Try.prog Try.f91.ntmps w0 [.code (roundOf 0 (bodyOf Try.f91))] .norm (eaSt (eaS true false G87 l m) (eaH true false Gh87 l m) (fun d => o87 (amt l d) (amt m d)) k)
    fun k' o σ => k' = [] ∧ o = .norm ∧ ∃ σ0, σ = σ0 ∧ ∀ {nt : Nat} {kk : List Fr} {Z : List Fr → Out → Ms → Prop}, Goes Try.prog nt w0 kk .norm (eaSt (eaS true false G87 l m) (eaH true false Gh87 l m) (fun d => o87 (amt l d) (amt m d)) (k + 1)) Z → Goes Try.prog nt w0 kk .norm σ0 Z := by
  have ht := top_eq
  have c1 : Coi (rowL l) l.length := Coi_rowL hl.2
  have c2 : Coi (rowL m) m.length := Coi_rowL hm.2
  have l1 := lst_rowL l
  have l2 := lst_rowL m
  have hok := ho k (Nat.le_refl _)
  have b1 := amt_lt hl k
  have b2 := amt_lt hm k
  have a1 : laA true l = l := laA_eq ha
  have a2 : laA false m = m := laA_eq hc
  have hz : Z87 true false l m k = o87 (amt l k) (amt m k) := by unfold Z87; rw [a1, a2]
  simp only [k87] at hok
  refine ea_round hk (fun d hd => ?_) (fun h => ?_) (fun l0 h => ?_) (fun h => ?_) (fun l0 h1 h2 h => ?_) (fun n => rfl) rfl ?_
  · have b1 := amt_lt hl d
    have b2 := amt_lt hm d
    have := ho d hd
    simp only [o87, k87] at this ⊢
    omega
  · have h' := h
    simp only [o87] at h'
    exact goes (ctx_ok tC4_ok 36) mixed rfl (gs := []) (gh := []) (orc := way []) (stops := []) (f := 3000) (k := [.code (roundOf 0 (bodyOf Try.f91))]) (o := .norm) (σ := (kn (eaS true false G87 l m k .nil) (eaH true false Gh87 l m))) (cs := [(↑k : Int) < (8 : Int), True, True, True, True, True, True ∧ (0 : Int) ≤ (↑k : Int), True, True, ((60 : TypeId) = (60 : TypeId) ∧ List.length m = List.length m ∧ List.length m < (4096 : Nat) ∧ Coi (rowL m) (List.length m)) ∧ (0 : Int) ≤ (↑k : Int), amt [] k < TOP ∧ amt (lst (rowL m) (List.length m)) k < TOP, True, True, True, True, True, True, True, True, True, True, True, ((0 : Int) ≤ (↑k : Int) ∧ (↑k : Int) < (256 : Int)) ∧ List.length (Purse.lst (Purse.one k (min (amt [] k) (amt (lst (rowL m) (List.length m)) k)))) = (0 : Nat), True, True, (0 : Int) ≤ (↑k : Int) + (1 : Int) ∧ (↑k : Int) + (1 : Int) < (256 : Int), True]) (k' := []) (o' := .norm) (S := (eaS true false G87 l m (k + 1) .nil)) (H := (eaH true false Gh87 l m)) (by kernel_rfl) (by kernel_rfl) (by
      simp only [conj, and_true, true_and, l1, l2, c1, c2, hl.1, hm.1, Int.toNat_natCast]
      have g1 := hok; have g2 := b1; have g3 := b2; have g4 := h'
      (try simp only [ha rfl] at g1 g2 g3 g4); (try simp only [hc rfl] at g1 g2 g3 g4)
      omega)
  · have h' := h
    simp only [o87] at h'
    exact goes (ctx_ok tC4_ok 36) mixed rfl (gs := []) (gh := []) (orc := way []) (stops := []) (f := 3000) (k := [.code (roundOf 0 (bodyOf Try.f91))]) (o := .norm) (σ := (kn (eaS true false G87 l m k (.sl 500 5 0 l0.length)) (rw5 l0 :: eaH true false Gh87 l m))) (cs := [(↑k : Int) < (8 : Int), True, True, True, True, True, True ∧ (0 : Int) ≤ (↑k : Int), True, True, ((60 : TypeId) = (60 : TypeId) ∧ List.length m = List.length m ∧ List.length m < (4096 : Nat) ∧ Coi (rowL m) (List.length m)) ∧ (0 : Int) ≤ (↑k : Int), amt [] k < TOP ∧ amt (lst (rowL m) (List.length m)) k < TOP, True, True, True, True, True, True, True, True, True, True, True, ((0 : Int) ≤ (↑k : Int) ∧ (↑k : Int) < (256 : Int)) ∧ List.length (Purse.lst (Purse.one k (min (amt [] k) (amt (lst (rowL m) (List.length m)) k)))) = (0 : Nat), List.length l0 = List.length l0, True, (0 : Int) ≤ (↑k : Int) + (1 : Int) ∧ (↑k : Int) + (1 : Int) < (256 : Int), True]) (k' := []) (o' := .norm) (S := (eaS true false G87 l m (k + 1) (.sl 500 5 0 l0.length))) (H := (rw5 l0 :: eaH true false Gh87 l m)) (by kernel_rfl) (by kernel_rfl) (by
      simp only [conj, and_true, true_and, l1, l2, c1, c2, hl.1, hm.1, Int.toNat_natCast]
      have g1 := hok; have g2 := b1; have g3 := b2; have g4 := h'
      (try simp only [ha rfl] at g1 g2 g3 g4); (try simp only [hc rfl] at g1 g2 g3 g4)
      omega)
  · have h' := h
    have h8 := (Purse.one k (o87 (amt l k) (amt m k))).len_le
    unfold Purse.len at h8
    simp only [o87] at h' h8
    show Goes _ _ _ _ _ _ fun k' o σ => k' = [] ∧ o = .norm ∧ σ = kn (eaS true false G87 l m (k + 1) (.sl 33 5 0 (Purse.one k (o87 (amt l k) (amt m k))).lst.length)) ((33, Bk.row true 60 5 (Purse.one k (o87 (amt l k) (amt m k))).lst.length (apL0 (Purse.one k (o87 (amt l k) (amt m k))).lst)) :: eaH true false Gh87 l m)
    rw [← hz]
    exact goes (ctx_ok tC4_ok 36) mixed rfl (gs := []) (gh := []) (orc := way [(32, 1)]) (stops := []) (f := 3000) (k := [.code (roundOf 0 (bodyOf Try.f91))]) (o := .norm) (σ := (kn (eaS true false G87 l m k .nil) (eaH true false Gh87 l m))) (cs := [(↑k : Int) < (8 : Int), True, True, True, True, True, True ∧ (0 : Int) ≤ (↑k : Int), True, True, ((60 : TypeId) = (60 : TypeId) ∧ List.length m = List.length m ∧ List.length m < (4096 : Nat) ∧ Coi (rowL m) (List.length m)) ∧ (0 : Int) ≤ (↑k : Int), amt [] k < TOP ∧ amt (lst (rowL m) (List.length m)) k < TOP, True, True, True, True, True, True, True, True, True, True, True, ((0 : Int) ≤ (↑k : Int) ∧ (↑k : Int) < (256 : Int)) ∧ (0 : Nat) < List.length (Purse.lst (Purse.one k (min (amt [] k) (amt (lst (rowL m) (List.length m)) k)))), (0 : Nat) < List.length (Purse.lst (Purse.one k (min (amt [] k) (amt (lst (rowL m) (List.length m)) k)))) ∧ (0 : Nat) + List.length (Purse.lst (Purse.one k (min (amt [] k) (amt (lst (rowL m) (List.length m)) k)))) ≤ List.length (Purse.lst (Purse.one k (min (amt [] k) (amt (lst (rowL m) (List.length m)) k)))) ∧ List.length (Purse.lst (Purse.one k (min (amt [] k) (amt (lst (rowL m) (List.length m)) k)))) * (40 : Nat) ≤ (140737488355328 : Nat), True, (0 : Int) ≤ (↑k : Int) + (1 : Int) ∧ (↑k : Int) + (1 : Int) < (256 : Int), True]) (k' := []) (o' := .norm) (S := (eaS true false G87 l m (k + 1) (.sl 33 5 0 (Purse.one k (Z87 true false l m k)).lst.length))) (H := ((33, Bk.row true 60 5 (Purse.one k (Z87 true false l m k)).lst.length (apL0 (Purse.one k (Z87 true false l m k)).lst)) :: eaH true false Gh87 l m)) (by kernel_rfl) (by kernel_rfl) (by
      simp only [conj, and_true, true_and, l1, l2, c1, c2, hl.1, hm.1, Int.toNat_natCast]
      have g1 := hok; have g2 := b1; have g3 := b2; have g4 := h'; have g5 := h8
      (try simp only [ha rfl] at g1 g2 g3 g4 g5); (try simp only [hc rfl] at g1 g2 g3 g4 g5)
      omega)
  · have h' := h
    have h8 := (Purse.one k (o87 (amt l k) (amt m k))).len_le
    unfold Purse.len at h8
    simp only [o87] at h' h8
    show Goes _ _ _ _ _ _ fun k' o σ => k' = [] ∧ o = .norm ∧ σ = kn (eaS true false G87 l m (k + 1) (.sl 33 5 0 (l0.length + (Purse.one k (o87 (amt l k) (amt m k))).lst.length))) ((33, Bk.row true 60 5 (l0.length + (Purse.one k (o87 (amt l k) (amt m k))).lst.length) (apL l0 (Purse.one k (o87 (amt l k) (amt m k))).lst)) :: eaH true false Gh87 l m)
    rw [← hz]
    exact goes (ctx_ok tC4_ok 36) mixed rfl (gs := []) (gh := []) (orc := way [(32, 1)]) (stops := []) (f := 3000) (k := [.code (roundOf 0 (bodyOf Try.f91))]) (o := .norm) (σ := (kn (eaS true false G87 l m k (.sl 500 5 0 l0.length)) (rw5 l0 :: eaH true false Gh87 l m))) (cs := [(↑k : Int) < (8 : Int), True, True, True, True, True, True ∧ (0 : Int) ≤ (↑k : Int), True, True, ((60 : TypeId) = (60 : TypeId) ∧ List.length m = List.length m ∧ List.length m < (4096 : Nat) ∧ Coi (rowL m) (List.length m)) ∧ (0 : Int) ≤ (↑k : Int), amt [] k < TOP ∧ amt (lst (rowL m) (List.length m)) k < TOP, True, True, True, True, True, True, True, True, True, True, True, ((0 : Int) ≤ (↑k : Int) ∧ (↑k : Int) < (256 : Int)) ∧ (0 : Nat) < List.length (Purse.lst (Purse.one k (min (amt [] k) (amt (lst (rowL m) (List.length m)) k)))), List.length l0 = List.length l0 ∧ (0 : Nat) < List.length (Purse.lst (Purse.one k (min (amt [] k) (amt (lst (rowL m) (List.length m)) k)))) ∧ (0 : Nat) + List.length (Purse.lst (Purse.one k (min (amt [] k) (amt (lst (rowL m) (List.length m)) k)))) ≤ List.length (Purse.lst (Purse.one k (min (amt [] k) (amt (lst (rowL m) (List.length m)) k)))) ∧ (List.length l0 + List.length (Purse.lst (Purse.one k (min (amt [] k) (amt (lst (rowL m) (List.length m)) k))))) * (40 : Nat) ≤ (140737488355328 : Nat), True, (0 : Int) ≤ (↑k : Int) + (1 : Int) ∧ (↑k : Int) + (1 : Int) < (256 : Int), True]) (k' := []) (o' := .norm) (S := (eaS true false G87 l m (k + 1) (.sl 33 5 0 (l0.length + (Purse.one k (Z87 true false l m k)).lst.length)))) (H := ((33, Bk.row true 60 5 (l0.length + (Purse.one k (Z87 true false l m k)).lst.length) (apL l0 (Purse.one k (Z87 true false l m k)).lst)) :: eaH true false Gh87 l m)) (by kernel_rfl) (by kernel_rfl) (by
      simp only [conj, and_true, true_and, l1, l2, c1, c2, hl.1, hm.1, Int.toNat_natCast]
      have g1 := hok; have g2 := b1; have g3 := b2; have g4 := h'; have g5 := h8
      (try simp only [ha rfl] at g1 g2 g3 g4 g5); (try simp only [hc rfl] at g1 g2 g3 g4 g5)
      omega)
  · simp [eaH, inH, Gh87]

theorem ez87_false_true {w0 : Base} {l m : Cs} (hl : okC l) (hm : okC m) (ha : false = true → l = []) (hc : true = true → m = []) {k : Nat} (hk : k < 8) (ho : ∀ d, d ≤ k → k87 (amt l d) (amt m d)) :
    Goes Try.prog Try.f91.ntmps w0 [.code (roundOf 0 (bodyOf Try.f91))] .norm (eaSt (eaS false true G87 l m) (eaH false true Gh87 l m) (fun d => o87 (amt l d) (amt m d)) k)
    fun k' o σ => k' = [] ∧ o = .norm ∧ ∃ σ0, σ = σ0 ∧ ∀ {nt : Nat} {kk : List Fr} {Z : List Fr → Out → Ms → Prop}, Goes Try.prog nt w0 kk .norm (eaSt (eaS false true G87 l m) (eaH false true Gh87 l m) (fun d => o87 (amt l d) (amt m d)) (k + 1)) Z → Goes Try.prog nt w0 kk .norm σ0 Z := by
  have ht := top_eq
  have c1 : Coi (rowL l) l.length := Coi_rowL hl.2
  have c2 : Coi (rowL m) m.length := Coi_rowL hm.2
  have l1 := lst_rowL l
  have l2 := lst_rowL m
  have hok := ho k (Nat.le_refl _)
  have b1 := amt_lt hl k
  have b2 := amt_lt hm k
  have a1 : laA false l = l := laA_eq ha
  have a2 : laA true m = m := laA_eq hc
  have hz : Z87 false true l m k = o87 (amt l k) (amt m k) := by unfold Z87; rw [a1, a2]
  simp only [k87] at hok
  refine ea_round hk (fun d hd => ?_) (fun h => ?_) (fun l0 h => ?_) (fun h => ?_) (fun l0 h1 h2 h => ?_) (fun n => rfl) rfl ?_
  · have b1 := amt_lt hl d
    have b2 := amt_lt hm d
    have := ho d hd
    simp only [o87, k87] at this ⊢
    omega
  · have h' := h
    simp only [o87] at h'
    exact goes (ctx_ok tC4_ok 36) mixed rfl (gs := []) (gh := []) (orc := way []) (stops := []) (f := 3000) (k := [.code (roundOf 0 (bodyOf Try.f91))]) (o := .norm) (σ := (kn (eaS false true G87 l m k .nil) (eaH false true Gh87 l m))) (cs := [(↑k : Int) < (8 : Int), True, True, True, True, True, ((60 : TypeId) = (60 : TypeId) ∧ List.length l = List.length l ∧ List.length l < (4096 : Nat) ∧ Coi (rowL l) (List.length l)) ∧ (0 : Int) ≤ (↑k : Int), True, True, True ∧ (0 : Int) ≤ (↑k : Int), amt (lst (rowL l) (List.length l)) k < TOP ∧ amt [] k < TOP, True, True, True, True, True, True, True, True, True, True, True, ((0 : Int) ≤ (↑k : Int) ∧ (↑k : Int) < (256 : Int)) ∧ List.length (Purse.lst (Purse.one k (min (amt (lst (rowL l) (List.length l)) k) (amt [] k)))) = (0 : Nat), True, True, (0 : Int) ≤ (↑k : Int) + (1 : Int) ∧ (↑k : Int) + (1 : Int) < (256 : Int), True]) (k' := []) (o' := .norm) (S := (eaS false true G87 l m (k + 1) .nil)) (H := (eaH false true Gh87 l m)) (by kernel_rfl) (by kernel_rfl) (by
      simp only [conj, and_true, true_and, l1, l2, c1, c2, hl.1, hm.1, Int.toNat_natCast]
      have g1 := hok; have g2 := b1; have g3 := b2; have g4 := h'
      (try simp only [ha rfl] at g1 g2 g3 g4); (try simp only [hc rfl] at g1 g2 g3 g4)
      omega)
  · have h' := h
    simp only [o87] at h'
    exact goes (ctx_ok tC4_ok 36) mixed rfl (gs := []) (gh := []) (orc := way []) (stops := []) (f := 3000) (k := [.code (roundOf 0 (bodyOf Try.f91))]) (o := .norm) (σ := (kn (eaS false true G87 l m k (.sl 500 5 0 l0.length)) (rw5 l0 :: eaH false true Gh87 l m))) (cs := [(↑k : Int) < (8 : Int), True, True, True, True, True, ((60 : TypeId) = (60 : TypeId) ∧ List.length l = List.length l ∧ List.length l < (4096 : Nat) ∧ Coi (rowL l) (List.length l)) ∧ (0 : Int) ≤ (↑k : Int), True, True, True ∧ (0 : Int) ≤ (↑k : Int), amt (lst (rowL l) (List.length l)) k < TOP ∧ amt [] k < TOP, True, True, True, True, True, True, True, True, True, True, True, ((0 : Int) ≤ (↑k : Int) ∧ (↑k : Int) < (256 : Int)) ∧ List.length (Purse.lst (Purse.one k (min (amt (lst (rowL l) (List.length l)) k) (amt [] k)))) = (0 : Nat), List.length l0 = List.length l0, True, (0 : Int) ≤ (↑k : Int) + (1 : Int) ∧ (↑k : Int) + (1 : Int) < (256 : Int), True]) (k' := []) (o' := .norm) (S := (eaS false true G87 l m (k + 1) (.sl 500 5 0 l0.length))) (H := (rw5 l0 :: eaH false true Gh87 l m)) (by kernel_rfl) (by kernel_rfl) (by
      simp only [conj, and_true, true_and, l1, l2, c1, c2, hl.1, hm.1, Int.toNat_natCast]
      have g1 := hok; have g2 := b1; have g3 := b2; have g4 := h'
      (try simp only [ha rfl] at g1 g2 g3 g4); (try simp only [hc rfl] at g1 g2 g3 g4)
      omega)
  · have h' := h
    have h8 := (Purse.one k (o87 (amt l k) (amt m k))).len_le
    unfold Purse.len at h8
    simp only [o87] at h' h8
    show Goes _ _ _ _ _ _ fun k' o σ => k' = [] ∧ o = .norm ∧ σ = kn (eaS false true G87 l m (k + 1) (.sl 33 5 0 (Purse.one k (o87 (amt l k) (amt m k))).lst.length)) ((33, Bk.row true 60 5 (Purse.one k (o87 (amt l k) (amt m k))).lst.length (apL0 (Purse.one k (o87 (amt l k) (amt m k))).lst)) :: eaH false true Gh87 l m)
    rw [← hz]
    exact goes (ctx_ok tC4_ok 36) mixed rfl (gs := []) (gh := []) (orc := way [(32, 1)]) (stops := []) (f := 3000) (k := [.code (roundOf 0 (bodyOf Try.f91))]) (o := .norm) (σ := (kn (eaS false true G87 l m k .nil) (eaH false true Gh87 l m))) (cs := [(↑k : Int) < (8 : Int), True, True, True, True, True, ((60 : TypeId) = (60 : TypeId) ∧ List.length l = List.length l ∧ List.length l < (4096 : Nat) ∧ Coi (rowL l) (List.length l)) ∧ (0 : Int) ≤ (↑k : Int), True, True, True ∧ (0 : Int) ≤ (↑k : Int), amt (lst (rowL l) (List.length l)) k < TOP ∧ amt [] k < TOP, True, True, True, True, True, True, True, True, True, True, True, ((0 : Int) ≤ (↑k : Int) ∧ (↑k : Int) < (256 : Int)) ∧ (0 : Nat) < List.length (Purse.lst (Purse.one k (min (amt (lst (rowL l) (List.length l)) k) (amt [] k)))), (0 : Nat) < List.length (Purse.lst (Purse.one k (min (amt (lst (rowL l) (List.length l)) k) (amt [] k)))) ∧ (0 : Nat) + List.length (Purse.lst (Purse.one k (min (amt (lst (rowL l) (List.length l)) k) (amt [] k)))) ≤ List.length (Purse.lst (Purse.one k (min (amt (lst (rowL l) (List.length l)) k) (amt [] k)))) ∧ List.length (Purse.lst (Purse.one k (min (amt (lst (rowL l) (List.length l)) k) (amt [] k)))) * (40 : Nat) ≤ (140737488355328 : Nat), True, (0 : Int) ≤ (↑k : Int) + (1 : Int) ∧ (↑k : Int) + (1 : Int) < (256 : Int), True]) (k' := []) (o' := .norm) (S := (eaS false true G87 l m (k + 1) (.sl 33 5 0 (Purse.one k (Z87 false true l m k)).lst.length))) (H := ((33, Bk.row true 60 5 (Purse.one k (Z87 false true l m k)).lst.length (apL0 (Purse.one k (Z87 false true l m k)).lst)) :: eaH false true Gh87 l m)) (by kernel_rfl) (by kernel_rfl) (by
      simp only [conj, and_true, true_and, l1, l2, c1, c2, hl.1, hm.1, Int.toNat_natCast]
      have g1 := hok; have g2 := b1; have g3 := b2; have g4 := h'; have g5 := h8
      (try simp only [ha rfl] at g1 g2 g3 g4 g5); (try simp only [hc rfl] at g1 g2 g3 g4 g5)
      omega)
  · have h' := h
    have h8 := (Purse.one k (o87 (amt l k) (amt m k))).len_le
    unfold Purse.len at h8
    simp only [o87] at h' h8
    show Goes _ _ _ _ _ _ fun k' o σ => k' = [] ∧ o = .norm ∧ σ = kn (eaS false true G87 l m (k + 1) (.sl 33 5 0 (l0.length + (Purse.one k (o87 (amt l k) (amt m k))).lst.length))) ((33, Bk.row true 60 5 (l0.length + (Purse.one k (o87 (amt l k) (amt m k))).lst.length) (apL l0 (Purse.one k (o87 (amt l k) (amt m k))).lst)) :: eaH false true Gh87 l m)
    rw [← hz]
    exact goes (ctx_ok tC4_ok 36) mixed rfl (gs := []) (gh := []) (orc := way [(32, 1)]) (stops := []) (f := 3000) (k := [.code (roundOf 0 (bodyOf Try.f91))]) (o := .norm) (σ := (kn (eaS false true G87 l m k (.sl 500 5 0 l0.length)) (rw5 l0 :: eaH false true Gh87 l m))) (cs := [(↑k : Int) < (8 : Int), True, True, True, True, True, ((60 : TypeId) = (60 : TypeId) ∧ List.length l = List.length l ∧ List.length l < (4096 : Nat) ∧ Coi (rowL l) (List.length l)) ∧ (0 : Int) ≤ (↑k : Int), True, True, True ∧ (0 : Int) ≤ (↑k : Int), amt (lst (rowL l) (List.length l)) k < TOP ∧ amt [] k < TOP, True, True, True, True, True, True, True, True, True, True, True, ((0 : Int) ≤ (↑k : Int) ∧ (↑k : Int) < (256 : Int)) ∧ (0 : Nat) < List.length (Purse.lst (Purse.one k (min (amt (lst (rowL l) (List.length l)) k) (amt [] k)))), List.length l0 = List.length l0 ∧ (0 : Nat) < List.length (Purse.lst (Purse.one k (min (amt (lst (rowL l) (List.length l)) k) (amt [] k)))) ∧ (0 : Nat) + List.length (Purse.lst (Purse.one k (min (amt (lst (rowL l) (List.length l)) k) (amt [] k)))) ≤ List.length (Purse.lst (Purse.one k (min (amt (lst (rowL l) (List.length l)) k) (amt [] k)))) ∧ (List.length l0 + List.length (Purse.lst (Purse.one k (min (amt (lst (rowL l) (List.length l)) k) (amt [] k))))) * (40 : Nat) ≤ (140737488355328 : Nat), True, (0 : Int) ≤ (↑k : Int) + (1 : Int) ∧ (↑k : Int) + (1 : Int) < (256 : Int), True]) (k' := []) (o' := .norm) (S := (eaS false true G87 l m (k + 1) (.sl 33 5 0 (l0.length + (Purse.one k (Z87 false true l m k)).lst.length)))) (H := ((33, Bk.row true 60 5 (l0.length + (Purse.one k (Z87 false true l m k)).lst.length) (apL l0 (Purse.one k (Z87 false true l m k)).lst)) :: eaH false true Gh87 l m)) (by kernel_rfl) (by kernel_rfl) (by
      simp only [conj, and_true, true_and, l1, l2, c1, c2, hl.1, hm.1, Int.toNat_natCast]
      have g1 := hok; have g2 := b1; have g3 := b2; have g4 := h'; have g5 := h8
      (try simp only [ha rfl] at g1 g2 g3 g4 g5); (try simp only [hc rfl] at g1 g2 g3 g4 g5)
      omega)
  · simp [eaH, inH, Gh87]

theorem ez87_false_false {w0 : Base} {l m : Cs} (hl : okC l) (hm : okC m) (ha : false = true → l = []) (hc : false = true → m = []) {k : Nat} (hk : k < 8) (ho : ∀ d, d ≤ k → k87 (amt l d) (amt m d)) :
    Goes Try.prog Try.f91.ntmps w0 [.code (roundOf 0 (bodyOf Try.f91))] .norm (eaSt (eaS false false G87 l m) (eaH false false Gh87 l m) (fun d => o87 (amt l d) (amt m d)) k)
    fun k' o σ => k' = [] ∧ o = .norm ∧ ∃ σ0, σ = σ0 ∧ ∀ {nt : Nat} {kk : List Fr} {Z : List Fr → Out → Ms → Prop}, Goes Try.prog nt w0 kk .norm (eaSt (eaS false false G87 l m) (eaH false false Gh87 l m) (fun d => o87 (amt l d) (amt m d)) (k + 1)) Z → Goes Try.prog nt w0 kk .norm σ0 Z := by
  have ht := top_eq
  have c1 : Coi (rowL l) l.length := Coi_rowL hl.2
  have c2 : Coi (rowL m) m.length := Coi_rowL hm.2
  have l1 := lst_rowL l
  have l2 := lst_rowL m
  have hok := ho k (Nat.le_refl _)
  have b1 := amt_lt hl k
  have b2 := amt_lt hm k
  have a1 : laA false l = l := laA_eq ha
  have a2 : laA false m = m := laA_eq hc
  have hz : Z87 false false l m k = o87 (amt l k) (amt m k) := by unfold Z87; rw [a1, a2]
  simp only [k87] at hok
  refine ea_round hk (fun d hd => ?_) (fun h => ?_) (fun l0 h => ?_) (fun h => ?_) (fun l0 h1 h2 h => ?_) (fun n => rfl) rfl ?_
  · have b1 := amt_lt hl d
    have b2 := amt_lt hm d
    have := ho d hd
    simp only [o87, k87] at this ⊢
    omega
  · have h' := h
    simp only [o87] at h'
    exact goes (ctx_ok tC4_ok 36) mixed rfl (gs := []) (gh := []) (orc := way []) (stops := []) (f := 3000) (k := [.code (roundOf 0 (bodyOf Try.f91))]) (o := .norm) (σ := (kn (eaS false false G87 l m k .nil) (eaH false false Gh87 l m))) (cs := [(↑k : Int) < (8 : Int), True, True, True, True, True, ((60 : TypeId) = (60 : TypeId) ∧ List.length l = List.length l ∧ List.length l < (4096 : Nat) ∧ Coi (rowL l) (List.length l)) ∧ (0 : Int) ≤ (↑k : Int), True, True, ((60 : TypeId) = (60 : TypeId) ∧ List.length m = List.length m ∧ List.length m < (4096 : Nat) ∧ Coi (rowL m) (List.length m)) ∧ (0 : Int) ≤ (↑k : Int), amt (lst (rowL l) (List.length l)) k < TOP ∧ amt (lst (rowL m) (List.length m)) k < TOP, True, True, True, True, True, True, True, True, True, True, True, ((0 : Int) ≤ (↑k : Int) ∧ (↑k : Int) < (256 : Int)) ∧ List.length (Purse.lst (Purse.one k (min (amt (lst (rowL l) (List.length l)) k) (amt (lst (rowL m) (List.length m)) k)))) = (0 : Nat), True, True, (0 : Int) ≤ (↑k : Int) + (1 : Int) ∧ (↑k : Int) + (1 : Int) < (256 : Int), True]) (k' := []) (o' := .norm) (S := (eaS false false G87 l m (k + 1) .nil)) (H := (eaH false false Gh87 l m)) (by kernel_rfl) (by kernel_rfl) (by
      simp only [conj, and_true, true_and, l1, l2, c1, c2, hl.1, hm.1, Int.toNat_natCast]
      have g1 := hok; have g2 := b1; have g3 := b2; have g4 := h'
      (try simp only [ha rfl] at g1 g2 g3 g4); (try simp only [hc rfl] at g1 g2 g3 g4)
      omega)
  · have h' := h
    simp only [o87] at h'
    exact goes (ctx_ok tC4_ok 36) mixed rfl (gs := []) (gh := []) (orc := way []) (stops := []) (f := 3000) (k := [.code (roundOf 0 (bodyOf Try.f91))]) (o := .norm) (σ := (kn (eaS false false G87 l m k (.sl 500 5 0 l0.length)) (rw5 l0 :: eaH false false Gh87 l m))) (cs := [(↑k : Int) < (8 : Int), True, True, True, True, True, ((60 : TypeId) = (60 : TypeId) ∧ List.length l = List.length l ∧ List.length l < (4096 : Nat) ∧ Coi (rowL l) (List.length l)) ∧ (0 : Int) ≤ (↑k : Int), True, True, ((60 : TypeId) = (60 : TypeId) ∧ List.length m = List.length m ∧ List.length m < (4096 : Nat) ∧ Coi (rowL m) (List.length m)) ∧ (0 : Int) ≤ (↑k : Int), amt (lst (rowL l) (List.length l)) k < TOP ∧ amt (lst (rowL m) (List.length m)) k < TOP, True, True, True, True, True, True, True, True, True, True, True, ((0 : Int) ≤ (↑k : Int) ∧ (↑k : Int) < (256 : Int)) ∧ List.length (Purse.lst (Purse.one k (min (amt (lst (rowL l) (List.length l)) k) (amt (lst (rowL m) (List.length m)) k)))) = (0 : Nat), List.length l0 = List.length l0, True, (0 : Int) ≤ (↑k : Int) + (1 : Int) ∧ (↑k : Int) + (1 : Int) < (256 : Int), True]) (k' := []) (o' := .norm) (S := (eaS false false G87 l m (k + 1) (.sl 500 5 0 l0.length))) (H := (rw5 l0 :: eaH false false Gh87 l m)) (by kernel_rfl) (by kernel_rfl) (by
      simp only [conj, and_true, true_and, l1, l2, c1, c2, hl.1, hm.1, Int.toNat_natCast]
      have g1 := hok; have g2 := b1; have g3 := b2; have g4 := h'
      (try simp only [ha rfl] at g1 g2 g3 g4); (try simp only [hc rfl] at g1 g2 g3 g4)
      omega)
  · have h' := h
    have h8 := (Purse.one k (o87 (amt l k) (amt m k))).len_le
    unfold Purse.len at h8
    simp only [o87] at h' h8
    show Goes _ _ _ _ _ _ fun k' o σ => k' = [] ∧ o = .norm ∧ σ = kn (eaS false false G87 l m (k + 1) (.sl 33 5 0 (Purse.one k (o87 (amt l k) (amt m k))).lst.length)) ((33, Bk.row true 60 5 (Purse.one k (o87 (amt l k) (amt m k))).lst.length (apL0 (Purse.one k (o87 (amt l k) (amt m k))).lst)) :: eaH false false Gh87 l m)
    rw [← hz]
    exact goes (ctx_ok tC4_ok 36) mixed rfl (gs := []) (gh := []) (orc := way [(32, 1)]) (stops := []) (f := 3000) (k := [.code (roundOf 0 (bodyOf Try.f91))]) (o := .norm) (σ := (kn (eaS false false G87 l m k .nil) (eaH false false Gh87 l m))) (cs := [(↑k : Int) < (8 : Int), True, True, True, True, True, ((60 : TypeId) = (60 : TypeId) ∧ List.length l = List.length l ∧ List.length l < (4096 : Nat) ∧ Coi (rowL l) (List.length l)) ∧ (0 : Int) ≤ (↑k : Int), True, True, ((60 : TypeId) = (60 : TypeId) ∧ List.length m = List.length m ∧ List.length m < (4096 : Nat) ∧ Coi (rowL m) (List.length m)) ∧ (0 : Int) ≤ (↑k : Int), amt (lst (rowL l) (List.length l)) k < TOP ∧ amt (lst (rowL m) (List.length m)) k < TOP, True, True, True, True, True, True, True, True, True, True, True, ((0 : Int) ≤ (↑k : Int) ∧ (↑k : Int) < (256 : Int)) ∧ (0 : Nat) < List.length (Purse.lst (Purse.one k (min (amt (lst (rowL l) (List.length l)) k) (amt (lst (rowL m) (List.length m)) k)))), (0 : Nat) < List.length (Purse.lst (Purse.one k (min (amt (lst (rowL l) (List.length l)) k) (amt (lst (rowL m) (List.length m)) k)))) ∧ (0 : Nat) + List.length (Purse.lst (Purse.one k (min (amt (lst (rowL l) (List.length l)) k) (amt (lst (rowL m) (List.length m)) k)))) ≤ List.length (Purse.lst (Purse.one k (min (amt (lst (rowL l) (List.length l)) k) (amt (lst (rowL m) (List.length m)) k)))) ∧ List.length (Purse.lst (Purse.one k (min (amt (lst (rowL l) (List.length l)) k) (amt (lst (rowL m) (List.length m)) k)))) * (40 : Nat) ≤ (140737488355328 : Nat), True, (0 : Int) ≤ (↑k : Int) + (1 : Int) ∧ (↑k : Int) + (1 : Int) < (256 : Int), True]) (k' := []) (o' := .norm) (S := (eaS false false G87 l m (k + 1) (.sl 33 5 0 (Purse.one k (Z87 false false l m k)).lst.length))) (H := ((33, Bk.row true 60 5 (Purse.one k (Z87 false false l m k)).lst.length (apL0 (Purse.one k (Z87 false false l m k)).lst)) :: eaH false false Gh87 l m)) (by kernel_rfl) (by kernel_rfl) (by
      simp only [conj, and_true, true_and, l1, l2, c1, c2, hl.1, hm.1, Int.toNat_natCast]
      have g1 := hok; have g2 := b1; have g3 := b2; have g4 := h'; have g5 := h8
      (try simp only [ha rfl] at g1 g2 g3 g4 g5); (try simp only [hc rfl] at g1 g2 g3 g4 g5)
      omega)
  · have h' := h
    have h8 := (Purse.one k (o87 (amt l k) (amt m k))).len_le
    unfold Purse.len at h8
    simp only [o87] at h' h8
    show Goes _ _ _ _ _ _ fun k' o σ => k' = [] ∧ o = .norm ∧ σ = kn (eaS false false G87 l m (k + 1) (.sl 33 5 0 (l0.length + (Purse.one k (o87 (amt l k) (amt m k))).lst.length))) ((33, Bk.row true 60 5 (l0.length + (Purse.one k (o87 (amt l k) (amt m k))).lst.length) (apL l0 (Purse.one k (o87 (amt l k) (amt m k))).lst)) :: eaH false false Gh87 l m)
    rw [← hz]
    exact goes (ctx_ok tC4_ok 36) mixed rfl (gs := []) (gh := []) (orc := way [(32, 1)]) (stops := []) (f := 3000) (k := [.code (roundOf 0 (bodyOf Try.f91))]) (o := .norm) (σ := (kn (eaS false false G87 l m k (.sl 500 5 0 l0.length)) (rw5 l0 :: eaH false false Gh87 l m))) (cs := [(↑k : Int) < (8 : Int), True, True, True, True, True, ((60 : TypeId) = (60 : TypeId) ∧ List.length l = List.length l ∧ List.length l < (4096 : Nat) ∧ Coi (rowL l) (List.length l)) ∧ (0 : Int) ≤ (↑k : Int), True, True, ((60 : TypeId) = (60 : TypeId) ∧ List.length m = List.length m ∧ List.length m < (4096 : Nat) ∧ Coi (rowL m) (List.length m)) ∧ (0 : Int) ≤ (↑k : Int), amt (lst (rowL l) (List.length l)) k < TOP ∧ amt (lst (rowL m) (List.length m)) k < TOP, True, True, True, True, True, True, True, True, True, True, True, ((0 : Int) ≤ (↑k : Int) ∧ (↑k : Int) < (256 : Int)) ∧ (0 : Nat) < List.length (Purse.lst (Purse.one k (min (amt (lst (rowL l) (List.length l)) k) (amt (lst (rowL m) (List.length m)) k)))), List.length l0 = List.length l0 ∧ (0 : Nat) < List.length (Purse.lst (Purse.one k (min (amt (lst (rowL l) (List.length l)) k) (amt (lst (rowL m) (List.length m)) k)))) ∧ (0 : Nat) + List.length (Purse.lst (Purse.one k (min (amt (lst (rowL l) (List.length l)) k) (amt (lst (rowL m) (List.length m)) k)))) ≤ List.length (Purse.lst (Purse.one k (min (amt (lst (rowL l) (List.length l)) k) (amt (lst (rowL m) (List.length m)) k)))) ∧ (List.length l0 + List.length (Purse.lst (Purse.one k (min (amt (lst (rowL l) (List.length l)) k) (amt (lst (rowL m) (List.length m)) k))))) * (40 : Nat) ≤ (140737488355328 : Nat), True, (0 : Int) ≤ (↑k : Int) + (1 : Int) ∧ (↑k : Int) + (1 : Int) < (256 : Int), True]) (k' := []) (o' := .norm) (S := (eaS false false G87 l m (k + 1) (.sl 33 5 0 (l0.length + (Purse.one k (Z87 false false l m k)).lst.length)))) (H := ((33, Bk.row true 60 5 (l0.length + (Purse.one k (Z87 false false l m k)).lst.length) (apL l0 (Purse.one k (Z87 false false l m k)).lst)) :: eaH false false Gh87 l m)) (by kernel_rfl) (by kernel_rfl) (by
      simp only [conj, and_true, true_and, l1, l2, c1, c2, hl.1, hm.1, Int.toNat_natCast]
      have g1 := hok; have g2 := b1; have g3 := b2; have g4 := h'; have g5 := h8
      (try simp only [ha rfl] at g1 g2 g3 g4 g5); (try simp only [hc rfl] at g1 g2 g3 g4 g5)
      omega)
  · simp [eaH, inH, Gh87]

end M
end Go.Proofs.Ytmjdmhelmgcanaa
