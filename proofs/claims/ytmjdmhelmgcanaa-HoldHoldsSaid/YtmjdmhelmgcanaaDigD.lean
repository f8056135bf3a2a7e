/- r01.Add, digit by digit. -/
import Derived.Test.YtmjdmhelmgcanaaDigC
import Derived.Deep.RegionWith
namespace Go.Proofs.Ytmjdmhelmgcanaa
open Go.RowKit

/-- a number's cells, from its block -/
theorem cells4 {wr : World} {b : Nat} {c0 c1 c2 c3 : Value} (h : wr.heap[b]? = some (.cells #[c0, c1, c2, c3] 28 (0, 0))) :
    wr.cell? ⟨b, 0, none⟩ = some c0 ∧ wr.cell? ⟨b, 1, none⟩ = some c1 ∧ wr.cell? ⟨b, 2, none⟩ = some c2 ∧ wr.cell? ⟨b, 3, none⟩ = some c3 ∧ ∀ j, wr.frozen? ⟨b, j, none⟩ = false :=
  ⟨by rw [cell_of_row wr _ 0 _ 28 (0, 0) h]; rfl, by rw [cell_of_row wr _ 1 _ 28 (0, 0) h]; rfl, by rw [cell_of_row wr _ 2 _ 28 (0, 0) h]; rfl, by rw [cell_of_row wr _ 3 _ 28 (0, 0) h]; rfl, fun j => frozen_of_row wr _ j _ 28 h⟩

theorem drew_size (w : World) : w.drew.heap.size = w.heap.size := rfl

/-- three new blocks -/
theorem three (w : World) (p q r : Array Value) (t1 t2 t3 : TypeId) :
    (((w.alloc (.cells p t1)).alloc (.cells q t2)).alloc (.cells r t3)).heap[w.heap.size]? = some (.cells p t1 (0, 0)) ∧
    (((w.alloc (.cells p t1)).alloc (.cells q t2)).alloc (.cells r t3)).heap[w.heap.size + 1]? = some (.cells q t2 (0, 0)) ∧
    (((w.alloc (.cells p t1)).alloc (.cells q t2)).alloc (.cells r t3)).heap[w.heap.size + 1 + 1]? = some (.cells r t3 (0, 0)) := by
  have h1 := heap_alloc_new w (.cells p t1)
  have h2 := heap_alloc_new (w.alloc (.cells p t1)) (.cells q t2)
  have h3 := heap_alloc_new ((w.alloc (.cells p t1)).alloc (.cells q t2)) (.cells r t3)
  simp only [World.size_alloc] at h2 h3
  refine ⟨?_, ?_, h3⟩
  · rw [Below.heap_alloc _ _ _ (by simp; omega), Below.heap_alloc _ _ _ (by simp)]; exact h1
  · rw [Below.heap_alloc _ _ _ (by simp)]; exact h2

set_option maxHeartbeats 4000000 in
set_option maxRecDepth 1000000 in
theorem radd_calls (x y : Nat) (hx : x < TOP) (hy : y < TOP) (w : World) :
    Calls Try.prog 53 #[V x, V y] w fun e w' => e = .returned (if x + y < TOP then .tuple #[V (x + y), .bool true] else .tuple #[V 0, .bool false]) ∧ Below w.heap.size w w' := by
  obtain ⟨r, hr⟩ : ∃ r, (if x + y < TOP then Value.tuple #[V (x + y), .bool true] else .tuple #[V 0, .bool false]) = r := ⟨_, rfl⟩
  rw [hr]
  obtain ⟨a0, a1, a2, a3, hv, ha0, ha1, ha2, ha3, -⟩ := V_open hx
  obtain ⟨b0, b1, b2, b3, hu, hb0, hb1, hb2, hb3, -⟩ := V_open hy
  have hdx := digits_calls x
  have hdy := digits_calls y
  have HR := hidden (p := x < TOP ∧ y < TOP ∧ _) ⟨hx, hy, hr⟩
  clear hr
  rw [hv] at hdx
  rw [hu] at hdy
  rw [hv, hu]
  unfold V4 at *
  clear hv hu hx hy ha0 ha1 ha2 ha3 hb0 hb1 hb2 hb3
  go_enter Try.func53, Try.ntmps53
  go_wp2_with fail
  go_region_with (first
    | (go_at_call_of 93 a0; refine (hdx _).mono ?_; rintro e w1 ⟨v1, rfl, ho1, hw1⟩; obtain ⟨q0, q1, q2, q3, -⟩ := cells4 ((hw1.block (w.heap.size + 1) (by simp)).trans (three _ _ _ _ _ _ _).2.1))
    | (go_at_call_of 93 b0; refine (hdy _).mono ?_; rintro e w2 ⟨v2, rfl, ho2, hw2⟩))
  all_goals
    have hsz := hw1.size
    simp only [drew_size, World.size_alloc] at ho1 hw1 hsz
    obtain ⟨g1, cap1, rfl, hg1, hg1', hc1, hm1⟩ := own_form ho1
    obtain ⟨g2, cap2, rfl, hg2, hg2', hc2, hm2⟩ := own_form ho2
    have R1 := own_below ho1 hw2
    have R2 := own_base ho2 hsz
    have H := (Below.drew (Below.refl _ _)).trans (hw1.trans (hw2.mono hsz))
    have hne : g2 ≠ g1 := by omega
    have hl1 : cap1 ≤ 9223372036854775807 := Nat.le_trans hm1 (by unfold maxLen; omega)
    have hl2 : cap2 ≤ 9223372036854775807 := Nat.le_trans hm2 (by unfold maxLen; omega)
    clear ho1 ho2 hw1 hw2 q0 q1 q2 q3 hg1' hg2' hsz hc1 hc2 hm1 hm2
    go_wp2_with fail
    go_loopw [8] (fun i wr => ∃ k : Nat, k ≤ 16 ∧ i = .int .i64 k ∧ wr.ownsRow (w.heap.size + 1 + 1 + 1) 26 1 (.slice (some ⟨g1, 0, none⟩) 16 cap1) 16 (row (fun j => if j < k then dg x j + dg y j else dg x j) 16) ∧
      wr.ownsRow (w.heap.size + 1 + 1 + 1) 26 1 (.slice (some ⟨g2, 0, none⟩) 16 cap2) 16 (row (dg y) 16) ∧
      Below (w.heap.size + 1 + 1 + 1) (((w.alloc (.cells #[.int .u64 a0, .int .u64 a1, .int .u64 a2, .int .u64 a3] 28)).alloc (.cells #[.int .u64 b0, .int .u64 b1, .int .u64 b2, .int .u64 b3] 28)).alloc (.cells #[.int .u64 0, .int .u64 0, .int .u64 0, .int .u64 0] 28)) wr)
      (fun i _ => 16 - (intOf i).toNat)
    case atStart => exact ⟨0, by omega, rfl, by simpa using R1, R2, H⟩
    case round =>
      obtain ⟨k, hk, rfl, hr1, hr2, hbel⟩ := hrel
      clear R1 R2 H
      rcases Nat.lt_or_ge k 16 with hlt | hge
      · have k1 : wr.cell? ⟨g1, k, none⟩ = some (.int .u64 (dg x k : Nat)) := by rw [hr1.cellAt k (by omega), row_get _ hlt, if_neg (by omega)]
        have k2 : wr.cell? ⟨g2, k, none⟩ = some (.int .u64 (dg y k : Nat)) := by rw [hr2.cellAt k (by omega), row_get _ hlt]
        have kz := hr1.frozenAt k
        have hdl1 := dg_lt x k
        have hdl2 := dg_lt y k
        go_wp2
        go_region
        go_wp2
        go_roundw
        case rel =>
          have S := (hr1.stored k (.int .u64 ((dg x k + dg y k : Nat) : Int))).1
          rw [row_set] at S
          refine ⟨k + 1, by omega, by go_num, ?_, World.ownsRow.drew (ownsRow_setCell_other hr2 (by simp [Value.ownBlock, hne]) _), (hbel.setCell (by simpa using hg1) _).drew⟩
          rw [row_congr (f := fun j => if j < k + 1 then dg x j + dg y j else dg x j) (g := set1 (fun j => if j < k then dg x j + dg y j else dg x j) k (dg x k + dg y k)) (n := 16)]
          · exact World.ownsRow.drew (by simpa using S)
          · intro i _
            by_cases hik : i = k
            · subst hik; simp [set1_eq]
            · rw [set1_ne _ hik]
              have : i < k + 1 ↔ i < k := by omega
              simp only [this]
        case measure => simp [intOf]; omega
      · have e : k = 16 := by omega
        subst e
        rw [row_congr (f := fun j => if j < 16 then dg x j + dg y j else dg x j) (g := fun j => dg x j + dg y j) (n := 16) (fun i hi => by simp [hi])] at hr1
        clear hr2
        go_wp2_with (go_at_call 95; refine (carry_calls _ _ _ _ (fun i _ => by have := dg_lt x i; have := dg_lt y i; omega) _ hr1).mono ?_; rintro e w3 ⟨v3, h, rfl, ho3, hh, hnum, hb3⟩)
        obtain ⟨g3, cap3, rfl, -⟩ := own_form ho3
        have hof := of_calls _ _ _ _ _ (.inr rfl) hh w3 ho3
        have hsz := hbel.size
        simp only [World.size_alloc] at hsz
        have hb3' := hb3.size
        have hN : x + y = num h 16 + h 16 * TOP := by
          have e1 : num (fun j => dg x j + dg y j) 16 = x + y := by rw [num_add, num_dg16 HR.out.1, num_dg16 HR.out.2.1]
          rw [← e1, ← hnum]; rfl
        have hlow : num h 16 < TOP := num_lt fun i hi => hh i (by omega)
        have HD := hidden hbel
        have HB := hidden hb3
        clear hr1 ho3 hh hnum hbel hb3
        by_cases h0 : h 16 = 0
        · rw [if_pos (.inr h0)] at hof
          rw [h0] at hN
          have hr := HR.out.2.2
          rw [if_pos (by omega : x + y < TOP), show x + y = num h 16 by omega] at hr
          obtain ⟨s0, s1, s2, s3, hs, -⟩ := V_open hlow
          rw [hs] at hof hr
          unfold V4 at hof hr
          have HQ := hidden hr
          clear hs hN hlow h0 hr
          go_wp2_with (go_at_call 94; refine hof.mono ?_; rintro e w4 ⟨rfl, hb4⟩; obtain ⟨q0, q1, q2, q3, qz⟩ := cells4 (((HD.out.trans (HB.out.trans (hb4.mono (by omega)))).block (w.heap.size + 1 + 1) (by omega)).trans (three _ _ _ _ _ _ _).2.2))
          refine bodyPost_ret (v := .tuple #[.agg #[.int .u64 s0, .int .u64 s1, .int .u64 s2, .int .u64 s3], .bool true]) (by simp [results, Try.results53, go_sem, q0, q1, q2, q3]) rfl ⟨congrArg Ending.returned HQ.out, ?_⟩
          have K := (Below.alloc (Below.alloc (Below.alloc (Below.refl w.heap.size w) (Nat.le_refl _) (.cells #[.int .u64 a0, .int .u64 a1, .int .u64 a2, .int .u64 a3] 28)) (by simp) (.cells #[.int .u64 b0, .int .u64 b1, .int .u64 b2, .int .u64 b3] 28)) (by simp; omega) (.cells #[.int .u64 0, .int .u64 0, .int .u64 0, .int .u64 0] 28)).trans ((HD.out.trans (HB.out.trans (hb4.mono (by omega)))).mono (by omega))
          exact (((K.setCell (by simp; omega) _).setCell (by simp; omega) _).setCell (by simp; omega) _).setCell (by simp; omega) _
        · rw [if_neg (by omega)] at hof
          have h1 : TOP ≤ h 16 * TOP := Nat.le_mul_of_pos_left _ (by omega)
          have hr := HR.out.2.2
          rw [if_neg (by omega : ¬ x + y < TOP)] at hr
          obtain ⟨s0, s1, s2, s3, hs, -⟩ := V_open top_pos
          rw [hs] at hof hr
          unfold V4 at hof hr
          have HQ := hidden hr
          clear hs hN hlow h0 h1 hr
          go_wp2_with (go_at_call 94; refine hof.mono ?_; rintro e w4 ⟨rfl, hb4⟩; obtain ⟨q0, q1, q2, q3, qz⟩ := cells4 (((HD.out.trans (HB.out.trans (hb4.mono (by omega)))).block (w.heap.size + 1 + 1) (by omega)).trans (three _ _ _ _ _ _ _).2.2))
          refine bodyPost_ret (v := .tuple #[.agg #[.int .u64 s0, .int .u64 s1, .int .u64 s2, .int .u64 s3], .bool false]) (by simp [results, Try.results53, go_sem, q0, q1, q2, q3]) rfl ⟨congrArg Ending.returned HQ.out, ?_⟩
          have K := (Below.alloc (Below.alloc (Below.alloc (Below.refl w.heap.size w) (Nat.le_refl _) (.cells #[.int .u64 a0, .int .u64 a1, .int .u64 a2, .int .u64 a3] 28)) (by simp) (.cells #[.int .u64 b0, .int .u64 b1, .int .u64 b2, .int .u64 b3] 28)) (by simp; omega) (.cells #[.int .u64 0, .int .u64 0, .int .u64 0, .int .u64 0] 28)).trans ((HD.out.trans (HB.out.trans (hb4.mono (by omega)))).mono (by omega))
          exact (((K.setCell (by simp; omega) _).setCell (by simp; omega) _).setCell (by simp; omega) _).setCell (by simp; omega) _

end Go.Proofs.Ytmjdmhelmgcanaa
