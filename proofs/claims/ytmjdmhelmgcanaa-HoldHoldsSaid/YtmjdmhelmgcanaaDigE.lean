/- r01.Cmp, digit by digit. -/
import Derived.Test.YtmjdmhelmgcanaaDigD
namespace Go.Proofs.Ytmjdmhelmgcanaa
open Go.RowKit

/-- two new blocks -/
theorem two (w : World) (p q : Array Value) (t1 t2 : TypeId) :
    ((w.alloc (.cells p t1)).alloc (.cells q t2)).heap[w.heap.size]? = some (.cells p t1 (0, 0)) ∧
    ((w.alloc (.cells p t1)).alloc (.cells q t2)).heap[w.heap.size + 1]? = some (.cells q t2 (0, 0)) := by
  have h1 := heap_alloc_new w (.cells p t1)
  have h2 := heap_alloc_new (w.alloc (.cells p t1)) (.cells q t2)
  simp only [World.size_alloc] at h2
  exact ⟨by rw [Below.heap_alloc _ _ _ (by simp)]; exact h1, h2⟩

/-- a digit more -/
theorem more_dg (x k : Nat) : x / 65536 ^ k = x / 65536 ^ (k + 1) * 65536 + dg x k := by
  rw [dg, Nat.pow_succ, ← Nat.div_div_eq_div_mul]; omega

theorem lt_dg {x y k : Nat} (h : x / 65536 ^ (k + 1) = y / 65536 ^ (k + 1)) (hd : dg x k < dg y k) : x < y := by
  have h1 := more_dg x k
  have h2 := more_dg y k
  rw [h] at h1
  apply Nat.lt_of_not_le
  intro hle
  have := Nat.div_le_div_right (c := 65536 ^ k) hle
  omega

set_option maxHeartbeats 4000000 in
set_option maxRecDepth 1000000 in
theorem rcmp_calls (x y : Nat) (hx : x < TOP) (hy : y < TOP) (w : World) :
    Calls Try.prog 54 #[V x, V y] w fun e w' => e = .returned (.int .i64 (cmpN x y)) ∧ Below w.heap.size w w' := by
  obtain ⟨r, hr⟩ : ∃ r, (Value.int .i64 (cmpN x y)) = r := ⟨_, rfl⟩
  rw [hr]
  obtain ⟨a0, a1, a2, a3, hv, ha0, ha1, ha2, ha3, -⟩ := V_open hx
  obtain ⟨b0, b1, b2, b3, hu, hb0, hb1, hb2, hb3, -⟩ := V_open hy
  have hdx := digits_calls x
  have hdy := digits_calls y
  have HR := hidden (p := x < TOP ∧ y < TOP ∧ _) ⟨hx, hy, hr⟩
  clear hr
  rw [hv] at hdx
  rw [hu] at hdy
  rw [hv, hu]
  unfold V4 at *
  clear hv hu hx hy ha0 ha1 ha2 ha3 hb0 hb1 hb2 hb3
  go_enter Try.func54, Try.ntmps54
  go_wp2_with fail
  go_region_with (first
    | (go_at_call_of 93 a0; refine (hdx _).mono ?_; rintro e w1 ⟨v1, rfl, ho1, hw1⟩; obtain ⟨q0, q1, q2, q3, -⟩ := cells4 ((hw1.block (w.heap.size + 1) (by simp)).trans (two _ _ _ _ _).2))
    | (go_at_call_of 93 b0; refine (hdy _).mono ?_; rintro e w2 ⟨v2, rfl, ho2, hw2⟩))
  all_goals
    have hsz := hw1.size
    simp only [drew_size, World.size_alloc] at ho1 hw1 hsz
    obtain ⟨g1, cap1, rfl, hg1, hg1', hc1, hm1⟩ := own_form ho1
    obtain ⟨g2, cap2, rfl, hg2, hg2', hc2, hm2⟩ := own_form ho2
    have R1 := own_below ho1 hw2
    have R2 := own_base ho2 hsz
    have H := (Below.drew (Below.refl _ _)).trans (hw1.trans (hw2.mono hsz))
    have hl1 : cap1 ≤ 9223372036854775807 := Nat.le_trans hm1 (by unfold maxLen; omega)
    have hl2 : cap2 ≤ 9223372036854775807 := Nat.le_trans hm2 (by unfold maxLen; omega)
    clear ho1 ho2 hw1 hw2 q0 q1 q2 q3 hg1' hsz hc1 hc2 hm1 hm2
    have hlx : x / 65536 ^ 16 = 0 := Nat.div_eq_of_lt HR.out.1
    have hly : y / 65536 ^ 16 = 0 := Nat.div_eq_of_lt HR.out.2.1
    have HXY := hidden (hlx.trans hly.symm)
    clear hlx hly
    go_wp2_with fail
    go_loopw [7] (fun i wr => ∃ k : Nat, k ≤ 16 ∧ i = .int .i64 ((k : Int) - 1) ∧ x / 65536 ^ k = y / 65536 ^ k ∧
        wr.ownsRow (w.heap.size + 1 + 1) 26 1 (.slice (some ⟨g1, 0, none⟩) 16 cap1) 16 (row (dg x) 16) ∧
        wr.ownsRow (w.heap.size + 1 + 1) 26 1 (.slice (some ⟨g2, 0, none⟩) 16 cap2) 16 (row (dg y) 16) ∧
        Below (w.heap.size + 1 + 1) ((w.alloc (.cells #[.int .u64 a0, .int .u64 a1, .int .u64 a2, .int .u64 a3] 28)).alloc (.cells #[.int .u64 b0, .int .u64 b1, .int .u64 b2, .int .u64 b3] 28)) wr)
      (fun i _ => (intOf i + 1).toNat)
    case atStart => exact ⟨16, by omega, rfl, HXY.out, R1, R2, H⟩
    case round =>
      obtain ⟨k, hk, rfl, he, hr1, hr2, hbel⟩ := hrel
      clear R1 R2 H
      have HE := hidden he
      have HB : Hid (Below w.heap.size w wr) := (Below.alloc (Below.alloc (Below.refl w.heap.size w) (Nat.le_refl _) _) (by simp) _).trans (hbel.mono (by omega))
      clear he
      rcases k with _ | k
      · go_wp2
        refine bodyPost_ret (v := .int .i64 0) (by simp [results, Try.results54, go_sem]) rfl ⟨?_, HB.out⟩
        have e := HE.out
        simp only [Nat.pow_zero, Nat.div_one] at e
        rw [← HR.out.2.2, e, cmpN_eq]
      · have k1 : wr.cell? ⟨g1, k, none⟩ = some (.int .u64 (dg x k : Nat)) := by rw [hr1.cellAt k (by omega), row_get _ (by omega)]
        have k2 : wr.cell? ⟨g2, k, none⟩ = some (.int .u64 (dg y k : Nat)) := by rw [hr2.cellAt k (by omega), row_get _ (by omega)]
        have hi : (((k + 1 : Nat) : Int) - 1) = k := by omega
        rw [hi]
        clear hi
        rcases Nat.lt_trichotomy (dg x k) (dg y k) with hlt | heq | hgt
        · have hlt' : ((dg x k : Nat) : Int) < (dg y k : Nat) := by omega
          have HC : Hid (cmpN x y = -1) := cmpN_lt (lt_dg HE.out hlt)
          clear hlt
          go_wp2
          go_region
          go_wp2
          refine bodyPost_ret (v := .int .i64 (-1)) (by simp [results, Try.results54, go_sem]) rfl ⟨?_, HB.out.drew⟩
          rw [← HR.out.2.2, HC.out]
        · rw [← heq] at k2
          have hee : Hid (dg x k = dg y k) := heq
          clear heq
          go_wp2
          go_region
          go_wp2
          go_region
          go_wp2
          go_roundw
          case rel =>
            refine ⟨k, by omega, by go_num, ?_, World.ownsRow.drew (World.ownsRow.drew hr1), World.ownsRow.drew (World.ownsRow.drew hr2), hbel.drew.drew⟩
            rw [more_dg x, more_dg y, HE.out, hee.out]
          case measure => simp [intOf]
        · have hgt' : ((dg y k : Nat) : Int) < (dg x k : Nat) := by omega
          have HC : Hid (cmpN x y = 1) := cmpN_gt (lt_dg HE.out.symm hgt)
          clear hgt
          go_wp2
          go_region
          go_wp2
          go_region
          go_wp2
          refine bodyPost_ret (v := .int .i64 1) (by simp [results, Try.results54, go_sem]) rfl ⟨?_, HB.out.drew.drew⟩
          rw [← HR.out.2.2, HC.out]

end Go.Proofs.Ytmjdmhelmgcanaa
