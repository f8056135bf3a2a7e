/- r01.Rest, digit by digit. -/
import Derived.Test.YtmjdmhelmgcanaaDigE
namespace Go.Proofs.Ytmjdmhelmgcanaa
open Go.RowKit

set_option maxHeartbeats 4000000 in
set_option maxRecDepth 1000000 in
theorem rrest_low (x y : Nat) (hx : x < TOP) (hy : y < TOP) (hxy : x ≤ y) (w : World) :
    Calls Try.prog 55 #[V x, V y] w fun e w' => e = .returned (V 0) ∧ Below w.heap.size w w' := by
  obtain ⟨a0, a1, a2, a3, hv, ha0, ha1, ha2, ha3, -⟩ := V_open hx
  obtain ⟨b0, b1, b2, b3, hu, hb0, hb1, hb2, hb3, -⟩ := V_open hy
  have hV0 : V 0 = V4 0 0 0 0 := V_mk4 (a := 0) (b := 0) (c := 0) (d := 0) (by omega) (by omega) (by omega) (by omega)
  obtain ⟨c, hc⟩ : ∃ c, c = cmpN x y := ⟨_, rfl⟩
  have hc0 : c ≤ 0 := by rw [hc]; unfold cmpN; rw [if_neg (by omega : ¬ y < x)]; split <;> decide
  have hcmp := rcmp_calls x y hx hy
  rw [hv, hu, ← hc] at hcmp
  rw [hv, hu, hV0]
  unfold V4 at *
  clear hv hu hV0 hx hy hxy ha0 ha1 ha2 ha3 hb0 hb1 hb2 hb3 hc
  go_enter Try.func55, Try.ntmps55
  go_wp2_with (go_at_call 54; refine (hcmp _).mono ?_; rintro e w1 ⟨rfl, hw1⟩; obtain ⟨q0, q1, q2, q3, qz⟩ := cells4 ((hw1.block (w.heap.size + 1 + 1) (by simp)).trans (three _ _ _ _ _ _ _).2.2))
  refine bodyPost_ret (v := .agg #[.int .u64 0, .int .u64 0, .int .u64 0, .int .u64 0]) (by simp [results, Try.results55, go_sem, q0, q1, q2, q3]) rfl ⟨rfl, ?_⟩
  have K := (Below.alloc (Below.alloc (Below.alloc (Below.refl w.heap.size w) (Nat.le_refl _) (.cells #[.int .u64 a0, .int .u64 a1, .int .u64 a2, .int .u64 a3] 28)) (by simp) (.cells #[.int .u64 b0, .int .u64 b1, .int .u64 b2, .int .u64 b3] 28)) (by simp; omega) (.cells #[.int .u64 0, .int .u64 0, .int .u64 0, .int .u64 0] 28)).trans (hw1.mono (by simp; omega))
  exact (((K.setCell (by simp; omega) _).setCell (by simp; omega) _).setCell (by simp; omega) _).setCell (by simp; omega) _

set_option maxHeartbeats 4000000 in
set_option maxRecDepth 1000000 in
theorem rrest_high (x y : Nat) (hx : x < TOP) (hy : y < TOP) (hxy : y < x) (w : World) :
    Calls Try.prog 55 #[V x, V y] w fun e w' => e = .returned (V (x - y)) ∧ Below w.heap.size w w' := by
  obtain ⟨r, hr⟩ : ∃ r, V (x - y) = r := ⟨_, rfl⟩
  rw [hr]
  obtain ⟨a0, a1, a2, a3, hv, ha0, ha1, ha2, ha3, -⟩ := V_open hx
  obtain ⟨b0, b1, b2, b3, hu, hb0, hb1, hb2, hb3, -⟩ := V_open hy
  have hcmp := rcmp_calls x y hx hy
  rw [hv, hu, cmpN_gt hxy] at hcmp
  have hdx := digits_calls x
  have hdy := digits_calls y
  have HR := hidden (p := x < TOP ∧ y < TOP ∧ y < x ∧ _) ⟨hx, hy, hxy, hr⟩
  clear hr
  rw [hv] at hdx
  rw [hu] at hdy
  rw [hv, hu]
  unfold V4 at *
  clear hv hu hx hy hxy ha0 ha1 ha2 ha3 hb0 hb1 hb2 hb3
  go_enter Try.func55, Try.ntmps55
  go_wp2_with (go_at_call 54; refine (hcmp _).mono ?_; rintro e w0 ⟨rfl, hw0⟩; obtain ⟨p0, p1, p2, p3, -⟩ := cells4 ((hw0.block w.heap.size (by simp; omega)).trans (three _ _ _ _ _ _ _).1); obtain ⟨s0, s1, s2, s3, -⟩ := cells4 ((hw0.block (w.heap.size + 1) (by simp)).trans (three _ _ _ _ _ _ _).2.1))
  go_region_with (first
    | (go_at_call_of 93 a0; refine (hdx _).mono ?_; rintro e w1 ⟨v1, rfl, ho1, hw1⟩; obtain ⟨q0, q1, q2, q3, -⟩ := cells4 ((hw1.block (w.heap.size + 1) (by have := hw0.size; simp at this; simp; omega)).trans ((hw0.block (w.heap.size + 1) (by simp)).trans (three _ _ _ _ _ _ _).2.1)))
    | (go_at_call_of 93 b0; refine (hdy _).mono ?_; rintro e w2 ⟨v2, rfl, ho2, hw2⟩))
  all_goals
    have hsz0 := hw0.size
    simp only [World.size_alloc] at hw0 hsz0
    have hsz := hw1.size
    simp only [drew_size] at ho1 hw1 hsz
    obtain ⟨g1, cap1, rfl, hg1, hg1', hc1, hm1⟩ := own_form ho1
    obtain ⟨g2, cap2, rfl, hg2, hg2', hc2, hm2⟩ := own_form ho2
    have R1 := own_base (own_below ho1 hw2) hsz0
    have R2 := own_base ho2 (Nat.le_trans hsz0 hsz)
    have H := hw0.trans ((Below.drew (Below.refl _ _)).trans ((hw1.trans (hw2.mono hsz)).mono hsz0))
    have hg10 := Nat.le_trans hsz0 hg1
    have hne : g2 ≠ g1 := by omega
    have hl1 : cap1 ≤ 9223372036854775807 := Nat.le_trans hm1 (by unfold maxLen; omega)
    have hl2 : cap2 ≤ 9223372036854775807 := Nat.le_trans hm2 (by unfold maxLen; omega)
    clear ho1 ho2 hw0 hw1 hw2 q0 q1 q2 q3 p0 p1 p2 p3 s0 s1 s2 s3 hg1' hg2' hsz0 hsz hc1 hc2 hm1 hm2 hg1 hg2
    go_wp2_with fail
    go_loopw [7, 8] (fun o i wr => ∃ (k c : Nat) (h : Nat → Nat), k ≤ 16 ∧ i = .int .i64 k ∧ o = .int .u64 c ∧ c ≤ 1 ∧
        wr.ownsRow (w.heap.size + 1 + 1 + 1) 26 1 (.slice (some ⟨g1, 0, none⟩) 16 cap1) 16 (row h 16) ∧
        wr.ownsRow (w.heap.size + 1 + 1 + 1) 26 1 (.slice (some ⟨g2, 0, none⟩) 16 cap2) 16 (row (dg y) 16) ∧
        (∀ i, i < k → h i < 65536) ∧ (∀ i, k ≤ i → h i = dg x i) ∧ num h k + num (dg y) k = num (dg x) k + c * 65536 ^ k ∧
        Below (w.heap.size + 1 + 1 + 1) (((w.alloc (.cells #[.int .u64 a0, .int .u64 a1, .int .u64 a2, .int .u64 a3] 28)).alloc (.cells #[.int .u64 b0, .int .u64 b1, .int .u64 b2, .int .u64 b3] 28)).alloc (.cells #[.int .u64 0, .int .u64 0, .int .u64 0, .int .u64 0] 28)) wr)
      (fun _ i _ => 16 - (intOf i).toNat)
    case atStart => exact ⟨0, 0, dg x, by omega, rfl, rfl, by omega, R1, R2, by omega, fun _ _ => rfl, by simp [num], H⟩
    case round =>
      obtain ⟨k, c, h, hk, rfl, rfl, hc, hr1, hr2, hlo, hhi, hnum, hbel⟩ := hrel
      clear R1 R2 H
      rcases Nat.lt_or_ge k 16 with hlt | hge
      · have k1 : wr.cell? ⟨g1, k, none⟩ = some (.int .u64 (dg x k : Nat)) := by rw [hr1.cellAt k (by omega), row_get _ hlt, hhi k (Nat.le_refl _)]
        have k2 : wr.cell? ⟨g2, k, none⟩ = some (.int .u64 (dg y k : Nat)) := by rw [hr2.cellAt k (by omega), row_get _ hlt]
        have kz := hr1.frozenAt k
        obtain ⟨d, hd⟩ : ∃ d, d = dg x k := ⟨_, rfl⟩
        obtain ⟨e, he⟩ : ∃ e, e = dg y k := ⟨_, rfl⟩
        have hdl : d < 65536 := by rw [hd]; exact dg_lt x k
        have hel : e < 65536 := by rw [he]; exact dg_lt y k
        rw [← hd] at k1
        rw [← he] at k2
        have HH := hidden (p := _ ∧ _ ∧ _ ∧ _ ∧ _) ⟨hlo, hhi, hnum, hd, he⟩
        clear hlo hhi hnum hd he
        go_wp2
        go_region
        go_wp2
        obtain ⟨z, hz⟩ : ∃ z, z = (d + 65536 - e - c) % 65536 := ⟨_, rfl⟩
        obtain ⟨c', hc'⟩ : ∃ c', c' = 1 - (d + 65536 - e - c) / 65536 := ⟨_, rfl⟩
        have ez : ((d : Int) + 65536 - e - c) % 65536 = (z : Nat) := by omega
        have ec : 1 - ((d : Int) + 65536 - e - c) / 65536 = (c' : Nat) := by omega
        have ezc : z + e + c = d + 65536 * c' := by omega
        rw [ez, ec]
        go_roundw
        case rel =>
          obtain ⟨hlo, hhi, hnum, hd, he⟩ := HH.out
          have S := (hr1.stored k (.int .u64 (z : Nat))).1
          rw [row_set] at S
          have hl := num_congr (f := set1 h k z) (g := h) (k := k) fun i hi => set1_ne h (by omega)
          refine ⟨k + 1, c', set1 h k z, by omega, by go_num, rfl, by omega, World.ownsRow.drew S, World.ownsRow.drew (ownsRow_setCell_other hr2 (by simp [Value.ownBlock, hne]) _), ?_, ?_, ?_, (hbel.setCell (by simpa using hg10) _).drew⟩
          · intro i hi
            by_cases hik : i = k
            · subst hik; rw [set1_eq]; omega
            · rw [set1_ne h hik]; exact hlo i (by omega)
          · intro i hi
            rw [set1_ne h (by omega)]; exact hhi i (by omega)
          · rw [num, num, num, hl, set1_eq, ← hd, ← he, Nat.pow_succ]
            have e2 : (z + e + c) * 65536 ^ k = (d + 65536 * c') * 65536 ^ k := by rw [ezc]
            rw [Nat.add_mul, Nat.add_mul, Nat.add_mul] at e2
            have e3 : c' * (65536 ^ k * 65536) = 65536 * c' * 65536 ^ k := by ac_rfl
            rw [e3]
            omega
        case measure => simp [intOf]; omega
      · have e : k = 16 := by omega
        subst e
        have hsz := hbel.size
        simp only [World.size_alloc] at hsz
        obtain ⟨hx, hy, hxy, hr⟩ := HR.out
        rw [num_dg16 hx, num_dg16 hy] at hnum
        have hlt := num_lt (f := h) (k := 16) hlo
        have hT : (65536 : Nat) ^ 16 = TOP := rfl
        rw [hT] at hnum hlt
        have hc0 : c = 0 := by
          rcases Nat.lt_or_ge 0 c with h1 | h1
          · have : TOP ≤ c * TOP := Nat.le_mul_of_pos_left _ h1
            omega
          · omega
        subst hc0
        have hxn : x - y = num h 16 := by omega
        have hof := of_calls _ _ _ _ _ (.inl rfl) hlo wr hr1
        rw [if_pos (.inl rfl)] at hof
        rw [hxn] at hr
        obtain ⟨s0, s1, s2, s3, hs, -⟩ := V_open hlt
        rw [hs] at hof hr
        unfold V4 at hof hr
        have HQ := hidden hr
        have HD := hidden hbel
        clear hr1 hr2 hlo hhi hnum hbel hlt hT hxn hs hr hx hy hxy
        go_wp2_with (go_at_call 94; refine hof.mono ?_; rintro e w4 ⟨rfl, hb4⟩; obtain ⟨q0, q1, q2, q3, qz⟩ := cells4 (((HD.out.trans (hb4.mono (by omega))).block (w.heap.size + 1 + 1) (by omega)).trans (three _ _ _ _ _ _ _).2.2); have hs4 : w.heap.size + 1 + 1 < w4.heap.size := Nat.lt_of_lt_of_le hsz hb4.size; have hs5 : w.heap.size + 1 + 1 ≠ w4.heap.size := Nat.ne_of_lt hs4; have hs6 : w4.heap.size ≠ w.heap.size + 1 + 1 := Nat.ne_of_gt hs4)
        refine bodyPost_ret (v := .agg #[.int .u64 s0, .int .u64 s1, .int .u64 s2, .int .u64 s3]) (by simp [results, Try.results55, go_sem, q0, q1, q2, q3, hs4]) rfl ⟨congrArg Ending.returned HQ.out, ?_⟩
        have K := (Below.alloc (Below.alloc (Below.alloc (Below.refl w.heap.size w) (Nat.le_refl _) (.cells #[.int .u64 a0, .int .u64 a1, .int .u64 a2, .int .u64 a3] 28)) (by simp) (.cells #[.int .u64 b0, .int .u64 b1, .int .u64 b2, .int .u64 b3] 28)) (by simp; omega) (.cells #[.int .u64 0, .int .u64 0, .int .u64 0, .int .u64 0] 28)).trans ((HD.out.trans (hb4.mono (by omega))).mono (by omega))
        exact ((((K.setCell (by simp; omega) _).setCell (by simp; omega) _).setCell (by simp; omega) _).setCell (by simp; omega) _).alloc (by simp; omega) _

end Go.Proofs.Ytmjdmhelmgcanaa
