/- r01.Zero, r01.Small, num.Of. -/
import Derived.Test.YtmjdmhelmgcanaaDigF
namespace Go.Proofs.Ytmjdmhelmgcanaa
open Go.RowKit

theorem small_calls (n : Nat) (w : World) :
    Calls Try.prog 78 #[.int .u64 n] w fun e w' => e = .returned (V4 n 0 0 0) ∧ Below w.heap.size w w' := by
  unfold V4
  go_enter Try.func78, Try.ntmps78
  go_wp2
  refine bodyPost_ret (v := .agg #[.int .u64 n, .int .u64 0, .int .u64 0, .int .u64 0]) (by simp [results, Try.results78, go_sem]) rfl ⟨rfl, ?_⟩
  repeat (first | exact Below.refl _ _ | refine Below.setCell ?_ (by simp) _ | refine Below.alloc ?_ (by simp <;> omega) _ | refine Below.drew ?_)

theorem nof_calls (n : Nat) (w : World) :
    Calls Try.prog 97 #[.int .u64 n] w fun e w' => e = .returned (V4 n 0 0 0) ∧ Below w.heap.size w w' := by
  unfold V4
  go_enter Try.func97, Try.ntmps97
  go_wp2
  refine bodyPost_ret (v := .agg #[.int .u64 n, .int .u64 0, .int .u64 0, .int .u64 0]) (by simp [results, Try.results97, go_sem]) rfl ⟨rfl, ?_⟩
  repeat (first | exact Below.refl _ _ | refine Below.setCell ?_ (by simp) _ | refine Below.alloc ?_ (by simp <;> omega) _ | refine Below.drew ?_)

set_option maxHeartbeats 1000000 in
theorem zero_calls (x : Nat) (hx : x < TOP) (w : World) :
    Calls Try.prog 88 #[V x] w fun e w' => e = .returned (.bool (decide (x = 0))) ∧ Below w.heap.size w w' := by
  obtain ⟨a0, a1, a2, a3, hv, ha0, ha1, ha2, ha3, hxe⟩ := V_open hx
  obtain ⟨b, hb⟩ : ∃ b, decide (x = 0) = b := ⟨_, rfl⟩
  rw [hb, hv]
  have HB : Hid ((decide (a0 = 0) && decide (a1 = 0) && decide (a2 = 0) && decide (a3 = 0)) = b) := by
    show (decide (a0 = 0) && decide (a1 = 0) && decide (a2 = 0) && decide (a3 = 0)) = b
    rw [← hb, hxe]
    unfold mk4
    simp only [← Bool.decide_and]
    exact decide_eq_decide.2 (by omega)
  unfold V4
  clear hb hv hxe ha0 ha1 ha2 ha3 hx
  have hz : ∀ a : Nat, a ≠ 0 → ((a : Nat) : Int) ≠ 0 := fun a h => by omega
  have hB : Below w.heap.size w (w.alloc (.cells #[.int .u64 a0, .int .u64 a1, .int .u64 a2, .int .u64 a3] 28)) := (Below.refl _ _).alloc (Nat.le_refl _) _
  by_cases h0 : a0 = 0
  · subst h0
    by_cases h1 : a1 = 0
    · subst h1
      by_cases h2 : a2 = 0
      · subst h2
        by_cases h3 : a3 = 0
        · subst h3
          go_enter Try.func88, Try.ntmps88
          go_wp2
          go_ret
          exact ⟨by rw [← HB.out]; rfl, hB⟩
        · have k3 := hz _ h3
          go_enter Try.func88, Try.ntmps88
          go_wp2
          go_ret
          exact ⟨by rw [← HB.out]; simp [h3], hB⟩
      · have k2 := hz _ h2
        go_enter Try.func88, Try.ntmps88
        go_wp2
        go_ret
        exact ⟨by rw [← HB.out]; simp [h2], hB⟩
    · have k1 := hz _ h1
      go_enter Try.func88, Try.ntmps88
      go_wp2
      go_ret
      exact ⟨by rw [← HB.out]; simp [h1], hB⟩
  · have k0 := hz _ h0
    go_enter Try.func88, Try.ntmps88
    go_wp2
    go_ret
    exact ⟨by rw [← HB.out]; simp [h0], hB⟩

theorem V_small {n : Nat} (h : n < 18446744073709551616) : V n = V4 n 0 0 0 := by
  have e : mk4 n 0 0 0 = n := by unfold mk4; omega
  have := V_mk4 (a := n) (b := 0) (c := 0) (d := 0) h (by omega) (by omega) (by omega)
  rw [e] at this
  exact this

/-! ## As contracts of the table -/

theorem radd_con : ConOK 53 (pcon (k2 fun x y => [(x + y < TOP, .tup [M (x + y), B true]), (TOP ≤ x + y, .tup [M 0, B false])])) := by
  refine k2_ok (fun a w => Try.call53 a w) (by simp [SV.all, noName]) fun x y hx hy p hp => ?_
  simp only [List.mem_cons, List.not_mem_nil, or_false] at hp
  rcases hp with rfl | rfl
  · refine ⟨by simp [SV.all, noName], fun hc => ⟨all_num hc (by simp [SV.all, AtOK0]), fun ρ w => ?_⟩⟩
    simp only [List.map_cons, List.map_nil, N_den]
    refine (radd_calls x y hx hy w).mono ?_
    rintro e w' ⟨rfl, hb⟩
    have hc' : x + y < TOP := hc
    exact ⟨hb, by simp only [if_pos hc', SV.den, List.map_cons, List.map_nil, V_den, B_den]⟩
  · refine ⟨by simp [SV.all, noName], fun hc => ⟨all_num top_pos (by simp [SV.all, AtOK0]), fun ρ w => ?_⟩⟩
    simp only [List.map_cons, List.map_nil, N_den]
    refine (radd_calls x y hx hy w).mono ?_
    rintro e w' ⟨rfl, hb⟩
    have hn : ¬ x + y < TOP := Nat.not_lt.2 hc
    exact ⟨hb, by simp only [if_neg hn, SV.den, List.map_cons, List.map_nil, V_den, B_den]⟩

theorem rcmp_con : ConOK 54 (pcon (k2 fun x y => [(x < y, .one (E (-1))), (x = y, .one (E 0)), (y < x, .one (E 1))])) := by
  refine k2_ok (fun a w => Try.call54 a w) (by simp [SV.all, noName]) fun x y hx hy p hp => ?_
  simp only [List.mem_cons, List.not_mem_nil, or_false] at hp
  rcases hp with rfl | rfl | rfl
  all_goals
    refine ⟨by simp [SV.all, noName], fun hc => ⟨by simp [SV.all, AtOK0], fun ρ w => ?_⟩⟩
    simp only [List.map_cons, List.map_nil, N_den]
    refine (rcmp_calls x y hx hy w).mono ?_
    rintro e w' ⟨rfl, hb⟩
    refine ⟨hb, ?_⟩
  · simp only [cmpN_lt hc]; rfl
  · have hc' : x = y := hc
    subst hc'
    simp only [cmpN_eq]; rfl
  · simp only [cmpN_gt hc]; rfl

theorem rrest_con : ConOK 55 (pcon (k2 fun x y => [(True, .one (M (x - y)))])) := by
  refine k2_ok (fun a w => Try.call55 a w) (by simp [SV.all, noName]) fun x y hx hy p hp => ?_
  simp only [List.mem_cons, List.not_mem_nil, or_false] at hp
  subst hp
  refine ⟨by simp [SV.all, noName], fun _ => ⟨N_ok (by omega), fun ρ w => ?_⟩⟩
  simp only [List.map_cons, List.map_nil, N_den]
  rcases Nat.lt_or_ge y x with h | h
  · refine (rrest_high x y hx hy h w).mono ?_
    rintro e w' ⟨rfl, hb⟩
    exact ⟨hb, rfl⟩
  · refine (rrest_low x y hx hy h w).mono ?_
    rintro e w' ⟨rfl, hb⟩
    rw [show x - y = 0 by omega]
    exact ⟨hb, rfl⟩

theorem zero_con : ConOK 88 (pcon (k1 fun x => [(x = 0, .one (B true)), (0 < x, .one (B false))])) := by
  refine k1_ok (fun a w => Try.call88 a w) (by simp [SV.all, noName]) fun x hx p hp => ?_
  simp only [List.mem_cons, List.not_mem_nil, or_false] at hp
  rcases hp with rfl | rfl
  all_goals
    refine ⟨by simp [SV.all, noName], fun hc => ⟨by simp [SV.all, AtOK0], fun ρ w => ?_⟩⟩
    simp only [List.map_cons, List.map_nil, N_den]
    refine (zero_calls x hx w).mono ?_
    rintro e w' ⟨rfl, hb⟩
    refine ⟨hb, ?_⟩
  · have hc' : x = 0 := hc
    rw [decide_eq_true hc']; rfl
  · have hc' : 0 < x := hc
    rw [decide_eq_false (by omega : ¬ x = 0)]; rfl

end Go.Proofs.Ytmjdmhelmgcanaa
