/- r01.Of: the number of digits. -/
import Derived.Test.YtmjdmhelmgcanaaDigB
namespace Go.Proofs.Ytmjdmhelmgcanaa
open Go.RowKit

theorem wrap_nat {n : Nat} (h : n < 18446744073709551616) : IntKind.u64.wrap (n : Int) = n := by
  have e : IntKind.u64.wrap (n : Int) = (n : Int) % 18446744073709551616 := rfl
  rw [e]; omega

set_option maxHeartbeats 4000000 in
set_option maxRecDepth 1000000 in
theorem of_calls (B g cap n : Nat) (f : Nat → Nat) (hn : n = 16 ∨ n = 17) (hf : ∀ i, i < n → f i < 65536) (w : World) (hown : w.ownsRow B 26 1 (.slice (some ⟨g, 0, none⟩) n cap) n (row f n)) :
    Calls Try.prog 94 #[.slice (some ⟨g, 0, none⟩) n cap] w fun e w' => e = .returned (if n = 16 ∨ f 16 = 0 then .tuple #[V (num f 16), .bool true] else .tuple #[V 0, .bool false]) ∧ Below w.heap.size w w' := by
  have hown0 : w.ownsRow B 26 1 (.slice (some ⟨g, 0, none⟩) ((n - 1) + 1) cap) ((n - 1) + 1) (row f n) := by rw [show n - 1 + 1 = n by omega]; exact hown
  obtain ⟨_, _, e1, hBg, hgw, hcap, hmax⟩ := own_form hown0
  simp only [Value.slice.injEq, Option.some.injEq, Addr.mk.injEq, and_true] at e1
  obtain ⟨rfl, -, rfl⟩ := e1
  have hmax' : cap ≤ 9223372036854775807 := Nat.le_trans hmax (by unfold maxLen; omega)
  have hcl : ∀ k, k < n → w.cell? ⟨g, k, none⟩ = some (.int .u64 (f k : Nat)) := fun k hk => by rw [hown.cellAt k (by omega), row_get _ hk]
  have hnum := @num_lt f
  clear hown0 hown
  go_enter Try.func94, Try.ntmps94
  go_wp2
  go_loopw [5] (fun i wr => ∃ (k c0 c1 c2 c3 : Nat), k ≤ n ∧ i = .int .i64 k ∧ wr.heap[w.heap.size + 1]? = some (.cells #[.int .u64 c0, .int .u64 c1, .int .u64 c2, .int .u64 c3] 28 (0, 0)) ∧
      c0 < 18446744073709551616 ∧ c1 < 18446744073709551616 ∧ c2 < 18446744073709551616 ∧ c3 < 18446744073709551616 ∧ mk4 c0 c1 c2 c3 = num f (min k 16) ∧ (16 < k → f 16 = 0) ∧
      Below (w.heap.size + 1) (w.alloc (.cells #[.int .u64 0, .int .u64 0, .int .u64 0, .int .u64 0] 28)) wr)
    (fun i _ => 17 - (intOf i).toNat)
  case atStart =>
    refine ⟨0, 0, 0, 0, 0, Nat.zero_le _, rfl, ?_, by omega, by omega, by omega, by omega, rfl, by omega, ?_⟩
    · have h := heap_alloc_new (w.alloc (.cells #[.int .u64 0, .int .u64 0, .int .u64 0, .int .u64 0] 28)) (.cells #[.int .u64 0, .int .u64 0, .int .u64 0, .int .u64 0] 28)
      rw [World.size_alloc] at h
      exact h
    · exact (Below.refl _ _).alloc (by simp) _
  case round =>
    obtain ⟨k, c0, c1, c2, c3, hk, rfl, hh, hc0, hc1, hc2, hc3, hm, hq, hbel⟩ := hrel
    have h0 : wr.cell? ⟨w.heap.size + 1, 0, none⟩ = some (.int .u64 c0) := by rw [cell_of_row wr _ 0 _ 28 (0, 0) hh]; rfl
    have h1 : wr.cell? ⟨w.heap.size + 1, 1, none⟩ = some (.int .u64 c1) := by rw [cell_of_row wr _ 1 _ 28 (0, 0) hh]; rfl
    have h2 : wr.cell? ⟨w.heap.size + 1, 2, none⟩ = some (.int .u64 c2) := by rw [cell_of_row wr _ 2 _ 28 (0, 0) hh]; rfl
    have h3 : wr.cell? ⟨w.heap.size + 1, 3, none⟩ = some (.int .u64 c3) := by rw [cell_of_row wr _ 3 _ 28 (0, 0) hh]; rfl
    have hz : ∀ j, wr.frozen? ⟨w.heap.size + 1, j, none⟩ = false := fun j => frozen_of_row wr _ j _ 28 hh
    rcases Nat.lt_or_ge k 16 with hlt | hge
    · obtain ⟨d, hd⟩ : ∃ d, d = f k := ⟨_, rfl⟩
      have hg : wr.cell? ⟨g, k, none⟩ = some (.int .u64 (d : Nat)) := by rw [hbel.cell (by simp; omega), World.cell?_alloc_past _ _ _ hgw, hcl k (by omega), hd]
      have hdl : d < 65536 := by rw [hd]; exact hf k (by omega)
      have hkn : k < n := by omega
      have HM : Hid (mk4 c0 c1 c2 c3 = num f k ∧ mk4 c0 c1 c2 c3 < 65536 ^ k ∧ num f (k + 1) = mk4 c0 c1 c2 c3 + d * 65536 ^ k) := by
        rw [Nat.min_eq_left (Nat.le_of_lt hlt)] at hm
        exact ⟨hm, by rw [hm]; exact hnum fun i hi => hf i (by omega), by rw [num, hm, hd]⟩
      have h : k = 0 ∨ k = 1 ∨ k = 2 ∨ k = 3 ∨ k = 4 ∨ k = 5 ∨ k = 6 ∨ k = 7 ∨ k = 8 ∨ k = 9 ∨ k = 10 ∨ k = 11 ∨ k = 12 ∨ k = 13 ∨ k = 14 ∨ k = 15 := by omega
      have HN := hidden hn
      clear hm hf hcl hd hn hq
      rcases h with rfl | rfl | rfl | rfl | rfl | rfl | rfl | rfl | rfl | rfl | rfl | rfl | rfl | rfl | rfl | rfl
      · go_wp2
        go_region
        go_wp2
        go_roundw
        case rel =>
          obtain ⟨-, M1, M2⟩ := HM.out
          have hr := HN.out
          clear HM HN
          simp only [Nat.reduceAdd, Nat.reducePow, mk4] at M1 M2
          have e := wrap_nat (n := c0 + d) (by omega)
          simp only [Int.natCast_add] at e
          rw [e]
          refine ⟨1, c0 + d, c1, c2, c3, by omega, by go_num, ?_, by omega, by omega, by omega, by omega, ?_, by omega, (hbel.setCell (by simp) _).drew⟩
          · exact heap_setCell_same wr _ 0 _ 28 _ hh
          · simp only [Nat.reduceLeDiff, Nat.min_eq_left, M2, mk4]; omega
        case measure => simp [intOf]
      · go_wp2
        go_region
        go_wp2
        go_roundw
        case rel =>
          obtain ⟨-, M1, M2⟩ := HM.out
          have hr := HN.out
          clear HM HN
          simp only [Nat.reduceAdd, Nat.reducePow, mk4] at M1 M2
          have e := wrap_nat (n := c0 + d * 65536) (by omega)
          simp only [Int.natCast_add, Int.natCast_mul, Int.cast_ofNat_Int] at e
          rw [e]
          refine ⟨2, c0 + d * 65536, c1, c2, c3, by omega, by go_num, ?_, by omega, by omega, by omega, by omega, ?_, by omega, (hbel.setCell (by simp) _).drew⟩
          · exact heap_setCell_same wr _ 0 _ 28 _ hh
          · simp only [Nat.reduceLeDiff, Nat.min_eq_left, M2, mk4]; omega
        case measure => simp [intOf]
      · go_wp2
        go_region
        go_wp2
        go_roundw
        case rel =>
          obtain ⟨-, M1, M2⟩ := HM.out
          have hr := HN.out
          clear HM HN
          simp only [Nat.reduceAdd, Nat.reducePow, mk4] at M1 M2
          have e := wrap_nat (n := c0 + d * 4294967296) (by omega)
          simp only [Int.natCast_add, Int.natCast_mul, Int.cast_ofNat_Int] at e
          rw [e]
          refine ⟨3, c0 + d * 4294967296, c1, c2, c3, by omega, by go_num, ?_, by omega, by omega, by omega, by omega, ?_, by omega, (hbel.setCell (by simp) _).drew⟩
          · exact heap_setCell_same wr _ 0 _ 28 _ hh
          · simp only [Nat.reduceLeDiff, Nat.min_eq_left, M2, mk4]; omega
        case measure => simp [intOf]
      · go_wp2
        go_region
        go_wp2
        go_roundw
        case rel =>
          obtain ⟨-, M1, M2⟩ := HM.out
          have hr := HN.out
          clear HM HN
          simp only [Nat.reduceAdd, Nat.reducePow, mk4] at M1 M2
          have e := wrap_nat (n := c0 + d * 281474976710656) (by omega)
          simp only [Int.natCast_add, Int.natCast_mul, Int.cast_ofNat_Int] at e
          rw [e]
          refine ⟨4, c0 + d * 281474976710656, c1, c2, c3, by omega, by go_num, ?_, by omega, by omega, by omega, by omega, ?_, by omega, (hbel.setCell (by simp) _).drew⟩
          · exact heap_setCell_same wr _ 0 _ 28 _ hh
          · simp only [Nat.reduceLeDiff, Nat.min_eq_left, M2, mk4]; omega
        case measure => simp [intOf]
      · go_wp2
        go_region
        go_wp2
        go_roundw
        case rel =>
          obtain ⟨-, M1, M2⟩ := HM.out
          have hr := HN.out
          clear HM HN
          simp only [Nat.reduceAdd, Nat.reducePow, mk4] at M1 M2
          have e := wrap_nat (n := c1 + d) (by omega)
          simp only [Int.natCast_add] at e
          rw [e]
          refine ⟨5, c0, c1 + d, c2, c3, by omega, by go_num, ?_, by omega, by omega, by omega, by omega, ?_, by omega, (hbel.setCell (by simp) _).drew⟩
          · exact heap_setCell_same wr _ 1 _ 28 _ hh
          · simp only [Nat.reduceLeDiff, Nat.min_eq_left, M2, mk4]; omega
        case measure => simp [intOf]
      · go_wp2
        go_region
        go_wp2
        go_roundw
        case rel =>
          obtain ⟨-, M1, M2⟩ := HM.out
          have hr := HN.out
          clear HM HN
          simp only [Nat.reduceAdd, Nat.reducePow, mk4] at M1 M2
          have e := wrap_nat (n := c1 + d * 65536) (by omega)
          simp only [Int.natCast_add, Int.natCast_mul, Int.cast_ofNat_Int] at e
          rw [e]
          refine ⟨6, c0, c1 + d * 65536, c2, c3, by omega, by go_num, ?_, by omega, by omega, by omega, by omega, ?_, by omega, (hbel.setCell (by simp) _).drew⟩
          · exact heap_setCell_same wr _ 1 _ 28 _ hh
          · simp only [Nat.reduceLeDiff, Nat.min_eq_left, M2, mk4]; omega
        case measure => simp [intOf]
      · go_wp2
        go_region
        go_wp2
        go_roundw
        case rel =>
          obtain ⟨-, M1, M2⟩ := HM.out
          have hr := HN.out
          clear HM HN
          simp only [Nat.reduceAdd, Nat.reducePow, mk4] at M1 M2
          have e := wrap_nat (n := c1 + d * 4294967296) (by omega)
          simp only [Int.natCast_add, Int.natCast_mul, Int.cast_ofNat_Int] at e
          rw [e]
          refine ⟨7, c0, c1 + d * 4294967296, c2, c3, by omega, by go_num, ?_, by omega, by omega, by omega, by omega, ?_, by omega, (hbel.setCell (by simp) _).drew⟩
          · exact heap_setCell_same wr _ 1 _ 28 _ hh
          · simp only [Nat.reduceLeDiff, Nat.min_eq_left, M2, mk4]; omega
        case measure => simp [intOf]
      · go_wp2
        go_region
        go_wp2
        go_roundw
        case rel =>
          obtain ⟨-, M1, M2⟩ := HM.out
          have hr := HN.out
          clear HM HN
          simp only [Nat.reduceAdd, Nat.reducePow, mk4] at M1 M2
          have e := wrap_nat (n := c1 + d * 281474976710656) (by omega)
          simp only [Int.natCast_add, Int.natCast_mul, Int.cast_ofNat_Int] at e
          rw [e]
          refine ⟨8, c0, c1 + d * 281474976710656, c2, c3, by omega, by go_num, ?_, by omega, by omega, by omega, by omega, ?_, by omega, (hbel.setCell (by simp) _).drew⟩
          · exact heap_setCell_same wr _ 1 _ 28 _ hh
          · simp only [Nat.reduceLeDiff, Nat.min_eq_left, M2, mk4]; omega
        case measure => simp [intOf]
      · go_wp2
        go_region
        go_wp2
        go_roundw
        case rel =>
          obtain ⟨-, M1, M2⟩ := HM.out
          have hr := HN.out
          clear HM HN
          simp only [Nat.reduceAdd, Nat.reducePow, mk4] at M1 M2
          have e := wrap_nat (n := c2 + d) (by omega)
          simp only [Int.natCast_add] at e
          rw [e]
          refine ⟨9, c0, c1, c2 + d, c3, by omega, by go_num, ?_, by omega, by omega, by omega, by omega, ?_, by omega, (hbel.setCell (by simp) _).drew⟩
          · exact heap_setCell_same wr _ 2 _ 28 _ hh
          · simp only [Nat.reduceLeDiff, Nat.min_eq_left, M2, mk4]; omega
        case measure => simp [intOf]
      · go_wp2
        go_region
        go_wp2
        go_roundw
        case rel =>
          obtain ⟨-, M1, M2⟩ := HM.out
          have hr := HN.out
          clear HM HN
          simp only [Nat.reduceAdd, Nat.reducePow, mk4] at M1 M2
          have e := wrap_nat (n := c2 + d * 65536) (by omega)
          simp only [Int.natCast_add, Int.natCast_mul, Int.cast_ofNat_Int] at e
          rw [e]
          refine ⟨10, c0, c1, c2 + d * 65536, c3, by omega, by go_num, ?_, by omega, by omega, by omega, by omega, ?_, by omega, (hbel.setCell (by simp) _).drew⟩
          · exact heap_setCell_same wr _ 2 _ 28 _ hh
          · simp only [Nat.reduceLeDiff, Nat.min_eq_left, M2, mk4]; omega
        case measure => simp [intOf]
      · go_wp2
        go_region
        go_wp2
        go_roundw
        case rel =>
          obtain ⟨-, M1, M2⟩ := HM.out
          have hr := HN.out
          clear HM HN
          simp only [Nat.reduceAdd, Nat.reducePow, mk4] at M1 M2
          have e := wrap_nat (n := c2 + d * 4294967296) (by omega)
          simp only [Int.natCast_add, Int.natCast_mul, Int.cast_ofNat_Int] at e
          rw [e]
          refine ⟨11, c0, c1, c2 + d * 4294967296, c3, by omega, by go_num, ?_, by omega, by omega, by omega, by omega, ?_, by omega, (hbel.setCell (by simp) _).drew⟩
          · exact heap_setCell_same wr _ 2 _ 28 _ hh
          · simp only [Nat.reduceLeDiff, Nat.min_eq_left, M2, mk4]; omega
        case measure => simp [intOf]
      · go_wp2
        go_region
        go_wp2
        go_roundw
        case rel =>
          obtain ⟨-, M1, M2⟩ := HM.out
          have hr := HN.out
          clear HM HN
          simp only [Nat.reduceAdd, Nat.reducePow, mk4] at M1 M2
          have e := wrap_nat (n := c2 + d * 281474976710656) (by omega)
          simp only [Int.natCast_add, Int.natCast_mul, Int.cast_ofNat_Int] at e
          rw [e]
          refine ⟨12, c0, c1, c2 + d * 281474976710656, c3, by omega, by go_num, ?_, by omega, by omega, by omega, by omega, ?_, by omega, (hbel.setCell (by simp) _).drew⟩
          · exact heap_setCell_same wr _ 2 _ 28 _ hh
          · simp only [Nat.reduceLeDiff, Nat.min_eq_left, M2, mk4]; omega
        case measure => simp [intOf]
      · go_wp2
        go_region
        go_wp2
        go_roundw
        case rel =>
          obtain ⟨-, M1, M2⟩ := HM.out
          have hr := HN.out
          clear HM HN
          simp only [Nat.reduceAdd, Nat.reducePow, mk4] at M1 M2
          have e := wrap_nat (n := c3 + d) (by omega)
          simp only [Int.natCast_add] at e
          rw [e]
          refine ⟨13, c0, c1, c2, c3 + d, by omega, by go_num, ?_, by omega, by omega, by omega, by omega, ?_, by omega, (hbel.setCell (by simp) _).drew⟩
          · exact heap_setCell_same wr _ 3 _ 28 _ hh
          · simp only [Nat.reduceLeDiff, Nat.min_eq_left, M2, mk4]; omega
        case measure => simp [intOf]
      · go_wp2
        go_region
        go_wp2
        go_roundw
        case rel =>
          obtain ⟨-, M1, M2⟩ := HM.out
          have hr := HN.out
          clear HM HN
          simp only [Nat.reduceAdd, Nat.reducePow, mk4] at M1 M2
          have e := wrap_nat (n := c3 + d * 65536) (by omega)
          simp only [Int.natCast_add, Int.natCast_mul, Int.cast_ofNat_Int] at e
          rw [e]
          refine ⟨14, c0, c1, c2, c3 + d * 65536, by omega, by go_num, ?_, by omega, by omega, by omega, by omega, ?_, by omega, (hbel.setCell (by simp) _).drew⟩
          · exact heap_setCell_same wr _ 3 _ 28 _ hh
          · simp only [Nat.reduceLeDiff, Nat.min_eq_left, M2, mk4]; omega
        case measure => simp [intOf]
      · go_wp2
        go_region
        go_wp2
        go_roundw
        case rel =>
          obtain ⟨-, M1, M2⟩ := HM.out
          have hr := HN.out
          clear HM HN
          simp only [Nat.reduceAdd, Nat.reducePow, mk4] at M1 M2
          have e := wrap_nat (n := c3 + d * 4294967296) (by omega)
          simp only [Int.natCast_add, Int.natCast_mul, Int.cast_ofNat_Int] at e
          rw [e]
          refine ⟨15, c0, c1, c2, c3 + d * 4294967296, by omega, by go_num, ?_, by omega, by omega, by omega, by omega, ?_, by omega, (hbel.setCell (by simp) _).drew⟩
          · exact heap_setCell_same wr _ 3 _ 28 _ hh
          · simp only [Nat.reduceLeDiff, Nat.min_eq_left, M2, mk4]; omega
        case measure => simp [intOf]
      · go_wp2
        go_region
        go_wp2
        go_roundw
        case rel =>
          obtain ⟨-, M1, M2⟩ := HM.out
          have hr := HN.out
          clear HM HN
          simp only [Nat.reduceAdd, Nat.reducePow, mk4] at M1 M2
          have e := wrap_nat (n := c3 + d * 281474976710656) (by omega)
          simp only [Int.natCast_add, Int.natCast_mul, Int.cast_ofNat_Int] at e
          rw [e]
          refine ⟨16, c0, c1, c2, c3 + d * 281474976710656, by omega, by go_num, ?_, by omega, by omega, by omega, by omega, ?_, by omega, (hbel.setCell (by simp) _).drew⟩
          · exact heap_setCell_same wr _ 3 _ 28 _ hh
          · simp only [Nat.reduceLeDiff, Nat.min_eq_left, M2, mk4]; omega
        case measure => simp [intOf]
    · have hmin : min k 16 = 16 := by omega
      rw [hmin] at hm
      have hV : V (num f 16) = V4 c0 c1 c2 c3 := by rw [← hm]; exact V_mk4 hc0 hc1 hc2 hc3
      have hA : (w.alloc (.cells #[.int .u64 0, .int .u64 0, .int .u64 0, .int .u64 0] 28)).heap[w.heap.size]? = some (.cells #[.int .u64 0, .int .u64 0, .int .u64 0, .int .u64 0] 28 (0, 0)) := heap_alloc_new w _
      have hA' := (hbel.block w.heap.size (Nat.lt_succ_self _)).trans hA
      have a0 : wr.cell? ⟨w.heap.size, 0, none⟩ = some (.int .u64 0) := by rw [cell_of_row wr _ 0 _ 28 (0, 0) hA']; rfl
      have a1 : wr.cell? ⟨w.heap.size, 1, none⟩ = some (.int .u64 0) := by rw [cell_of_row wr _ 1 _ 28 (0, 0) hA']; rfl
      have a2 : wr.cell? ⟨w.heap.size, 2, none⟩ = some (.int .u64 0) := by rw [cell_of_row wr _ 2 _ 28 (0, 0) hA']; rfl
      have a3 : wr.cell? ⟨w.heap.size, 3, none⟩ = some (.int .u64 0) := by rw [cell_of_row wr _ 3 _ 28 (0, 0) hA']; rfl
      have az : ∀ j, wr.frozen? ⟨w.heap.size, j, none⟩ = false := fun j => frozen_of_row wr _ j _ 28 hA'
      have hB2 : Below w.heap.size w wr := ((Below.refl _ w).alloc (Nat.le_refl _) _).trans (hbel.mono (Nat.le_succ _))
      clear hA hA'
      rcases Nat.lt_or_ge k n with hkn | hkn
      · have hn17 : n = 17 := by omega
        have hk16 : k = 16 := by omega
        subst hn17 hk16
        have hg : wr.cell? ⟨g, 16, none⟩ = some (.int .u64 (f 16 : Nat)) := by rw [hbel.cell (by simp; omega), World.cell?_alloc_past _ _ _ hgw, hcl 16 (by omega)]
        have HM : Hid (mk4 c0 c1 c2 c3 = num f 16) := hm
        have HB := hidden hB2
        clear hm hf hcl hnum hB2
        by_cases hz0 : f 16 = 0
        · rw [hz0] at hg
          go_wp2
          go_roundw
          case rel => exact ⟨17, c0, c1, c2, c3, by omega, by go_num, hh, hc0, hc1, hc2, hc3, HM.out, fun _ => hz0, hbel⟩
          case measure => simp [intOf]
        · have hgt : (0 : Int) < (f 16 : Nat) := by omega
          have hV0 : V 0 = V4 0 0 0 0 := V_mk4 (a := 0) (b := 0) (c := 0) (d := 0) (by omega) (by omega) (by omega) (by omega)
          have HV := hidden hV0
          clear hV hV0
          go_wp2
          refine bodyPost_ret (v := .tuple #[.agg #[.int .u64 0, .int .u64 0, .int .u64 0, .int .u64 0], .bool false]) (by simp [results, Try.results94, go_sem, a0, a1, a2, a3]) rfl ⟨by rw [HV.out]; rfl, ?_⟩
          exact (((HB.out.setCell (by simp) _).setCell (by simp) _).setCell (by simp) _).setCell (by simp) _
      · have hcond : n = 16 ∨ f 16 = 0 := by
          rcases hn with h | h
          · exact .inl h
          · exact .inr (hq (by omega))
        have HV := hidden hV
        have HB := hidden hB2
        clear hV hB2 hq hm hf hcl hnum hn
        go_wp2
        refine bodyPost_ret (v := .tuple #[.agg #[.int .u64 c0, .int .u64 c1, .int .u64 c2, .int .u64 c3], .bool true]) (by simp [results, Try.results94, go_sem, a0, a1, a2, a3]) rfl ⟨by rw [HV.out]; rfl, ?_⟩
        exact (((HB.out.setCell (by simp) _).setCell (by simp) _).setCell (by simp) _).setCell (by simp) _

end Go.Proofs.Ytmjdmhelmgcanaa
