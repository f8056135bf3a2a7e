/- num.Cmp: how two numbers stand to one another: the parts are gone through from the highest on, by the library's iterator. -/
import Derived.Test.YtmjdmhelmgcanaaBase
import Derived.RangeFuncNested
import Derived.RangeFuncBound
import Derived.RangeFuncCalls
import Derived.RangeFuncLeaves
import Derived.Shelf.Abstract
import Derived.Shelf.RegionOpen
import Derived.OwnWalkIn
import Derived.TacticsInMore
import Derived.LoopNIn
import Derived.LoopIn
import Derived.Lib.Hide
namespace Go.Proofs.Ytmjdmhelmgcanaa
open Go.RowKit Go.Shelf

attribute [local go_sem] Oper.semAt_some

def bidx : Nat → Int
  | 0 => 3
  | 1 => 2
  | 2 => 1
  | 3 => 0
  | _ => -1
/-- the rounds by their numbers: what has come when k of them are over -/
def fins : Nat → List (Fin 4)
  | 0 => []
  | 1 => [0]
  | 2 => [0, 1]
  | 3 => [0, 1, 2]
  | _ => [0, 1, 2, 3]

theorem fins_last {k : Nat} (hk : k ≤ 4) {ini : List (Fin 4)} {last : Fin 4} (h : fins k = ini ++ [last]) :
    (ini = [] ∧ last = 0) ∨ (ini = [0] ∧ last = 1) ∨ (ini = [0, 1] ∧ last = 2) ∨ (ini = [0, 1, 2] ∧ last = 3) := by
  have hk5 : k = 0 ∨ k = 1 ∨ k = 2 ∨ k = 3 ∨ k = 4 := by omega
  rcases hk5 with rfl | rfl | rfl | rfl | rfl
  · simp [fins] at h
  · obtain ⟨h1, h2⟩ := List.append_inj' (show [] ++ [0] = ini ++ [last] from h) rfl
    exact .inl ⟨h1.symm, by simpa using h2.symm⟩
  · obtain ⟨h1, h2⟩ := List.append_inj' (show [0] ++ [1] = ini ++ [last] from h) rfl
    exact .inr (.inl ⟨h1.symm, by simpa using h2.symm⟩)
  · obtain ⟨h1, h2⟩ := List.append_inj' (show [0, 1] ++ [2] = ini ++ [last] from h) rfl
    exact .inr (.inr (.inl ⟨h1.symm, by simpa using h2.symm⟩))
  · obtain ⟨h1, h2⟩ := List.append_inj' (show [0, 1, 2] ++ [3] = ini ++ [last] from h) rfl
    exact .inr (.inr (.inr ⟨h1.symm, by simpa using h2.symm⟩))

theorem nan_in (F : Fence) (n : Nat) (h : F.fn 111) (hro : F.round = none) (x : Int) (w : World) :
    CallsIn F n Try.prog 111 #[.int .u64 x] w fun e w' => e = .returned (.bool false) ∧ w = w' := by
  refine callsIn_of_wp Try.func111 rfl h ?_ hro
  simp only [Try.ntmps111, List.size_toArray, List.length_cons, List.length_nil, Nat.reduceAdd, Nat.reduceSub, Array.replicate_succ, Array.replicate_zero, List.push_toArray, List.append_toArray, List.nil_append, List.cons_append]
  gi_wp2
  go_ret
  exact ⟨by simp, rfl⟩

def cmpI (x y : Int) : Int := if x < y then -1 else if y < x then 1 else 0

theorem compare_in (F : Fence) (n : Nat) (h : F.fn 99) (h1 : F.fn 111) (hro : F.round = none) (hn : 1 ≤ n) (x y : Int) (w : World) :
    CallsIn F n Try.prog 99 #[.int .u64 x, .int .u64 y] w fun e w' => e = .returned (.int .i64 (cmpI x y)) ∧ w = w' := by
  have hc : (x < y ∧ cmpI x y = -1) ∨ (¬ x < y ∧ y < x ∧ cmpI x y = 1) ∨ (¬ x < y ∧ ¬ y < x ∧ cmpI x y = 0) := by
    unfold cmpI; split
    · exact .inl ⟨by assumption, rfl⟩
    · split
      · exact .inr (.inl ⟨by assumption, by assumption, rfl⟩)
      · exact .inr (.inr ⟨by assumption, by assumption, rfl⟩)
  rcases hc with ⟨h2, h3⟩ | ⟨h2, h3, h4⟩ | ⟨h2, h3, h4⟩
  all_goals
    first | rw [h4] | rw [h3]
    refine callsIn_of_wp Try.func99 rfl h ?_ hro
    simp only [Try.ntmps99, List.size_toArray, List.length_cons, List.length_nil, Nat.reduceAdd, Nat.reduceSub, Array.replicate_succ, Array.replicate_zero, List.push_toArray, List.append_toArray, List.nil_append, List.cons_append]
    gi_wp2_with (gi_at_call 111; refine (nan_in F (n - 1) h1 hro _ _).mono ?_; rintro e w' ⟨rfl, rfl⟩)
    go_ret
    exact ⟨rfl, rfl⟩

theorem compare_c (F : Fence) (n : Nat) (h : F.fn 99) (h1 : F.fn 111) (hro : F.round = none) (hn : 1 ≤ n) (x y c : Int) (hc : cmpI x y = c) (w : World) :
    CallsIn F n Try.prog 99 #[.int .u64 x, .int .u64 y] w fun e w' => e = .returned (.int .i64 c) ∧ w = w' := by
  subst hc; exact compare_in F n h h1 hro hn x y w

set_option maxRecDepth 100000 in
set_option maxHeartbeats 2000000 in
theorem back_in (F : Fence) (n : Nat) (h : F.fn 110) (hro : F.round = none) (hn : 1 ≤ n) (l Bs n₀ b : Nat) (z : Nat → Int) (hb : b < n₀) (hBs0 : Bs < n₀) (J Jx : List (Fin 4) → World → Prop)
    (hY : ∀ (pre : List (Fin 4)) (x : Fin 4) W, J pre W → pre.length < 4 → YieldAt F (n - 1) Try.prog l #[.int .i64 (bidx x), .int .u64 (z x)] W fun e W' =>
      (e = .returned (.bool true) ∧ J (pre ++ [x]) W' ∧ Below n₀ W W') ∨ (e = .returned (.bool false) ∧ Jx (pre ++ [x]) W'))
    (W : World) (hBs : W.cell? ⟨Bs, 0, none⟩ = some (.slice (some ⟨b, 0, none⟩) 4 4))
    (hc0 : W.cell? ⟨b, 0, none⟩ = some (.int .u64 (z 3))) (hc1 : W.cell? ⟨b, 1, none⟩ = some (.int .u64 (z 2))) (hc2 : W.cell? ⟨b, 2, none⟩ = some (.int .u64 (z 1))) (hc3 : W.cell? ⟨b, 3, none⟩ = some (.int .u64 (z 0))) (h0 : J [] W) :
    CallsIn F n Try.prog 110 #[.func (.yield l) #[] #[], .pointer (some ⟨Bs, 0, none⟩)] W fun e W' => (∃ v, e = .returned v) ∧
      ((∃ ys, ys = fins 4 ∧ J ys W') ∨ (∃ pre, (∃ k, k ≤ 4 ∧ pre = fins k) ∧ Jx pre W')) := by
  refine callsIn_of_wp Try.func110 rfl h ?_ hro
  simp only [Try.ntmps110, List.size_toArray, List.length_cons, List.length_nil, Nat.reduceAdd, Nat.reduceSub, Array.replicate_succ, Array.replicate_zero, List.push_toArray, List.append_toArray, List.nil_append, List.cons_append]
  gi_wp2
  gi_loopw [3] (fun i wr => ∃ k : Nat, k ≤ 4 ∧ i = .int .i64 (bidx k) ∧ J (fins k) wr ∧ Below n₀ W wr)
    (fun i _ => (intOf i + 1).toNat)
  case atStart => exact ⟨0, Nat.zero_le _, rfl, h0, Below.refl _ _⟩
  case round =>
    obtain ⟨k, hk, rfl, hJs, hnx⟩ := hrel
    have cBs := (hnx.cell (p := ⟨Bs, 0, none⟩) hBs0).trans hBs
    have c0 := (hnx.cell (p := ⟨b, 0, none⟩) hb).trans hc0
    have c1 := (hnx.cell (p := ⟨b, 1, none⟩) hb).trans hc1
    have c2 := (hnx.cell (p := ⟨b, 2, none⟩) hb).trans hc2
    have c3 := (hnx.cell (p := ⟨b, 3, none⟩) hb).trans hc3
    clear hc0 hc1 hc2 hc3 hBs
    have hk5 : k = 0 ∨ k = 1 ∨ k = 2 ∨ k = 3 ∨ k = 4 := by omega
    rcases hk5 with rfl | rfl | rfl | rfl | rfl
    · obtain ⟨fn, tmps, assign, body, hy, hR⟩ := hY _ 0 wr hJs (by decide)
      simp only [show ((0 : Fin 4) : Nat) = 0 from rfl, bidx] at hy ⊢
      gi_wp2
      refine hR.mono ?_
      rintro e W3 (⟨rfl, hJ3, hk3⟩ | ⟨rfl, hJx3⟩)
      · gi_wp2
        go_roundw
        case rel => exact ⟨1, by omega, rfl, hJ3, hnx.trans hk3⟩
        case measure => simp [intOf]
      · gi_wp2
        refine bodyPost_ret (results_none rfl _ _ _) rfl ?_
        exact ⟨⟨_, rfl⟩, .inr ⟨_, ⟨1, by omega, rfl⟩, hJx3⟩⟩
    · obtain ⟨fn, tmps, assign, body, hy, hR⟩ := hY _ 1 wr hJs (by decide)
      simp only [show ((1 : Fin 4) : Nat) = 1 from rfl, bidx] at hy ⊢
      gi_wp2
      refine hR.mono ?_
      rintro e W3 (⟨rfl, hJ3, hk3⟩ | ⟨rfl, hJx3⟩)
      · gi_wp2
        go_roundw
        case rel => exact ⟨2, by omega, rfl, hJ3, hnx.trans hk3⟩
        case measure => simp [intOf]
      · gi_wp2
        refine bodyPost_ret (results_none rfl _ _ _) rfl ?_
        exact ⟨⟨_, rfl⟩, .inr ⟨_, ⟨2, by omega, rfl⟩, hJx3⟩⟩
    · obtain ⟨fn, tmps, assign, body, hy, hR⟩ := hY _ 2 wr hJs (by decide)
      simp only [show ((2 : Fin 4) : Nat) = 2 from rfl, bidx] at hy ⊢
      gi_wp2
      refine hR.mono ?_
      rintro e W3 (⟨rfl, hJ3, hk3⟩ | ⟨rfl, hJx3⟩)
      · gi_wp2
        go_roundw
        case rel => exact ⟨3, by omega, rfl, hJ3, hnx.trans hk3⟩
        case measure => simp [intOf]
      · gi_wp2
        refine bodyPost_ret (results_none rfl _ _ _) rfl ?_
        exact ⟨⟨_, rfl⟩, .inr ⟨_, ⟨3, by omega, rfl⟩, hJx3⟩⟩
    · obtain ⟨fn, tmps, assign, body, hy, hR⟩ := hY _ 3 wr hJs (by decide)
      simp only [show ((3 : Fin 4) : Nat) = 3 from rfl, bidx] at hy ⊢
      gi_wp2
      refine hR.mono ?_
      rintro e W3 (⟨rfl, hJ3, hk3⟩ | ⟨rfl, hJx3⟩)
      · gi_wp2
        go_roundw
        case rel => exact ⟨4, by omega, rfl, hJ3, hnx.trans hk3⟩
        case measure => simp [intOf]
      · gi_wp2
        refine bodyPost_ret (results_none rfl _ _ _) rfl ?_
        exact ⟨⟨_, rfl⟩, .inr ⟨_, ⟨4, by omega, rfl⟩, hJx3⟩⟩
    · simp only [bidx]
      gi_wp2
      go_end0
      exact ⟨⟨_, rfl⟩, .inl ⟨_, rfl, hJs⟩⟩

theorem back_stops (F : Fence) (n : Nat) (h : F.fn 110) (hro : F.round = none) (hn : 1 ≤ n) (Bs n₀ b : Nat) (z : Nat → Int) (w : World) (hn₀ : n₀ ≤ w.heap.size) (hb : b < n₀) (hBs0 : Bs < n₀)
    (hBs : w.cell? ⟨Bs, 0, none⟩ = some (.slice (some ⟨b, 0, none⟩) 4 4))
    (hc0 : w.cell? ⟨b, 0, none⟩ = some (.int .u64 (z 3))) (hc1 : w.cell? ⟨b, 1, none⟩ = some (.int .u64 (z 2))) (hc2 : w.cell? ⟨b, 2, none⟩ = some (.int .u64 (z 1))) (hc3 : w.cell? ⟨b, 3, none⟩ = some (.int .u64 (z 0))) :
    SeqStopsK F n Try.prog 110 #[.pointer (some ⟨Bs, 0, none⟩)] (fun x : Fin 4 => #[Value.int .i64 (bidx x), Value.int .u64 (z x)]) (Below n₀) (fun ys => ys = fins 4)
      (fun pre => ∃ k, k ≤ 4 ∧ pre = fins k) 4 w := fun l J Jx W hW _ _ hY h0 => by
  have g := fun o => (hW.mono hn₀).cell (p := ⟨b, o, none⟩) hb
  exact back_in F n h hro hn l Bs n₀ b z hb hBs0 J Jx hY W (((hW.mono hn₀).cell (p := ⟨Bs, 0, none⟩) hBs0).trans hBs) ((g 0).trans hc0) ((g 1).trans hc1) ((g 2).trans hc2) ((g 3).trans hc3) h0

theorem backward_in (F : Fence) (n : Nat) (h : F.fn 98) (hro : F.round = none) (a : Option Addr) (len cap : Nat) (w : World) :
    CallsIn F n Try.prog 98 #[.slice a len cap] w fun e w' => e = .returned (.func (.func 110) #[] #[.pointer (some ⟨w.heap.size, 0, none⟩)]) ∧ w' = w.alloc (.cells #[.slice a len cap] 88) := by
  refine callsIn_of_wp Try.func98 rfl h ?_ hro
  simp only [Try.ntmps98, List.size_toArray, List.length_cons, List.length_nil, Nat.reduceAdd, Nat.reduceSub, Array.replicate_succ, Array.replicate_zero, List.push_toArray, List.append_toArray, List.nil_append, List.cons_append]
  gi_wp2
  go_ret
  exact ⟨rfl, rfl⟩

theorem alloc_get (w : World) (o : Obj) (i : Nat) : (w.alloc o).heap[i]? = if i = w.heap.size then some o else w.heap[i]? := by
  simp only [World.alloc, Array.getElem?_push]

theorem heap4 (w : World) (p q r s : Obj) : let W := (((w.alloc p).alloc q).alloc r).alloc s
    W.heap[w.heap.size]? = some p ∧ W.heap[w.heap.size + 1]? = some q ∧ W.heap[w.heap.size + 2]? = some r ∧ W.heap[w.heap.size + 3]? = some s := by
  intro W
  refine ⟨?_, ?_, ?_, ?_⟩
  · rw [alloc_get, if_neg (by simp only [World.size_alloc]; omega), alloc_get, if_neg (by simp only [World.size_alloc]; omega), alloc_get, if_neg (by simp only [World.size_alloc]; omega), alloc_get, if_pos rfl]
  · rw [alloc_get, if_neg (by simp only [World.size_alloc]; omega), alloc_get, if_neg (by simp only [World.size_alloc]; omega), alloc_get, if_pos (by simp only [World.size_alloc])]
  · rw [alloc_get, if_neg (by simp only [World.size_alloc]; omega), alloc_get, if_pos (by simp only [World.size_alloc])]
  · rw [alloc_get, if_pos (by simp only [World.size_alloc])]

/-- the first difference, from the highest part on -/
def cmp4 (x y : Nat → Int) : Nat → Int
  | 0 => 0
  | k + 1 => if cmp4 x y k = 0 then cmpI (x k) (y k) else cmp4 x y k

set_option maxRecDepth 100000 in
set_option maxHeartbeats 4000000 in
theorem cmp_in (F : Fence) (n : Nat) (h71 : F.fn 71) (h98 : F.fn 98) (h110 : F.fn 110) (h99 : F.fn 99) (h111 : F.fn 111) (hro : F.round = none) (hn : 5 ≤ n) (x y : Nat → Int) (w : World) :
    CallsIn F n Try.prog 71 #[.agg #[.int .u64 (x 3), .int .u64 (x 2), .int .u64 (x 1), .int .u64 (x 0)], .agg #[.int .u64 (y 3), .int .u64 (y 2), .int .u64 (y 1), .int .u64 (y 0)]] w fun e W' =>
      e = .returned (.int .i64 (cmp4 x y 4)) ∧ Below w.heap.size w W' := by
  have h1 : 1 ≤ n := by omega
  refine callsIn_of_wp_marks Try.func71 rfl h71 ?_ hro
  simp only [Try.ntmps71, List.size_toArray, List.length_cons, List.length_nil, Nat.reduceAdd, Nat.reduceSub, Array.replicate_succ, Array.replicate_zero, List.push_toArray, List.append_toArray, List.nil_append, List.cons_append]
  gi_wp2_with (gi_at_call 98; refine (backward_in F (n - 1) h98 hro _ _ _ _).mono ?_; rintro e w' ⟨rfl, rfl⟩)
  obtain ⟨W4, hW4⟩ : ∃ W4, (((w.alloc (.cells #[.int .u64 (x 3), .int .u64 (x 2), .int .u64 (x 1), .int .u64 (x 0)] 28)).alloc (.cells #[.int .u64 (y 3), .int .u64 (y 2), .int .u64 (y 1), .int .u64 (y 0)] 28)).alloc (.cells #[.int .i64 0] 3)).alloc
      (.cells #[.slice (some ⟨w.heap.size, 0, none⟩) 4 4] 88) = W4 := ⟨_, rfl⟩
  have hB0 : Below w.heap.size w W4 := by
    rw [← hW4]
    exact ((((Below.refl _ w).alloc (Nat.le_refl _) _).alloc (by simp) _).alloc (by simp <;> omega) _).alloc (by simp <;> omega) _
  have hsz : W4.heap.size = w.heap.size + 4 := by rw [← hW4]; simp
  have hh := heap4 w (.cells #[.int .u64 (x 3), .int .u64 (x 2), .int .u64 (x 1), .int .u64 (x 0)] 28) (.cells #[.int .u64 (y 3), .int .u64 (y 2), .int .u64 (y 1), .int .u64 (y 0)] 28) (.cells #[.int .i64 0] 3) (.cells #[.slice (some ⟨w.heap.size, 0, none⟩) 4 4] 88)
  simp only [hW4] at hh
  obtain ⟨hA, hY, hR, hS⟩ := hh
  have cA := fun j => cell_of_row W4 _ j _ _ _ hA
  have cY := fun j => cell_of_row W4 _ j _ _ _ hY
  have cR := fun j => cell_of_row W4 _ j _ _ _ hR
  have cS := fun j => cell_of_row W4 _ j _ _ _ hS
  have zR := frozen_of_row W4 _ 0 _ _ hR
  rw [hW4]
  refine wpIn_rangeFunc_ownG hro h1 (gf := 110) (lb := #[.pointer (some ⟨w.heap.size + 3, 0, none⟩)]) rfl h110 (enters_of Try.func110 (by kernel_rfl) rfl)
    (back_stops F (n - 1) h110 hro (by omega) (w.heap.size + 3) (w.heap.size + 4) w.heap.size x _ (by omega) (by omega) (by omega) (cS 0) (cA 0) (cA 1) (cA 2) (cA 3)) belowK_t (belowK_b (by omega)) (Below.refl _ _) (fun _ => rfl)
    (fun (pre : List (Fin 4)) W => ((∀ j ∈ pre, cmpI (x j) (y j) = 0) ∧ (W.cell? ⟨w.heap.size + 2, 0, none⟩ = some (.int .i64 0) ∧ W.frozen? ⟨w.heap.size + 2, 0, none⟩ = false) ∧
      W.cell? ⟨w.heap.size + 1, 0, none⟩ = some (.int .u64 (y 3)) ∧ W.cell? ⟨w.heap.size + 1, 1, none⟩ = some (.int .u64 (y 2)) ∧ W.cell? ⟨w.heap.size + 1, 2, none⟩ = some (.int .u64 (y 1)) ∧ W.cell? ⟨w.heap.size + 1, 3, none⟩ = some (.int .u64 (y 0))) ∧ Below w.heap.size w W)
    (fun c (pre : List (Fin 4)) W => (c = .ret ∧ ∃ (ini : List (Fin 4)) (last : Fin 4), pre = ini ++ [last] ∧ (∀ j ∈ ini, cmpI (x j) (y j) = 0) ∧ cmpI (x last) (y last) ≠ 0 ∧ W.cell? ⟨w.heap.size + 2, 0, none⟩ = some (.int .i64 (cmpI (x last) (y last)))) ∧ Below w.heap.size w W)
    (OwnFrom.and (Own.from (fun s A B row hs hg hr => ⟨hs.1, ⟨cell_kept hs.2.1.1 hg hr, (frozen_kept hs.2.1.1 hg hr).trans hs.2.1.2⟩, cell_kept hs.2.2.1 hg hr, cell_kept hs.2.2.2.1 hg hr, cell_kept hs.2.2.2.2.1 hg hr, cell_kept hs.2.2.2.2.2 hg hr⟩) _) (ownFrom_below (Nat.le_refl _) (by omega)))
    (fun c => OwnFrom.and (Own.from (fun s A B row hs hg hr => by obtain ⟨hc, ini, last, e1, e2, e3, e4⟩ := hs; exact ⟨hc, ini, last, e1, e2, e3, cell_kept e4 hg hr⟩) _) (ownFrom_below (Nat.le_refl _) (by omega)))
    ⟨⟨by simp, ⟨cR 0, zR⟩, cY 0, cY 1, cY 2, cY 3⟩, hB0⟩
    (fun k => { tmps := #[.agg #[.int .u64 (x 3), .int .u64 (x 2), .int .u64 (x 1), .int .u64 (x 0)], .agg #[.int .u64 (y 3), .int .u64 (y 2), .int .u64 (y 1), .int .u64 (y 0)], .pointer (some ⟨w.heap.size, 0, none⟩), .pointer (some ⟨w.heap.size + 1, 0, none⟩), .pointer (some ⟨w.heap.size + 2, 0, none⟩),
      .int .i64 (bidx k), .int .u64 (x k), undef, .slice (some ⟨w.heap.size, 0, none⟩) 4 4, .func (.func 110) #[] #[.pointer (some ⟨w.heap.size + 3, 0, none⟩)], .int .i64 (bidx k), .int .u64 (x k), undef, undef, undef, undef, undef, undef, undef, undef], defers := [] }) ?assign ?body ?done ?stop
  case assign =>
    intro l x W K hK
    gi_wp2
    exact hK
  case body =>
    have h12 : 1 ≤ n - 1 - 1 := by omega
    rintro l pre k W ⟨⟨hp, ⟨hcr, hfr⟩, y0, y1, y2, y3⟩, hB⟩ _
    have hk : k = 0 ∨ k = 1 ∨ k = 2 ∨ k = 3 := by revert k; decide
    rcases hk with rfl | rfl | rfl | rfl
    · obtain ⟨c, hcc⟩ : ∃ c, cmpI (x 0) (y 0) = c := ⟨_, rfl⟩
      by_cases h0 : c = 0
      · subst h0
        have Hcc := Lib.hid hcc
        clear hcc
        simp only [show ((0 : Fin 4) : Nat) = 0 from rfl, bidx]
        gi_wp2_with (gi_at_call 99; refine (CallsIn.inRound l (compare_c F _ h99 h111 hro (by omega) _ _ _ Hcc.out _)).mono ?_; rintro e w' ⟨rfl, rfl⟩)
        exact ⟨KeepsFrom.refl _ _, Below.refl _ _, ⟨fun j hj => (List.mem_append.1 hj).elim (hp j) (fun e => by simp at e; subst e; exact Hcc.out), ⟨hcr, hfr⟩, y0, y1, y2, y3⟩, hB⟩
      · have hne : (c != 0) = true := by rw [bne_iff_ne]; exact h0
        have Hcc := Lib.hid hcc
        have H0 := Lib.hid h0
        clear hcc h0
        simp only [show ((0 : Fin 4) : Nat) = 0 from rfl, bidx]
        gi_wp2_with (gi_at_call 99; refine (CallsIn.inRound l (compare_c F _ h99 h111 hro (by omega) _ _ _ Hcc.out _)).mono ?_; rintro e w' ⟨rfl, rfl⟩)
        refine ⟨(KeepsOthers.setCell _ _ _).from _, ⟨rfl, pre, 0, rfl, hp, by rw [show ((0 : Fin 4) : Nat) = 0 from rfl, Hcc.out]; exact H0.out, ?_⟩, hB.setCell (p := ⟨w.heap.size + 2, 0, none⟩) (by simp) _⟩
        rw [show ((0 : Fin 4) : Nat) = 0 from rfl, Hcc.out]
        exact World.cell?_setCell_same' _ _ _ (by rw [hcr]; rfl)
    · obtain ⟨c, hcc⟩ : ∃ c, cmpI (x 1) (y 1) = c := ⟨_, rfl⟩
      by_cases h0 : c = 0
      · subst h0
        have Hcc := Lib.hid hcc
        clear hcc
        simp only [show ((1 : Fin 4) : Nat) = 1 from rfl, bidx]
        gi_wp2_with (gi_at_call 99; refine (CallsIn.inRound l (compare_c F _ h99 h111 hro (by omega) _ _ _ Hcc.out _)).mono ?_; rintro e w' ⟨rfl, rfl⟩)
        exact ⟨KeepsFrom.refl _ _, Below.refl _ _, ⟨fun j hj => (List.mem_append.1 hj).elim (hp j) (fun e => by simp at e; subst e; exact Hcc.out), ⟨hcr, hfr⟩, y0, y1, y2, y3⟩, hB⟩
      · have hne : (c != 0) = true := by rw [bne_iff_ne]; exact h0
        have Hcc := Lib.hid hcc
        have H0 := Lib.hid h0
        clear hcc h0
        simp only [show ((1 : Fin 4) : Nat) = 1 from rfl, bidx]
        gi_wp2_with (gi_at_call 99; refine (CallsIn.inRound l (compare_c F _ h99 h111 hro (by omega) _ _ _ Hcc.out _)).mono ?_; rintro e w' ⟨rfl, rfl⟩)
        refine ⟨(KeepsOthers.setCell _ _ _).from _, ⟨rfl, pre, 1, rfl, hp, by rw [show ((1 : Fin 4) : Nat) = 1 from rfl, Hcc.out]; exact H0.out, ?_⟩, hB.setCell (p := ⟨w.heap.size + 2, 0, none⟩) (by simp) _⟩
        rw [show ((1 : Fin 4) : Nat) = 1 from rfl, Hcc.out]
        exact World.cell?_setCell_same' _ _ _ (by rw [hcr]; rfl)
    · obtain ⟨c, hcc⟩ : ∃ c, cmpI (x 2) (y 2) = c := ⟨_, rfl⟩
      by_cases h0 : c = 0
      · subst h0
        have Hcc := Lib.hid hcc
        clear hcc
        simp only [show ((2 : Fin 4) : Nat) = 2 from rfl, bidx]
        gi_wp2_with (gi_at_call 99; refine (CallsIn.inRound l (compare_c F _ h99 h111 hro (by omega) _ _ _ Hcc.out _)).mono ?_; rintro e w' ⟨rfl, rfl⟩)
        exact ⟨KeepsFrom.refl _ _, Below.refl _ _, ⟨fun j hj => (List.mem_append.1 hj).elim (hp j) (fun e => by simp at e; subst e; exact Hcc.out), ⟨hcr, hfr⟩, y0, y1, y2, y3⟩, hB⟩
      · have hne : (c != 0) = true := by rw [bne_iff_ne]; exact h0
        have Hcc := Lib.hid hcc
        have H0 := Lib.hid h0
        clear hcc h0
        simp only [show ((2 : Fin 4) : Nat) = 2 from rfl, bidx]
        gi_wp2_with (gi_at_call 99; refine (CallsIn.inRound l (compare_c F _ h99 h111 hro (by omega) _ _ _ Hcc.out _)).mono ?_; rintro e w' ⟨rfl, rfl⟩)
        refine ⟨(KeepsOthers.setCell _ _ _).from _, ⟨rfl, pre, 2, rfl, hp, by rw [show ((2 : Fin 4) : Nat) = 2 from rfl, Hcc.out]; exact H0.out, ?_⟩, hB.setCell (p := ⟨w.heap.size + 2, 0, none⟩) (by simp) _⟩
        rw [show ((2 : Fin 4) : Nat) = 2 from rfl, Hcc.out]
        exact World.cell?_setCell_same' _ _ _ (by rw [hcr]; rfl)
    · obtain ⟨c, hcc⟩ : ∃ c, cmpI (x 3) (y 3) = c := ⟨_, rfl⟩
      by_cases h0 : c = 0
      · subst h0
        have Hcc := Lib.hid hcc
        clear hcc
        simp only [show ((3 : Fin 4) : Nat) = 3 from rfl, bidx]
        gi_wp2_with (gi_at_call 99; refine (CallsIn.inRound l (compare_c F _ h99 h111 hro (by omega) _ _ _ Hcc.out _)).mono ?_; rintro e w' ⟨rfl, rfl⟩)
        exact ⟨KeepsFrom.refl _ _, Below.refl _ _, ⟨fun j hj => (List.mem_append.1 hj).elim (hp j) (fun e => by simp at e; subst e; exact Hcc.out), ⟨hcr, hfr⟩, y0, y1, y2, y3⟩, hB⟩
      · have hne : (c != 0) = true := by rw [bne_iff_ne]; exact h0
        have Hcc := Lib.hid hcc
        have H0 := Lib.hid h0
        clear hcc h0
        simp only [show ((3 : Fin 4) : Nat) = 3 from rfl, bidx]
        gi_wp2_with (gi_at_call 99; refine (CallsIn.inRound l (compare_c F _ h99 h111 hro (by omega) _ _ _ Hcc.out _)).mono ?_; rintro e w' ⟨rfl, rfl⟩)
        refine ⟨(KeepsOthers.setCell _ _ _).from _, ⟨rfl, pre, 3, rfl, hp, by rw [show ((3 : Fin 4) : Nat) = 3 from rfl, Hcc.out]; exact H0.out, ?_⟩, hB.setCell (p := ⟨w.heap.size + 2, 0, none⟩) (by simp) _⟩
        rw [show ((3 : Fin 4) : Nat) = 3 from rfl, Hcc.out]
        exact World.cell?_setCell_same' _ _ _ (by rw [hcr]; rfl)
  case done =>
    rintro D ys W hD rfl ⟨⟨hne, ⟨hcr, hfr⟩, _⟩, hB⟩ hK
    gi_wp2
    have hK' := (KeepsOthers.setCell W ⟨w.heap.size + 2, 0, none⟩ (.int .i64 0)).same D _ hK rfl
    refine ⟨by simp, .inl ⟨_, _, rfl, run_takeDeferred hK', ?_⟩⟩
    have hc5 := cell_kept (World.cell?_setCell_same' W ⟨w.heap.size + 2, 0, none⟩ (.int .i64 0) (by rw [hcr]; rfl)) (grownBy_putObj' _ D (.deferred none)) (fun r e => by cases e; exact ⟨_, hK', rfl⟩)
    have hz : cmp4 x y 4 = 0 := by
      have e0 := hne 0 (by decide)
      have e1 := hne 1 (by decide)
      have e2 := hne 2 (by decide)
      have e3 := hne 3 (by decide)
      simp only [show ((0 : Fin 4) : Nat) = 0 from rfl, show ((1 : Fin 4) : Nat) = 1 from rfl, show ((2 : Fin 4) : Nat) = 2 from rfl, show ((3 : Fin 4) : Nat) = 3 from rfl] at e0 e1 e2 e3
      simp [cmp4, e0, e1, e2, e3]
    rw [hz]
    refine ⟨.int .i64 0, ?_, rfl, (hB.setCell (p := ⟨w.heap.size + 2, 0, none⟩) (by simp) _).trans (belowK_b (w := w) (Nat.le_refl _) _ D _ _ (by omega) hK' rfl rfl)⟩
    simp [results, Try.results71, go_sem, hc5]
  case stop =>
    rintro D c pre W hD ⟨k, hk, rfl⟩ ⟨⟨rfl, ini, last, e1, e2, e3, hcr⟩, hB⟩ hK
    gi_wp2
    refine ⟨by simp, .inl ⟨_, _, rfl, run_takeDeferred hK, ?_⟩⟩
    have hc5 := cell_kept hcr (grownBy_putObj' _ D (.deferred none)) (fun r e => by cases e; exact ⟨_, hK, rfl⟩)
    have hz : cmp4 x y 4 = cmpI (x last) (y last) := by
      rcases fins_last hk e1 with ⟨rfl, rfl⟩ | ⟨rfl, rfl⟩ | ⟨rfl, rfl⟩ | ⟨rfl, rfl⟩
      · simp only [show ((0 : Fin 4) : Nat) = 0 from rfl] at e3 ⊢
        simp [cmp4, e3]
      · have g0 := e2 0 (by decide)
        simp only [show ((0 : Fin 4) : Nat) = 0 from rfl, show ((1 : Fin 4) : Nat) = 1 from rfl] at e3 g0 ⊢
        simp [cmp4, e3, g0]
      · have g0 := e2 0 (by decide)
        have g1 := e2 1 (by decide)
        simp only [show ((0 : Fin 4) : Nat) = 0 from rfl, show ((1 : Fin 4) : Nat) = 1 from rfl, show ((2 : Fin 4) : Nat) = 2 from rfl] at e3 g0 g1 ⊢
        simp [cmp4, e3, g0, g1]
      · have g0 := e2 0 (by decide)
        have g1 := e2 1 (by decide)
        have g2 := e2 2 (by decide)
        simp only [show ((0 : Fin 4) : Nat) = 0 from rfl, show ((1 : Fin 4) : Nat) = 1 from rfl, show ((2 : Fin 4) : Nat) = 2 from rfl, show ((3 : Fin 4) : Nat) = 3 from rfl] at e3 g0 g1 g2 ⊢
        simp [cmp4, g0, g1, g2]
    rw [hz]
    refine ⟨.int .i64 (cmpI (x last) (y last)), ?_, rfl, hB.trans (belowK_b (w := w) (Nat.le_refl _) W D _ _ (by omega) hK rfl rfl)⟩
    simp [results, Try.results71, go_sem, hc5]

end Go.Proofs.Ytmjdmhelmgcanaa
