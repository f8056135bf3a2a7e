/- Joined out of smaller texts: Dig, DigB, DigC, DigD, DigE, DigF, DigG. -/
import Derived.Test.YtmjdmhelmgcanaaXB
import Derived.OwnWalk
import Derived.Maps.AppendAt
import Derived.Deep.RegionWith
/- A number's sixteen digits of 16 bits, as the document's r01 reckons with them. -/
namespace Go.Proofs.Ytmjdmhelmgcanaa
open Go.RowKit

theorem info26 : (Try.prog.info? 26).map (fun i => (i.zero, i.size, i.bytes)) = some (some (.int .u64 0), 1, 8) := by kernel_rfl

/-- a row of words -/
def row (f : Nat → Nat) (n : Nat) : List Value := (List.range n).map fun i => .int .u64 (f i : Nat)
/-- a digit -/
def dg (x i : Nat) : Nat := x / 65536 ^ i % 65536

theorem row_length (f : Nat → Nat) (n : Nat) : (row f n).length = n := by simp [row]
theorem row_succ (f : Nat → Nat) (n : Nat) : row f (n + 1) = row f n ++ [.int .u64 (f n : Nat)] := by simp [row, List.range_succ]
theorem row_congr {f g : Nat → Nat} {n : Nat} (h : ∀ i, i < n → f i = g i) : row f n = row g n := by
  unfold row; apply List.map_congr_left; intro a ha; rw [h a (List.mem_range.1 ha)]
theorem row_get (f : Nat → Nat) {n i : Nat} (h : i < n) : (row f n)[i]? = some (.int .u64 (f i : Nat)) := by
  simp [row, h]

theorem dg_lt (x i : Nat) : dg x i < 65536 := Nat.mod_lt _ (by omega)

/-- a digit by the number's parts -/
theorem dg_lm (x : Nat) {k : Nat} (hk : k < 16) : dg x k = lm x (k / 4) / 2 ^ (16 * (k % 4)) % 65536 := by
  have h : k = 0 ∨ k = 1 ∨ k = 2 ∨ k = 3 ∨ k = 4 ∨ k = 5 ∨ k = 6 ∨ k = 7 ∨ k = 8 ∨ k = 9 ∨ k = 10 ∨ k = 11 ∨ k = 12 ∨ k = 13 ∨ k = 14 ∨ k = 15 := by omega
  rcases h with rfl | rfl | rfl | rfl | rfl | rfl | rfl | rfl | rfl | rfl | rfl | rfl | rfl | rfl | rfl | rfl <;>
    (simp only [dg, lm, Nat.reduceDiv, Nat.reduceMod, Nat.reduceMul, Nat.reducePow]; omega)

theorem own_base {w : World} {B B' e size n : Nat} {v : Value} {xs : List Value} (h : w.ownsRow B' e size v n xs) (hB : B ≤ B') : w.ownsRow B e size v n xs :=
  ⟨h.1, h.2.imp id fun ⟨g, cap, cur, a, b, c⟩ => ⟨g, cap, cur, a, Nat.le_trans hB b, c⟩⟩
theorem own_below {w w' : World} {B e size n : Nat} {v : Value} {xs : List Value} (h : w.ownsRow B e size v n xs) (hb : Below w.heap.size w w') : w'.ownsRow B e size v n xs := by
  refine ⟨h.1, ?_⟩
  rcases h.2 with hn | ⟨g, cap, cur, rfl, hg, hgg, rest⟩
  · exact .inl hn
  · exact .inr ⟨g, cap, cur, rfl, hg, by rw [hb.block g (Array.getElem?_eq_some_iff.1 hgg).1]; exact hgg, rest⟩

/-- the number that digits are -/
def num (f : Nat → Nat) : Nat → Nat
  | 0 => 0
  | k + 1 => num f k + f k * 65536 ^ k

theorem num_dg (x k : Nat) : num (dg x) k = x % 65536 ^ k := by
  induction k with
  | zero => simp [num, Nat.mod_one]
  | succ k ih => rw [num, ih, dg, Nat.pow_succ, Nat.mod_mul, Nat.mul_comm (x / 65536 ^ k % 65536)]
theorem num_dg16 {x : Nat} (h : x < TOP) : num (dg x) 16 = x := by
  rw [num_dg]; exact Nat.mod_eq_of_lt h
theorem num_lt {f : Nat → Nat} {k : Nat} (h : ∀ i, i < k → f i < 65536) : num f k < 65536 ^ k := by
  induction k with
  | zero => simp [num]
  | succ k ih =>
    have h1 := ih fun i hi => h i (by omega)
    have h2 : f k * 65536 ^ k ≤ 65535 * 65536 ^ k := Nat.mul_le_mul_right _ (by have := h k (by omega); omega)
    rw [num, Nat.pow_succ]; omega
theorem num_congr {f g : Nat → Nat} {k : Nat} (h : ∀ i, i < k → f i = g i) : num f k = num g k := by
  induction k with
  | zero => rfl
  | succ k ih => rw [num, num, ih fun i hi => h i (by omega), h k (by omega)]
theorem num_add (f g : Nat → Nat) (k : Nat) : num (fun i => f i + g i) k = num f k + num g k := by
  induction k with
  | zero => rfl
  | succ k ih => rw [num, num, num, ih, Nat.add_mul]; omega

/-- what an append to one's own row leaves -/
theorem grow_step {B e n : Nat} {a wr w1 : World} {o : Obj} {v : Value} {xs : List Value} (hb : Below B a wr) (hB : B ≤ a.heap.size) (hown : wr.ownsRow B e 1 v n xs)
    (hg : (wr.alloc o).grownBy w1 v.ownBlock) : Below B a w1 :=
  (hb.alloc (Nat.le_trans hB hb.size) o).grown hg (by simp; have := hb.size; omega) (fun j hj => (hown.lt j hj).1)

set_option maxHeartbeats 4000000 in
set_option maxRecDepth 1000000 in
theorem digits_calls (x : Nat) (w : World) :
    Calls Try.prog 93 #[V x] w fun e w' => ∃ v, e = .returned v ∧ w'.ownsRow w.heap.size 26 1 v 16 (row (dg x) 16) ∧ Below w.heap.size w w' := by
  obtain ⟨i0, hi, hz0, hz1, hz2⟩ := info_parts info26
  unfold V V4
  go_enter Try.func93, Try.ntmps93
  go_wp2
  go_loopw [3, 4] (fun v i wr => ∃ k : Nat, k ≤ 16 ∧ i = .int .i64 k ∧ wr.ownsRow (w.heap.size + 1) 26 1 v k (row (dg x) k) ∧
      Below (w.heap.size + 1) (w.alloc (.cells #[.int .u64 (lm x 0 : Nat), .int .u64 (lm x 1 : Nat), .int .u64 (lm x 2 : Nat), .int .u64 (lm x 3 : Nat)] 28)) wr)
    (fun _ i _ => 16 - (intOf i).toNat)
  case atStart => exact ⟨0, Nat.zero_le _, rfl, World.ownsRow_nil _ _ _ _, Below.refl _ _⟩
  case round =>
    obtain ⟨k, hk, rfl, hown, hbel⟩ := hrel
    have hsz := hbel.size
    simp only [World.size_alloc] at hsz
    rcases Nat.lt_or_ge k 16 with hlt | hge
    · have h0 : wr.cell? ⟨w.heap.size, 0, none⟩ = some (.int .u64 (lm x 0 : Nat)) := by rw [hbel.cell (Nat.lt_succ_self _), World.cell?_alloc_at _ _ _ _ rfl]; rfl
      have h1 : wr.cell? ⟨w.heap.size, 1, none⟩ = some (.int .u64 (lm x 1 : Nat)) := by rw [hbel.cell (Nat.lt_succ_self _), World.cell?_alloc_at _ _ _ _ rfl]; rfl
      have h2 : wr.cell? ⟨w.heap.size, 2, none⟩ = some (.int .u64 (lm x 2 : Nat)) := by rw [hbel.cell (Nat.lt_succ_self _), World.cell?_alloc_at _ _ _ _ rfl]; rfl
      have h3 : wr.cell? ⟨w.heap.size, 3, none⟩ = some (.int .u64 (lm x 3 : Nat)) := by rw [hbel.cell (Nat.lt_succ_self _), World.cell?_alloc_at _ _ _ _ rfl]; rfl
      have h : k = 0 ∨ k = 1 ∨ k = 2 ∨ k = 3 ∨ k = 4 ∨ k = 5 ∨ k = 6 ∨ k = 7 ∨ k = 8 ∨ k = 9 ∨ k = 10 ∨ k = 11 ∨ k = 12 ∨ k = 13 ∨ k = 14 ∨ k = 15 := by omega
      obtain ⟨d, hd⟩ : ∃ d, d = dg x k := ⟨_, rfl⟩
      have HD : Hid (d = dg x k ∧ d = lm x (k / 4) / 2 ^ (16 * (k % 4)) % 65536) := ⟨hd, hd.trans (dg_lm x hlt)⟩
      clear hk hd
      rcases h with rfl | h
      · go_wp2_with (at_builtin; refine wpList_append_own _ rfl _ _ 88 rfl (w.heap.size + 1) 26 i0 (.int .u64 0) 1 8 Try.underlying88 hi hz0 hz1 hz2 rfl (by decide) _ _ _ rfl (hown.alloc _) ⟨wr.heap.size, 0, none⟩ 1 1 [.int .u64 (d : Nat)] rfl rfl ?c1 ?c2 ?c3 ?c4 ?c5 ?_)
        case c1 =>
          intro j u hj
          match j, hj with
          | 0, hj =>
            simp only [List.getElem?_cons_zero, Option.some.injEq] at hj
            subst hj
            have e := HD.out.2
            simp only [Nat.reduceDiv, Nat.reduceMod, Nat.reduceMul, Nat.reducePow, Nat.div_one] at e
            rw [e]
            simp [Addr.add]
        case c2 => intro u hu; simp at hu; subst hu; rfl
        case c3 => unfold maxLen; omega
        case c4 => omega
        case c5 => simp; omega
        · intro v' w1 hown' hgrow _
          have R := grow_step hbel (by simp) hown hgrow
          rw [HD.out.1, ← row_succ] at hown'
          clear hgrow hown h0 h1 h2 h3 HD
          go_wp2
          go_roundw
          case rel => exact ⟨1, by omega, by go_num, hown', R⟩
          case measure => simp [intOf] <;> omega
      rcases h with rfl | h
      · go_wp2_with (at_builtin; refine wpList_append_own _ rfl _ _ 88 rfl (w.heap.size + 1) 26 i0 (.int .u64 0) 1 8 Try.underlying88 hi hz0 hz1 hz2 rfl (by decide) _ _ _ rfl (hown.alloc _) ⟨wr.heap.size, 0, none⟩ 1 1 [.int .u64 (d : Nat)] rfl rfl ?c1 ?c2 ?c3 ?c4 ?c5 ?_)
        case c1 =>
          intro j u hj
          match j, hj with
          | 0, hj =>
            simp only [List.getElem?_cons_zero, Option.some.injEq] at hj
            subst hj
            have e := HD.out.2
            simp only [Nat.reduceDiv, Nat.reduceMod, Nat.reduceMul, Nat.reducePow] at e
            rw [e]
            simp [Addr.add]
        case c2 => intro u hu; simp at hu; subst hu; rfl
        case c3 => unfold maxLen; omega
        case c4 => omega
        case c5 => simp; omega
        · intro v' w1 hown' hgrow _
          have R := grow_step hbel (by simp) hown hgrow
          rw [HD.out.1, ← row_succ] at hown'
          clear hgrow hown h0 h1 h2 h3 HD
          go_wp2
          go_roundw
          case rel => exact ⟨2, by omega, by go_num, hown', R⟩
          case measure => simp [intOf] <;> omega
      rcases h with rfl | h
      · go_wp2_with (at_builtin; refine wpList_append_own _ rfl _ _ 88 rfl (w.heap.size + 1) 26 i0 (.int .u64 0) 1 8 Try.underlying88 hi hz0 hz1 hz2 rfl (by decide) _ _ _ rfl (hown.alloc _) ⟨wr.heap.size, 0, none⟩ 1 1 [.int .u64 (d : Nat)] rfl rfl ?c1 ?c2 ?c3 ?c4 ?c5 ?_)
        case c1 =>
          intro j u hj
          match j, hj with
          | 0, hj =>
            simp only [List.getElem?_cons_zero, Option.some.injEq] at hj
            subst hj
            have e := HD.out.2
            simp only [Nat.reduceDiv, Nat.reduceMod, Nat.reduceMul, Nat.reducePow] at e
            rw [e]
            simp [Addr.add]
        case c2 => intro u hu; simp at hu; subst hu; rfl
        case c3 => unfold maxLen; omega
        case c4 => omega
        case c5 => simp; omega
        · intro v' w1 hown' hgrow _
          have R := grow_step hbel (by simp) hown hgrow
          rw [HD.out.1, ← row_succ] at hown'
          clear hgrow hown h0 h1 h2 h3 HD
          go_wp2
          go_roundw
          case rel => exact ⟨3, by omega, by go_num, hown', R⟩
          case measure => simp [intOf] <;> omega
      rcases h with rfl | h
      · go_wp2_with (at_builtin; refine wpList_append_own _ rfl _ _ 88 rfl (w.heap.size + 1) 26 i0 (.int .u64 0) 1 8 Try.underlying88 hi hz0 hz1 hz2 rfl (by decide) _ _ _ rfl (hown.alloc _) ⟨wr.heap.size, 0, none⟩ 1 1 [.int .u64 (d : Nat)] rfl rfl ?c1 ?c2 ?c3 ?c4 ?c5 ?_)
        case c1 =>
          intro j u hj
          match j, hj with
          | 0, hj =>
            simp only [List.getElem?_cons_zero, Option.some.injEq] at hj
            subst hj
            have e := HD.out.2
            simp only [Nat.reduceDiv, Nat.reduceMod, Nat.reduceMul, Nat.reducePow] at e
            rw [e]
            simp [Addr.add]
        case c2 => intro u hu; simp at hu; subst hu; rfl
        case c3 => unfold maxLen; omega
        case c4 => omega
        case c5 => simp; omega
        · intro v' w1 hown' hgrow _
          have R := grow_step hbel (by simp) hown hgrow
          rw [HD.out.1, ← row_succ] at hown'
          clear hgrow hown h0 h1 h2 h3 HD
          go_wp2
          go_roundw
          case rel => exact ⟨4, by omega, by go_num, hown', R⟩
          case measure => simp [intOf] <;> omega
      rcases h with rfl | h
      · go_wp2_with (at_builtin; refine wpList_append_own _ rfl _ _ 88 rfl (w.heap.size + 1) 26 i0 (.int .u64 0) 1 8 Try.underlying88 hi hz0 hz1 hz2 rfl (by decide) _ _ _ rfl (hown.alloc _) ⟨wr.heap.size, 0, none⟩ 1 1 [.int .u64 (d : Nat)] rfl rfl ?c1 ?c2 ?c3 ?c4 ?c5 ?_)
        case c1 =>
          intro j u hj
          match j, hj with
          | 0, hj =>
            simp only [List.getElem?_cons_zero, Option.some.injEq] at hj
            subst hj
            have e := HD.out.2
            simp only [Nat.reduceDiv, Nat.reduceMod, Nat.reduceMul, Nat.reducePow, Nat.div_one] at e
            rw [e]
            simp [Addr.add]
        case c2 => intro u hu; simp at hu; subst hu; rfl
        case c3 => unfold maxLen; omega
        case c4 => omega
        case c5 => simp; omega
        · intro v' w1 hown' hgrow _
          have R := grow_step hbel (by simp) hown hgrow
          rw [HD.out.1, ← row_succ] at hown'
          clear hgrow hown h0 h1 h2 h3 HD
          go_wp2
          go_roundw
          case rel => exact ⟨5, by omega, by go_num, hown', R⟩
          case measure => simp [intOf] <;> omega
      rcases h with rfl | h
      · go_wp2_with (at_builtin; refine wpList_append_own _ rfl _ _ 88 rfl (w.heap.size + 1) 26 i0 (.int .u64 0) 1 8 Try.underlying88 hi hz0 hz1 hz2 rfl (by decide) _ _ _ rfl (hown.alloc _) ⟨wr.heap.size, 0, none⟩ 1 1 [.int .u64 (d : Nat)] rfl rfl ?c1 ?c2 ?c3 ?c4 ?c5 ?_)
        case c1 =>
          intro j u hj
          match j, hj with
          | 0, hj =>
            simp only [List.getElem?_cons_zero, Option.some.injEq] at hj
            subst hj
            have e := HD.out.2
            simp only [Nat.reduceDiv, Nat.reduceMod, Nat.reduceMul, Nat.reducePow] at e
            rw [e]
            simp [Addr.add]
        case c2 => intro u hu; simp at hu; subst hu; rfl
        case c3 => unfold maxLen; omega
        case c4 => omega
        case c5 => simp; omega
        · intro v' w1 hown' hgrow _
          have R := grow_step hbel (by simp) hown hgrow
          rw [HD.out.1, ← row_succ] at hown'
          clear hgrow hown h0 h1 h2 h3 HD
          go_wp2
          go_roundw
          case rel => exact ⟨6, by omega, by go_num, hown', R⟩
          case measure => simp [intOf] <;> omega
      rcases h with rfl | h
      · go_wp2_with (at_builtin; refine wpList_append_own _ rfl _ _ 88 rfl (w.heap.size + 1) 26 i0 (.int .u64 0) 1 8 Try.underlying88 hi hz0 hz1 hz2 rfl (by decide) _ _ _ rfl (hown.alloc _) ⟨wr.heap.size, 0, none⟩ 1 1 [.int .u64 (d : Nat)] rfl rfl ?c1 ?c2 ?c3 ?c4 ?c5 ?_)
        case c1 =>
          intro j u hj
          match j, hj with
          | 0, hj =>
            simp only [List.getElem?_cons_zero, Option.some.injEq] at hj
            subst hj
            have e := HD.out.2
            simp only [Nat.reduceDiv, Nat.reduceMod, Nat.reduceMul, Nat.reducePow] at e
            rw [e]
            simp [Addr.add]
        case c2 => intro u hu; simp at hu; subst hu; rfl
        case c3 => unfold maxLen; omega
        case c4 => omega
        case c5 => simp; omega
        · intro v' w1 hown' hgrow _
          have R := grow_step hbel (by simp) hown hgrow
          rw [HD.out.1, ← row_succ] at hown'
          clear hgrow hown h0 h1 h2 h3 HD
          go_wp2
          go_roundw
          case rel => exact ⟨7, by omega, by go_num, hown', R⟩
          case measure => simp [intOf] <;> omega
      rcases h with rfl | h
      · go_wp2_with (at_builtin; refine wpList_append_own _ rfl _ _ 88 rfl (w.heap.size + 1) 26 i0 (.int .u64 0) 1 8 Try.underlying88 hi hz0 hz1 hz2 rfl (by decide) _ _ _ rfl (hown.alloc _) ⟨wr.heap.size, 0, none⟩ 1 1 [.int .u64 (d : Nat)] rfl rfl ?c1 ?c2 ?c3 ?c4 ?c5 ?_)
        case c1 =>
          intro j u hj
          match j, hj with
          | 0, hj =>
            simp only [List.getElem?_cons_zero, Option.some.injEq] at hj
            subst hj
            have e := HD.out.2
            simp only [Nat.reduceDiv, Nat.reduceMod, Nat.reduceMul, Nat.reducePow] at e
            rw [e]
            simp [Addr.add]
        case c2 => intro u hu; simp at hu; subst hu; rfl
        case c3 => unfold maxLen; omega
        case c4 => omega
        case c5 => simp; omega
        · intro v' w1 hown' hgrow _
          have R := grow_step hbel (by simp) hown hgrow
          rw [HD.out.1, ← row_succ] at hown'
          clear hgrow hown h0 h1 h2 h3 HD
          go_wp2
          go_roundw
          case rel => exact ⟨8, by omega, by go_num, hown', R⟩
          case measure => simp [intOf] <;> omega
      rcases h with rfl | h
      · go_wp2_with (at_builtin; refine wpList_append_own _ rfl _ _ 88 rfl (w.heap.size + 1) 26 i0 (.int .u64 0) 1 8 Try.underlying88 hi hz0 hz1 hz2 rfl (by decide) _ _ _ rfl (hown.alloc _) ⟨wr.heap.size, 0, none⟩ 1 1 [.int .u64 (d : Nat)] rfl rfl ?c1 ?c2 ?c3 ?c4 ?c5 ?_)
        case c1 =>
          intro j u hj
          match j, hj with
          | 0, hj =>
            simp only [List.getElem?_cons_zero, Option.some.injEq] at hj
            subst hj
            have e := HD.out.2
            simp only [Nat.reduceDiv, Nat.reduceMod, Nat.reduceMul, Nat.reducePow, Nat.div_one] at e
            rw [e]
            simp [Addr.add]
        case c2 => intro u hu; simp at hu; subst hu; rfl
        case c3 => unfold maxLen; omega
        case c4 => omega
        case c5 => simp; omega
        · intro v' w1 hown' hgrow _
          have R := grow_step hbel (by simp) hown hgrow
          rw [HD.out.1, ← row_succ] at hown'
          clear hgrow hown h0 h1 h2 h3 HD
          go_wp2
          go_roundw
          case rel => exact ⟨9, by omega, by go_num, hown', R⟩
          case measure => simp [intOf] <;> omega
      rcases h with rfl | h
      · go_wp2_with (at_builtin; refine wpList_append_own _ rfl _ _ 88 rfl (w.heap.size + 1) 26 i0 (.int .u64 0) 1 8 Try.underlying88 hi hz0 hz1 hz2 rfl (by decide) _ _ _ rfl (hown.alloc _) ⟨wr.heap.size, 0, none⟩ 1 1 [.int .u64 (d : Nat)] rfl rfl ?c1 ?c2 ?c3 ?c4 ?c5 ?_)
        case c1 =>
          intro j u hj
          match j, hj with
          | 0, hj =>
            simp only [List.getElem?_cons_zero, Option.some.injEq] at hj
            subst hj
            have e := HD.out.2
            simp only [Nat.reduceDiv, Nat.reduceMod, Nat.reduceMul, Nat.reducePow] at e
            rw [e]
            simp [Addr.add]
        case c2 => intro u hu; simp at hu; subst hu; rfl
        case c3 => unfold maxLen; omega
        case c4 => omega
        case c5 => simp; omega
        · intro v' w1 hown' hgrow _
          have R := grow_step hbel (by simp) hown hgrow
          rw [HD.out.1, ← row_succ] at hown'
          clear hgrow hown h0 h1 h2 h3 HD
          go_wp2
          go_roundw
          case rel => exact ⟨10, by omega, by go_num, hown', R⟩
          case measure => simp [intOf] <;> omega
      rcases h with rfl | h
      · go_wp2_with (at_builtin; refine wpList_append_own _ rfl _ _ 88 rfl (w.heap.size + 1) 26 i0 (.int .u64 0) 1 8 Try.underlying88 hi hz0 hz1 hz2 rfl (by decide) _ _ _ rfl (hown.alloc _) ⟨wr.heap.size, 0, none⟩ 1 1 [.int .u64 (d : Nat)] rfl rfl ?c1 ?c2 ?c3 ?c4 ?c5 ?_)
        case c1 =>
          intro j u hj
          match j, hj with
          | 0, hj =>
            simp only [List.getElem?_cons_zero, Option.some.injEq] at hj
            subst hj
            have e := HD.out.2
            simp only [Nat.reduceDiv, Nat.reduceMod, Nat.reduceMul, Nat.reducePow] at e
            rw [e]
            simp [Addr.add]
        case c2 => intro u hu; simp at hu; subst hu; rfl
        case c3 => unfold maxLen; omega
        case c4 => omega
        case c5 => simp; omega
        · intro v' w1 hown' hgrow _
          have R := grow_step hbel (by simp) hown hgrow
          rw [HD.out.1, ← row_succ] at hown'
          clear hgrow hown h0 h1 h2 h3 HD
          go_wp2
          go_roundw
          case rel => exact ⟨11, by omega, by go_num, hown', R⟩
          case measure => simp [intOf] <;> omega
      rcases h with rfl | h
      · go_wp2_with (at_builtin; refine wpList_append_own _ rfl _ _ 88 rfl (w.heap.size + 1) 26 i0 (.int .u64 0) 1 8 Try.underlying88 hi hz0 hz1 hz2 rfl (by decide) _ _ _ rfl (hown.alloc _) ⟨wr.heap.size, 0, none⟩ 1 1 [.int .u64 (d : Nat)] rfl rfl ?c1 ?c2 ?c3 ?c4 ?c5 ?_)
        case c1 =>
          intro j u hj
          match j, hj with
          | 0, hj =>
            simp only [List.getElem?_cons_zero, Option.some.injEq] at hj
            subst hj
            have e := HD.out.2
            simp only [Nat.reduceDiv, Nat.reduceMod, Nat.reduceMul, Nat.reducePow] at e
            rw [e]
            simp [Addr.add]
        case c2 => intro u hu; simp at hu; subst hu; rfl
        case c3 => unfold maxLen; omega
        case c4 => omega
        case c5 => simp; omega
        · intro v' w1 hown' hgrow _
          have R := grow_step hbel (by simp) hown hgrow
          rw [HD.out.1, ← row_succ] at hown'
          clear hgrow hown h0 h1 h2 h3 HD
          go_wp2
          go_roundw
          case rel => exact ⟨12, by omega, by go_num, hown', R⟩
          case measure => simp [intOf] <;> omega
      rcases h with rfl | h
      · go_wp2_with (at_builtin; refine wpList_append_own _ rfl _ _ 88 rfl (w.heap.size + 1) 26 i0 (.int .u64 0) 1 8 Try.underlying88 hi hz0 hz1 hz2 rfl (by decide) _ _ _ rfl (hown.alloc _) ⟨wr.heap.size, 0, none⟩ 1 1 [.int .u64 (d : Nat)] rfl rfl ?c1 ?c2 ?c3 ?c4 ?c5 ?_)
        case c1 =>
          intro j u hj
          match j, hj with
          | 0, hj =>
            simp only [List.getElem?_cons_zero, Option.some.injEq] at hj
            subst hj
            have e := HD.out.2
            simp only [Nat.reduceDiv, Nat.reduceMod, Nat.reduceMul, Nat.reducePow, Nat.div_one] at e
            rw [e]
            simp [Addr.add]
        case c2 => intro u hu; simp at hu; subst hu; rfl
        case c3 => unfold maxLen; omega
        case c4 => omega
        case c5 => simp; omega
        · intro v' w1 hown' hgrow _
          have R := grow_step hbel (by simp) hown hgrow
          rw [HD.out.1, ← row_succ] at hown'
          clear hgrow hown h0 h1 h2 h3 HD
          go_wp2
          go_roundw
          case rel => exact ⟨13, by omega, by go_num, hown', R⟩
          case measure => simp [intOf] <;> omega
      rcases h with rfl | h
      · go_wp2_with (at_builtin; refine wpList_append_own _ rfl _ _ 88 rfl (w.heap.size + 1) 26 i0 (.int .u64 0) 1 8 Try.underlying88 hi hz0 hz1 hz2 rfl (by decide) _ _ _ rfl (hown.alloc _) ⟨wr.heap.size, 0, none⟩ 1 1 [.int .u64 (d : Nat)] rfl rfl ?c1 ?c2 ?c3 ?c4 ?c5 ?_)
        case c1 =>
          intro j u hj
          match j, hj with
          | 0, hj =>
            simp only [List.getElem?_cons_zero, Option.some.injEq] at hj
            subst hj
            have e := HD.out.2
            simp only [Nat.reduceDiv, Nat.reduceMod, Nat.reduceMul, Nat.reducePow] at e
            rw [e]
            simp [Addr.add]
        case c2 => intro u hu; simp at hu; subst hu; rfl
        case c3 => unfold maxLen; omega
        case c4 => omega
        case c5 => simp; omega
        · intro v' w1 hown' hgrow _
          have R := grow_step hbel (by simp) hown hgrow
          rw [HD.out.1, ← row_succ] at hown'
          clear hgrow hown h0 h1 h2 h3 HD
          go_wp2
          go_roundw
          case rel => exact ⟨14, by omega, by go_num, hown', R⟩
          case measure => simp [intOf] <;> omega
      rcases h with rfl | h
      · go_wp2_with (at_builtin; refine wpList_append_own _ rfl _ _ 88 rfl (w.heap.size + 1) 26 i0 (.int .u64 0) 1 8 Try.underlying88 hi hz0 hz1 hz2 rfl (by decide) _ _ _ rfl (hown.alloc _) ⟨wr.heap.size, 0, none⟩ 1 1 [.int .u64 (d : Nat)] rfl rfl ?c1 ?c2 ?c3 ?c4 ?c5 ?_)
        case c1 =>
          intro j u hj
          match j, hj with
          | 0, hj =>
            simp only [List.getElem?_cons_zero, Option.some.injEq] at hj
            subst hj
            have e := HD.out.2
            simp only [Nat.reduceDiv, Nat.reduceMod, Nat.reduceMul, Nat.reducePow] at e
            rw [e]
            simp [Addr.add]
        case c2 => intro u hu; simp at hu; subst hu; rfl
        case c3 => unfold maxLen; omega
        case c4 => omega
        case c5 => simp; omega
        · intro v' w1 hown' hgrow _
          have R := grow_step hbel (by simp) hown hgrow
          rw [HD.out.1, ← row_succ] at hown'
          clear hgrow hown h0 h1 h2 h3 HD
          go_wp2
          go_roundw
          case rel => exact ⟨15, by omega, by go_num, hown', R⟩
          case measure => simp [intOf] <;> omega
      subst h
      · go_wp2_with (at_builtin; refine wpList_append_own _ rfl _ _ 88 rfl (w.heap.size + 1) 26 i0 (.int .u64 0) 1 8 Try.underlying88 hi hz0 hz1 hz2 rfl (by decide) _ _ _ rfl (hown.alloc _) ⟨wr.heap.size, 0, none⟩ 1 1 [.int .u64 (d : Nat)] rfl rfl ?c1 ?c2 ?c3 ?c4 ?c5 ?_)
        case c1 =>
          intro j u hj
          match j, hj with
          | 0, hj =>
            simp only [List.getElem?_cons_zero, Option.some.injEq] at hj
            subst hj
            have e := HD.out.2
            simp only [Nat.reduceDiv, Nat.reduceMod, Nat.reduceMul, Nat.reducePow] at e
            rw [e]
            simp [Addr.add]
        case c2 => intro u hu; simp at hu; subst hu; rfl
        case c3 => unfold maxLen; omega
        case c4 => omega
        case c5 => simp; omega
        · intro v' w1 hown' hgrow _
          have R := grow_step hbel (by simp) hown hgrow
          rw [HD.out.1, ← row_succ] at hown'
          clear hgrow hown h0 h1 h2 h3 HD
          go_wp2
          go_roundw
          case rel => exact ⟨16, by omega, by go_num, hown', R⟩
          case measure => simp [intOf] <;> omega
    · have e : k = 16 := by omega
      subst e
      go_wp2
      go_ret
      exact ⟨_, rfl, own_base hown (Nat.le_succ _), ((Below.refl _ w).alloc (Nat.le_refl _) _).trans (hbel.mono (Nat.le_succ _))⟩

end Go.Proofs.Ytmjdmhelmgcanaa

/- r01.carry: the digits' sums, carried. -/
namespace Go.Proofs.Ytmjdmhelmgcanaa
open Go.RowKit

theorem hidden {p : Prop} (h : p) : Hid p := h

/-- one of them changed -/
def set1 (f : Nat → Nat) (j u : Nat) : Nat → Nat := fun i => if i = j then u else f i
theorem row_set (f : Nat → Nat) (n j u : Nat) : (row f n).set j (.int .u64 (u : Nat)) = row (set1 f j u) n := by
  apply List.ext_getElem?
  intro i
  rw [List.getElem?_set]
  by_cases hi : i < n
  · rw [row_get _ hi, row_length]
    by_cases hj : j = i
    · subst hj; rw [row_get _ hi]; simp [hi, set1]
    · have : ¬ i = j := fun e => hj e.symm
      simp [hj, set1, this, row_get _ hi]
  · have h1 : (row f n)[i]? = none := by rw [List.getElem?_eq_none]; rw [row_length]; omega
    have h2 : (row (set1 f j u) n)[i]? = none := by rw [List.getElem?_eq_none]; rw [row_length]; omega
    rw [h1, h2, row_length]; simp; omega
theorem set1_eq (f : Nat → Nat) (j u : Nat) : set1 f j u j = u := by simp [set1]
theorem set1_ne (f : Nat → Nat) {j u i : Nat} (h : i ≠ j) : set1 f j u i = f i := by simp [set1, h]

/-- a row's slice: where it lies -/
theorem own_form {w : World} {B e n : Nat} {v : Value} {xs : List Value} (h : w.ownsRow B e 1 v (n + 1) xs) : ∃ g cap, v = .slice (some ⟨g, 0, none⟩) (n + 1) cap ∧ B ≤ g ∧ g < w.heap.size ∧ n + 1 ≤ cap ∧ cap ≤ maxLen := by
  rcases h.2 with ⟨_, h0⟩ | ⟨g, cap, cur, e1, hb, hg, hc, hm, _⟩
  · cases h0
  · exact ⟨g, cap, e1, hb, (Array.getElem?_eq_some_iff.1 hg).1, hc, hm⟩

set_option maxHeartbeats 4000000 in
set_option maxRecDepth 1000000 in
theorem carry_calls (B g cap : Nat) (f : Nat → Nat) (hf : ∀ i, i < 16 → f i ≤ 131070) (w : World) (hown : w.ownsRow B 26 1 (.slice (some ⟨g, 0, none⟩) 16 cap) 16 (row f 16)) :
    Calls Try.prog 95 #[.slice (some ⟨g, 0, none⟩) 16 cap] w fun e w' => ∃ v h, e = .returned v ∧ w'.ownsRow B 26 1 v 17 (row h 17) ∧ (∀ i, i < 17 → h i < 65536) ∧ num h 17 = num f 16 ∧ Below B w w' := by
  obtain ⟨i0, hi, hz0, hz1, hz2⟩ := info_parts info26
  obtain ⟨_, _, e1, hBg, hgw, hcap, hmax⟩ := own_form hown
  simp only [Value.slice.injEq, Option.some.injEq, Addr.mk.injEq, and_true] at e1
  obtain ⟨rfl, -, rfl⟩ := e1
  have hmax' : cap ≤ 9223372036854775807 := Nat.le_trans hmax (by unfold maxLen; omega)
  go_enter Try.func95, Try.ntmps95
  go_wp2
  go_loopw [3, 4] (fun o i wr => ∃ (k c : Nat) (h : Nat → Nat), k ≤ 16 ∧ i = .int .i64 k ∧ o = .int .u64 c ∧ c ≤ 2 ∧ wr.ownsRow B 26 1 (.slice (some ⟨g, 0, none⟩) 16 cap) 16 (row h 16) ∧
      (∀ i, i < k → h i < 65536) ∧ (∀ i, k ≤ i → h i = f i) ∧ num h k + c * 65536 ^ k = num f k ∧ Below B w wr)
    (fun _ i _ => 16 - (intOf i).toNat)
  case atStart => exact ⟨0, 0, f, Nat.zero_le _, rfl, rfl, by omega, hown, by omega, fun _ _ => rfl, by simp [num], Below.refl _ _⟩
  case round =>
    obtain ⟨k, c, h, hk, rfl, rfl, hc, hr, hlo, hhi, hnum, hbel⟩ := hrel
    rcases Nat.lt_or_ge k 16 with hlt | hge
    · have hcell : wr.cell? ⟨g, k, none⟩ = some (.int .u64 (f k : Nat)) := by rw [hr.cellAt k (by omega), row_get _ hlt, hhi k (Nat.le_refl _)]
      have hfz := hr.frozenAt k
      have hfk := hf k hlt
      have HF := hidden hf
      have HL := hidden hlo
      have HH := hidden hhi
      clear hf hlo hhi
      go_wp2_with fail
      go_roundw
      case rel =>
        have R := (hr.stored k (.int .u64 (((c + f k) % 65536 : Nat) : Int))).1
        rw [row_set] at R
        have hl := num_congr (f := set1 h k ((c + f k) % 65536)) (g := h) (k := k) fun i hi => set1_ne h (by omega)
        refine ⟨k + 1, (c + f k) / 65536, set1 h k ((c + f k) % 65536), by omega, by go_num, by simp, by omega, by simpa using R, ?_, ?_, ?_, hbel.setCell hBg _⟩
        · intro i hi
          by_cases hik : i = k
          · subst hik; rw [set1_eq]; omega
          · rw [set1_ne h hik]; exact HL.out i (by omega)
        · intro i hi
          rw [set1_ne h (by omega)]; exact HH.out i (by omega)
        · rw [num, num, hl, set1_eq, ← hnum]
          have e := Nat.div_add_mod (c + f k) 65536
          have e2 : (65536 * ((c + f k) / 65536) + (c + f k) % 65536) * 65536 ^ k = (c + f k) * 65536 ^ k := by rw [e]
          rw [Nat.pow_succ]
          rw [Nat.add_mul, Nat.add_mul] at e2
          have e3 : (c + f k) / 65536 * (65536 ^ k * 65536) = 65536 * ((c + f k) / 65536) * 65536 ^ k := by ac_rfl
          rw [e3]
          omega
      case measure => simp [intOf]; omega
    · have e : k = 16 := by omega
      subst e
      go_wp2_with (at_builtin; refine wpList_append_own _ rfl _ _ 88 rfl B 26 i0 (.int .u64 0) 1 8 Try.underlying88 hi hz0 hz1 hz2 rfl (by decide) _ _ _ rfl (hr.alloc _) ⟨wr.heap.size, 0, none⟩ 1 1 [.int .u64 (c : Nat)] rfl rfl ?c1 ?c2 ?c3 ?c4 ?c5 ?_)
      case c1 =>
        intro j u hj
        match j, hj with
        | 0, hj => simp at hj; subst hj; simp [Addr.add]
      case c2 => intro u hu; simp at hu; subst hu; rfl
      case c3 => unfold maxLen; omega
      case c4 => omega
      case c5 => have := hbel.size; simp; omega
      · intro v' w1 hown' hgrow _
        have R : Below B w w1 := (hbel.alloc (by have := hbel.size; omega) _).grown hgrow (by have := hbel.size; simp; omega) (fun j hj => by simp [Value.ownBlock] at hj; omega)
        have hl := num_congr (f := set1 h 16 c) (g := h) (k := 16) fun i hi => set1_ne h (by omega)
        have hrow : row h 16 ++ [.int .u64 (c : Nat)] = row (set1 h 16 c) 17 := by
          rw [row_succ (set1 h 16 c) 16, set1_eq, row_congr (f := h) (g := set1 h 16 c) (n := 16) fun i hi => (set1_ne h (by omega)).symm]
        rw [hrow] at hown'
        clear hgrow hr
        go_wp2
        go_ret
        refine ⟨_, set1 h 16 c, rfl, hown', fun i hi => ?_, ?_, R⟩
        · by_cases hik : i = 16
          · subst hik; rw [set1_eq]; omega
          · rw [set1_ne h hik]; exact hlo i (by omega)
        · rw [num, hl, set1_eq]; exact hnum

end Go.Proofs.Ytmjdmhelmgcanaa

/- r01.Of: the number of digits. -/
namespace Go.Proofs.Ytmjdmhelmgcanaa
open Go.RowKit

theorem wrap_nat {n : Nat} (h : n < 18446744073709551616) : IntKind.u64.wrap (n : Int) = n := by
  have e : IntKind.u64.wrap (n : Int) = (n : Int) % 18446744073709551616 := rfl
  rw [e]; omega

set_option maxHeartbeats 4000000 in
set_option maxRecDepth 1000000 in
theorem of_calls (B g cap n : Nat) (f : Nat → Nat) (hn : n = 16 ∨ n = 17) (hf : ∀ i, i < n → f i < 65536) (w : World) (hown : w.ownsRow B 26 1 (.slice (some ⟨g, 0, none⟩) n cap) n (row f n)) :
    Calls Try.prog 94 #[.slice (some ⟨g, 0, none⟩) n cap] w fun e w' => e = .returned (if n = 16 ∨ f 16 = 0 then .tuple #[V (num f 16), .bool true] else .tuple #[V 0, .bool false]) ∧ Below w.heap.size w w' := by
  have hown0 : w.ownsRow B 26 1 (.slice (some ⟨g, 0, none⟩) ((n - 1) + 1) cap) ((n - 1) + 1) (row f n) := by rw [show n - 1 + 1 = n by omega]; exact hown
  obtain ⟨_, _, e1, hBg, hgw, hcap, hmax⟩ := own_form hown0
  simp only [Value.slice.injEq, Option.some.injEq, Addr.mk.injEq, and_true] at e1
  obtain ⟨rfl, -, rfl⟩ := e1
  have hmax' : cap ≤ 9223372036854775807 := Nat.le_trans hmax (by unfold maxLen; omega)
  have hcl : ∀ k, k < n → w.cell? ⟨g, k, none⟩ = some (.int .u64 (f k : Nat)) := fun k hk => by rw [hown.cellAt k (by omega), row_get _ hk]
  have hnum := @num_lt f
  clear hown0 hown
  go_enter Try.func94, Try.ntmps94
  go_wp2
  go_loopw [5] (fun i wr => ∃ (k c0 c1 c2 c3 : Nat), k ≤ n ∧ i = .int .i64 k ∧ wr.heap[w.heap.size + 1]? = some (.cells #[.int .u64 c0, .int .u64 c1, .int .u64 c2, .int .u64 c3] 28 (0, 0)) ∧
      c0 < 18446744073709551616 ∧ c1 < 18446744073709551616 ∧ c2 < 18446744073709551616 ∧ c3 < 18446744073709551616 ∧ mk4 c0 c1 c2 c3 = num f (min k 16) ∧ (16 < k → f 16 = 0) ∧
      Below (w.heap.size + 1) (w.alloc (.cells #[.int .u64 0, .int .u64 0, .int .u64 0, .int .u64 0] 28)) wr)
    (fun i _ => 17 - (intOf i).toNat)
  case atStart =>
    refine ⟨0, 0, 0, 0, 0, Nat.zero_le _, rfl, ?_, by omega, by omega, by omega, by omega, rfl, by omega, ?_⟩
    · have h := heap_alloc_new (w.alloc (.cells #[.int .u64 0, .int .u64 0, .int .u64 0, .int .u64 0] 28)) (.cells #[.int .u64 0, .int .u64 0, .int .u64 0, .int .u64 0] 28)
      rw [World.size_alloc] at h
      exact h
    · exact (Below.refl _ _).alloc (by simp) _
  case round =>
    obtain ⟨k, c0, c1, c2, c3, hk, rfl, hh, hc0, hc1, hc2, hc3, hm, hq, hbel⟩ := hrel
    have h0 : wr.cell? ⟨w.heap.size + 1, 0, none⟩ = some (.int .u64 c0) := by rw [cell_of_row wr _ 0 _ 28 (0, 0) hh]; rfl
    have h1 : wr.cell? ⟨w.heap.size + 1, 1, none⟩ = some (.int .u64 c1) := by rw [cell_of_row wr _ 1 _ 28 (0, 0) hh]; rfl
    have h2 : wr.cell? ⟨w.heap.size + 1, 2, none⟩ = some (.int .u64 c2) := by rw [cell_of_row wr _ 2 _ 28 (0, 0) hh]; rfl
    have h3 : wr.cell? ⟨w.heap.size + 1, 3, none⟩ = some (.int .u64 c3) := by rw [cell_of_row wr _ 3 _ 28 (0, 0) hh]; rfl
    have hz : ∀ j, wr.frozen? ⟨w.heap.size + 1, j, none⟩ = false := fun j => frozen_of_row wr _ j _ 28 hh
    rcases Nat.lt_or_ge k 16 with hlt | hge
    · obtain ⟨d, hd⟩ : ∃ d, d = f k := ⟨_, rfl⟩
      have hg : wr.cell? ⟨g, k, none⟩ = some (.int .u64 (d : Nat)) := by rw [hbel.cell (by simp; omega), World.cell?_alloc_past _ _ _ hgw, hcl k (by omega), hd]
      have hdl : d < 65536 := by rw [hd]; exact hf k (by omega)
      have hkn : k < n := by omega
      have HM : Hid (mk4 c0 c1 c2 c3 = num f k ∧ mk4 c0 c1 c2 c3 < 65536 ^ k ∧ num f (k + 1) = mk4 c0 c1 c2 c3 + d * 65536 ^ k) := by
        rw [Nat.min_eq_left (Nat.le_of_lt hlt)] at hm
        exact ⟨hm, by rw [hm]; exact hnum fun i hi => hf i (by omega), by rw [num, hm, hd]⟩
      have h : k = 0 ∨ k = 1 ∨ k = 2 ∨ k = 3 ∨ k = 4 ∨ k = 5 ∨ k = 6 ∨ k = 7 ∨ k = 8 ∨ k = 9 ∨ k = 10 ∨ k = 11 ∨ k = 12 ∨ k = 13 ∨ k = 14 ∨ k = 15 := by omega
      have HN := hidden hn
      clear hm hf hcl hd hn hq
      rcases h with rfl | rfl | rfl | rfl | rfl | rfl | rfl | rfl | rfl | rfl | rfl | rfl | rfl | rfl | rfl | rfl
      · go_wp2
        go_region
        go_wp2
        go_roundw
        case rel =>
          obtain ⟨-, M1, M2⟩ := HM.out
          have hr := HN.out
          clear HM HN
          simp only [Nat.reduceAdd, Nat.reducePow, mk4] at M1 M2
          have e := wrap_nat (n := c0 + d) (by omega)
          simp only [Int.natCast_add] at e
          rw [e]
          refine ⟨1, c0 + d, c1, c2, c3, by omega, by go_num, ?_, by omega, by omega, by omega, by omega, ?_, by omega, (hbel.setCell (by simp) _).drew⟩
          · exact heap_setCell_same wr _ 0 _ 28 _ hh
          · simp only [Nat.reduceLeDiff, Nat.min_eq_left, M2, mk4]; omega
        case measure => simp [intOf]
      · go_wp2
        go_region
        go_wp2
        go_roundw
        case rel =>
          obtain ⟨-, M1, M2⟩ := HM.out
          have hr := HN.out
          clear HM HN
          simp only [Nat.reduceAdd, Nat.reducePow, mk4] at M1 M2
          have e := wrap_nat (n := c0 + d * 65536) (by omega)
          simp only [Int.natCast_add, Int.natCast_mul, Int.cast_ofNat_Int] at e
          rw [e]
          refine ⟨2, c0 + d * 65536, c1, c2, c3, by omega, by go_num, ?_, by omega, by omega, by omega, by omega, ?_, by omega, (hbel.setCell (by simp) _).drew⟩
          · exact heap_setCell_same wr _ 0 _ 28 _ hh
          · simp only [Nat.reduceLeDiff, Nat.min_eq_left, M2, mk4]; omega
        case measure => simp [intOf]
      · go_wp2
        go_region
        go_wp2
        go_roundw
        case rel =>
          obtain ⟨-, M1, M2⟩ := HM.out
          have hr := HN.out
          clear HM HN
          simp only [Nat.reduceAdd, Nat.reducePow, mk4] at M1 M2
          have e := wrap_nat (n := c0 + d * 4294967296) (by omega)
          simp only [Int.natCast_add, Int.natCast_mul, Int.cast_ofNat_Int] at e
          rw [e]
          refine ⟨3, c0 + d * 4294967296, c1, c2, c3, by omega, by go_num, ?_, by omega, by omega, by omega, by omega, ?_, by omega, (hbel.setCell (by simp) _).drew⟩
          · exact heap_setCell_same wr _ 0 _ 28 _ hh
          · simp only [Nat.reduceLeDiff, Nat.min_eq_left, M2, mk4]; omega
        case measure => simp [intOf]
      · go_wp2
        go_region
        go_wp2
        go_roundw
        case rel =>
          obtain ⟨-, M1, M2⟩ := HM.out
          have hr := HN.out
          clear HM HN
          simp only [Nat.reduceAdd, Nat.reducePow, mk4] at M1 M2
          have e := wrap_nat (n := c0 + d * 281474976710656) (by omega)
          simp only [Int.natCast_add, Int.natCast_mul, Int.cast_ofNat_Int] at e
          rw [e]
          refine ⟨4, c0 + d * 281474976710656, c1, c2, c3, by omega, by go_num, ?_, by omega, by omega, by omega, by omega, ?_, by omega, (hbel.setCell (by simp) _).drew⟩
          · exact heap_setCell_same wr _ 0 _ 28 _ hh
          · simp only [Nat.reduceLeDiff, Nat.min_eq_left, M2, mk4]; omega
        case measure => simp [intOf]
      · go_wp2
        go_region
        go_wp2
        go_roundw
        case rel =>
          obtain ⟨-, M1, M2⟩ := HM.out
          have hr := HN.out
          clear HM HN
          simp only [Nat.reduceAdd, Nat.reducePow, mk4] at M1 M2
          have e := wrap_nat (n := c1 + d) (by omega)
          simp only [Int.natCast_add] at e
          rw [e]
          refine ⟨5, c0, c1 + d, c2, c3, by omega, by go_num, ?_, by omega, by omega, by omega, by omega, ?_, by omega, (hbel.setCell (by simp) _).drew⟩
          · exact heap_setCell_same wr _ 1 _ 28 _ hh
          · simp only [Nat.reduceLeDiff, Nat.min_eq_left, M2, mk4]; omega
        case measure => simp [intOf]
      · go_wp2
        go_region
        go_wp2
        go_roundw
        case rel =>
          obtain ⟨-, M1, M2⟩ := HM.out
          have hr := HN.out
          clear HM HN
          simp only [Nat.reduceAdd, Nat.reducePow, mk4] at M1 M2
          have e := wrap_nat (n := c1 + d * 65536) (by omega)
          simp only [Int.natCast_add, Int.natCast_mul, Int.cast_ofNat_Int] at e
          rw [e]
          refine ⟨6, c0, c1 + d * 65536, c2, c3, by omega, by go_num, ?_, by omega, by omega, by omega, by omega, ?_, by omega, (hbel.setCell (by simp) _).drew⟩
          · exact heap_setCell_same wr _ 1 _ 28 _ hh
          · simp only [Nat.reduceLeDiff, Nat.min_eq_left, M2, mk4]; omega
        case measure => simp [intOf]
      · go_wp2
        go_region
        go_wp2
        go_roundw
        case rel =>
          obtain ⟨-, M1, M2⟩ := HM.out
          have hr := HN.out
          clear HM HN
          simp only [Nat.reduceAdd, Nat.reducePow, mk4] at M1 M2
          have e := wrap_nat (n := c1 + d * 4294967296) (by omega)
          simp only [Int.natCast_add, Int.natCast_mul, Int.cast_ofNat_Int] at e
          rw [e]
          refine ⟨7, c0, c1 + d * 4294967296, c2, c3, by omega, by go_num, ?_, by omega, by omega, by omega, by omega, ?_, by omega, (hbel.setCell (by simp) _).drew⟩
          · exact heap_setCell_same wr _ 1 _ 28 _ hh
          · simp only [Nat.reduceLeDiff, Nat.min_eq_left, M2, mk4]; omega
        case measure => simp [intOf]
      · go_wp2
        go_region
        go_wp2
        go_roundw
        case rel =>
          obtain ⟨-, M1, M2⟩ := HM.out
          have hr := HN.out
          clear HM HN
          simp only [Nat.reduceAdd, Nat.reducePow, mk4] at M1 M2
          have e := wrap_nat (n := c1 + d * 281474976710656) (by omega)
          simp only [Int.natCast_add, Int.natCast_mul, Int.cast_ofNat_Int] at e
          rw [e]
          refine ⟨8, c0, c1 + d * 281474976710656, c2, c3, by omega, by go_num, ?_, by omega, by omega, by omega, by omega, ?_, by omega, (hbel.setCell (by simp) _).drew⟩
          · exact heap_setCell_same wr _ 1 _ 28 _ hh
          · simp only [Nat.reduceLeDiff, Nat.min_eq_left, M2, mk4]; omega
        case measure => simp [intOf]
      · go_wp2
        go_region
        go_wp2
        go_roundw
        case rel =>
          obtain ⟨-, M1, M2⟩ := HM.out
          have hr := HN.out
          clear HM HN
          simp only [Nat.reduceAdd, Nat.reducePow, mk4] at M1 M2
          have e := wrap_nat (n := c2 + d) (by omega)
          simp only [Int.natCast_add] at e
          rw [e]
          refine ⟨9, c0, c1, c2 + d, c3, by omega, by go_num, ?_, by omega, by omega, by omega, by omega, ?_, by omega, (hbel.setCell (by simp) _).drew⟩
          · exact heap_setCell_same wr _ 2 _ 28 _ hh
          · simp only [Nat.reduceLeDiff, Nat.min_eq_left, M2, mk4]; omega
        case measure => simp [intOf]
      · go_wp2
        go_region
        go_wp2
        go_roundw
        case rel =>
          obtain ⟨-, M1, M2⟩ := HM.out
          have hr := HN.out
          clear HM HN
          simp only [Nat.reduceAdd, Nat.reducePow, mk4] at M1 M2
          have e := wrap_nat (n := c2 + d * 65536) (by omega)
          simp only [Int.natCast_add, Int.natCast_mul, Int.cast_ofNat_Int] at e
          rw [e]
          refine ⟨10, c0, c1, c2 + d * 65536, c3, by omega, by go_num, ?_, by omega, by omega, by omega, by omega, ?_, by omega, (hbel.setCell (by simp) _).drew⟩
          · exact heap_setCell_same wr _ 2 _ 28 _ hh
          · simp only [Nat.reduceLeDiff, Nat.min_eq_left, M2, mk4]; omega
        case measure => simp [intOf]
      · go_wp2
        go_region
        go_wp2
        go_roundw
        case rel =>
          obtain ⟨-, M1, M2⟩ := HM.out
          have hr := HN.out
          clear HM HN
          simp only [Nat.reduceAdd, Nat.reducePow, mk4] at M1 M2
          have e := wrap_nat (n := c2 + d * 4294967296) (by omega)
          simp only [Int.natCast_add, Int.natCast_mul, Int.cast_ofNat_Int] at e
          rw [e]
          refine ⟨11, c0, c1, c2 + d * 4294967296, c3, by omega, by go_num, ?_, by omega, by omega, by omega, by omega, ?_, by omega, (hbel.setCell (by simp) _).drew⟩
          · exact heap_setCell_same wr _ 2 _ 28 _ hh
          · simp only [Nat.reduceLeDiff, Nat.min_eq_left, M2, mk4]; omega
        case measure => simp [intOf]
      · go_wp2
        go_region
        go_wp2
        go_roundw
        case rel =>
          obtain ⟨-, M1, M2⟩ := HM.out
          have hr := HN.out
          clear HM HN
          simp only [Nat.reduceAdd, Nat.reducePow, mk4] at M1 M2
          have e := wrap_nat (n := c2 + d * 281474976710656) (by omega)
          simp only [Int.natCast_add, Int.natCast_mul, Int.cast_ofNat_Int] at e
          rw [e]
          refine ⟨12, c0, c1, c2 + d * 281474976710656, c3, by omega, by go_num, ?_, by omega, by omega, by omega, by omega, ?_, by omega, (hbel.setCell (by simp) _).drew⟩
          · exact heap_setCell_same wr _ 2 _ 28 _ hh
          · simp only [Nat.reduceLeDiff, Nat.min_eq_left, M2, mk4]; omega
        case measure => simp [intOf]
      · go_wp2
        go_region
        go_wp2
        go_roundw
        case rel =>
          obtain ⟨-, M1, M2⟩ := HM.out
          have hr := HN.out
          clear HM HN
          simp only [Nat.reduceAdd, Nat.reducePow, mk4] at M1 M2
          have e := wrap_nat (n := c3 + d) (by omega)
          simp only [Int.natCast_add] at e
          rw [e]
          refine ⟨13, c0, c1, c2, c3 + d, by omega, by go_num, ?_, by omega, by omega, by omega, by omega, ?_, by omega, (hbel.setCell (by simp) _).drew⟩
          · exact heap_setCell_same wr _ 3 _ 28 _ hh
          · simp only [Nat.reduceLeDiff, Nat.min_eq_left, M2, mk4]; omega
        case measure => simp [intOf]
      · go_wp2
        go_region
        go_wp2
        go_roundw
        case rel =>
          obtain ⟨-, M1, M2⟩ := HM.out
          have hr := HN.out
          clear HM HN
          simp only [Nat.reduceAdd, Nat.reducePow, mk4] at M1 M2
          have e := wrap_nat (n := c3 + d * 65536) (by omega)
          simp only [Int.natCast_add, Int.natCast_mul, Int.cast_ofNat_Int] at e
          rw [e]
          refine ⟨14, c0, c1, c2, c3 + d * 65536, by omega, by go_num, ?_, by omega, by omega, by omega, by omega, ?_, by omega, (hbel.setCell (by simp) _).drew⟩
          · exact heap_setCell_same wr _ 3 _ 28 _ hh
          · simp only [Nat.reduceLeDiff, Nat.min_eq_left, M2, mk4]; omega
        case measure => simp [intOf]
      · go_wp2
        go_region
        go_wp2
        go_roundw
        case rel =>
          obtain ⟨-, M1, M2⟩ := HM.out
          have hr := HN.out
          clear HM HN
          simp only [Nat.reduceAdd, Nat.reducePow, mk4] at M1 M2
          have e := wrap_nat (n := c3 + d * 4294967296) (by omega)
          simp only [Int.natCast_add, Int.natCast_mul, Int.cast_ofNat_Int] at e
          rw [e]
          refine ⟨15, c0, c1, c2, c3 + d * 4294967296, by omega, by go_num, ?_, by omega, by omega, by omega, by omega, ?_, by omega, (hbel.setCell (by simp) _).drew⟩
          · exact heap_setCell_same wr _ 3 _ 28 _ hh
          · simp only [Nat.reduceLeDiff, Nat.min_eq_left, M2, mk4]; omega
        case measure => simp [intOf]
      · go_wp2
        go_region
        go_wp2
        go_roundw
        case rel =>
          obtain ⟨-, M1, M2⟩ := HM.out
          have hr := HN.out
          clear HM HN
          simp only [Nat.reduceAdd, Nat.reducePow, mk4] at M1 M2
          have e := wrap_nat (n := c3 + d * 281474976710656) (by omega)
          simp only [Int.natCast_add, Int.natCast_mul, Int.cast_ofNat_Int] at e
          rw [e]
          refine ⟨16, c0, c1, c2, c3 + d * 281474976710656, by omega, by go_num, ?_, by omega, by omega, by omega, by omega, ?_, by omega, (hbel.setCell (by simp) _).drew⟩
          · exact heap_setCell_same wr _ 3 _ 28 _ hh
          · simp only [Nat.reduceLeDiff, Nat.min_eq_left, M2, mk4]; omega
        case measure => simp [intOf]
    · have hmin : min k 16 = 16 := by omega
      rw [hmin] at hm
      have hV : V (num f 16) = V4 c0 c1 c2 c3 := by rw [← hm]; exact V_mk4 hc0 hc1 hc2 hc3
      have hA : (w.alloc (.cells #[.int .u64 0, .int .u64 0, .int .u64 0, .int .u64 0] 28)).heap[w.heap.size]? = some (.cells #[.int .u64 0, .int .u64 0, .int .u64 0, .int .u64 0] 28 (0, 0)) := heap_alloc_new w _
      have hA' := (hbel.block w.heap.size (Nat.lt_succ_self _)).trans hA
      have a0 : wr.cell? ⟨w.heap.size, 0, none⟩ = some (.int .u64 0) := by rw [cell_of_row wr _ 0 _ 28 (0, 0) hA']; rfl
      have a1 : wr.cell? ⟨w.heap.size, 1, none⟩ = some (.int .u64 0) := by rw [cell_of_row wr _ 1 _ 28 (0, 0) hA']; rfl
      have a2 : wr.cell? ⟨w.heap.size, 2, none⟩ = some (.int .u64 0) := by rw [cell_of_row wr _ 2 _ 28 (0, 0) hA']; rfl
      have a3 : wr.cell? ⟨w.heap.size, 3, none⟩ = some (.int .u64 0) := by rw [cell_of_row wr _ 3 _ 28 (0, 0) hA']; rfl
      have az : ∀ j, wr.frozen? ⟨w.heap.size, j, none⟩ = false := fun j => frozen_of_row wr _ j _ 28 hA'
      have hB2 : Below w.heap.size w wr := ((Below.refl _ w).alloc (Nat.le_refl _) _).trans (hbel.mono (Nat.le_succ _))
      clear hA hA'
      rcases Nat.lt_or_ge k n with hkn | hkn
      · have hn17 : n = 17 := by omega
        have hk16 : k = 16 := by omega
        subst hn17 hk16
        have hg : wr.cell? ⟨g, 16, none⟩ = some (.int .u64 (f 16 : Nat)) := by rw [hbel.cell (by simp; omega), World.cell?_alloc_past _ _ _ hgw, hcl 16 (by omega)]
        have HM : Hid (mk4 c0 c1 c2 c3 = num f 16) := hm
        have HB := hidden hB2
        clear hm hf hcl hnum hB2
        by_cases hz0 : f 16 = 0
        · rw [hz0] at hg
          go_wp2
          go_roundw
          case rel => exact ⟨17, c0, c1, c2, c3, by omega, by go_num, hh, hc0, hc1, hc2, hc3, HM.out, fun _ => hz0, hbel⟩
          case measure => simp [intOf]
        · have hgt : (0 : Int) < (f 16 : Nat) := by omega
          have hV0 : V 0 = V4 0 0 0 0 := V_mk4 (a := 0) (b := 0) (c := 0) (d := 0) (by omega) (by omega) (by omega) (by omega)
          have HV := hidden hV0
          clear hV hV0
          go_wp2
          refine bodyPost_ret (v := .tuple #[.agg #[.int .u64 0, .int .u64 0, .int .u64 0, .int .u64 0], .bool false]) (by simp [results, Try.results94, go_sem, a0, a1, a2, a3]) rfl ⟨by rw [HV.out]; rfl, ?_⟩
          exact (((HB.out.setCell (by simp) _).setCell (by simp) _).setCell (by simp) _).setCell (by simp) _
      · have hcond : n = 16 ∨ f 16 = 0 := by
          rcases hn with h | h
          · exact .inl h
          · exact .inr (hq (by omega))
        have HV := hidden hV
        have HB := hidden hB2
        clear hV hB2 hq hm hf hcl hnum hn
        go_wp2
        refine bodyPost_ret (v := .tuple #[.agg #[.int .u64 c0, .int .u64 c1, .int .u64 c2, .int .u64 c3], .bool true]) (by simp [results, Try.results94, go_sem, a0, a1, a2, a3]) rfl ⟨by rw [HV.out]; rfl, ?_⟩
        exact (((HB.out.setCell (by simp) _).setCell (by simp) _).setCell (by simp) _).setCell (by simp) _

end Go.Proofs.Ytmjdmhelmgcanaa

/- r01.Add, digit by digit. -/
namespace Go.Proofs.Ytmjdmhelmgcanaa
open Go.RowKit

/-- a number's cells, from its block -/
theorem cells4 {wr : World} {b : Nat} {c0 c1 c2 c3 : Value} (h : wr.heap[b]? = some (.cells #[c0, c1, c2, c3] 28 (0, 0))) :
    wr.cell? ⟨b, 0, none⟩ = some c0 ∧ wr.cell? ⟨b, 1, none⟩ = some c1 ∧ wr.cell? ⟨b, 2, none⟩ = some c2 ∧ wr.cell? ⟨b, 3, none⟩ = some c3 ∧ ∀ j, wr.frozen? ⟨b, j, none⟩ = false :=
  ⟨by rw [cell_of_row wr _ 0 _ 28 (0, 0) h]; rfl, by rw [cell_of_row wr _ 1 _ 28 (0, 0) h]; rfl, by rw [cell_of_row wr _ 2 _ 28 (0, 0) h]; rfl, by rw [cell_of_row wr _ 3 _ 28 (0, 0) h]; rfl, fun j => frozen_of_row wr _ j _ 28 h⟩

theorem drew_size (w : World) : w.drew.heap.size = w.heap.size := rfl

/-- three new blocks -/
theorem three (w : World) (p q r : Array Value) (t1 t2 t3 : TypeId) :
    (((w.alloc (.cells p t1)).alloc (.cells q t2)).alloc (.cells r t3)).heap[w.heap.size]? = some (.cells p t1 (0, 0)) ∧
    (((w.alloc (.cells p t1)).alloc (.cells q t2)).alloc (.cells r t3)).heap[w.heap.size + 1]? = some (.cells q t2 (0, 0)) ∧
    (((w.alloc (.cells p t1)).alloc (.cells q t2)).alloc (.cells r t3)).heap[w.heap.size + 1 + 1]? = some (.cells r t3 (0, 0)) := by
  have h1 := heap_alloc_new w (.cells p t1)
  have h2 := heap_alloc_new (w.alloc (.cells p t1)) (.cells q t2)
  have h3 := heap_alloc_new ((w.alloc (.cells p t1)).alloc (.cells q t2)) (.cells r t3)
  simp only [World.size_alloc] at h2 h3
  refine ⟨?_, ?_, h3⟩
  · rw [Below.heap_alloc _ _ _ (by simp; omega), Below.heap_alloc _ _ _ (by simp)]; exact h1
  · rw [Below.heap_alloc _ _ _ (by simp)]; exact h2

set_option maxHeartbeats 4000000 in
set_option maxRecDepth 1000000 in
theorem radd_calls (x y : Nat) (hx : x < TOP) (hy : y < TOP) (w : World) :
    Calls Try.prog 53 #[V x, V y] w fun e w' => e = .returned (if x + y < TOP then .tuple #[V (x + y), .bool true] else .tuple #[V 0, .bool false]) ∧ Below w.heap.size w w' := by
  obtain ⟨r, hr⟩ : ∃ r, (if x + y < TOP then Value.tuple #[V (x + y), .bool true] else .tuple #[V 0, .bool false]) = r := ⟨_, rfl⟩
  rw [hr]
  obtain ⟨a0, a1, a2, a3, hv, ha0, ha1, ha2, ha3, -⟩ := V_open hx
  obtain ⟨b0, b1, b2, b3, hu, hb0, hb1, hb2, hb3, -⟩ := V_open hy
  have hdx := digits_calls x
  have hdy := digits_calls y
  have HR := hidden (p := x < TOP ∧ y < TOP ∧ _) ⟨hx, hy, hr⟩
  clear hr
  rw [hv] at hdx
  rw [hu] at hdy
  rw [hv, hu]
  unfold V4 at *
  clear hv hu hx hy ha0 ha1 ha2 ha3 hb0 hb1 hb2 hb3
  go_enter Try.func53, Try.ntmps53
  go_wp2_with fail
  go_region_with (first
    | (go_at_call_of 93 a0; refine (hdx _).mono ?_; rintro e w1 ⟨v1, rfl, ho1, hw1⟩; obtain ⟨q0, q1, q2, q3, -⟩ := cells4 ((hw1.block (w.heap.size + 1) (by simp)).trans (three _ _ _ _ _ _ _).2.1))
    | (go_at_call_of 93 b0; refine (hdy _).mono ?_; rintro e w2 ⟨v2, rfl, ho2, hw2⟩))
  all_goals
    have hsz := hw1.size
    simp only [drew_size, World.size_alloc] at ho1 hw1 hsz
    obtain ⟨g1, cap1, rfl, hg1, hg1', hc1, hm1⟩ := own_form ho1
    obtain ⟨g2, cap2, rfl, hg2, hg2', hc2, hm2⟩ := own_form ho2
    have R1 := own_below ho1 hw2
    have R2 := own_base ho2 hsz
    have H := (Below.drew (Below.refl _ _)).trans (hw1.trans (hw2.mono hsz))
    have hne : g2 ≠ g1 := by omega
    have hl1 : cap1 ≤ 9223372036854775807 := Nat.le_trans hm1 (by unfold maxLen; omega)
    have hl2 : cap2 ≤ 9223372036854775807 := Nat.le_trans hm2 (by unfold maxLen; omega)
    clear ho1 ho2 hw1 hw2 q0 q1 q2 q3 hg1' hg2' hsz hc1 hc2 hm1 hm2
    go_wp2_with fail
    go_loopw [8] (fun i wr => ∃ k : Nat, k ≤ 16 ∧ i = .int .i64 k ∧ wr.ownsRow (w.heap.size + 1 + 1 + 1) 26 1 (.slice (some ⟨g1, 0, none⟩) 16 cap1) 16 (row (fun j => if j < k then dg x j + dg y j else dg x j) 16) ∧
      wr.ownsRow (w.heap.size + 1 + 1 + 1) 26 1 (.slice (some ⟨g2, 0, none⟩) 16 cap2) 16 (row (dg y) 16) ∧
      Below (w.heap.size + 1 + 1 + 1) (((w.alloc (.cells #[.int .u64 a0, .int .u64 a1, .int .u64 a2, .int .u64 a3] 28)).alloc (.cells #[.int .u64 b0, .int .u64 b1, .int .u64 b2, .int .u64 b3] 28)).alloc (.cells #[.int .u64 0, .int .u64 0, .int .u64 0, .int .u64 0] 28)) wr)
      (fun i _ => 16 - (intOf i).toNat)
    case atStart => exact ⟨0, by omega, rfl, by simpa using R1, R2, H⟩
    case round =>
      obtain ⟨k, hk, rfl, hr1, hr2, hbel⟩ := hrel
      clear R1 R2 H
      rcases Nat.lt_or_ge k 16 with hlt | hge
      · have k1 : wr.cell? ⟨g1, k, none⟩ = some (.int .u64 (dg x k : Nat)) := by rw [hr1.cellAt k (by omega), row_get _ hlt, if_neg (by omega)]
        have k2 : wr.cell? ⟨g2, k, none⟩ = some (.int .u64 (dg y k : Nat)) := by rw [hr2.cellAt k (by omega), row_get _ hlt]
        have kz := hr1.frozenAt k
        have hdl1 := dg_lt x k
        have hdl2 := dg_lt y k
        go_wp2
        go_region
        go_wp2
        go_roundw
        case rel =>
          have S := (hr1.stored k (.int .u64 ((dg x k + dg y k : Nat) : Int))).1
          rw [row_set] at S
          refine ⟨k + 1, by omega, by go_num, ?_, World.ownsRow.drew (ownsRow_setCell_other hr2 (by simp [Value.ownBlock, hne]) _), (hbel.setCell (by simpa using hg1) _).drew⟩
          rw [row_congr (f := fun j => if j < k + 1 then dg x j + dg y j else dg x j) (g := set1 (fun j => if j < k then dg x j + dg y j else dg x j) k (dg x k + dg y k)) (n := 16)]
          · exact World.ownsRow.drew (by simpa using S)
          · intro i _
            by_cases hik : i = k
            · subst hik; simp [set1_eq]
            · rw [set1_ne _ hik]
              have : i < k + 1 ↔ i < k := by omega
              simp only [this]
        case measure => simp [intOf]; omega
      · have e : k = 16 := by omega
        subst e
        rw [row_congr (f := fun j => if j < 16 then dg x j + dg y j else dg x j) (g := fun j => dg x j + dg y j) (n := 16) (fun i hi => by simp [hi])] at hr1
        clear hr2
        go_wp2_with (go_at_call 95; refine (carry_calls _ _ _ _ (fun i _ => by have := dg_lt x i; have := dg_lt y i; omega) _ hr1).mono ?_; rintro e w3 ⟨v3, h, rfl, ho3, hh, hnum, hb3⟩)
        obtain ⟨g3, cap3, rfl, -⟩ := own_form ho3
        have hof := of_calls _ _ _ _ _ (.inr rfl) hh w3 ho3
        have hsz := hbel.size
        simp only [World.size_alloc] at hsz
        have hb3' := hb3.size
        have hN : x + y = num h 16 + h 16 * TOP := by
          have e1 : num (fun j => dg x j + dg y j) 16 = x + y := by rw [num_add, num_dg16 HR.out.1, num_dg16 HR.out.2.1]
          rw [← e1, ← hnum]; rfl
        have hlow : num h 16 < TOP := num_lt fun i hi => hh i (by omega)
        have HD := hidden hbel
        have HB := hidden hb3
        clear hr1 ho3 hh hnum hbel hb3
        by_cases h0 : h 16 = 0
        · rw [if_pos (.inr h0)] at hof
          rw [h0] at hN
          have hr := HR.out.2.2
          rw [if_pos (by omega : x + y < TOP), show x + y = num h 16 by omega] at hr
          obtain ⟨s0, s1, s2, s3, hs, -⟩ := V_open hlow
          rw [hs] at hof hr
          unfold V4 at hof hr
          have HQ := hidden hr
          clear hs hN hlow h0 hr
          go_wp2_with (go_at_call 94; refine hof.mono ?_; rintro e w4 ⟨rfl, hb4⟩; obtain ⟨q0, q1, q2, q3, qz⟩ := cells4 (((HD.out.trans (HB.out.trans (hb4.mono (by omega)))).block (w.heap.size + 1 + 1) (by omega)).trans (three _ _ _ _ _ _ _).2.2))
          refine bodyPost_ret (v := .tuple #[.agg #[.int .u64 s0, .int .u64 s1, .int .u64 s2, .int .u64 s3], .bool true]) (by simp [results, Try.results53, go_sem, q0, q1, q2, q3]) rfl ⟨congrArg Ending.returned HQ.out, ?_⟩
          have K := (Below.alloc (Below.alloc (Below.alloc (Below.refl w.heap.size w) (Nat.le_refl _) (.cells #[.int .u64 a0, .int .u64 a1, .int .u64 a2, .int .u64 a3] 28)) (by simp) (.cells #[.int .u64 b0, .int .u64 b1, .int .u64 b2, .int .u64 b3] 28)) (by simp; omega) (.cells #[.int .u64 0, .int .u64 0, .int .u64 0, .int .u64 0] 28)).trans ((HD.out.trans (HB.out.trans (hb4.mono (by omega)))).mono (by omega))
          exact (((K.setCell (by simp; omega) _).setCell (by simp; omega) _).setCell (by simp; omega) _).setCell (by simp; omega) _
        · rw [if_neg (by omega)] at hof
          have h1 : TOP ≤ h 16 * TOP := Nat.le_mul_of_pos_left _ (by omega)
          have hr := HR.out.2.2
          rw [if_neg (by omega : ¬ x + y < TOP)] at hr
          obtain ⟨s0, s1, s2, s3, hs, -⟩ := V_open top_pos
          rw [hs] at hof hr
          unfold V4 at hof hr
          have HQ := hidden hr
          clear hs hN hlow h0 h1 hr
          go_wp2_with (go_at_call 94; refine hof.mono ?_; rintro e w4 ⟨rfl, hb4⟩; obtain ⟨q0, q1, q2, q3, qz⟩ := cells4 (((HD.out.trans (HB.out.trans (hb4.mono (by omega)))).block (w.heap.size + 1 + 1) (by omega)).trans (three _ _ _ _ _ _ _).2.2))
          refine bodyPost_ret (v := .tuple #[.agg #[.int .u64 s0, .int .u64 s1, .int .u64 s2, .int .u64 s3], .bool false]) (by simp [results, Try.results53, go_sem, q0, q1, q2, q3]) rfl ⟨congrArg Ending.returned HQ.out, ?_⟩
          have K := (Below.alloc (Below.alloc (Below.alloc (Below.refl w.heap.size w) (Nat.le_refl _) (.cells #[.int .u64 a0, .int .u64 a1, .int .u64 a2, .int .u64 a3] 28)) (by simp) (.cells #[.int .u64 b0, .int .u64 b1, .int .u64 b2, .int .u64 b3] 28)) (by simp; omega) (.cells #[.int .u64 0, .int .u64 0, .int .u64 0, .int .u64 0] 28)).trans ((HD.out.trans (HB.out.trans (hb4.mono (by omega)))).mono (by omega))
          exact (((K.setCell (by simp; omega) _).setCell (by simp; omega) _).setCell (by simp; omega) _).setCell (by simp; omega) _

end Go.Proofs.Ytmjdmhelmgcanaa

/- r01.Cmp, digit by digit. -/
namespace Go.Proofs.Ytmjdmhelmgcanaa
open Go.RowKit

/-- two new blocks -/
theorem two (w : World) (p q : Array Value) (t1 t2 : TypeId) :
    ((w.alloc (.cells p t1)).alloc (.cells q t2)).heap[w.heap.size]? = some (.cells p t1 (0, 0)) ∧
    ((w.alloc (.cells p t1)).alloc (.cells q t2)).heap[w.heap.size + 1]? = some (.cells q t2 (0, 0)) := by
  have h1 := heap_alloc_new w (.cells p t1)
  have h2 := heap_alloc_new (w.alloc (.cells p t1)) (.cells q t2)
  simp only [World.size_alloc] at h2
  exact ⟨by rw [Below.heap_alloc _ _ _ (by simp)]; exact h1, h2⟩

/-- a digit more -/
theorem more_dg (x k : Nat) : x / 65536 ^ k = x / 65536 ^ (k + 1) * 65536 + dg x k := by
  rw [dg, Nat.pow_succ, ← Nat.div_div_eq_div_mul]; omega

theorem lt_dg {x y k : Nat} (h : x / 65536 ^ (k + 1) = y / 65536 ^ (k + 1)) (hd : dg x k < dg y k) : x < y := by
  have h1 := more_dg x k
  have h2 := more_dg y k
  rw [h] at h1
  apply Nat.lt_of_not_le
  intro hle
  have := Nat.div_le_div_right (c := 65536 ^ k) hle
  omega

set_option maxHeartbeats 4000000 in
set_option maxRecDepth 1000000 in
theorem rcmp_calls (x y : Nat) (hx : x < TOP) (hy : y < TOP) (w : World) :
    Calls Try.prog 54 #[V x, V y] w fun e w' => e = .returned (.int .i64 (cmpN x y)) ∧ Below w.heap.size w w' := by
  obtain ⟨r, hr⟩ : ∃ r, (Value.int .i64 (cmpN x y)) = r := ⟨_, rfl⟩
  rw [hr]
  obtain ⟨a0, a1, a2, a3, hv, ha0, ha1, ha2, ha3, -⟩ := V_open hx
  obtain ⟨b0, b1, b2, b3, hu, hb0, hb1, hb2, hb3, -⟩ := V_open hy
  have hdx := digits_calls x
  have hdy := digits_calls y
  have HR := hidden (p := x < TOP ∧ y < TOP ∧ _) ⟨hx, hy, hr⟩
  clear hr
  rw [hv] at hdx
  rw [hu] at hdy
  rw [hv, hu]
  unfold V4 at *
  clear hv hu hx hy ha0 ha1 ha2 ha3 hb0 hb1 hb2 hb3
  go_enter Try.func54, Try.ntmps54
  go_wp2_with fail
  go_region_with (first
    | (go_at_call_of 93 a0; refine (hdx _).mono ?_; rintro e w1 ⟨v1, rfl, ho1, hw1⟩; obtain ⟨q0, q1, q2, q3, -⟩ := cells4 ((hw1.block (w.heap.size + 1) (by simp)).trans (two _ _ _ _ _).2))
    | (go_at_call_of 93 b0; refine (hdy _).mono ?_; rintro e w2 ⟨v2, rfl, ho2, hw2⟩))
  all_goals
    have hsz := hw1.size
    simp only [drew_size, World.size_alloc] at ho1 hw1 hsz
    obtain ⟨g1, cap1, rfl, hg1, hg1', hc1, hm1⟩ := own_form ho1
    obtain ⟨g2, cap2, rfl, hg2, hg2', hc2, hm2⟩ := own_form ho2
    have R1 := own_below ho1 hw2
    have R2 := own_base ho2 hsz
    have H := (Below.drew (Below.refl _ _)).trans (hw1.trans (hw2.mono hsz))
    have hl1 : cap1 ≤ 9223372036854775807 := Nat.le_trans hm1 (by unfold maxLen; omega)
    have hl2 : cap2 ≤ 9223372036854775807 := Nat.le_trans hm2 (by unfold maxLen; omega)
    clear ho1 ho2 hw1 hw2 q0 q1 q2 q3 hg1' hsz hc1 hc2 hm1 hm2
    have hlx : x / 65536 ^ 16 = 0 := Nat.div_eq_of_lt HR.out.1
    have hly : y / 65536 ^ 16 = 0 := Nat.div_eq_of_lt HR.out.2.1
    have HXY := hidden (hlx.trans hly.symm)
    clear hlx hly
    go_wp2_with fail
    go_loopw [7] (fun i wr => ∃ k : Nat, k ≤ 16 ∧ i = .int .i64 ((k : Int) - 1) ∧ x / 65536 ^ k = y / 65536 ^ k ∧
        wr.ownsRow (w.heap.size + 1 + 1) 26 1 (.slice (some ⟨g1, 0, none⟩) 16 cap1) 16 (row (dg x) 16) ∧
        wr.ownsRow (w.heap.size + 1 + 1) 26 1 (.slice (some ⟨g2, 0, none⟩) 16 cap2) 16 (row (dg y) 16) ∧
        Below (w.heap.size + 1 + 1) ((w.alloc (.cells #[.int .u64 a0, .int .u64 a1, .int .u64 a2, .int .u64 a3] 28)).alloc (.cells #[.int .u64 b0, .int .u64 b1, .int .u64 b2, .int .u64 b3] 28)) wr)
      (fun i _ => (intOf i + 1).toNat)
    case atStart => exact ⟨16, by omega, rfl, HXY.out, R1, R2, H⟩
    case round =>
      obtain ⟨k, hk, rfl, he, hr1, hr2, hbel⟩ := hrel
      clear R1 R2 H
      have HE := hidden he
      have HB : Hid (Below w.heap.size w wr) := (Below.alloc (Below.alloc (Below.refl w.heap.size w) (Nat.le_refl _) _) (by simp) _).trans (hbel.mono (by omega))
      clear he
      rcases k with _ | k
      · go_wp2
        refine bodyPost_ret (v := .int .i64 0) (by simp [results, Try.results54, go_sem]) rfl ⟨?_, HB.out⟩
        have e := HE.out
        simp only [Nat.pow_zero, Nat.div_one] at e
        rw [← HR.out.2.2, e, cmpN_eq]
      · have k1 : wr.cell? ⟨g1, k, none⟩ = some (.int .u64 (dg x k : Nat)) := by rw [hr1.cellAt k (by omega), row_get _ (by omega)]
        have k2 : wr.cell? ⟨g2, k, none⟩ = some (.int .u64 (dg y k : Nat)) := by rw [hr2.cellAt k (by omega), row_get _ (by omega)]
        have hi : (((k + 1 : Nat) : Int) - 1) = k := by omega
        rw [hi]
        clear hi
        rcases Nat.lt_trichotomy (dg x k) (dg y k) with hlt | heq | hgt
        · have hlt' : ((dg x k : Nat) : Int) < (dg y k : Nat) := by omega
          have HC : Hid (cmpN x y = -1) := cmpN_lt (lt_dg HE.out hlt)
          clear hlt
          go_wp2
          go_region
          go_wp2
          refine bodyPost_ret (v := .int .i64 (-1)) (by simp [results, Try.results54, go_sem]) rfl ⟨?_, HB.out.drew⟩
          rw [← HR.out.2.2, HC.out]
        · rw [← heq] at k2
          have hee : Hid (dg x k = dg y k) := heq
          clear heq
          go_wp2
          go_region
          go_wp2
          go_region
          go_wp2
          go_roundw
          case rel =>
            refine ⟨k, by omega, by go_num, ?_, World.ownsRow.drew (World.ownsRow.drew hr1), World.ownsRow.drew (World.ownsRow.drew hr2), hbel.drew.drew⟩
            rw [more_dg x, more_dg y, HE.out, hee.out]
          case measure => simp [intOf]
        · have hgt' : ((dg y k : Nat) : Int) < (dg x k : Nat) := by omega
          have HC : Hid (cmpN x y = 1) := cmpN_gt (lt_dg HE.out.symm hgt)
          clear hgt
          go_wp2
          go_region
          go_wp2
          go_region
          go_wp2
          refine bodyPost_ret (v := .int .i64 1) (by simp [results, Try.results54, go_sem]) rfl ⟨?_, HB.out.drew.drew⟩
          rw [← HR.out.2.2, HC.out]

end Go.Proofs.Ytmjdmhelmgcanaa

/- r01.Rest, digit by digit. -/
namespace Go.Proofs.Ytmjdmhelmgcanaa
open Go.RowKit

set_option maxHeartbeats 4000000 in
set_option maxRecDepth 1000000 in
theorem rrest_low (x y : Nat) (hx : x < TOP) (hy : y < TOP) (hxy : x ≤ y) (w : World) :
    Calls Try.prog 55 #[V x, V y] w fun e w' => e = .returned (V 0) ∧ Below w.heap.size w w' := by
  obtain ⟨a0, a1, a2, a3, hv, ha0, ha1, ha2, ha3, -⟩ := V_open hx
  obtain ⟨b0, b1, b2, b3, hu, hb0, hb1, hb2, hb3, -⟩ := V_open hy
  have hV0 : V 0 = V4 0 0 0 0 := V_mk4 (a := 0) (b := 0) (c := 0) (d := 0) (by omega) (by omega) (by omega) (by omega)
  obtain ⟨c, hc⟩ : ∃ c, c = cmpN x y := ⟨_, rfl⟩
  have hc0 : c ≤ 0 := by rw [hc]; unfold cmpN; rw [if_neg (by omega : ¬ y < x)]; split <;> decide
  have hcmp := rcmp_calls x y hx hy
  rw [hv, hu, ← hc] at hcmp
  rw [hv, hu, hV0]
  unfold V4 at *
  clear hv hu hV0 hx hy hxy ha0 ha1 ha2 ha3 hb0 hb1 hb2 hb3 hc
  go_enter Try.func55, Try.ntmps55
  go_wp2_with (go_at_call 54; refine (hcmp _).mono ?_; rintro e w1 ⟨rfl, hw1⟩; obtain ⟨q0, q1, q2, q3, qz⟩ := cells4 ((hw1.block (w.heap.size + 1 + 1) (by simp)).trans (three _ _ _ _ _ _ _).2.2))
  refine bodyPost_ret (v := .agg #[.int .u64 0, .int .u64 0, .int .u64 0, .int .u64 0]) (by simp [results, Try.results55, go_sem, q0, q1, q2, q3]) rfl ⟨rfl, ?_⟩
  have K := (Below.alloc (Below.alloc (Below.alloc (Below.refl w.heap.size w) (Nat.le_refl _) (.cells #[.int .u64 a0, .int .u64 a1, .int .u64 a2, .int .u64 a3] 28)) (by simp) (.cells #[.int .u64 b0, .int .u64 b1, .int .u64 b2, .int .u64 b3] 28)) (by simp; omega) (.cells #[.int .u64 0, .int .u64 0, .int .u64 0, .int .u64 0] 28)).trans (hw1.mono (by simp; omega))
  exact (((K.setCell (by simp; omega) _).setCell (by simp; omega) _).setCell (by simp; omega) _).setCell (by simp; omega) _

set_option maxHeartbeats 4000000 in
set_option maxRecDepth 1000000 in
theorem rrest_high (x y : Nat) (hx : x < TOP) (hy : y < TOP) (hxy : y < x) (w : World) :
    Calls Try.prog 55 #[V x, V y] w fun e w' => e = .returned (V (x - y)) ∧ Below w.heap.size w w' := by
  obtain ⟨r, hr⟩ : ∃ r, V (x - y) = r := ⟨_, rfl⟩
  rw [hr]
  obtain ⟨a0, a1, a2, a3, hv, ha0, ha1, ha2, ha3, -⟩ := V_open hx
  obtain ⟨b0, b1, b2, b3, hu, hb0, hb1, hb2, hb3, -⟩ := V_open hy
  have hcmp := rcmp_calls x y hx hy
  rw [hv, hu, cmpN_gt hxy] at hcmp
  have hdx := digits_calls x
  have hdy := digits_calls y
  have HR := hidden (p := x < TOP ∧ y < TOP ∧ y < x ∧ _) ⟨hx, hy, hxy, hr⟩
  clear hr
  rw [hv] at hdx
  rw [hu] at hdy
  rw [hv, hu]
  unfold V4 at *
  clear hv hu hx hy hxy ha0 ha1 ha2 ha3 hb0 hb1 hb2 hb3
  go_enter Try.func55, Try.ntmps55
  go_wp2_with (go_at_call 54; refine (hcmp _).mono ?_; rintro e w0 ⟨rfl, hw0⟩; obtain ⟨p0, p1, p2, p3, -⟩ := cells4 ((hw0.block w.heap.size (by simp; omega)).trans (three _ _ _ _ _ _ _).1); obtain ⟨s0, s1, s2, s3, -⟩ := cells4 ((hw0.block (w.heap.size + 1) (by simp)).trans (three _ _ _ _ _ _ _).2.1))
  go_region_with (first
    | (go_at_call_of 93 a0; refine (hdx _).mono ?_; rintro e w1 ⟨v1, rfl, ho1, hw1⟩; obtain ⟨q0, q1, q2, q3, -⟩ := cells4 ((hw1.block (w.heap.size + 1) (by have := hw0.size; simp at this; simp; omega)).trans ((hw0.block (w.heap.size + 1) (by simp)).trans (three _ _ _ _ _ _ _).2.1)))
    | (go_at_call_of 93 b0; refine (hdy _).mono ?_; rintro e w2 ⟨v2, rfl, ho2, hw2⟩))
  all_goals
    have hsz0 := hw0.size
    simp only [World.size_alloc] at hw0 hsz0
    have hsz := hw1.size
    simp only [drew_size] at ho1 hw1 hsz
    obtain ⟨g1, cap1, rfl, hg1, hg1', hc1, hm1⟩ := own_form ho1
    obtain ⟨g2, cap2, rfl, hg2, hg2', hc2, hm2⟩ := own_form ho2
    have R1 := own_base (own_below ho1 hw2) hsz0
    have R2 := own_base ho2 (Nat.le_trans hsz0 hsz)
    have H := hw0.trans ((Below.drew (Below.refl _ _)).trans ((hw1.trans (hw2.mono hsz)).mono hsz0))
    have hg10 := Nat.le_trans hsz0 hg1
    have hne : g2 ≠ g1 := by omega
    have hl1 : cap1 ≤ 9223372036854775807 := Nat.le_trans hm1 (by unfold maxLen; omega)
    have hl2 : cap2 ≤ 9223372036854775807 := Nat.le_trans hm2 (by unfold maxLen; omega)
    clear ho1 ho2 hw0 hw1 hw2 q0 q1 q2 q3 p0 p1 p2 p3 s0 s1 s2 s3 hg1' hg2' hsz0 hsz hc1 hc2 hm1 hm2 hg1 hg2
    go_wp2_with fail
    go_loopw [7, 8] (fun o i wr => ∃ (k c : Nat) (h : Nat → Nat), k ≤ 16 ∧ i = .int .i64 k ∧ o = .int .u64 c ∧ c ≤ 1 ∧
        wr.ownsRow (w.heap.size + 1 + 1 + 1) 26 1 (.slice (some ⟨g1, 0, none⟩) 16 cap1) 16 (row h 16) ∧
        wr.ownsRow (w.heap.size + 1 + 1 + 1) 26 1 (.slice (some ⟨g2, 0, none⟩) 16 cap2) 16 (row (dg y) 16) ∧
        (∀ i, i < k → h i < 65536) ∧ (∀ i, k ≤ i → h i = dg x i) ∧ num h k + num (dg y) k = num (dg x) k + c * 65536 ^ k ∧
        Below (w.heap.size + 1 + 1 + 1) (((w.alloc (.cells #[.int .u64 a0, .int .u64 a1, .int .u64 a2, .int .u64 a3] 28)).alloc (.cells #[.int .u64 b0, .int .u64 b1, .int .u64 b2, .int .u64 b3] 28)).alloc (.cells #[.int .u64 0, .int .u64 0, .int .u64 0, .int .u64 0] 28)) wr)
      (fun _ i _ => 16 - (intOf i).toNat)
    case atStart => exact ⟨0, 0, dg x, by omega, rfl, rfl, by omega, R1, R2, by omega, fun _ _ => rfl, by simp [num], H⟩
    case round =>
      obtain ⟨k, c, h, hk, rfl, rfl, hc, hr1, hr2, hlo, hhi, hnum, hbel⟩ := hrel
      clear R1 R2 H
      rcases Nat.lt_or_ge k 16 with hlt | hge
      · have k1 : wr.cell? ⟨g1, k, none⟩ = some (.int .u64 (dg x k : Nat)) := by rw [hr1.cellAt k (by omega), row_get _ hlt, hhi k (Nat.le_refl _)]
        have k2 : wr.cell? ⟨g2, k, none⟩ = some (.int .u64 (dg y k : Nat)) := by rw [hr2.cellAt k (by omega), row_get _ hlt]
        have kz := hr1.frozenAt k
        obtain ⟨d, hd⟩ : ∃ d, d = dg x k := ⟨_, rfl⟩
        obtain ⟨e, he⟩ : ∃ e, e = dg y k := ⟨_, rfl⟩
        have hdl : d < 65536 := by rw [hd]; exact dg_lt x k
        have hel : e < 65536 := by rw [he]; exact dg_lt y k
        rw [← hd] at k1
        rw [← he] at k2
        have HH := hidden (p := _ ∧ _ ∧ _ ∧ _ ∧ _) ⟨hlo, hhi, hnum, hd, he⟩
        clear hlo hhi hnum hd he
        go_wp2
        go_region
        go_wp2
        obtain ⟨z, hz⟩ : ∃ z, z = (d + 65536 - e - c) % 65536 := ⟨_, rfl⟩
        obtain ⟨c', hc'⟩ : ∃ c', c' = 1 - (d + 65536 - e - c) / 65536 := ⟨_, rfl⟩
        have ez : ((d : Int) + 65536 - e - c) % 65536 = (z : Nat) := by omega
        have ec : 1 - ((d : Int) + 65536 - e - c) / 65536 = (c' : Nat) := by omega
        have ezc : z + e + c = d + 65536 * c' := by omega
        rw [ez, ec]
        go_roundw
        case rel =>
          obtain ⟨hlo, hhi, hnum, hd, he⟩ := HH.out
          have S := (hr1.stored k (.int .u64 (z : Nat))).1
          rw [row_set] at S
          have hl := num_congr (f := set1 h k z) (g := h) (k := k) fun i hi => set1_ne h (by omega)
          refine ⟨k + 1, c', set1 h k z, by omega, by go_num, rfl, by omega, World.ownsRow.drew S, World.ownsRow.drew (ownsRow_setCell_other hr2 (by simp [Value.ownBlock, hne]) _), ?_, ?_, ?_, (hbel.setCell (by simpa using hg10) _).drew⟩
          · intro i hi
            by_cases hik : i = k
            · subst hik; rw [set1_eq]; omega
            · rw [set1_ne h hik]; exact hlo i (by omega)
          · intro i hi
            rw [set1_ne h (by omega)]; exact hhi i (by omega)
          · rw [num, num, num, hl, set1_eq, ← hd, ← he, Nat.pow_succ]
            have e2 : (z + e + c) * 65536 ^ k = (d + 65536 * c') * 65536 ^ k := by rw [ezc]
            rw [Nat.add_mul, Nat.add_mul, Nat.add_mul] at e2
            have e3 : c' * (65536 ^ k * 65536) = 65536 * c' * 65536 ^ k := by ac_rfl
            rw [e3]
            omega
        case measure => simp [intOf]; omega
      · have e : k = 16 := by omega
        subst e
        have hsz := hbel.size
        simp only [World.size_alloc] at hsz
        obtain ⟨hx, hy, hxy, hr⟩ := HR.out
        rw [num_dg16 hx, num_dg16 hy] at hnum
        have hlt := num_lt (f := h) (k := 16) hlo
        have hT : (65536 : Nat) ^ 16 = TOP := rfl
        rw [hT] at hnum hlt
        have hc0 : c = 0 := by
          rcases Nat.lt_or_ge 0 c with h1 | h1
          · have : TOP ≤ c * TOP := Nat.le_mul_of_pos_left _ h1
            omega
          · omega
        subst hc0
        have hxn : x - y = num h 16 := by omega
        have hof := of_calls _ _ _ _ _ (.inl rfl) hlo wr hr1
        rw [if_pos (.inl rfl)] at hof
        rw [hxn] at hr
        obtain ⟨s0, s1, s2, s3, hs, -⟩ := V_open hlt
        rw [hs] at hof hr
        unfold V4 at hof hr
        have HQ := hidden hr
        have HD := hidden hbel
        clear hr1 hr2 hlo hhi hnum hbel hlt hT hxn hs hr hx hy hxy
        go_wp2_with (go_at_call 94; refine hof.mono ?_; rintro e w4 ⟨rfl, hb4⟩; obtain ⟨q0, q1, q2, q3, qz⟩ := cells4 (((HD.out.trans (hb4.mono (by omega))).block (w.heap.size + 1 + 1) (by omega)).trans (three _ _ _ _ _ _ _).2.2); have hs4 : w.heap.size + 1 + 1 < w4.heap.size := Nat.lt_of_lt_of_le hsz hb4.size; have hs5 : w.heap.size + 1 + 1 ≠ w4.heap.size := Nat.ne_of_lt hs4; have hs6 : w4.heap.size ≠ w.heap.size + 1 + 1 := Nat.ne_of_gt hs4)
        refine bodyPost_ret (v := .agg #[.int .u64 s0, .int .u64 s1, .int .u64 s2, .int .u64 s3]) (by simp [results, Try.results55, go_sem, q0, q1, q2, q3, hs4]) rfl ⟨congrArg Ending.returned HQ.out, ?_⟩
        have K := (Below.alloc (Below.alloc (Below.alloc (Below.refl w.heap.size w) (Nat.le_refl _) (.cells #[.int .u64 a0, .int .u64 a1, .int .u64 a2, .int .u64 a3] 28)) (by simp) (.cells #[.int .u64 b0, .int .u64 b1, .int .u64 b2, .int .u64 b3] 28)) (by simp; omega) (.cells #[.int .u64 0, .int .u64 0, .int .u64 0, .int .u64 0] 28)).trans ((HD.out.trans (hb4.mono (by omega))).mono (by omega))
        exact ((((K.setCell (by simp; omega) _).setCell (by simp; omega) _).setCell (by simp; omega) _).setCell (by simp; omega) _).alloc (by simp; omega) _

end Go.Proofs.Ytmjdmhelmgcanaa

/- r01.Zero, r01.Small, num.Of. -/
namespace Go.Proofs.Ytmjdmhelmgcanaa
open Go.RowKit

theorem small_calls (n : Nat) (w : World) :
    Calls Try.prog 78 #[.int .u64 n] w fun e w' => e = .returned (V4 n 0 0 0) ∧ Below w.heap.size w w' := by
  unfold V4
  go_enter Try.func78, Try.ntmps78
  go_wp2
  refine bodyPost_ret (v := .agg #[.int .u64 n, .int .u64 0, .int .u64 0, .int .u64 0]) (by simp [results, Try.results78, go_sem]) rfl ⟨rfl, ?_⟩
  repeat (first | exact Below.refl _ _ | refine Below.setCell ?_ (by simp) _ | refine Below.alloc ?_ (by simp <;> omega) _ | refine Below.drew ?_)

theorem nof_calls (n : Nat) (w : World) :
    Calls Try.prog 97 #[.int .u64 n] w fun e w' => e = .returned (V4 n 0 0 0) ∧ Below w.heap.size w w' := by
  unfold V4
  go_enter Try.func97, Try.ntmps97
  go_wp2
  refine bodyPost_ret (v := .agg #[.int .u64 n, .int .u64 0, .int .u64 0, .int .u64 0]) (by simp [results, Try.results97, go_sem]) rfl ⟨rfl, ?_⟩
  repeat (first | exact Below.refl _ _ | refine Below.setCell ?_ (by simp) _ | refine Below.alloc ?_ (by simp <;> omega) _ | refine Below.drew ?_)

set_option maxHeartbeats 1000000 in
theorem zero_calls (x : Nat) (hx : x < TOP) (w : World) :
    Calls Try.prog 88 #[V x] w fun e w' => e = .returned (.bool (decide (x = 0))) ∧ Below w.heap.size w w' := by
  obtain ⟨a0, a1, a2, a3, hv, ha0, ha1, ha2, ha3, hxe⟩ := V_open hx
  obtain ⟨b, hb⟩ : ∃ b, decide (x = 0) = b := ⟨_, rfl⟩
  rw [hb, hv]
  have HB : Hid ((decide (a0 = 0) && decide (a1 = 0) && decide (a2 = 0) && decide (a3 = 0)) = b) := by
    show (decide (a0 = 0) && decide (a1 = 0) && decide (a2 = 0) && decide (a3 = 0)) = b
    rw [← hb, hxe]
    unfold mk4
    simp only [← Bool.decide_and]
    exact decide_eq_decide.2 (by omega)
  unfold V4
  clear hb hv hxe ha0 ha1 ha2 ha3 hx
  have hz : ∀ a : Nat, a ≠ 0 → ((a : Nat) : Int) ≠ 0 := fun a h => by omega
  have hB : Below w.heap.size w (w.alloc (.cells #[.int .u64 a0, .int .u64 a1, .int .u64 a2, .int .u64 a3] 28)) := (Below.refl _ _).alloc (Nat.le_refl _) _
  by_cases h0 : a0 = 0
  · subst h0
    by_cases h1 : a1 = 0
    · subst h1
      by_cases h2 : a2 = 0
      · subst h2
        by_cases h3 : a3 = 0
        · subst h3
          go_enter Try.func88, Try.ntmps88
          go_wp2
          go_ret
          exact ⟨by rw [← HB.out]; rfl, hB⟩
        · have k3 := hz _ h3
          go_enter Try.func88, Try.ntmps88
          go_wp2
          go_ret
          exact ⟨by rw [← HB.out]; simp [h3], hB⟩
      · have k2 := hz _ h2
        go_enter Try.func88, Try.ntmps88
        go_wp2
        go_ret
        exact ⟨by rw [← HB.out]; simp [h2], hB⟩
    · have k1 := hz _ h1
      go_enter Try.func88, Try.ntmps88
      go_wp2
      go_ret
      exact ⟨by rw [← HB.out]; simp [h1], hB⟩
  · have k0 := hz _ h0
    go_enter Try.func88, Try.ntmps88
    go_wp2
    go_ret
    exact ⟨by rw [← HB.out]; simp [h0], hB⟩

theorem V_small {n : Nat} (h : n < 18446744073709551616) : V n = V4 n 0 0 0 := by
  have e : mk4 n 0 0 0 = n := by unfold mk4; omega
  have := V_mk4 (a := n) (b := 0) (c := 0) (d := 0) h (by omega) (by omega) (by omega)
  rw [e] at this
  exact this

/-! ## As contracts of the table -/

theorem radd_con : ConOK 53 (pcon (k2 fun x y => [(x + y < TOP, .tup [M (x + y), B true]), (TOP ≤ x + y, .tup [M 0, B false])])) := by
  refine k2_ok (fun a w => Try.call53 a w) (by simp [SV.all, noName]) fun x y hx hy p hp => ?_
  simp only [List.mem_cons, List.not_mem_nil, or_false] at hp
  rcases hp with rfl | rfl
  · refine ⟨by simp [SV.all, noName], fun hc => ⟨all_num hc (by simp [SV.all, AtOK0]), fun ρ w => ?_⟩⟩
    simp only [List.map_cons, List.map_nil, N_den]
    refine (radd_calls x y hx hy w).mono ?_
    rintro e w' ⟨rfl, hb⟩
    have hc' : x + y < TOP := hc
    exact ⟨hb, by simp only [if_pos hc', SV.den, List.map_cons, List.map_nil, V_den, B_den]⟩
  · refine ⟨by simp [SV.all, noName], fun hc => ⟨all_num top_pos (by simp [SV.all, AtOK0]), fun ρ w => ?_⟩⟩
    simp only [List.map_cons, List.map_nil, N_den]
    refine (radd_calls x y hx hy w).mono ?_
    rintro e w' ⟨rfl, hb⟩
    have hn : ¬ x + y < TOP := Nat.not_lt.2 hc
    exact ⟨hb, by simp only [if_neg hn, SV.den, List.map_cons, List.map_nil, V_den, B_den]⟩

theorem rcmp_con : ConOK 54 (pcon (k2 fun x y => [(x < y, .one (E (-1))), (x = y, .one (E 0)), (y < x, .one (E 1))])) := by
  refine k2_ok (fun a w => Try.call54 a w) (by simp [SV.all, noName]) fun x y hx hy p hp => ?_
  simp only [List.mem_cons, List.not_mem_nil, or_false] at hp
  rcases hp with rfl | rfl | rfl
  all_goals
    refine ⟨by simp [SV.all, noName], fun hc => ⟨by simp [SV.all, AtOK0], fun ρ w => ?_⟩⟩
    simp only [List.map_cons, List.map_nil, N_den]
    refine (rcmp_calls x y hx hy w).mono ?_
    rintro e w' ⟨rfl, hb⟩
    refine ⟨hb, ?_⟩
  · simp only [cmpN_lt hc]; rfl
  · have hc' : x = y := hc
    subst hc'
    simp only [cmpN_eq]; rfl
  · simp only [cmpN_gt hc]; rfl

theorem rrest_con : ConOK 55 (pcon (k2 fun x y => [(True, .one (M (x - y)))])) := by
  refine k2_ok (fun a w => Try.call55 a w) (by simp [SV.all, noName]) fun x y hx hy p hp => ?_
  simp only [List.mem_cons, List.not_mem_nil, or_false] at hp
  subst hp
  refine ⟨by simp [SV.all, noName], fun _ => ⟨N_ok (by omega), fun ρ w => ?_⟩⟩
  simp only [List.map_cons, List.map_nil, N_den]
  rcases Nat.lt_or_ge y x with h | h
  · refine (rrest_high x y hx hy h w).mono ?_
    rintro e w' ⟨rfl, hb⟩
    exact ⟨hb, rfl⟩
  · refine (rrest_low x y hx hy h w).mono ?_
    rintro e w' ⟨rfl, hb⟩
    rw [show x - y = 0 by omega]
    exact ⟨hb, rfl⟩

theorem zero_con : ConOK 88 (pcon (k1 fun x => [(x = 0, .one (B true)), (0 < x, .one (B false))])) := by
  refine k1_ok (fun a w => Try.call88 a w) (by simp [SV.all, noName]) fun x hx p hp => ?_
  simp only [List.mem_cons, List.not_mem_nil, or_false] at hp
  rcases hp with rfl | rfl
  all_goals
    refine ⟨by simp [SV.all, noName], fun hc => ⟨by simp [SV.all, AtOK0], fun ρ w => ?_⟩⟩
    simp only [List.map_cons, List.map_nil, N_den]
    refine (zero_calls x hx w).mono ?_
    rintro e w' ⟨rfl, hb⟩
    refine ⟨hb, ?_⟩
  · have hc' : x = 0 := hc
    rw [decide_eq_true hc']; rfl
  · have hc' : 0 < x := hc
    rw [decide_eq_false (by omega : ¬ x = 0)]; rfl

end Go.Proofs.Ytmjdmhelmgcanaa
