/- r01.carry: the digits' sums, carried. -/
import Derived.Test.YtmjdmhelmgcanaaDig
namespace Go.Proofs.Ytmjdmhelmgcanaa
open Go.RowKit

theorem hidden {p : Prop} (h : p) : Hid p := h

/-- one of them changed -/
def set1 (f : Nat → Nat) (j u : Nat) : Nat → Nat := fun i => if i = j then u else f i
theorem row_set (f : Nat → Nat) (n j u : Nat) : (row f n).set j (.int .u64 (u : Nat)) = row (set1 f j u) n := by
  apply List.ext_getElem?
  intro i
  rw [List.getElem?_set]
  by_cases hi : i < n
  · rw [row_get _ hi, row_length]
    by_cases hj : j = i
    · subst hj; rw [row_get _ hi]; simp [hi, set1]
    · have : ¬ i = j := fun e => hj e.symm
      simp [hj, set1, this, row_get _ hi]
  · have h1 : (row f n)[i]? = none := by rw [List.getElem?_eq_none]; rw [row_length]; omega
    have h2 : (row (set1 f j u) n)[i]? = none := by rw [List.getElem?_eq_none]; rw [row_length]; omega
    rw [h1, h2, row_length]; simp; omega
theorem set1_eq (f : Nat → Nat) (j u : Nat) : set1 f j u j = u := by simp [set1]
theorem set1_ne (f : Nat → Nat) {j u i : Nat} (h : i ≠ j) : set1 f j u i = f i := by simp [set1, h]

/-- a row's slice: where it lies -/
theorem own_form {w : World} {B e n : Nat} {v : Value} {xs : List Value} (h : w.ownsRow B e 1 v (n + 1) xs) : ∃ g cap, v = .slice (some ⟨g, 0, none⟩) (n + 1) cap ∧ B ≤ g ∧ g < w.heap.size ∧ n + 1 ≤ cap ∧ cap ≤ maxLen := by
  rcases h.2 with ⟨_, h0⟩ | ⟨g, cap, cur, e1, hb, hg, hc, hm, _⟩
  · cases h0
  · exact ⟨g, cap, e1, hb, (Array.getElem?_eq_some_iff.1 hg).1, hc, hm⟩

set_option maxHeartbeats 4000000 in
set_option maxRecDepth 1000000 in
theorem carry_calls (B g cap : Nat) (f : Nat → Nat) (hf : ∀ i, i < 16 → f i ≤ 131070) (w : World) (hown : w.ownsRow B 26 1 (.slice (some ⟨g, 0, none⟩) 16 cap) 16 (row f 16)) :
    Calls Try.prog 95 #[.slice (some ⟨g, 0, none⟩) 16 cap] w fun e w' => ∃ v h, e = .returned v ∧ w'.ownsRow B 26 1 v 17 (row h 17) ∧ (∀ i, i < 17 → h i < 65536) ∧ num h 17 = num f 16 ∧ Below B w w' := by
  obtain ⟨i0, hi, hz0, hz1, hz2⟩ := info_parts info26
  obtain ⟨_, _, e1, hBg, hgw, hcap, hmax⟩ := own_form hown
  simp only [Value.slice.injEq, Option.some.injEq, Addr.mk.injEq, and_true] at e1
  obtain ⟨rfl, -, rfl⟩ := e1
  have hmax' : cap ≤ 9223372036854775807 := Nat.le_trans hmax (by unfold maxLen; omega)
  go_enter Try.func95, Try.ntmps95
  go_wp2
  go_loopw [3, 4] (fun o i wr => ∃ (k c : Nat) (h : Nat → Nat), k ≤ 16 ∧ i = .int .i64 k ∧ o = .int .u64 c ∧ c ≤ 2 ∧ wr.ownsRow B 26 1 (.slice (some ⟨g, 0, none⟩) 16 cap) 16 (row h 16) ∧
      (∀ i, i < k → h i < 65536) ∧ (∀ i, k ≤ i → h i = f i) ∧ num h k + c * 65536 ^ k = num f k ∧ Below B w wr)
    (fun _ i _ => 16 - (intOf i).toNat)
  case atStart => exact ⟨0, 0, f, Nat.zero_le _, rfl, rfl, by omega, hown, by omega, fun _ _ => rfl, by simp [num], Below.refl _ _⟩
  case round =>
    obtain ⟨k, c, h, hk, rfl, rfl, hc, hr, hlo, hhi, hnum, hbel⟩ := hrel
    rcases Nat.lt_or_ge k 16 with hlt | hge
    · have hcell : wr.cell? ⟨g, k, none⟩ = some (.int .u64 (f k : Nat)) := by rw [hr.cellAt k (by omega), row_get _ hlt, hhi k (Nat.le_refl _)]
      have hfz := hr.frozenAt k
      have hfk := hf k hlt
      have HF := hidden hf
      have HL := hidden hlo
      have HH := hidden hhi
      clear hf hlo hhi
      go_wp2_with fail
      go_roundw
      case rel =>
        have R := (hr.stored k (.int .u64 (((c + f k) % 65536 : Nat) : Int))).1
        rw [row_set] at R
        have hl := num_congr (f := set1 h k ((c + f k) % 65536)) (g := h) (k := k) fun i hi => set1_ne h (by omega)
        refine ⟨k + 1, (c + f k) / 65536, set1 h k ((c + f k) % 65536), by omega, by go_num, by simp, by omega, by simpa using R, ?_, ?_, ?_, hbel.setCell hBg _⟩
        · intro i hi
          by_cases hik : i = k
          · subst hik; rw [set1_eq]; omega
          · rw [set1_ne h hik]; exact HL.out i (by omega)
        · intro i hi
          rw [set1_ne h (by omega)]; exact HH.out i (by omega)
        · rw [num, num, hl, set1_eq, ← hnum]
          have e := Nat.div_add_mod (c + f k) 65536
          have e2 : (65536 * ((c + f k) / 65536) + (c + f k) % 65536) * 65536 ^ k = (c + f k) * 65536 ^ k := by rw [e]
          rw [Nat.pow_succ]
          rw [Nat.add_mul, Nat.add_mul] at e2
          have e3 : (c + f k) / 65536 * (65536 ^ k * 65536) = 65536 * ((c + f k) / 65536) * 65536 ^ k := by ac_rfl
          rw [e3]
          omega
      case measure => simp [intOf]; omega
    · have e : k = 16 := by omega
      subst e
      go_wp2_with (at_builtin; refine wpList_append_own _ rfl _ _ 88 rfl B 26 i0 (.int .u64 0) 1 8 Try.underlying88 hi hz0 hz1 hz2 rfl (by decide) _ _ _ rfl (hr.alloc _) ⟨wr.heap.size, 0, none⟩ 1 1 [.int .u64 (c : Nat)] rfl rfl ?c1 ?c2 ?c3 ?c4 ?c5 ?_)
      case c1 =>
        intro j u hj
        match j, hj with
        | 0, hj => simp at hj; subst hj; simp [Addr.add]
      case c2 => intro u hu; simp at hu; subst hu; rfl
      case c3 => unfold maxLen; omega
      case c4 => omega
      case c5 => have := hbel.size; simp; omega
      · intro v' w1 hown' hgrow _
        have R : Below B w w1 := (hbel.alloc (by have := hbel.size; omega) _).grown hgrow (by have := hbel.size; simp; omega) (fun j hj => by simp [Value.ownBlock] at hj; omega)
        have hl := num_congr (f := set1 h 16 c) (g := h) (k := 16) fun i hi => set1_ne h (by omega)
        have hrow : row h 16 ++ [.int .u64 (c : Nat)] = row (set1 h 16 c) 17 := by
          rw [row_succ (set1 h 16 c) 16, set1_eq, row_congr (f := h) (g := set1 h 16 c) (n := 16) fun i hi => (set1_ne h (by omega)).symm]
        rw [hrow] at hown'
        clear hgrow hr
        go_wp2
        go_ret
        refine ⟨_, set1 h 16 c, rfl, hown', fun i hi => ?_, ?_, R⟩
        · by_cases hik : i = 16
          · subst hik; rw [set1_eq]; omega
          · rw [set1_ne h hik]; exact hlo i (by omega)
        · rw [num, hl, set1_eq]; exact hnum

end Go.Proofs.Ytmjdmhelmgcanaa
