/- Joined out of smaller texts: LiftB. -/
import Derived.Test.YtmjdmhelmgcanaaQL
import Derived.Test.YtmjdmhelmgcanaaQM
/- The lift of laws that take bytes. -/
namespace Go.Proofs.Ytmjdmhelmgcanaa
open Go.ChangeShapes Go.WideShapes Go.ChangeAt Go.RowKit
set_option linter.unusedVariables false

/-- an argument that is bytes -/
def OpenB (W : World) (v : Value) : Prop := v = .slice none 0 0 ∨ ∃ (z : Nat → Nat) (n b off cap : Nat), v = .slice (some ⟨b, off, none⟩) n cap ∧ (∀ i, i < n → z i < 256) ∧ b < W.heap.size ∧ n ≤ cap ∧ cap ≤ maxLen ∧
  ∀ j u, (M.rowC (M.row8 z) n)[j]? = some u → W.cell? ⟨b, off + j, none⟩ = some u

set_option maxRecDepth 100000 in
theorem byte_cell {H : Type} {enc : TypeId × Value → H} {W : World} {base : Nat} {spare : Nat → Bool} {held : Bool} {m : Nat} {cs : List Value} {x : DataW H × List MemPlace} (hl : cs.length = 1)
    (h : DataW.trod enc Try.prog W base spare held m 5 cs = some x) : ∃ k : Nat, k < 256 ∧ cs = [.int .u8 k] := by
  obtain ⟨d, ed, -, wd⟩ := DataW.trod_int Try.underlying5 h
  subst ed
  simp only [Lit.wf, Bool.and_eq_true, decide_eq_true_eq] at wd
  have q1 : IntKind.u8.min = 0 := rfl
  have q2 : IntKind.u8.max = 255 := rfl
  obtain ⟨k, rfl⟩ := Int.eq_ofNat_of_zero_le (by omega : 0 ≤ d)
  exact ⟨k, by omega, rfl⟩

set_option maxRecDepth 100000 in
theorem open_bytes {H : Type} {enc : TypeId × Value → H} {W : World} {base : Nat} {spare : Nat → Bool} {held : Bool} {r : Reach} {b0 : Nat} {v : Value} {d : DataW H} {ps : List MemPlace}
    (hval : Value.okWide Try.prog W r b0 74 v) (hd : DataW.Trod enc Try.prog W base spare held 74 v d ps) : OpenB W v := by
  obtain ⟨f, n, ho, hf⟩ := open_slice (by omega : 0 < 1) Try.underlying74 (by kernel_rfl) hval hd fun m cs x hl hx => by
    obtain ⟨k, hk, e⟩ := byte_cell hl hx
    exact ⟨[.int .u8 k], e, rfl, fun a ha => by simp only [List.mem_singleton] at ha; subst ha; trivial⟩
  have key : ∀ i, ∃ k : Nat, i < n → k < 256 ∧ M.cellsL M.ρ0 (f i) = [.int .u8 k] := by
    intro i
    by_cases hi : i < n
    · obtain ⟨m, cs, x, hl, hx, e⟩ := hf i hi
      obtain ⟨k, hk, e2⟩ := byte_cell hl hx
      exact ⟨k, fun _ => ⟨hk, by rw [← e, e2]⟩⟩
    · exact ⟨0, fun h => absurd h hi⟩
  obtain ⟨z, hz⟩ := Classical.axiomOfChoice key
  have hrow : M.rowC (M.row8 z) n = M.rowC f n := by
    clear ho
    have : ∀ k, k ≤ n → M.rowC (M.row8 z) k = M.rowC f k := by
      intro k hk
      induction k with
      | zero => rfl
      | succ k ih =>
        rw [M.rowC, M.rowC, ih (by omega), (hz k (by omega)).2]
        rfl
    exact this n (Nat.le_refl _)
  rcases ho with ⟨rfl, rfl⟩ | ⟨b, off, cap, rfl, q1, q2, q3, q4, q5⟩
  · exact .inl rfl
  · exact .inr ⟨z, n, b, off, cap, rfl, fun i hi => (hz i hi).1, q1, q2, q3, by rw [hrow]; exact q5⟩

namespace M
set_option maxRecDepth 100000 in
theorem num_reads_calls {W : World} {v : Value} (ho : OpenB W v) : Calls Try.prog 29 #[v] W fun e w' => Below W.heap.size W w' ∧ e = .returned (.bool true) := by
  rcases ho with rfl | ⟨z, n, b, off, cap, rfl, hz, h1, h2, h3, h4⟩
  · have h := calls_of (w0 := base W ρ0) (ctx_ok tR_ok 49) Try.func29 (c := bodyOf Try.f29) rfl rfl (args := [.one [.nil]]) (Nat.le_of_ble_eq_true (by kernel_rfl)) (plain_in (base W ρ0) [[.nil]] (fun l hl a ha => by
      simp only [List.mem_singleton] at hl
      subst hl
      simp only [List.mem_singleton] at ha
      subst ha
      trivial)) nreads_nil
    refine h.mono ?_
    rintro e w' ⟨v, σ', ρ', a', rfl, rfl, hr, _⟩
    exact ⟨kept_below hr.below, rfl⟩
  · obtain ⟨ρ2, hρ⟩ : ∃ ρ2 : Env, ρ2 = ⟨fun _ => b, fun _ => off, fun _ => cap⟩ := ⟨_, rfl⟩
    have hin : InOK (base W ρ2) [.one [.sl 1000 1 0 n]] (nrH n z) := by
      refine in_reads ?_ ?_
      · intro q hq
        simp only [nrH, List.mem_cons, List.not_mem_nil, or_false] at hq
        subst hq
        refine ⟨rfl, trivial, row8_OK _ _, ?_, ?_, ?_, ?_, ?_⟩
        · show n ≤ ρ2.c 1000; rw [hρ]; exact h2
        · show ρ2.c 1000 ≤ maxLen; rw [hρ]; exact h3
        · show ¬ W.heap.size ≤ ρ2.b 1000; rw [hρ]; exact Nat.not_le.2 h1
        · show ρ2.b 1000 < W.heap.size; rw [hρ]; exact h1
        · intro j u hu
          show W.cell? ⟨ρ2.b 1000, ρ2.o 1000 + j, none⟩ = _
          rw [hρ]; exact h4 j u hu
      · intro s hs
        simp only [List.mem_cons, List.not_mem_nil, or_false] at hs
        subst hs
        exact one1 (.inr ⟨1000, _, rfl, rfl⟩)
    have h := calls_of (ctx_ok tR_ok 49) Try.func29 (c := bodyOf Try.f29) rfl rfl (Nat.le_of_ble_eq_true (by kernel_rfl)) hin (nreads_row hz)
    have ev : ([Sv.one [.sl 1000 1 0 n]].map (Sv.den (base W ρ2).ρ)).toArray = #[.slice (some ⟨b, off, none⟩) n cap] := by
      show #[(Av.sl 1000 1 0 n).val ρ2] = _
      rw [hρ]
      simp [Av.val]
    rw [ev] at h
    refine h.mono ?_
    rintro e w' ⟨v, σ', ρ', a', rfl, rfl, hr, _⟩
    exact ⟨kept_below hr.below, rfl⟩
end M

end Go.Proofs.Ytmjdmhelmgcanaa
