/- The laws NumReads, lifted to their rows. -/
import Derived.Test.YtmjdmhelmgcanaaRows
import Derived.Test.YtmjdmhelmgcanaaQN
import Derived.Test.YtmjdmhelmgcanaaQG
namespace Go.Proofs.Ytmjdmhelmgcanaa
open Go.ChangeShapes Go.WideShapes Go.ChangeAt Go.RowKit

theorem lawTypes29 : ∀ t ∈ [74], Try.prog.readableRec t = true ∧ t < Try.prog.types.size := by
  intro t ht
  simp only [List.mem_cons, List.not_mem_nil, or_false] at ht
  subst ht
  all_goals exact ⟨by kernel_rfl, of_decide_eq_true (by kernel_rfl)⟩

set_option maxRecDepth 100000 in
theorem numReads_lifted (os : Os) (started : os.Started) (H : Type) (enc : TypeId × Value → H) :
    ReturnsInHanded {} Try.checked os 29 .any (Rows.numReadsSpec.pre6 enc Try.prog Try.f29 Rows.numReadsRow.domain false) (Rows.numReadsSpec.post enc Try.prog Try.f29 false true false false) := by
  refine returnsInHanded_of_change (C := Try.checked) lawOwn started (by kernel_rfl) Try.func29
    (ChangeSpec.witness6 (enc := enc) (C := Try.checked) false ⟨#[], #[.slice none 0 0], []⟩ 8 (by kernel_rfl) (by kernel_rfl) (by kernel_rfl) (by kernel_rfl)) ?_
  intro W base args ds gs before hval0 hW _ _
  have hval : ∀ (j : Nat) t v, Try.f29.params[j]? = some t → args[j]? = some v → Value.okWide Try.prog W .any base t v := hval0
  have hW' := hW
  obtain ⟨p, q, hA0, hV, rfl, hfz, hnd⟩ := hW
  have hA : DataW.TrodAll enc Try.prog W 0 (fun _ => true) true Try.f29.params.toList args.toList ds p := hA0
  rw [Try.params29] at hA hval
  have hAll := hA
  obtain ⟨v0, vs0, d0, ds0, p0, q0, hargs, rfl, rfl, h0, r0⟩ := trodAll_cons hA
  obtain ⟨rfl, rfl, rfl⟩ := trodAll_nil r0
  obtain rfl : args = #[v0] := by cases args; simp_all
  obtain ⟨rfl, rfl⟩ := trodVars_none hV
  have b0 := open_bytes (hval 0 74 v0 rfl rfl) h0
  clear hA0 hval0
  have hc := M.num_reads_calls b0
  refine hc.mono fun e W' ⟨bel, he⟩ => ?_
  subst he
  exact ⟨_, rfl, _, _, _, [], _, [], hW', trodAll_mk1 (shut_bool Try.underlying4 _), trodAll_below bel lawTypes29 hAll, rfl, bel.frame _, fun h => by cases h⟩

theorem joined29 : joinedFacts Try.prog 29 Try.f29 Rows.numReadsSpec Rows.numReadsRow = true := by
  unfold joinedFacts
  rw [head_enters, head_finals, head_make]
  kernel_rfl

theorem numReads_proved : Rows.NumReadsSaid :=
  OpenClaim.holds_of_wide 29 Try.f29 rfl rfl rfl rfl rfl rfl rfl ⟨rfl, rfl, rfl, rfl, rfl⟩ rfl rfl rfl rfl rfl (by kernel_rfl) Try.func29 joined29
    (of_decide_eq_true (by kernel_rfl)) (by unfold Func.isWrapper; first | (rw [if_pos (by decide +kernel)]; kernel_rfl) | (rw [if_neg (by decide +kernel)]; exact ⟨rfl, rfl⟩))
    (fun os started H enc _ => numReads_lifted os started H enc)

end Go.Proofs.Ytmjdmhelmgcanaa
