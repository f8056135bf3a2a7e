/- The laws CoinsOwn, lifted to their rows. -/
import Derived.Test.YtmjdmhelmgcanaaRows
import Derived.Test.YtmjdmhelmgcanaaXI
import Derived.Test.YtmjdmhelmgcanaaXG
import Derived.Test.YtmjdmhelmgcanaaXS
namespace Go.Proofs.Ytmjdmhelmgcanaa
open Go.ChangeShapes Go.WideShapes Go.ChangeAt Go.RowKit

theorem lawTypes14 : ∀ t ∈ [25, 25, 28], Try.prog.readableRec t = true ∧ t < Try.prog.types.size := by
  intro t ht
  simp only [List.mem_cons, List.not_mem_nil, or_false] at ht
  rcases ht with rfl | rfl | rfl
  all_goals exact ⟨by kernel_rfl, of_decide_eq_true (by kernel_rfl)⟩

set_option maxRecDepth 100000 in
theorem coinsOwn_lifted (os : Os) (started : os.Started) (H : Type) (enc : TypeId × Value → H) :
    ReturnsInHanded {} Try.checked os 14 .any (Rows.coinsOwnSpec.pre6 enc Try.prog Try.f14 Rows.coinsOwnRow.domain false) (Rows.coinsOwnSpec.post enc Try.prog Try.f14 false true false false) := by
  refine returnsInHanded_of_change (C := Try.checked) lawOwn started (by kernel_rfl) Try.func14
    (ChangeSpec.witness6 (enc := enc) (C := Try.checked) false ⟨#[], #[.slice none 0 0, .slice none 0 0, .agg #[.int .u64 0, .int .u64 0, .int .u64 0, .int .u64 0]], []⟩ 8 (by kernel_rfl) (by kernel_rfl) (by kernel_rfl) (by kernel_rfl)) ?_
  intro W base args ds gs before hval0 hW _ _
  have hval : ∀ (j : Nat) t v, Try.f14.params[j]? = some t → args[j]? = some v → Value.okWide Try.prog W .any base t v := hval0
  have hW' := hW
  obtain ⟨p, q, hA0, hV, rfl, hfz, hnd⟩ := hW
  have hA : DataW.TrodAll enc Try.prog W 0 (fun _ => true) true Try.f14.params.toList args.toList ds p := hA0
  rw [Try.params14] at hA hval
  have hAll := hA
  obtain ⟨v0, vs0, d0, ds0, p0, q0, hargs, rfl, rfl, h0, r0⟩ := trodAll_cons hA
  obtain ⟨v1, vs1, d1, ds1, p1, q1, rfl, rfl, rfl, h1, r1⟩ := trodAll_cons r0
  obtain ⟨v2, vs2, d2, ds2, p2, q2, rfl, rfl, rfl, h2, r2⟩ := trodAll_cons r1
  obtain ⟨rfl, rfl, rfl⟩ := trodAll_nil r2
  obtain rfl : args = #[v0, v1, v2] := by cases args; simp_all
  obtain ⟨rfl, rfl⟩ := trodVars_none hV
  obtain ⟨l0, b0⟩ := open_coins Try.underlying25 (by kernel_rfl) Try.underlying84 rfl rfl rfl rfl (hval 0 25 v0 rfl rfl) h0
  obtain ⟨l1, b1⟩ := open_coins Try.underlying25 (by kernel_rfl) Try.underlying84 rfl rfl rfl rfl (hval 1 25 v1 rfl rfl) h1
  obtain ⟨x2, b2, rfl⟩ := open_num (hval 2 28 v2 rfl rfl) h2
  clear hA0 hval0
  have hc := M.own_calls b0 b1 b2
  refine hc.mono fun e W' ⟨bel, he⟩ => ?_
  subst he
  exact ⟨_, rfl, _, _, _, [], _, [], hW', trodAll_mk1 (shut_bool Try.underlying4 _), trodAll_below bel lawTypes14 hAll, rfl, bel.frame _, fun h => by cases h⟩

theorem joined14 : joinedFacts Try.prog 14 Try.f14 Rows.coinsOwnSpec Rows.coinsOwnRow = true := by
  unfold joinedFacts
  rw [head_enters, head_finals, head_make]
  kernel_rfl

theorem coinsOwn_proved : Rows.CoinsOwnSaid :=
  OpenClaim.holds_of_wide 14 Try.f14 rfl rfl rfl rfl rfl rfl rfl ⟨rfl, rfl, rfl, rfl, rfl⟩ rfl rfl rfl rfl rfl (by kernel_rfl) Try.func14 joined14
    (of_decide_eq_true (by kernel_rfl)) (by unfold Func.isWrapper; first | (rw [if_pos (by decide +kernel)]; kernel_rfl) | (rw [if_neg (by decide +kernel)]; exact ⟨rfl, rfl⟩))
    (fun os started H enc _ => coinsOwn_lifted os started H enc)

end Go.Proofs.Ytmjdmhelmgcanaa
