/- The lift: arguments opened, and shut as they were. -/
import Derived.Test.YtmjdmhelmgcanaaConA
import Derived.ProofKit
import Derived.OpenShut
import Derived.ChangeOld
import Derived.Below
import Derived.Laws.IdiomArrays
namespace Go.Proofs.Ytmjdmhelmgcanaa
open Go.ChangeShapes Go.WideShapes Go.ChangeAt Go.RowKit

theorem lawOwn : ownKnob Try.prog.godebug = none := by kernel_rfl
theorem lawLaid : laidOutB Try.prog = true := by kernel_rfl

/-- a word's bounds -/
theorem wf_nat {n : Int} (h : (Lit.int .u64 n).wf = true) : ∃ k : Nat, k < 18446744073709551616 ∧ n = (k : Nat) := by
  simp only [Lit.wf, Bool.and_eq_true, decide_eq_true_eq] at h
  have h1 : IntKind.u64.min = 0 := rfl
  have h2 : IntKind.u64.max = 18446744073709551615 := rfl
  refine ⟨n.toNat, ?_, ?_⟩ <;> omega

theorem limbs_mk4 {a b c d : Nat} (ha : a < 18446744073709551616) (hb : b < 18446744073709551616) (hc : c < 18446744073709551616) (hd : d < 18446744073709551616) :
    limbs (mk4 a b c d) 4 = [.int .u64 a, .int .u64 b, .int .u64 c, .int .u64 d] := by
  have h := V_mk4 ha hb hc hd
  simp only [V, V4, Value.agg.injEq, Array.mk.injEq, List.cons.injEq, Value.int.injEq, true_and, and_true] at h
  simp [limbs, h]

/-- four cells of a number, read -/
theorem num_cells {H : Type} {enc : TypeId × Value → H} {W : World} {base : Nat} {spare : Nat → Bool} {held : Bool} {fuel : Nat} {c0 c1 c2 c3 : Value} {x : DataW H × List MemPlace}
    (h : DataW.trod enc Try.prog W base spare held fuel 28 [c0, c1, c2, c3] = some x) : ∃ n, n < TOP ∧ [c0, c1, c2, c3] = limbs n 4 := by
  obtain ⟨y0, y1, y2, y3, n, -, h0, h1, h2, h3⟩ := trod_array4 Try.underlying28 (by kernel_rfl) h
  obtain ⟨n0, e0, -, w0⟩ := DataW.trod_int Try.underlying26 h0
  obtain ⟨n1, e1, -, w1⟩ := DataW.trod_int Try.underlying26 h1
  obtain ⟨n2, e2, -, w2⟩ := DataW.trod_int Try.underlying26 h2
  obtain ⟨n3, e3, -, w3⟩ := DataW.trod_int Try.underlying26 h3
  obtain ⟨k0, b0, rfl⟩ := wf_nat w0
  obtain ⟨k1, b1, rfl⟩ := wf_nat w1
  obtain ⟨k2, b2, rfl⟩ := wf_nat w2
  obtain ⟨k3, b3, rfl⟩ := wf_nat w3
  simp only [List.cons.injEq, and_true] at e0 e1 e2 e3
  subst e0 e1 e2 e3
  exact ⟨_, mk4_lt b0 b1 b2 b3, (limbs_mk4 b0 b1 b2 b3).symm⟩

set_option maxRecDepth 100000 in
theorem open_num {H : Type} {enc : TypeId × Value → H} {W : World} {base : Nat} {spare : Nat → Bool} {held : Bool} {r : Reach} {b0 : Nat} {v : Value} {d : DataW H} {ps : List MemPlace}
    (hval : Value.okWide Try.prog W r b0 28 v) (hd : DataW.Trod enc Try.prog W base spare held 28 v d ps) : ∃ n, n < TOP ∧ v = V n := by
  simp only [Value.okWide, Try.underlying28] at hval
  obtain ⟨cs, rfl, hs, -⟩ := hval
  have hs4 : cs.size = 4 := hs.trans (by kernel_rfl)
  obtain ⟨c0, c1, c2, c3, rfl⟩ : ∃ c0 c1 c2 c3, cs = #[c0, c1, c2, c3] := by
    obtain ⟨l⟩ := cs
    match l, hs4 with
    | [c0, c1, c2, c3], _ => exact ⟨c0, c1, c2, c3, rfl⟩
  obtain ⟨fuel, hf⟩ := hd
  obtain ⟨n, hn, e⟩ := num_cells hf
  refine ⟨n, hn, ?_⟩
  rw [← den_num ⟨fun _ => 0, fun _ => undef⟩ n]
  simp only [SV.den, denL]
  rw [← e]

/-- a Hold as a value -/
def HV (a b : Nat) : Value := .agg (limbs a 4 ++ limbs b 4).toArray
theorem HV_den (a b : Nat) (ρ : Env) : (SV.one [At.big 4 a, At.big 4 b] : SV Kd).den ρ = HV a b := by
  simp [SV.den, denL, cellsL, At.cells, HV]

set_option maxRecDepth 100000 in
theorem open_hold {H : Type} {enc : TypeId × Value → H} {W : World} {base : Nat} {spare : Nat → Bool} {held : Bool} {r : Reach} {b0 : Nat} {v : Value} {d : DataW H} {ps : List MemPlace}
    (hval : Value.okWide Try.prog W r b0 41 v) (hd : DataW.Trod enc Try.prog W base spare held 41 v d ps) : ∃ a b, a < TOP ∧ b < TOP ∧ v = HV a b := by
  obtain ⟨cs, rfl, hs⟩ := okWide_struct Try.underlying41 hval
  have hs8 : cs.size = 8 := hs.trans (by kernel_rfl)
  obtain ⟨c0, c1, c2, c3, c4, c5, c6, c7, rfl⟩ : ∃ c0 c1 c2 c3 c4 c5 c6 c7, cs = #[c0, c1, c2, c3, c4, c5, c6, c7] := by
    obtain ⟨l⟩ := cs
    match l, hs8 with
    | [c0, c1, c2, c3, c4, c5, c6, c7], _ => exact ⟨c0, c1, c2, c3, c4, c5, c6, c7, rfl⟩
  obtain ⟨fuel, hf⟩ := hd
  obtain ⟨y0, y1, n, -, -, h0, h1⟩ := trod_struct2 Try.underlying41 hf
  have e4 : Try.prog.cellsOf 28 = 4 := by kernel_rfl
  simp only [e4] at h0 h1
  obtain ⟨a, ha, ea⟩ := num_cells h0
  obtain ⟨b, hb, eb⟩ := num_cells h1
  exact ⟨a, b, ha, hb, by simp only [HV, ← ea, ← eb]; rfl⟩

/-- what was read reads as it did -/
theorem trodAll_below {H : Type} {enc : TypeId × Value → H} {W W' : World} (hb : Below W.heap.size W W') :
    ∀ {ts : List TypeId} {vs : List Value} {ds : List (DataW H)} {ps : List MemPlace}, (∀ t ∈ ts, Try.prog.readableRec t = true ∧ t < Try.prog.types.size) →
      DataW.TrodAll enc Try.prog W 0 (fun _ => true) true ts vs ds ps → DataW.TrodAll enc Try.prog W' 0 (fun b => decide (b < W.heap.size)) true ts vs ds ps
  | [], _, _, _, _, h => by
    obtain ⟨rfl, rfl, rfl⟩ := trodAll_nil h
    exact trodAll_mk0
  | t :: ts, _, _, _, ht, h => by
    obtain ⟨v, vs, d, ds, p, q, rfl, rfl, rfl, h0, r⟩ := trodAll_cons h
    have hlt : ∀ x ∈ p, x.block < W.heap.size := by obtain ⟨m, hm⟩ := h0; exact DataW.trod_lt m _ _ _ hm
    exact trodAll_cons_mk (Below.trod lawLaid (ht t (by simp)).1 (ht t (by simp)).2 h0 hb hlt) (trodAll_below hb (fun u hu => ht u (by simp [hu])) r)

end Go.Proofs.Ytmjdmhelmgcanaa
