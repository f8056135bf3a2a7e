/- Joined out of smaller texts: Lft. -/
import Derived.Test.YtmjdmhelmgcanaaDoorRows
import Derived.Test.YtmjdmhelmgcanaaDoorJH
import Derived.ProofKit
import Derived.OpenShut
import Derived.ChangeOld
import Derived.ChangeMaps5
import Derived.LaidMore
import Derived.Stop.Joined
import Derived.Laws.IdiomArrays
import Derived.SevenTiedAt
/- The lift: arguments opened, and shut as they were; the listed tables. -/
namespace Go.Proofs.YtmjdmhelmgcanaaDoor
open Go.ChangeShapes Go.WideShapes Go.ChangeAt Go.RowKit

theorem lawOwn : ownKnob Tryd.prog.godebug = none := by kernel_rfl
theorem lawLaid : laidOutB Tryd.prog = true := by kernel_rfl

/-- a word's bounds -/
theorem wf_nat {n : Int} (h : (Lit.int .u64 n).wf = true) : ∃ k : Nat, k < 18446744073709551616 ∧ n = (k : Nat) := by
  simp only [Lit.wf, Bool.and_eq_true, decide_eq_true_eq] at h
  have h1 : IntKind.u64.min = 0 := rfl
  have h2 : IntKind.u64.max = 18446744073709551615 := rfl
  refine ⟨n.toNat, ?_, ?_⟩ <;> omega

/-- four cells of a number, read -/
theorem num_cells {H : Type} {enc : TypeId × Value → H} {W : World} {base : Nat} {spare : Nat → Bool} {held : Bool} {fuel : Nat} {c0 c1 c2 c3 : Value} {x : DataW H × List MemPlace}
    (h : DataW.trod enc Tryd.prog W base spare held fuel 24 [c0, c1, c2, c3] = some x) : ∃ n, n < TOP ∧ Value.agg #[c0, c1, c2, c3] = V n := by
  obtain ⟨y0, y1, y2, y3, n, -, h0, h1, h2, h3⟩ := trod_array4 Tryd.underlying24 (by kernel_rfl) h
  obtain ⟨n0, e0, -, w0⟩ := DataW.trod_int Tryd.underlying22 h0
  obtain ⟨n1, e1, -, w1⟩ := DataW.trod_int Tryd.underlying22 h1
  obtain ⟨n2, e2, -, w2⟩ := DataW.trod_int Tryd.underlying22 h2
  obtain ⟨n3, e3, -, w3⟩ := DataW.trod_int Tryd.underlying22 h3
  obtain ⟨k0, b0, rfl⟩ := wf_nat w0
  obtain ⟨k1, b1, rfl⟩ := wf_nat w1
  obtain ⟨k2, b2, rfl⟩ := wf_nat w2
  obtain ⟨k3, b3, rfl⟩ := wf_nat w3
  simp only [List.cons.injEq, and_true] at e0 e1 e2 e3
  subst e0 e1 e2 e3
  exact ⟨_, mk4_lt b0 b1 b2 b3, (V_mk4 b0 b1 b2 b3).symm⟩

set_option maxRecDepth 100000 in
theorem open_num {H : Type} {enc : TypeId × Value → H} {W : World} {base : Nat} {spare : Nat → Bool} {held : Bool} {r : Reach} {b0 : Nat} {v : Value} {d : DataW H} {ps : List MemPlace}
    (hval : Value.okWide Tryd.prog W r b0 24 v) (hd : DataW.Trod enc Tryd.prog W base spare held 24 v d ps) : ∃ n, n < TOP ∧ v = V n := by
  simp only [Value.okWide, Tryd.underlying24] at hval
  obtain ⟨cs, rfl, hs, -⟩ := hval
  have hs4 : cs.size = 4 := hs.trans (by kernel_rfl)
  obtain ⟨c0, c1, c2, c3, rfl⟩ : ∃ c0 c1 c2 c3, cs = #[c0, c1, c2, c3] := by
    obtain ⟨l⟩ := cs
    match l, hs4 with
    | [c0, c1, c2, c3], _ => exact ⟨c0, c1, c2, c3, rfl⟩
  obtain ⟨fuel, hf⟩ := hd
  exact num_cells hf

/-- what was read reads as it did -/
theorem trodAll_below {H : Type} {enc : TypeId × Value → H} {W W' : World} (hb : Below W.heap.size W W') :
    ∀ {ts : List TypeId} {vs : List Value} {ds : List (DataW H)} {ps : List MemPlace}, (∀ t ∈ ts, Tryd.prog.readableRec t = true ∧ t < Tryd.prog.types.size) →
      DataW.TrodAll enc Tryd.prog W 0 (fun _ => true) true ts vs ds ps → DataW.TrodAll enc Tryd.prog W' 0 (fun b => decide (b < W.heap.size)) true ts vs ds ps
  | [], _, _, _, _, h => by
    obtain ⟨rfl, rfl, rfl⟩ := trodAll_nil h
    exact trodAll_mk0
  | t :: ts, _, _, _, ht, h => by
    obtain ⟨v, vs, d, ds, p, q, rfl, rfl, rfl, h0, r⟩ := trodAll_cons h
    have hlt : ∀ x ∈ p, x.block < W.heap.size := by obtain ⟨m, hm⟩ := h0; exact DataW.trod_lt m _ _ _ hm
    exact trodAll_cons_mk (Below.trod lawLaid (ht t (by simp)).1 (ht t (by simp)).2 h0 hb hlt) (trodAll_below hb (fun u hu => ht u (by simp [hu])) r)

theorem lawType {t : TypeId} (h1 : Tryd.prog.readableRec t = true) (h2 : t < Tryd.prog.types.size) : ∀ u ∈ [t], Tryd.prog.readableRec u = true ∧ u < Tryd.prog.types.size := by
  intro u hu
  simp only [List.mem_singleton] at hu
  subst hu
  exact ⟨h1, h2⟩

/-! ## The listed tables -/

def lawTabs : List (String × DataW Unit) := [("math/bits.deBruijn32tab", Rows.laid_math_bits_deBruijn32tab), ("math/bits.deBruijn64tab", Rows.laid_math_bits_deBruijn64tab), ("internal/strconv.uint64pow10", Rows.laid_internal_strconv_uint64pow10)]

theorem tab_eq : (Rows.laid_internal_strconv_uint64pow10 : DataW Unit) = Lib.tabData .u64 Lib.pow10Tab := by kernel_rfl

theorem pows_of {W : World} (h : laidMetH Tryd.prog lawTabs W) : Pows W := by
  rw [MakeChecks.laidMetH_plain _ _ _ (by kernel_rfl)] at h
  obtain ⟨ps, ⟨_, _, _, _, _, _, _, _, _, _, ⟨_, _, _, _, _, _, _, _, _, _, ⟨g, t, cs, fuel, p, q, hg, ht, hv, hd, _, _⟩, _⟩, _⟩, _, _⟩ := h
  obtain rfl := Option.some.inj ((show (Tryd.prog.globals[2]?).map (·.type) = some 94 by kernel_rfl).symm.trans (by
    obtain rfl := Option.some.inj ((show Tryd.prog.globalNamed "internal/strconv.uint64pow10" = some 2 by kernel_rfl).symm.trans hg)
    exact ht))
  rw [tab_eq] at hd
  unfold Pows Lib.TabIs
  rw [hv, ← Lib.cells_of_tab Tryd.underlying94 Tryd.underlying22 (by kernel_rfl) (by kernel_rfl) hd]

theorem door_met (os : Os) (args : Array Value) : laidMetH Tryd.prog lawTabs ((World.doorLaid Tryd.prog 400 os).forCall (fun _ _ => 0) ⟨#[], args, []⟩).memory :=
  laidMetH_of_parts3 (fuel := 8) (laidMet_of_run' 8 (by kernel_rfl) (by kernel_rfl)) (by kernel_rfl) (by kernel_rfl)

end Go.Proofs.YtmjdmhelmgcanaaDoor
