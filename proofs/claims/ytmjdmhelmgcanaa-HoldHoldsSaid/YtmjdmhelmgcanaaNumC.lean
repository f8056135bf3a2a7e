/- num.Cmp in natural numbers. -/
import Derived.Test.YtmjdmhelmgcanaaNumB
namespace Go.Proofs.Ytmjdmhelmgcanaa
open Go.RowKit Go.Shelf

def cmpN (x y : Nat) : Int := if x < y then -1 else if y < x then 1 else 0

theorem cmpI_nat (a b : Nat) : cmpI (a : Int) (b : Int) = cmpN a b := by
  unfold cmpI cmpN
  simp only [Int.ofNat_lt]

theorem cmpN_lt {a b : Nat} (h : a < b) : cmpN a b = -1 := by simp [cmpN, h]
theorem cmpN_gt {a b : Nat} (h : b < a) : cmpN a b = 1 := by have : ¬ a < b := by omega
                                                             simp [cmpN, h, this]
theorem cmpN_eq (a : Nat) : cmpN a a = 0 := by simp [cmpN]

theorem cmp_calls (x y : Nat) (hx : x < TOP) (hy : y < TOP) (w : World) :
    Calls Try.prog 71 #[V x, V y] w fun e w' => Below w.heap.size w w' ∧ e = .returned (.int .i64 (cmpN x y)) := by
  obtain ⟨a0, a1, a2, a3, hv, ha0, ha1, ha2, ha3, hxe⟩ := V_open hx
  obtain ⟨b0, b1, b2, b3, hu, hb0, hb1, hb2, hb3, hye⟩ := V_open hy
  have hc : cmp4 (fun k => match k with | 0 => (a3 : Int) | 1 => a2 | 2 => a1 | _ => a0) (fun k => match k with | 0 => (b3 : Int) | 1 => b2 | 2 => b1 | _ => b0) 4 = cmpN x y := by
    simp only [cmp4, cmpI_nat, if_true]
    rw [hxe, hye]
    unfold mk4
    rcases Nat.lt_trichotomy a3 b3 with h3 | h3 | h3
    · rw [cmpN_lt h3]; simp; rw [cmpN_lt (by omega)]
    · subst h3
      rw [cmpN_eq]
      simp only [if_true]
      rcases Nat.lt_trichotomy a2 b2 with h2 | h2 | h2
      · rw [cmpN_lt h2]; simp; rw [cmpN_lt (by omega)]
      · subst h2
        rw [cmpN_eq]
        simp only [if_true]
        rcases Nat.lt_trichotomy a1 b1 with h1 | h1 | h1
        · rw [cmpN_lt h1]; simp; rw [cmpN_lt (by omega)]
        · subst h1
          rw [cmpN_eq]
          simp only [if_true]
          rcases Nat.lt_trichotomy a0 b0 with h0 | h0 | h0
          · rw [cmpN_lt h0, cmpN_lt (by omega)]
          · subst h0
            rw [cmpN_eq, cmpN_eq]
          · rw [cmpN_gt h0, cmpN_gt (by omega)]
        · rw [cmpN_gt h1]; simp; rw [cmpN_gt (by omega)]
      · rw [cmpN_gt h2]; simp; rw [cmpN_gt (by omega)]
    · rw [cmpN_gt h3]; simp; rw [cmpN_gt (by omega)]
  rw [hv, hu]
  have := (callsIn_wide (n := 9)).1 (cmp_in _ 9 trivial trivial trivial trivial trivial rfl (by omega) (fun k => match k with | 0 => (a3 : Int) | 1 => a2 | 2 => a1 | _ => a0) (fun k => match k with | 0 => (b3 : Int) | 1 => b2 | 2 => b1 | _ => b0) w)
  rw [hc] at this
  exact this.mono fun e w' h => ⟨h.2, h.1⟩

end Go.Proofs.Ytmjdmhelmgcanaa
