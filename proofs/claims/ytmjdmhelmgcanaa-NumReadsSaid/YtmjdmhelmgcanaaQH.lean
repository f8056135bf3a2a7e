/- Joined out of smaller texts: Shf, By, ByB, TimesB, Low, Tb, MD. -/
import Derived.Test.YtmjdmhelmgcanaaQG
/- num.shift: one bit to the left, in place: by the machine. -/
namespace Go.Proofs.Ytmjdmhelmgcanaa
namespace M
open Go.RowKit

def shS (n i : Nat) : List (Nat × Sv) := [(0, .one [.ptr 1000 0]), (1, .one [.int .u64 (n : Nat)]), (7, .one [.ptr 1000 0]), (8, .one [.int .i64 (i : Nat)])]
def shH (x : Nat) : List (Nat × Bk) := [(1000, .var [.big 4 x] 28)]
def shA (n : Nat) : List (Nat × Sv) := argS 0 [.one [.ptr 1000 0], .one [.int .u64 (n : Nat)]]

/-- one word -/
def shV (x n i : Nat) : Nat := orN (lm x i * 2 % 18446744073709551616) n

theorem shV_eq (x : Nat) {n i : Nat} (hn : n < 2) : shV x n i + 18446744073709551616 * (lm x i / 9223372036854775808) = 2 * lm x i + n ∧ shV x n i < 18446744073709551616 := by
  have hl := lm_lt x i
  have e : shV x n i = lm x i * 2 % 18446744073709551616 + n := by
    unfold shV orN
    have e1 : lm x i * 2 % 18446744073709551616 = 2 ^ 1 * (lm x i % 9223372036854775808) := by omega
    rw [e1, Nat.two_pow_add_eq_or_of_lt (by omega)]
  rw [e]
  omega

/-- what holds at a round's head: the number, the bit that comes, the round -/
def shI (x0 n0 : Nat) (p : Nat × Nat × Nat) : Prop := p.1 < TOP ∧ p.2.1 < 2 ∧ p.2.2 ≤ 4 ∧ (∀ j, p.2.2 ≤ j → j < 4 → lm p.1 j = lm x0 j) ∧ p.1 + p.2.1 * 18446744073709551616 ^ p.2.2 = x0 + x0 % 18446744073709551616 ^ p.2.2 + n0

theorem shI_step {x0 n0 x n i : Nat} (h : shI x0 n0 (x, n, i)) (hi : i < 4) : shI x0 n0 (stw 4 x i (shV x n i), lm x i / 9223372036854775808, i + 1) := by
  obtain ⟨h1, h2, h3, h4, h5⟩ := h
  simp only at h1 h2 h3 h4 h5
  obtain ⟨e1, e2⟩ := shV_eq x (i := i) h2
  have hl := lm_lt x i
  have e3 := stw_add (v := shV x n i) (n := 4) (by rw [pow64_4]; exact h1) hi
  refine ⟨by rw [← pow64_4]; exact stw_lt e2, by show lm x i / 9223372036854775808 < 2; omega, by show i + 1 ≤ 4; omega, fun j hj hj4 => ?_, ?_⟩
  · have hj' : i + 1 ≤ j := hj
    show lm (stw 4 x i (shV x n i)) j = lm x0 j
    rw [lm_stw e2 hj4, upd_ne _ _ (by omega : j ≠ i)]
    exact h4 j (by omega) hj4
  · show stw 4 x i (shV x n i) + lm x i / 9223372036854775808 * 18446744073709551616 ^ (i + 1) = x0 + x0 % 18446744073709551616 ^ (i + 1) + n0
    have ha := h4 i (Nat.le_refl _) hi
    have e4 : x0 % 18446744073709551616 ^ (i + 1) = x0 % 18446744073709551616 ^ i + 18446744073709551616 ^ i * lm x i := by rw [Nat.pow_succ, Nat.mod_mul, ha]; rfl
    rw [e4, Nat.pow_succ]
    generalize 18446744073709551616 ^ i = W at *
    generalize lm x i / 9223372036854775808 = q at *
    have e5 : (shV x n i + 18446744073709551616 * q) * W = (2 * lm x i + n) * W := by rw [e1]
    rw [Nat.add_mul, Nat.add_mul, Nat.mul_assoc 2, Nat.mul_assoc] at e5
    have e6 : q * (W * 18446744073709551616) = 18446744073709551616 * (q * W) := by ac_rfl
    have e7 : W * lm x i = lm x i * W := Nat.mul_comm _ _
    rw [e6, e7]
    omega

theorem shift_goes {w0 : Base} (x n : Nat) (hx : x < TOP) (hn : n < 2) : Goes Try.prog Try.f115.ntmps w0 [.code (bodyOf Try.f115)] .norm (kn (shA n) (shH x))
    (Fin (ctx tabA 26) Try.f115.results.toList fun v σ => v = .one [.int .u64 (((2 * x + n) / TOP : Nat) : Int)] ∧ σ.heap 1000 = some (.var [.big 4 ((2 * x + n) % TOP)] 28)) := by
  refine (goes (ctx_ok tabA_ok 26) mixed rfl (gs := [8]) (gh := []) (orc := way []) (stops := [0]) (f := 3000) (k := [.code (bodyOf Try.f115)]) (o := .norm) (σ := (kn (shA n) (shH x))) (cs := [True, True, True]) (k' := (kOf 0 (bodyOf Try.f115))) (o' := .norm) (S := (shS n 0)) (H := (shH x)) (by kernel_rfl) (by kernel_rfl) (by simp [conj])).bind ?_
  rintro k o σ ⟨rfl, rfl, rfl⟩
  have hk : kOf 0 (bodyOf Try.f115) = .code (.block 0 (.loop (roundOf 0 (bodyOf Try.f115)))) :: restOf 0 (bodyOf Try.f115) := by kernel_rfl
  rw [hk]
  refine (goes_loop (fun p : Nat × Nat × Nat => kn (shS p.2.1 p.2.2) (shH p.1)) (shI x n) (fun p => 4 - p.2.2) (fun o σ => o = .norm ∧ ∃ y m, shI x n (y, m, 4) ∧ σ = kn (shS m 4) (shH y)) ?_ (p := (x, n, 0)) ⟨hx, hn, by simp, fun j _ _ => rfl, by simp [Nat.mod_one]⟩).bind ?_
  · rintro ⟨y, m, i⟩ hI
    have hI' := hI
    obtain ⟨h1, h2, h3, h4, h5⟩ := hI'
    simp only at h1 h2 h3 h4 h5 ⊢
    have hl := lm_lt y i
    have hv := (shV_eq y (i := i) h2).2
    have hv' : IntKind.wrap IntKind.u64 ((lm y i * 2 : Nat) : Int) = ((lm y i * 2 % 18446744073709551616 : Nat) : Int) := by kernel_rfl
    rcases Nat.lt_or_eq_of_le h3 with hi | hi
    · refine (goes (ctx_ok tabA_ok 26) mixed rfl (gs := []) (gh := []) (orc := way [(17, 1)]) (stops := []) (f := 3000) (k := [.code (roundOf 0 (bodyOf Try.f115))]) (o := .norm) (σ := (kn (shS m i) (shH y))) (cs := [(↑i : Int) < (4 : Int), True, True, (0 : Int) ≤ (↑i : Int) ∧ (↑i : Int) < (↑(4 : Nat) : Int), i < (4 : Nat), True, True, True, True, True, (0 : Int) ≤ (↑(lm y i) : Int) ∧ (0 : Int) ≤ (1 : Int) ∧ (1 : Int) < (64 : Int), True, ((0 : Int) ≤ IntKind.wrap IntKind.u64 (↑(lm y i * (2 : Nat) ^ 1) : Int) ∧ IntKind.wrap IntKind.u64 (↑(lm y i * (2 : Nat) ^ 1) : Int) < (18446744073709551616 : Int)) ∧ (0 : Int) ≤ (↑m : Int) ∧ (↑m : Int) < (18446744073709551616 : Int), True, (0 : Int) ≤ (↑(lm y i) : Int) ∧ (0 : Int) ≤ (63 : Int) ∧ (63 : Int) < (64 : Int), True, (0 : Int) ≤ (↑i : Int) ∧ (↑i : Int) < (↑(4 : Nat) : Int), i < (4 : Nat) ∧ (0 : Int) ≤ (↑(orN (lm y i * (2 : Nat) ^ 1 % 18446744073709551616) m) : Int) ∧ (↑(orN (lm y i * (2 : Nat) ^ 1 % 18446744073709551616) m) : Int) < (18446744073709551616 : Int), True, (-9223372036854775808 : Int) ≤ (↑i : Int) + (1 : Int) ∧ (↑i : Int) + (1 : Int) < (9223372036854775808 : Int), True]) (k' := []) (o' := .norm) (S := (shS (lm y i / 9223372036854775808) (i + 1))) (H := (shH (stw 4 y i (shV y m i)))) (by kernel_rfl) (by kernel_rfl) ?_).mono ?_
      · simp only [conj, and_true, true_and, Nat.reducePow, hv']
        unfold shV at hv
        omega
      · rintro k o σ ⟨rfl, rfl, rfl⟩
        exact ⟨rfl, .inl ⟨rfl, _, shI_step hI hi, by show 4 - (i + 1) < 4 - i; omega, rfl⟩⟩
    · subst hi
      refine (goes (ctx_ok tabA_ok 26) mixed rfl (gs := []) (gh := []) (orc := way [(9, 1)]) (stops := []) (f := 3000) (k := [.code (roundOf 0 (bodyOf Try.f115))]) (o := .norm) (σ := (kn (shS m 4) (shH y))) (cs := [¬(↑(4 : Nat) : Int) < (4 : Int)]) (k' := []) (o' := (.exit 0)) (S := (shS m 4)) (H := (shH y)) (by kernel_rfl) (by kernel_rfl) (by simp [conj])).mono ?_
      rintro k o σ ⟨rfl, rfl, rfl⟩
      exact ⟨rfl, .inr ⟨by simp, rfl, y, m, hI, rfl⟩⟩
  · rintro k o σ ⟨rfl, rfl, y, m, hI, rfl⟩
    obtain ⟨h1, h2, h3, h4, h5⟩ := hI
    simp only at h1 h2 h3 h4 h5
    have e : (18446744073709551616 : Nat) ^ 4 = TOP := rfl
    rw [e, Nat.mod_eq_of_lt hx] at h5
    have hq : m = (2 * x + n) / TOP ∧ y = (2 * x + n) % TOP := by
      have := (Nat.div_mod_unique (a := 2 * x + n) (b := TOP) (c := y) (d := m) top_pos).2 ⟨by rw [Nat.mul_comm]; omega, h1⟩
      exact ⟨this.1.symm, this.2.symm⟩
    rw [← hq.1, ← hq.2]
    refine goes_ret (ctx_ok tabA_ok 26) mixed rfl (orc := way []) (stops := []) (f := 3000) (k := (restOf 0 (bodyOf Try.f115))) (o := .norm) (σ := (kn (shS m 4) (shH y))) (cs := [True, True]) (o' := .ret) (rs := Try.f115.results.toList) (v := (.one [.int .u64 (m : Nat)])) (H := (shH y)) (by kernel_rfl) (.inr rfl) (by simp [conj]) fun σ hσ => ⟨rfl, hσ (1000, _) (List.mem_singleton.2 rfl)⟩

end M
end Go.Proofs.Ytmjdmhelmgcanaa

/- The long division, by the machine. -/
namespace Go.Proofs.Ytmjdmhelmgcanaa
namespace M
open Go.RowKit

def shiftC : Con
  | [[(.ptr id 0, some (.var [.big 4 x] 28))], [(.int .u64 n, none)]] =>
    some [⟨n = 0 ∨ n = 1, fun _ => .one [.int .u64 (((2 * x + n.toNat) / TOP : Nat) : Int)], fun _ => .put id (.var [.big 4 ((2 * x + n.toNat) % TOP)] 28)⟩]
  | _ => none
def eShift : Entry := ⟨115, 2, shiftC⟩
def tabB : List Entry := eShift :: tabA

theorem shift_e : EOK eShift := by
  constructor
  · intro args outs ho hargs i oc hi hc d
    have ho' : shiftC args = some outs := ho
    unfold shiftC at ho'
    split at ho'
    · rename_i id x n
      cases ho'
      have hi' := List.mem_of_getElem? hi
      simp only [List.mem_singleton] at hi'
      subst hi'
      refine ⟨(fun _ h => by cases h), (fun id' h => ?_), (fun id' k' h => ?_), one1 (.inl trivial)⟩
      · cases h
        exact ⟨_, ⟨_, List.mem_cons_self, _, List.mem_cons_self, rfl⟩, rfl⟩
      · cases h
        refine ⟨rfl, ?_, trivial⟩
        intro a ha
        simp only [List.mem_singleton] at ha
        subst ha
        show _ < pow64 4
        rw [pow64_4]
        exact Nat.mod_lt _ top_pos
    · cases ho'
  · intro args outs ho i oc hi hc ρ w B d hB hargs hd hinj
    have ho' : shiftC args = some outs := ho
    unfold shiftC at ho'
    split at ho'
    · rename_i id x n
      cases ho'
      have hi' := List.mem_of_getElem? hi
      simp only [List.mem_singleton] at hi'
      subst hi'
      refine ⟨Try.call115 _ _, ?_⟩
      obtain ⟨id', hid', ⟨hb1, hb2⟩, hloose⟩ := (hargs _ List.mem_cons_self _ List.mem_cons_self).2 _ rfl
      cases hid'
      have hx0 : x < pow64 4 := hloose (.big 4 x) List.mem_cons_self rfl
      have hx : x < TOP := by rw [← pow64_4]; exact hx0
      obtain ⟨m, rfl⟩ : ∃ m : Nat, n = (m : Int) := by rcases hc with h | h <;> exact ⟨n.toNat, by rw [h]; rfl⟩
      have hm : m < 2 := by rcases hc with h | h <;> omega
      let w0 : Base := ⟨w, fun b => b = ρ.b id ∨ w.heap.size ≤ b, ⟨fun _ => ρ.b id, ρ.o, ρ.c⟩, fun _ h => .inr h⟩
      have hin : InOK w0 [.one [.ptr 1000 0], .one [.int .u64 (m : Nat)]] (shH x) := by
        refine ⟨?_, fun id' k hk => ?_, fun id' k hk => ?_, fun i j ki kj hi hj => ?_⟩
        · simp only [List.mem_cons, List.not_mem_nil, or_false]
          rintro s (rfl | rfl)
          · exact one1 ⟨rfl, rfl⟩
          · exact one1 (AvOK.of_plain trivial)
        · have := lookH_mem hk
          simp only [shH, List.mem_singleton, Prod.mk.injEq] at this
          obtain ⟨rfl, rfl⟩ := this
          exact ⟨.inl rfl, hb2⟩
        · have := lookH_mem hk
          simp only [shH, List.mem_singleton, Prod.mk.injEq] at this
          obtain ⟨rfl, rfl⟩ := this
          intro a ha
          simp only [List.mem_singleton] at ha
          subst ha
          exact AvOK.of_plain hx0
        · have h1 := lookH_mem hi
          have h2 := lookH_mem hj
          simp only [shH, List.mem_singleton, Prod.mk.injEq] at h1 h2
          intro _ _ _
          rw [h1.1, h2.1]
      have hcalls := calls_of (w0 := w0) (ctx_ok tabA_ok 26) Try.func115 (c := bodyOf Try.f115) rfl rfl (Nat.le_of_ble_eq_true (by kernel_rfl)) hin (shift_goes x m hx hm)
      refine hcalls.mono ?_
      rintro e w' ⟨v, σ', ρ', a', ⟨rfl, hσ⟩, rfl, hr, _⟩
      refine ⟨ρ, ⟨hr.below.os, hr.below.tape, hr.below.output, hr.below.size, fun _ _ => ⟨rfl, rfl, rfl⟩, fun b hb hne => ?_, fun id' k' h => ?_, fun d' h => by cases h⟩, rfl⟩
      · exact hr.below.block b hb (fun h => by
          rcases h with h | h
          · exact hne id rfl h
          · exact absurd hb (Nat.not_lt.2 h))
      · cases h
        have h1 := hr.blocks 1000 _ hσ
        have h2 : ρ'.b 1000 = ρ.b id := (hr.names 1000 (Nat.le_refl _)).2.1
        have h3 := h1.2
        rw [h2] at h3
        exact ⟨hb1, h3⟩
    · cases ho'

end M
end Go.Proofs.Ytmjdmhelmgcanaa

/- num's product by a number: the long division. -/
namespace Go.Proofs.Ytmjdmhelmgcanaa
namespace M
open Go.RowKit

def byS (i : Int) : List (Nat × Sv) := [(2, .one [.ptr 2 0]), (3, .one [.ptr 3 0]), (4, .one [.ptr 4 0]), (5, .one [.ptr 5 0]), (6, .one [.ptr 6 0]), (7, .one [.ptr 7 0]), (8, .one [.int .i64 i])]
def byH (Z c Q R : Nat) : List (Nat × Bk) := [(2, .var [.big 8 Z] 99), (3, .var [.big 4 c] 28), (4, .var [.big 8 0] 99), (5, .var [.big 4 0] 28), (6, .var [.big 8 Q] 99), (7, .var [.big 4 R] 28)]
def byA (Z c : Nat) : List (Nat × Sv) := argS 0 [.one [.big 8 Z], .one [.big 4 c]]
/-- the bit that comes -/
def byBit (Z m : Nat) : Nat := lm Z (m / 64) / 2 ^ (m % 64) % 2
/-- what is left, with it -/
def byR (Z R m : Nat) : Nat := 2 * R + byBit Z m
/-- the quotient, with a bit more -/
def byQ (Q m : Nat) : Nat := stw 8 Q (m / 64) (orN (lm Q (m / 64)) (1 * 2 ^ (m % 64)))

theorem tabB_ok : TabOK tabB := .cons shift_e tabA_ok

theorem byBit_eq (Z m : Nat) : byBit Z m = Z / 2 ^ m % 2 := by
  unfold byBit
  rw [bit_word Z (Nat.mod_lt _ (by omega)), Nat.div_add_mod]

theorem pow64_lim {Q n : Nat} (h : Q < pow64 n) : Go.Proofs.Ytmjdmhelmgcanaa.lim (lm Q) n = Q := by
  rw [Go.Proofs.Ytmjdmhelmgcanaa.lim_lm]; exact Nat.mod_eq_of_lt h

/-- a bit more -/
theorem byQ_eq {Q X m : Nat} (hm : m < 512) (hQ : Q < pow64 8) (h : Q = X * 2 ^ (m + 1)) :
    byQ Q m = Q + 2 ^ m ∧ byQ Q m < pow64 8 ∧ (orN (lm Q (m / 64)) (1 * 2 ^ (m % 64))) < 18446744073709551616 := by
  have hj : m / 64 < 8 := by omega
  have hr : m % 64 < 64 := by omega
  have e0 : 64 * (m / 64) + m % 64 = m := Nat.div_add_mod m 64
  obtain ⟨e1, e2⟩ := low_clear (u := lm Q) (n := 8) (Q := X) hj hr (fun i _ => lm_lt _ _) (by rw [pow64_lim hQ, h, e0])
  have e3 : (orN (lm Q (m / 64)) (1 * 2 ^ (m % 64))) = lm Q (m / 64) + 2 ^ (m % 64) := by unfold orN; rw [Nat.one_mul]; exact or_bit e1
  have e4 : (orN (lm Q (m / 64)) (1 * 2 ^ (m % 64))) < 18446744073709551616 := by rw [e3]; exact e2
  refine ⟨?_, stw_lt e4, e4⟩
  have e5 := stw_add (v := orN (lm Q (m / 64)) (1 * 2 ^ (m % 64))) hQ hj
  unfold byQ
  rw [e3, Nat.add_mul, Nat.mul_comm (2 ^ (m % 64)), word_pow, e0] at e5
  rw [e3]
  omega

/-- what holds at a round's head: the round's number (one less), the quotient, what is left -/
def byI (Z c : Nat) (p : Int × Nat × Nat) : Prop := -1 ≤ p.1 ∧ p.1 ≤ 511 ∧ p.2.1 < pow64 8 ∧ p.2.1 = Z / 2 ^ (p.1 + 1).toNat / c * 2 ^ (p.1 + 1).toNat ∧ p.2.2 = Z / 2 ^ (p.1 + 1).toNat % c

theorem byI_more {Z c m Q R : Nat} (h0 : 0 < c) (hm : m < 512) (h : byI Z c ((m : Int), Q, R)) (hle : c ≤ byR Z R m) : byI Z c ((m : Int) - 1, byQ Q m, byR Z R m - c) := by
  obtain ⟨h1, h2, h3, h4, h5⟩ := h
  simp only at h1 h2 h3 h4 h5
  have e1 : ((m : Int) + 1).toNat = m + 1 := by omega
  have e2 : ((m : Int) - 1 + 1).toNat = m := by omega
  rw [e1] at h4 h5
  unfold byR at hle ⊢
  rw [byBit_eq, h5] at hle
  obtain ⟨q1, q2, _⟩ := byQ_eq hm h3 h4
  have hd := div_more h0 (Nat.mod_lt (Z / 2 ^ m) (by omega)) hle
  rw [← half] at hd
  refine ⟨by simp only; omega, by simp only; omega, q2, ?_, ?_⟩
  · show byQ Q m = Z / 2 ^ ((m : Int) - 1 + 1).toNat / c * 2 ^ ((m : Int) - 1 + 1).toNat
    rw [e2, q1, h4, hd.1, Nat.pow_succ, Nat.add_mul, Nat.one_mul]
    congr 1
    ac_rfl
  · show 2 * R + byBit Z m - c = Z / 2 ^ ((m : Int) - 1 + 1).toNat % c
    rw [e2, hd.2, byBit_eq, h5]
theorem byI_same {Z c m Q R : Nat} (h0 : 0 < c) (hm : m < 512) (h : byI Z c ((m : Int), Q, R)) (hlt : byR Z R m < c) : byI Z c ((m : Int) - 1, Q, byR Z R m) := by
  obtain ⟨h1, h2, h3, h4, h5⟩ := h
  simp only at h1 h2 h3 h4 h5
  have e1 : ((m : Int) + 1).toNat = m + 1 := by omega
  have e2 : ((m : Int) - 1 + 1).toNat = m := by omega
  rw [e1] at h4 h5
  unfold byR at hlt ⊢
  rw [byBit_eq, h5] at hlt
  have hd := div_same h0 hlt
  rw [← half] at hd
  refine ⟨by simp only; omega, by simp only; omega, h3, ?_, ?_⟩
  · show Q = Z / 2 ^ ((m : Int) - 1 + 1).toNat / c * 2 ^ ((m : Int) - 1 + 1).toNat
    rw [e2, h4, hd.1, Nat.pow_succ]
    ac_rfl
  · show 2 * R + byBit Z m = Z / 2 ^ ((m : Int) - 1 + 1).toNat % c
    rw [e2, hd.2, byBit_eq, h5]

theorem byI_start {Z c : Nat} (hZ : Z < pow64 8) : byI Z c (511, 0, 0) := by
  have key : ∀ a b n : Nat, a = 64 → b = 8 → n = a * b → Z / 2 ^ n = 0 := by
    intro a b n ha hb hn
    have h : Z < (2 ^ a) ^ b := by rw [ha, hb]; exact hZ
    rw [← Nat.pow_mul, ← hn] at h
    exact Nat.div_eq_of_lt h
  obtain ⟨n, hn⟩ : ∃ n, ((511 : Int) + 1).toNat = n := ⟨_, rfl⟩
  have hz := key 64 8 n rfl rfl (by rw [← hn]; rfl)
  refine ⟨by omega, by omega, Nat.pow_pos (by omega), ?_, ?_⟩
  · simp only [hn, hz, Nat.zero_div, Nat.zero_mul]
  · simp only [hn, hz, Nat.zero_mod]

theorem by_round {w0 : Base} {Z c m Q R : Nat} (h0 : 0 < c) (hc : c < TOP) (hm : m < 512) (h : byI Z c ((m : Int), Q, R)) :
    ∃ Q' R', byI Z c ((m : Int) - 1, Q', R') ∧ Goes Try.prog Try.f104.ntmps w0 [.code (roundOf 0 (bodyOf Try.f104))] .norm (kn (byS (m : Int)) (byH Z c Q R)) fun k o σ => k = [] ∧ o = .norm ∧ σ = kn (byS ((m : Int) - 1)) (byH Z c Q' R') := by
  have h' := h
  obtain ⟨h1, h2, h3, h4, h5⟩ := h'
  simp only at h1 h2 h3 h4 h5
  have e1 : ((m : Int) + 1).toNat = m + 1 := by omega
  rw [e1] at h4 h5
  have hR : R < c := by rw [h5]; exact Nat.mod_lt _ h0
  have hb : byBit Z m < 2 := Nat.mod_lt _ (by omega)
  have hl := lm_lt Z (m / 64)
  have hl2 : lm Z (m / 64) / 2 ^ (m % 64) ≤ lm Z (m / 64) := Nat.div_le_self _ _
  have hnn : (0 : Int) ≤ ((lm Z (m / 64) / 2 ^ (m % 64) : Nat) : Int) := Int.natCast_nonneg _
  obtain ⟨_, _, hq⟩ := byQ_eq hm h3 h4
  have hq2 := lm_lt Q (m / 64)
  have hp : (2 : Nat) ^ (m % 64) ≤ 9223372036854775808 := Nat.pow_le_pow_right (n := 2) (i := m % 64) (j := 63) (by omega) (by omega)
  have ht := top_eq
  have hdef : byR Z R m = 2 * R + byBit Z m := rfl
  have hbd : byBit Z m = lm Z (m / 64) / 2 ^ (m % 64) % 2 := rfl
  have hmod : byR Z R m % TOP < TOP := Nat.mod_lt _ top_pos
  have hval : 2 * R + lm Z (m / 64) / 2 ^ (m % 64) % 2 = byR Z R m := rfl
  rcases Nat.lt_or_ge (byR Z R m) c with hlt | hge
  · refine ⟨_, _, byI_same h0 hm h hlt, ?_⟩
    have hd0 : byR Z R m / TOP = 0 := Nat.div_eq_of_lt (by omega)
    have hm0 : byR Z R m % TOP = byR Z R m := Nat.mod_eq_of_lt (by omega)
    have hcmp := (cmp_lt0 (byR Z R m % TOP) c).2 (by omega)
    refine Goes.mono (goes (ctx_ok tabB_ok 48) mixed rfl (gs := []) (gh := []) (orc := way [(24, 1), (29, 1)]) (stops := []) (f := 3000) (k := [.code (roundOf 0 (bodyOf Try.f104))]) (o := .norm) (σ := (kn (byS (m : Int)) (byH Z c Q R))) (cs := [True, (0 : Int) ≤ (↑m : Int), True, (0 : Int) ≤ (↑m : Int) ∧ (-9223372036854775808 : Int) ≤ (↑m : Int) / (64 : Int) ∧ (↑m : Int) / (64 : Int) < (9223372036854775808 : Int), (0 : Int) ≤ (↑m : Int) / (64 : Int) ∧ (↑m : Int) / (64 : Int) < (↑(8 : Nat) : Int), m / 64 < (8 : Nat), True, (0 : Int) ≤ (↑m : Int), (0 : Int) ≤ (↑(lm Z (m / 64)) : Int) ∧ (0 : Int) ≤ (↑m : Int) % (64 : Int) ∧ (↑m : Int) % (64 : Int) < (64 : Int), (0 : Int) ≤ (↑(lm Z (m / 64) / (2 : Nat) ^ (m % 64)) : Int) ∧ (↑(lm Z (m / 64) / (2 : Nat) ^ (m % 64)) : Int) < (18446744073709551616 : Int), (↑(lm Z (m / 64) / (2 : Nat) ^ (m % 64)) : Int) % (2 : Int) = (0 : Int) ∨ (↑(lm Z (m / 64) / (2 : Nat) ^ (m % 64)) : Int) % (2 : Int) = (1 : Int), True, True, ¬(↑(((2 : Nat) * R + lm Z (m / 64) / (2 : Nat) ^ (m % 64) % 2) / TOP) : Int) ≠ (0 : Int), True, True, True, True, ¬(0 : Int) ≤ cmpN (((2 : Nat) * R + lm Z (m / 64) / (2 : Nat) ^ (m % 64) % 2) % TOP) c, True, True, (-9223372036854775808 : Int) ≤ (↑m : Int) - (1 : Int) ∧ (↑m : Int) - (1 : Int) < (9223372036854775808 : Int), True]) (k' := []) (o' := .norm) (S := (byS ((m : Int) - 1))) (H := (byH Z c Q (byR Z R m % TOP))) (by kernel_rfl) (by kernel_rfl) ?_) ?_
    · simp only [conj, and_true, true_and, hval, hd0]
      omega
    · rw [hm0]
      exact fun _ _ _ h => h
  · refine ⟨_, _, byI_more h0 hm h hge, ?_⟩
    rcases Nat.lt_or_ge (byR Z R m) TOP with hT | hT
    · have hd0 : byR Z R m / TOP = 0 := Nat.div_eq_of_lt hT
      have hm0 : byR Z R m % TOP = byR Z R m := Nat.mod_eq_of_lt hT
      have hcmp := (cmp_ge0 (byR Z R m % TOP) c).2 (by omega)
      refine Goes.mono (goes (ctx_ok tabB_ok 48) mixed rfl (gs := []) (gh := []) (orc := way [(24, 1)]) (stops := []) (f := 3000) (k := [.code (roundOf 0 (bodyOf Try.f104))]) (o := .norm) (σ := (kn (byS (m : Int)) (byH Z c Q R))) (cs := [True, (0 : Int) ≤ (↑m : Int), True, (0 : Int) ≤ (↑m : Int) ∧ (-9223372036854775808 : Int) ≤ (↑m : Int) / (64 : Int) ∧ (↑m : Int) / (64 : Int) < (9223372036854775808 : Int), (0 : Int) ≤ (↑m : Int) / (64 : Int) ∧ (↑m : Int) / (64 : Int) < (↑(8 : Nat) : Int), m / 64 < (8 : Nat), True, (0 : Int) ≤ (↑m : Int), (0 : Int) ≤ (↑(lm Z (m / 64)) : Int) ∧ (0 : Int) ≤ (↑m : Int) % (64 : Int) ∧ (↑m : Int) % (64 : Int) < (64 : Int), (0 : Int) ≤ (↑(lm Z (m / 64) / (2 : Nat) ^ (m % 64)) : Int) ∧ (↑(lm Z (m / 64) / (2 : Nat) ^ (m % 64)) : Int) < (18446744073709551616 : Int), (↑(lm Z (m / 64) / (2 : Nat) ^ (m % 64)) : Int) % (2 : Int) = (0 : Int) ∨ (↑(lm Z (m / 64) / (2 : Nat) ^ (m % 64)) : Int) % (2 : Int) = (1 : Int), True, True, ¬(↑(((2 : Nat) * R + lm Z (m / 64) / (2 : Nat) ^ (m % 64) % 2) / TOP) : Int) ≠ (0 : Int), True, True, True, True, (0 : Int) ≤ cmpN (((2 : Nat) * R + lm Z (m / 64) / (2 : Nat) ^ (m % 64) % 2) % TOP) c, True, True, True, c ≤ ((2 : Nat) * R + lm Z (m / 64) / (2 : Nat) ^ (m % 64) % 2) % TOP, True, True, True, True, True, (0 : Int) ≤ (↑m : Int) ∧ (-9223372036854775808 : Int) ≤ (↑m : Int) / (64 : Int) ∧ (↑m : Int) / (64 : Int) < (9223372036854775808 : Int), (0 : Int) ≤ (↑m : Int) / (64 : Int) ∧ (↑m : Int) / (64 : Int) < (↑(8 : Nat) : Int), m / 64 < (8 : Nat), True, (0 : Int) ≤ (↑m : Int), (0 : Int) ≤ (1 : Int) ∧ (0 : Int) ≤ (↑m : Int) % (64 : Int) ∧ (↑m : Int) % (64 : Int) < (64 : Int) ∧ (0 : Int) ≤ (↑(1 * (2 : Nat) ^ (m % 64)) : Int) ∧ (↑(1 * (2 : Nat) ^ (m % 64)) : Int) < (18446744073709551616 : Int), ((0 : Int) ≤ (↑(lm Q (m / 64)) : Int) ∧ (↑(lm Q (m / 64)) : Int) < (18446744073709551616 : Int)) ∧ (0 : Int) ≤ (↑(1 * (2 : Nat) ^ (m % 64)) : Int) ∧ (↑(1 * (2 : Nat) ^ (m % 64)) : Int) < (18446744073709551616 : Int), (0 : Int) ≤ (↑m : Int) / (64 : Int) ∧ (↑m : Int) / (64 : Int) < (↑(8 : Nat) : Int), m / 64 < (8 : Nat) ∧ (0 : Int) ≤ (↑(orN (lm Q (m / 64)) (1 * (2 : Nat) ^ (m % 64))) : Int) ∧ (↑(orN (lm Q (m / 64)) (1 * (2 : Nat) ^ (m % 64))) : Int) < (18446744073709551616 : Int), True, (-9223372036854775808 : Int) ≤ (↑m : Int) - (1 : Int) ∧ (↑m : Int) - (1 : Int) < (9223372036854775808 : Int), True]) (k' := []) (o' := .norm) (S := (byS ((m : Int) - 1))) (H := (byH Z c (byQ Q m) (byR Z R m % TOP - c))) (by kernel_rfl) (by kernel_rfl) ?_) ?_
      · simp only [conj, and_true, true_and, hval, hd0]
        omega
      · rw [hm0]
        exact fun _ _ _ h => h
    · have hd0 : byR Z R m / TOP = 1 := (Nat.div_eq_iff top_pos).2 (by omega)
      have hm0 : byR Z R m % TOP + TOP = byR Z R m := by have := Nat.div_add_mod (byR Z R m) TOP; rw [hd0] at this; omega
      refine Goes.mono (goes (ctx_ok tabB_ok 48) mixed rfl (gs := []) (gh := []) (orc := way [(34, 1)]) (stops := []) (f := 3000) (k := [.code (roundOf 0 (bodyOf Try.f104))]) (o := .norm) (σ := (kn (byS (m : Int)) (byH Z c Q R))) (cs := [True, (0 : Int) ≤ (↑m : Int), True, (0 : Int) ≤ (↑m : Int) ∧ (-9223372036854775808 : Int) ≤ (↑m : Int) / (64 : Int) ∧ (↑m : Int) / (64 : Int) < (9223372036854775808 : Int), (0 : Int) ≤ (↑m : Int) / (64 : Int) ∧ (↑m : Int) / (64 : Int) < (↑(8 : Nat) : Int), m / 64 < (8 : Nat), True, (0 : Int) ≤ (↑m : Int), (0 : Int) ≤ (↑(lm Z (m / 64)) : Int) ∧ (0 : Int) ≤ (↑m : Int) % (64 : Int) ∧ (↑m : Int) % (64 : Int) < (64 : Int), (0 : Int) ≤ (↑(lm Z (m / 64) / (2 : Nat) ^ (m % 64)) : Int) ∧ (↑(lm Z (m / 64) / (2 : Nat) ^ (m % 64)) : Int) < (18446744073709551616 : Int), (↑(lm Z (m / 64) / (2 : Nat) ^ (m % 64)) : Int) % (2 : Int) = (0 : Int) ∨ (↑(lm Z (m / 64) / (2 : Nat) ^ (m % 64)) : Int) % (2 : Int) = (1 : Int), True, True, (↑(((2 : Nat) * R + lm Z (m / 64) / (2 : Nat) ^ (m % 64) % 2) / TOP) : Int) ≠ (0 : Int), True, True, True, True, True, True, True, True, ((2 : Nat) * R + lm Z (m / 64) / (2 : Nat) ^ (m % 64) % 2) % TOP < c, True, True, True, True, True, (0 : Int) ≤ (↑m : Int) ∧ (-9223372036854775808 : Int) ≤ (↑m : Int) / (64 : Int) ∧ (↑m : Int) / (64 : Int) < (9223372036854775808 : Int), (0 : Int) ≤ (↑m : Int) / (64 : Int) ∧ (↑m : Int) / (64 : Int) < (↑(8 : Nat) : Int), m / 64 < (8 : Nat), True, (0 : Int) ≤ (↑m : Int), (0 : Int) ≤ (1 : Int) ∧ (0 : Int) ≤ (↑m : Int) % (64 : Int) ∧ (↑m : Int) % (64 : Int) < (64 : Int) ∧ (0 : Int) ≤ (↑(1 * (2 : Nat) ^ (m % 64)) : Int) ∧ (↑(1 * (2 : Nat) ^ (m % 64)) : Int) < (18446744073709551616 : Int), ((0 : Int) ≤ (↑(lm Q (m / 64)) : Int) ∧ (↑(lm Q (m / 64)) : Int) < (18446744073709551616 : Int)) ∧ (0 : Int) ≤ (↑(1 * (2 : Nat) ^ (m % 64)) : Int) ∧ (↑(1 * (2 : Nat) ^ (m % 64)) : Int) < (18446744073709551616 : Int), (0 : Int) ≤ (↑m : Int) / (64 : Int) ∧ (↑m : Int) / (64 : Int) < (↑(8 : Nat) : Int), m / 64 < (8 : Nat) ∧ (0 : Int) ≤ (↑(orN (lm Q (m / 64)) (1 * (2 : Nat) ^ (m % 64))) : Int) ∧ (↑(orN (lm Q (m / 64)) (1 * (2 : Nat) ^ (m % 64))) : Int) < (18446744073709551616 : Int), True, (-9223372036854775808 : Int) ≤ (↑m : Int) - (1 : Int) ∧ (↑m : Int) - (1 : Int) < (9223372036854775808 : Int), True]) (k' := []) (o' := .norm) (S := (byS ((m : Int) - 1))) (H := (byH Z c (byQ Q m) (byR Z R m % TOP + TOP - c))) (by kernel_rfl) (by kernel_rfl) ?_) ?_
      · simp only [conj, and_true, true_and, hval, hd0]
        omega
      · rw [hm0]
        exact fun _ _ _ h => h

theorem by_goes {w0 : Base} {Z c : Nat} (hZ : Z < pow64 8) (h0 : 0 < c) (hc : c < TOP) : Goes Try.prog Try.f104.ntmps w0 [.code (bodyOf Try.f104)] .norm (kn (byA Z c) [])
    (Fin (ctx tabB 48) Try.f104.results.toList fun v _ => v = .tup [[.big 8 (Z / c)], [.big 4 (Z % c)]]) := by
  refine (goes (ctx_ok tabB_ok 48) mixed rfl (gs := [8]) (gh := []) (orc := way []) (stops := [0]) (f := 3000) (k := [.code (bodyOf Try.f104)]) (o := .norm) (σ := (kn (byA Z c) [])) (cs := [True, True, True, True, True, True, True]) (k' := (kOf 0 (bodyOf Try.f104))) (o' := .norm) (S := (byS 511)) (H := (byH Z c 0 0)) (by kernel_rfl) (by kernel_rfl) (by simp [conj])).bind ?_
  rintro k o σ ⟨rfl, rfl, rfl⟩
  have hk : kOf 0 (bodyOf Try.f104) = .code (.block 0 (.loop (roundOf 0 (bodyOf Try.f104)))) :: restOf 0 (bodyOf Try.f104) := by kernel_rfl
  rw [hk]
  refine (goes_loop (fun p : Int × Nat × Nat => kn (byS p.1) (byH Z c p.2.1 p.2.2)) (byI Z c) (fun p => (p.1 + 1).toNat) (fun o σ => o = .norm ∧ σ = kn (byS (-1)) (byH Z c (Z / c) (Z % c))) ?_ (p := (511, 0, 0))
    (byI_start hZ)).bind ?_
  · rintro ⟨i, Q, R⟩ hI
    have h1 : -1 ≤ i := hI.1
    have h2 : i ≤ 511 := hI.2.1
    by_cases hi : i < 0
    · obtain rfl : i = -1 := by omega
      obtain ⟨_, _, _, h4, h5⟩ := hI
      have e0 : ((-1 : Int) + 1).toNat = 0 := rfl
      simp only [e0, Nat.pow_zero, Nat.div_one, Nat.mul_one] at h4 h5
      subst h4 h5
      refine (goes (ctx_ok tabB_ok 48) mixed rfl (gs := []) (gh := []) (orc := way [(11, 1)]) (stops := []) (f := 3000) (k := [.code (roundOf 0 (bodyOf Try.f104))]) (o := .norm) (σ := (kn (byS (-1)) (byH Z c (Z / c) (Z % c)))) (cs := [True, ¬(0 : Int) ≤ (-1 : Int)]) (k' := []) (o' := (.exit 0)) (S := (byS (-1))) (H := (byH Z c (Z / c) (Z % c))) (by kernel_rfl) (by kernel_rfl) (by simp [conj])).mono ?_
      rintro k o σ ⟨rfl, rfl, rfl⟩
      exact ⟨rfl, .inr ⟨by simp, rfl, rfl⟩⟩
    · obtain ⟨m, rfl⟩ := Int.eq_ofNat_of_zero_le (Int.not_lt.1 hi)
      obtain ⟨Q', R', h3, h4⟩ := by_round (w0 := w0) h0 hc (by omega) hI
      refine h4.mono ?_
      rintro k o σ ⟨rfl, rfl, rfl⟩
      exact ⟨rfl, .inl ⟨rfl, _, h3, by show ((m : Int) - 1 + 1).toNat < ((m : Int) + 1).toNat; omega, rfl⟩⟩
  · rintro k o σ ⟨rfl, rfl, rfl⟩
    exact goes_ret (ctx_ok tabB_ok 48) mixed rfl (orc := way []) (stops := []) (f := 3000) (k := (restOf 0 (bodyOf Try.f104))) (o := .norm) (σ := (kn (byS (-1)) (byH Z c (Z / c) (Z % c)))) (cs := [True, True, True, True]) (o' := .ret) (rs := Try.f104.results.toList) (v := (.tup [[.big 8 (Z / c)], [.big 4 (Z % c)]])) (H := []) (by kernel_rfl) (.inr rfl) (by simp [conj]) fun _ _ => rfl

end M
end Go.Proofs.Ytmjdmhelmgcanaa

/- num.times: the walk. -/
namespace Go.Proofs.Ytmjdmhelmgcanaa
open Go.RowKit

/-- a product's value -/
def PV (z : Nat) : Value := .agg (limbs z 8).toArray

/-- eight words in a block -/
def W8 (p : Nat → Nat) : Array Value := #[.int .u64 (p 0 : Nat), .int .u64 (p 1 : Nat), .int .u64 (p 2 : Nat), .int .u64 (p 3 : Nat), .int .u64 (p 4 : Nat), .int .u64 (p 5 : Nat), .int .u64 (p 6 : Nat), .int .u64 (p 7 : Nat)]

theorem W8_get (p : Nat → Nat) {j : Nat} (h : j < 8) : (W8 p)[j]? = some (.int .u64 (p j : Nat)) := by
  have h : j = 0 ∨ j = 1 ∨ j = 2 ∨ j = 3 ∨ j = 4 ∨ j = 5 ∨ j = 6 ∨ j = 7 := by omega
  rcases h with rfl | rfl | rfl | rfl | rfl | rfl | rfl | rfl <;> rfl
theorem W8_set (p : Nat → Nat) {j : Nat} (u : Nat) (h : j < 8) : (W8 p).setIfInBounds j (.int .u64 (u : Nat)) = W8 (set1 p j u) := by
  have h : j = 0 ∨ j = 1 ∨ j = 2 ∨ j = 3 ∨ j = 4 ∨ j = 5 ∨ j = 6 ∨ j = 7 := by omega
  rcases h with rfl | rfl | rfl | rfl | rfl | rfl | rfl | rfl <;> rfl

theorem cells8 {wr : World} {b : Nat} {c0 c1 c2 c3 c4 c5 c6 c7 : Value} (h : wr.heap[b]? = some (.cells #[c0, c1, c2, c3, c4, c5, c6, c7] 99 (0, 0))) :
    wr.cell? ⟨b, 0, none⟩ = some c0 ∧ wr.cell? ⟨b, 1, none⟩ = some c1 ∧ wr.cell? ⟨b, 2, none⟩ = some c2 ∧ wr.cell? ⟨b, 3, none⟩ = some c3 ∧ wr.cell? ⟨b, 4, none⟩ = some c4 ∧ wr.cell? ⟨b, 5, none⟩ = some c5 ∧
    wr.cell? ⟨b, 6, none⟩ = some c6 ∧ wr.cell? ⟨b, 7, none⟩ = some c7 ∧ ∀ j, wr.frozen? ⟨b, j, none⟩ = false :=
  ⟨by rw [cell_of_row wr _ 0 _ 99 (0, 0) h]; rfl, by rw [cell_of_row wr _ 1 _ 99 (0, 0) h]; rfl, by rw [cell_of_row wr _ 2 _ 99 (0, 0) h]; rfl, by rw [cell_of_row wr _ 3 _ 99 (0, 0) h]; rfl,
    by rw [cell_of_row wr _ 4 _ 99 (0, 0) h]; rfl, by rw [cell_of_row wr _ 5 _ 99 (0, 0) h]; rfl, by rw [cell_of_row wr _ 6 _ 99 (0, 0) h]; rfl, by rw [cell_of_row wr _ 7 _ 99 (0, 0) h]; rfl, fun j => frozen_of_row wr _ j _ 99 h⟩
theorem PV_lim {p : Nat → Nat} (h : ∀ j, j < 8 → p j < 18446744073709551616) : PV (lim p 8) = .agg (W8 p) := by
  have e : ∀ i, i < 8 → lm (lim p 8) i = p i := fun i hi => lm_lim h hi
  simp [PV, limbs, W8, e]

/-- four new blocks -/
theorem four (w : World) (p q r s : Array Value) (t1 t2 t3 t4 : TypeId) :
    ((((w.alloc (.cells p t1)).alloc (.cells q t2)).alloc (.cells r t3)).alloc (.cells s t4)).heap[w.heap.size + 1 + 1 + 1]? = some (.cells s t4 (0, 0)) := by
  have h := heap_alloc_new (((w.alloc (.cells p t1)).alloc (.cells q t2)).alloc (.cells r t3)) (.cells s t4)
  simp only [World.size_alloc] at h
  exact h

theorem inner_step {p : Nat → Nat} {q j a b y c s d X : Nat} (hj : q + j < 8) (hb : lm y j = b) (hs : a * b + p (q + j) + c = s + 18446744073709551616 * d)
    (h : lim p 8 + c * 18446744073709551616 ^ (q + j) = X + a * (y % 18446744073709551616 ^ j) * 18446744073709551616 ^ q) :
    lim (set1 p (q + j) s) 8 + d * 18446744073709551616 ^ (q + (j + 1)) = X + a * (y % 18446744073709551616 ^ (j + 1)) * 18446744073709551616 ^ q := by
  have L := lim_set p (u := s) hj
  have e : y % 18446744073709551616 ^ (j + 1) = y % 18446744073709551616 ^ j + 18446744073709551616 ^ j * b := by rw [Nat.pow_succ, Nat.mod_mul, ← hb]; rfl
  obtain ⟨P, hP⟩ : ∃ P, P = 18446744073709551616 ^ (q + j) := ⟨_, rfl⟩
  have e1 : a * (y % 18446744073709551616 ^ j + 18446744073709551616 ^ j * b) * 18446744073709551616 ^ q = a * (y % 18446744073709551616 ^ j) * 18446744073709551616 ^ q + a * b * P := by
    rw [hP, Nat.pow_add, Nat.mul_add, Nat.add_mul]; congr 1; ac_rfl
  have e2 : d * 18446744073709551616 ^ (q + (j + 1)) = 18446744073709551616 * d * P := by
    rw [hP, ← Nat.add_assoc, Nat.pow_succ]; ac_rfl
  have e3 : (a * b + p (q + j) + c) * P = (s + 18446744073709551616 * d) * P := by rw [hs]
  rw [Nat.add_mul, Nat.add_mul, Nat.add_mul] at e3
  rw [e, e1, e2]
  rw [← hP] at h L
  omega
theorem outer_step {p : Nat → Nat} {q a x y c : Nat} (hq : q + 4 < 8) (ha : lm x q = a) (hy : y < TOP) (hz : p (q + 4) = 0)
    (h : lim p 8 + c * 18446744073709551616 ^ (q + 4) = x % 18446744073709551616 ^ q * y + a * (y % 18446744073709551616 ^ 4) * 18446744073709551616 ^ q) :
    lim (set1 p (q + 4) c) 8 = x % 18446744073709551616 ^ (q + 1) * y := by
  have L := lim_set p (u := c) hq
  have e : x % 18446744073709551616 ^ (q + 1) = x % 18446744073709551616 ^ q + 18446744073709551616 ^ q * a := by rw [Nat.pow_succ, Nat.mod_mul, ← ha]; rfl
  have ey : y % 18446744073709551616 ^ 4 = y := Nat.mod_eq_of_lt hy
  rw [ey] at h
  rw [hz, Nat.zero_mul, Nat.add_zero] at L
  rw [L, h, e, Nat.add_mul]
  congr 1
  ac_rfl

theorem idx28_0 (c0 c1 c2 c3 : Value) (w : World) : (Instr.index 28 (.agg #[c0, c1, c2, c3]) (.int .i64 0)).run Try.prog w = .ok c0 w := by kernel_rfl
theorem idx28_1 (c0 c1 c2 c3 : Value) (w : World) : (Instr.index 28 (.agg #[c0, c1, c2, c3]) (.int .i64 1)).run Try.prog w = .ok c1 w := by kernel_rfl
theorem idx28_2 (c0 c1 c2 c3 : Value) (w : World) : (Instr.index 28 (.agg #[c0, c1, c2, c3]) (.int .i64 2)).run Try.prog w = .ok c2 w := by kernel_rfl
theorem idx28_3 (c0 c1 c2 c3 : Value) (w : World) : (Instr.index 28 (.agg #[c0, c1, c2, c3]) (.int .i64 3)).run Try.prog w = .ok c3 w := by kernel_rfl

set_option maxHeartbeats 4000000 in
set_option maxRecDepth 1000000 in
theorem times_calls (x y : Nat) (hx : x < TOP) (hy : y < TOP) (w : World) :
    Calls Try.prog 101 #[V x, V y] w fun e w' => e = .returned (PV (x * y)) ∧ Below w.heap.size w w' := by
  obtain ⟨r, hr⟩ : ∃ r, PV (x * y) = r := ⟨_, rfl⟩
  rw [hr]
  obtain ⟨a0, ha0⟩ : ∃ a, lm x 0 = a := ⟨_, rfl⟩
  obtain ⟨a1, ha1⟩ : ∃ a, lm x 1 = a := ⟨_, rfl⟩
  obtain ⟨a2, ha2⟩ : ∃ a, lm x 2 = a := ⟨_, rfl⟩
  obtain ⟨a3, ha3⟩ : ∃ a, lm x 3 = a := ⟨_, rfl⟩
  obtain ⟨b0, hb0⟩ : ∃ a, lm y 0 = a := ⟨_, rfl⟩
  obtain ⟨b1, hb1⟩ : ∃ a, lm y 1 = a := ⟨_, rfl⟩
  obtain ⟨b2, hb2⟩ : ∃ a, lm y 2 = a := ⟨_, rfl⟩
  obtain ⟨b3, hb3⟩ : ∃ a, lm y 3 = a := ⟨_, rfl⟩
  unfold V V4
  rw [ha0, ha1, ha2, ha3, hb0, hb1, hb2, hb3]
  have HR := hidden (p := _ ∧ _ ∧ _) ⟨hr, hx, hy⟩
  have HA := hidden (p := _ ∧ _ ∧ _ ∧ _) ⟨ha0, ha1, ha2, ha3⟩
  have HB := hidden (p := _ ∧ _ ∧ _ ∧ _) ⟨hb0, hb1, hb2, hb3⟩
  have i0 := idx28_0 (.int .u64 a0) (.int .u64 a1) (.int .u64 a2) (.int .u64 a3)
  have i1 := idx28_1 (.int .u64 a0) (.int .u64 a1) (.int .u64 a2) (.int .u64 a3)
  have i2 := idx28_2 (.int .u64 a0) (.int .u64 a1) (.int .u64 a2) (.int .u64 a3)
  have i3 := idx28_3 (.int .u64 a0) (.int .u64 a1) (.int .u64 a2) (.int .u64 a3)
  have j0 := idx28_0 (.int .u64 b0) (.int .u64 b1) (.int .u64 b2) (.int .u64 b3)
  have j1 := idx28_1 (.int .u64 b0) (.int .u64 b1) (.int .u64 b2) (.int .u64 b3)
  have j2 := idx28_2 (.int .u64 b0) (.int .u64 b1) (.int .u64 b2) (.int .u64 b3)
  have j3 := idx28_3 (.int .u64 b0) (.int .u64 b1) (.int .u64 b2) (.int .u64 b3)
  clear hr hx hy ha0 ha1 ha2 ha3 hb0 hb1 hb2 hb3
  go_enter Try.func101, Try.ntmps101
  go_wp2_with fail
  go_loopw [15] (fun i wr => ∃ (k : Nat) (p : Nat → Nat), k ≤ 4 ∧ i = .int .i64 k ∧ wr.heap[w.heap.size + 1 + 1 + 1]? = some (.cells (W8 p) 99 (0, 0)) ∧
      (∀ j, j < 8 → p j < 18446744073709551616) ∧ (∀ j, k + 4 ≤ j → p j = 0) ∧ lim p 8 = x % 18446744073709551616 ^ k * y ∧
      Below (w.heap.size + 1 + 1 + 1) (((w.alloc (.cells #[.int .u64 a0, .int .u64 a1, .int .u64 a2, .int .u64 a3] 28)).alloc (.cells #[.int .u64 b0, .int .u64 b1, .int .u64 b2, .int .u64 b3] 28)).alloc (.cells #[.int .u64 0, .int .u64 0, .int .u64 0, .int .u64 0, .int .u64 0, .int .u64 0, .int .u64 0, .int .u64 0] 99)) wr)
    (fun i _ => 4 - (intOf i).toNat)
  case atStart =>
    exact ⟨0, fun _ => 0, by omega, rfl, four _ _ _ _ _ _ _ _ _, fun _ _ => Nat.two_pow_pos 64, fun _ _ => rfl, by simp [lim, Nat.mod_one], (Below.refl _ _).alloc (by simp) _⟩
  case round =>
    obtain ⟨k, p, hk, rfl, hp, hlt, hzero, hsum, hbel⟩ := hrel
    have hsz := hbel.size
    simp only [World.size_alloc] at hsz
    have h : k = 0 ∨ k = 1 ∨ k = 2 ∨ k = 3 ∨ k = 4 := by omega
    have HP := hidden (p := _ ∧ _ ∧ _) ⟨hlt, hzero, hsum⟩
    obtain ⟨q0, q1, q2, q3, -⟩ := cells4 ((hbel.block (w.heap.size + 1) (by omega)).trans (three _ _ _ _ _ _ _).2.1)
    clear hlt hzero hsum hk
    rcases h with rfl | rfl | rfl | rfl | rfl
    · go_wp2
      go_loopw [20, 8] (fun i o wr => ∃ (j c : Nat) (u : Nat → Nat), j ≤ 4 ∧ i = .int .i64 j ∧ o = .int .u64 c ∧ c < 18446744073709551616 ∧ wr.heap[w.heap.size + 1 + 1 + 1]? = some (.cells (W8 u) 99 (0, 0)) ∧
          (∀ j, j < 8 → u j < 18446744073709551616) ∧ (∀ j, 4 ≤ j → u j = 0) ∧ lim u 8 + c * 18446744073709551616 ^ (0 + j) = x % 18446744073709551616 ^ 0 * y + a0 * (y % 18446744073709551616 ^ j) * 18446744073709551616 ^ 0 ∧
          Below (w.heap.size + 1 + 1 + 1) (((w.alloc (.cells #[.int .u64 a0, .int .u64 a1, .int .u64 a2, .int .u64 a3] 28)).alloc (.cells #[.int .u64 b0, .int .u64 b1, .int .u64 b2, .int .u64 b3] 28)).alloc (.cells #[.int .u64 0, .int .u64 0, .int .u64 0, .int .u64 0, .int .u64 0, .int .u64 0, .int .u64 0, .int .u64 0] 99)) wr)
        (fun i _ _ => 4 - (intOf i).toNat)
      case atStart => exact ⟨0, 0, p, by omega, rfl, rfl, by omega, hp, HP.out.1, HP.out.2.1, by rw [HP.out.2.2]; simp [Nat.mod_one], hbel⟩
      case round =>
        obtain ⟨j, c, u, hj, rfl, rfl, hc, hu, hlt, hzero, hsum, hbi⟩ := hrel
        clear hp hbel HP q0 q1 q2 q3 hsz
        have hz : ∀ j, wr.frozen? ⟨w.heap.size + 1 + 1 + 1, j, none⟩ = false := fun j => frozen_of_row wr _ j _ 99 hu
        have h : j = 0 ∨ j = 1 ∨ j = 2 ∨ j = 3 ∨ j = 4 := by omega
        clear hj
        rcases h with rfl | rfl | rfl | rfl | rfl
        · have hcell : wr.cell? ⟨w.heap.size + 1 + 1 + 1, 0, none⟩ = some (.int .u64 (u 0 : Nat)) := by rw [cell_of_row wr _ 0 _ 99 (0, 0) hu, W8_get u (by omega)]
          obtain ⟨hi, lo, s0, c0, s1, c1, k1, k2, k3, hcar, hs1, hstep⟩ := step64 (x := a0) (y := b0) (p := u 0) (c := c) (by rw [← HA.out.1]; exact lm_lt _ _) (by rw [← HB.out.1]; exact lm_lt _ _) (hlt 0 (by omega)) hc
          have HH := hidden (p := _ ∧ _ ∧ _ ∧ _ ∧ _) ⟨hlt, hzero, hsum, hs1, hstep⟩
          clear hlt hzero hsum hs1 hstep
          go_wp2_with (go_at_call 114; refine (k1 _).mono ?_; rintro e wj ⟨rfl, rfl⟩)
          refine ⟨?rel, ?measure⟩
          case rel =>
            repeat apply Exists.intro
            refine And.intro ?_ rfl
            obtain ⟨hlt, hzero, hsum, hs1, hstep⟩ := HH.out
            refine ⟨1, hi + c0 + c1, set1 u 0 s1, by omega, by go_num, by go_num, hcar, ?_, ?_, ?_, ?_, hbi.setCell (by simp) _⟩
            · rw [← W8_set u s1 (by omega)]; exact heap_setCell_same _ _ 0 _ 99 _ hu
            · intro i hi
              by_cases h : i = 0
              · subst h; rw [set1_eq]; exact hs1
              · rw [set1_ne u h]; exact hlt i hi
            · intro i hi; rw [set1_ne u (by omega)]; exact hzero i hi
            · exact inner_step (q := 0) (j := 0) (by omega) HB.out.1 hstep hsum
          case measure => simp [intOf]
        · have hcell : wr.cell? ⟨w.heap.size + 1 + 1 + 1, 1, none⟩ = some (.int .u64 (u 1 : Nat)) := by rw [cell_of_row wr _ 1 _ 99 (0, 0) hu, W8_get u (by omega)]
          obtain ⟨hi, lo, s0, c0, s1, c1, k1, k2, k3, hcar, hs1, hstep⟩ := step64 (x := a0) (y := b1) (p := u 1) (c := c) (by rw [← HA.out.1]; exact lm_lt _ _) (by rw [← HB.out.2.1]; exact lm_lt _ _) (hlt 1 (by omega)) hc
          have HH := hidden (p := _ ∧ _ ∧ _ ∧ _ ∧ _) ⟨hlt, hzero, hsum, hs1, hstep⟩
          clear hlt hzero hsum hs1 hstep
          go_wp2_with (go_at_call 114; refine (k1 _).mono ?_; rintro e wj ⟨rfl, rfl⟩)
          refine ⟨?rel, ?measure⟩
          case rel =>
            repeat apply Exists.intro
            refine And.intro ?_ rfl
            obtain ⟨hlt, hzero, hsum, hs1, hstep⟩ := HH.out
            refine ⟨2, hi + c0 + c1, set1 u 1 s1, by omega, by go_num, by go_num, hcar, ?_, ?_, ?_, ?_, hbi.setCell (by simp) _⟩
            · rw [← W8_set u s1 (by omega)]; exact heap_setCell_same _ _ 1 _ 99 _ hu
            · intro i hi
              by_cases h : i = 1
              · subst h; rw [set1_eq]; exact hs1
              · rw [set1_ne u h]; exact hlt i hi
            · intro i hi; rw [set1_ne u (by omega)]; exact hzero i hi
            · exact inner_step (q := 0) (j := 1) (by omega) HB.out.2.1 hstep hsum
          case measure => simp [intOf]
        · have hcell : wr.cell? ⟨w.heap.size + 1 + 1 + 1, 2, none⟩ = some (.int .u64 (u 2 : Nat)) := by rw [cell_of_row wr _ 2 _ 99 (0, 0) hu, W8_get u (by omega)]
          obtain ⟨hi, lo, s0, c0, s1, c1, k1, k2, k3, hcar, hs1, hstep⟩ := step64 (x := a0) (y := b2) (p := u 2) (c := c) (by rw [← HA.out.1]; exact lm_lt _ _) (by rw [← HB.out.2.2.1]; exact lm_lt _ _) (hlt 2 (by omega)) hc
          have HH := hidden (p := _ ∧ _ ∧ _ ∧ _ ∧ _) ⟨hlt, hzero, hsum, hs1, hstep⟩
          clear hlt hzero hsum hs1 hstep
          go_wp2_with (go_at_call 114; refine (k1 _).mono ?_; rintro e wj ⟨rfl, rfl⟩)
          refine ⟨?rel, ?measure⟩
          case rel =>
            repeat apply Exists.intro
            refine And.intro ?_ rfl
            obtain ⟨hlt, hzero, hsum, hs1, hstep⟩ := HH.out
            refine ⟨3, hi + c0 + c1, set1 u 2 s1, by omega, by go_num, by go_num, hcar, ?_, ?_, ?_, ?_, hbi.setCell (by simp) _⟩
            · rw [← W8_set u s1 (by omega)]; exact heap_setCell_same _ _ 2 _ 99 _ hu
            · intro i hi
              by_cases h : i = 2
              · subst h; rw [set1_eq]; exact hs1
              · rw [set1_ne u h]; exact hlt i hi
            · intro i hi; rw [set1_ne u (by omega)]; exact hzero i hi
            · exact inner_step (q := 0) (j := 2) (by omega) HB.out.2.2.1 hstep hsum
          case measure => simp [intOf]
        · have hcell : wr.cell? ⟨w.heap.size + 1 + 1 + 1, 3, none⟩ = some (.int .u64 (u 3 : Nat)) := by rw [cell_of_row wr _ 3 _ 99 (0, 0) hu, W8_get u (by omega)]
          obtain ⟨hi, lo, s0, c0, s1, c1, k1, k2, k3, hcar, hs1, hstep⟩ := step64 (x := a0) (y := b3) (p := u 3) (c := c) (by rw [← HA.out.1]; exact lm_lt _ _) (by rw [← HB.out.2.2.2]; exact lm_lt _ _) (hlt 3 (by omega)) hc
          have HH := hidden (p := _ ∧ _ ∧ _ ∧ _ ∧ _) ⟨hlt, hzero, hsum, hs1, hstep⟩
          clear hlt hzero hsum hs1 hstep
          go_wp2_with (go_at_call 114; refine (k1 _).mono ?_; rintro e wj ⟨rfl, rfl⟩)
          refine ⟨?rel, ?measure⟩
          case rel =>
            repeat apply Exists.intro
            refine And.intro ?_ rfl
            obtain ⟨hlt, hzero, hsum, hs1, hstep⟩ := HH.out
            refine ⟨4, hi + c0 + c1, set1 u 3 s1, by omega, by go_num, by go_num, hcar, ?_, ?_, ?_, ?_, hbi.setCell (by simp) _⟩
            · rw [← W8_set u s1 (by omega)]; exact heap_setCell_same _ _ 3 _ 99 _ hu
            · intro i hi
              by_cases h : i = 3
              · subst h; rw [set1_eq]; exact hs1
              · rw [set1_ne u h]; exact hlt i hi
            · intro i hi; rw [set1_ne u (by omega)]; exact hzero i hi
            · exact inner_step (q := 0) (j := 3) (by omega) HB.out.2.2.2 hstep hsum
          case measure => simp [intOf]
        · have HH := hidden (p := _ ∧ _ ∧ _) ⟨hlt, hzero, hsum⟩
          have hcell : wr.cell? ⟨w.heap.size + 1 + 1 + 1, 4, none⟩ = some (.int .u64 (u 4 : Nat)) := by rw [cell_of_row wr _ 4 _ 99 (0, 0) hu, W8_get u (by omega)]
          clear hlt hzero hsum
          go_wp2
          go_roundw
          case rel =>
            obtain ⟨hlt, hzero, hsum⟩ := HH.out
            refine ⟨1, set1 u 4 c, by omega, by go_num, ?_, ?_, ?_, outer_step (q := 0) (by omega) HA.out.1 HR.out.2.2 (hzero _ (by omega)) hsum, hbi.setCell (by simp) _⟩
            · rw [← W8_set u c (by omega)]; exact heap_setCell_same _ _ 4 _ 99 _ hu
            · intro i hi
              by_cases h : i = 4
              · subst h; rw [set1_eq]; exact hc
              · rw [set1_ne u h]; exact hlt i hi
            · intro i hi; rw [set1_ne u (by omega)]; exact hzero i (by omega)
          case measure => simp [intOf]
    · go_wp2
      go_loopw [20, 8] (fun i o wr => ∃ (j c : Nat) (u : Nat → Nat), j ≤ 4 ∧ i = .int .i64 j ∧ o = .int .u64 c ∧ c < 18446744073709551616 ∧ wr.heap[w.heap.size + 1 + 1 + 1]? = some (.cells (W8 u) 99 (0, 0)) ∧
          (∀ j, j < 8 → u j < 18446744073709551616) ∧ (∀ j, 5 ≤ j → u j = 0) ∧ lim u 8 + c * 18446744073709551616 ^ (1 + j) = x % 18446744073709551616 ^ 1 * y + a1 * (y % 18446744073709551616 ^ j) * 18446744073709551616 ^ 1 ∧
          Below (w.heap.size + 1 + 1 + 1) (((w.alloc (.cells #[.int .u64 a0, .int .u64 a1, .int .u64 a2, .int .u64 a3] 28)).alloc (.cells #[.int .u64 b0, .int .u64 b1, .int .u64 b2, .int .u64 b3] 28)).alloc (.cells #[.int .u64 0, .int .u64 0, .int .u64 0, .int .u64 0, .int .u64 0, .int .u64 0, .int .u64 0, .int .u64 0] 99)) wr)
        (fun i _ _ => 4 - (intOf i).toNat)
      case atStart => exact ⟨0, 0, p, by omega, rfl, rfl, by omega, hp, HP.out.1, HP.out.2.1, by rw [HP.out.2.2]; simp [Nat.mod_one], hbel⟩
      case round =>
        obtain ⟨j, c, u, hj, rfl, rfl, hc, hu, hlt, hzero, hsum, hbi⟩ := hrel
        clear hp hbel HP q0 q1 q2 q3 hsz
        have hz : ∀ j, wr.frozen? ⟨w.heap.size + 1 + 1 + 1, j, none⟩ = false := fun j => frozen_of_row wr _ j _ 99 hu
        have h : j = 0 ∨ j = 1 ∨ j = 2 ∨ j = 3 ∨ j = 4 := by omega
        clear hj
        rcases h with rfl | rfl | rfl | rfl | rfl
        · have hcell : wr.cell? ⟨w.heap.size + 1 + 1 + 1, 1, none⟩ = some (.int .u64 (u 1 : Nat)) := by rw [cell_of_row wr _ 1 _ 99 (0, 0) hu, W8_get u (by omega)]
          obtain ⟨hi, lo, s0, c0, s1, c1, k1, k2, k3, hcar, hs1, hstep⟩ := step64 (x := a1) (y := b0) (p := u 1) (c := c) (by rw [← HA.out.2.1]; exact lm_lt _ _) (by rw [← HB.out.1]; exact lm_lt _ _) (hlt 1 (by omega)) hc
          have HH := hidden (p := _ ∧ _ ∧ _ ∧ _ ∧ _) ⟨hlt, hzero, hsum, hs1, hstep⟩
          clear hlt hzero hsum hs1 hstep
          go_wp2_with (go_at_call 114; refine (k1 _).mono ?_; rintro e wj ⟨rfl, rfl⟩)
          refine ⟨?rel, ?measure⟩
          case rel =>
            repeat apply Exists.intro
            refine And.intro ?_ rfl
            obtain ⟨hlt, hzero, hsum, hs1, hstep⟩ := HH.out
            refine ⟨1, hi + c0 + c1, set1 u 1 s1, by omega, by go_num, by go_num, hcar, ?_, ?_, ?_, ?_, hbi.setCell (by simp) _⟩
            · rw [← W8_set u s1 (by omega)]; exact heap_setCell_same _ _ 1 _ 99 _ hu
            · intro i hi
              by_cases h : i = 1
              · subst h; rw [set1_eq]; exact hs1
              · rw [set1_ne u h]; exact hlt i hi
            · intro i hi; rw [set1_ne u (by omega)]; exact hzero i hi
            · exact inner_step (q := 1) (j := 0) (by omega) HB.out.1 hstep hsum
          case measure => simp [intOf]
        · have hcell : wr.cell? ⟨w.heap.size + 1 + 1 + 1, 2, none⟩ = some (.int .u64 (u 2 : Nat)) := by rw [cell_of_row wr _ 2 _ 99 (0, 0) hu, W8_get u (by omega)]
          obtain ⟨hi, lo, s0, c0, s1, c1, k1, k2, k3, hcar, hs1, hstep⟩ := step64 (x := a1) (y := b1) (p := u 2) (c := c) (by rw [← HA.out.2.1]; exact lm_lt _ _) (by rw [← HB.out.2.1]; exact lm_lt _ _) (hlt 2 (by omega)) hc
          have HH := hidden (p := _ ∧ _ ∧ _ ∧ _ ∧ _) ⟨hlt, hzero, hsum, hs1, hstep⟩
          clear hlt hzero hsum hs1 hstep
          go_wp2_with (go_at_call 114; refine (k1 _).mono ?_; rintro e wj ⟨rfl, rfl⟩)
          refine ⟨?rel, ?measure⟩
          case rel =>
            repeat apply Exists.intro
            refine And.intro ?_ rfl
            obtain ⟨hlt, hzero, hsum, hs1, hstep⟩ := HH.out
            refine ⟨2, hi + c0 + c1, set1 u 2 s1, by omega, by go_num, by go_num, hcar, ?_, ?_, ?_, ?_, hbi.setCell (by simp) _⟩
            · rw [← W8_set u s1 (by omega)]; exact heap_setCell_same _ _ 2 _ 99 _ hu
            · intro i hi
              by_cases h : i = 2
              · subst h; rw [set1_eq]; exact hs1
              · rw [set1_ne u h]; exact hlt i hi
            · intro i hi; rw [set1_ne u (by omega)]; exact hzero i hi
            · exact inner_step (q := 1) (j := 1) (by omega) HB.out.2.1 hstep hsum
          case measure => simp [intOf]
        · have hcell : wr.cell? ⟨w.heap.size + 1 + 1 + 1, 3, none⟩ = some (.int .u64 (u 3 : Nat)) := by rw [cell_of_row wr _ 3 _ 99 (0, 0) hu, W8_get u (by omega)]
          obtain ⟨hi, lo, s0, c0, s1, c1, k1, k2, k3, hcar, hs1, hstep⟩ := step64 (x := a1) (y := b2) (p := u 3) (c := c) (by rw [← HA.out.2.1]; exact lm_lt _ _) (by rw [← HB.out.2.2.1]; exact lm_lt _ _) (hlt 3 (by omega)) hc
          have HH := hidden (p := _ ∧ _ ∧ _ ∧ _ ∧ _) ⟨hlt, hzero, hsum, hs1, hstep⟩
          clear hlt hzero hsum hs1 hstep
          go_wp2_with (go_at_call 114; refine (k1 _).mono ?_; rintro e wj ⟨rfl, rfl⟩)
          refine ⟨?rel, ?measure⟩
          case rel =>
            repeat apply Exists.intro
            refine And.intro ?_ rfl
            obtain ⟨hlt, hzero, hsum, hs1, hstep⟩ := HH.out
            refine ⟨3, hi + c0 + c1, set1 u 3 s1, by omega, by go_num, by go_num, hcar, ?_, ?_, ?_, ?_, hbi.setCell (by simp) _⟩
            · rw [← W8_set u s1 (by omega)]; exact heap_setCell_same _ _ 3 _ 99 _ hu
            · intro i hi
              by_cases h : i = 3
              · subst h; rw [set1_eq]; exact hs1
              · rw [set1_ne u h]; exact hlt i hi
            · intro i hi; rw [set1_ne u (by omega)]; exact hzero i hi
            · exact inner_step (q := 1) (j := 2) (by omega) HB.out.2.2.1 hstep hsum
          case measure => simp [intOf]
        · have hcell : wr.cell? ⟨w.heap.size + 1 + 1 + 1, 4, none⟩ = some (.int .u64 (u 4 : Nat)) := by rw [cell_of_row wr _ 4 _ 99 (0, 0) hu, W8_get u (by omega)]
          obtain ⟨hi, lo, s0, c0, s1, c1, k1, k2, k3, hcar, hs1, hstep⟩ := step64 (x := a1) (y := b3) (p := u 4) (c := c) (by rw [← HA.out.2.1]; exact lm_lt _ _) (by rw [← HB.out.2.2.2]; exact lm_lt _ _) (hlt 4 (by omega)) hc
          have HH := hidden (p := _ ∧ _ ∧ _ ∧ _ ∧ _) ⟨hlt, hzero, hsum, hs1, hstep⟩
          clear hlt hzero hsum hs1 hstep
          go_wp2_with (go_at_call 114; refine (k1 _).mono ?_; rintro e wj ⟨rfl, rfl⟩)
          refine ⟨?rel, ?measure⟩
          case rel =>
            repeat apply Exists.intro
            refine And.intro ?_ rfl
            obtain ⟨hlt, hzero, hsum, hs1, hstep⟩ := HH.out
            refine ⟨4, hi + c0 + c1, set1 u 4 s1, by omega, by go_num, by go_num, hcar, ?_, ?_, ?_, ?_, hbi.setCell (by simp) _⟩
            · rw [← W8_set u s1 (by omega)]; exact heap_setCell_same _ _ 4 _ 99 _ hu
            · intro i hi
              by_cases h : i = 4
              · subst h; rw [set1_eq]; exact hs1
              · rw [set1_ne u h]; exact hlt i hi
            · intro i hi; rw [set1_ne u (by omega)]; exact hzero i hi
            · exact inner_step (q := 1) (j := 3) (by omega) HB.out.2.2.2 hstep hsum
          case measure => simp [intOf]
        · have HH := hidden (p := _ ∧ _ ∧ _) ⟨hlt, hzero, hsum⟩
          have hcell : wr.cell? ⟨w.heap.size + 1 + 1 + 1, 5, none⟩ = some (.int .u64 (u 5 : Nat)) := by rw [cell_of_row wr _ 5 _ 99 (0, 0) hu, W8_get u (by omega)]
          clear hlt hzero hsum
          go_wp2
          go_roundw
          case rel =>
            obtain ⟨hlt, hzero, hsum⟩ := HH.out
            refine ⟨2, set1 u 5 c, by omega, by go_num, ?_, ?_, ?_, outer_step (q := 1) (by omega) HA.out.2.1 HR.out.2.2 (hzero _ (by omega)) hsum, hbi.setCell (by simp) _⟩
            · rw [← W8_set u c (by omega)]; exact heap_setCell_same _ _ 5 _ 99 _ hu
            · intro i hi
              by_cases h : i = 5
              · subst h; rw [set1_eq]; exact hc
              · rw [set1_ne u h]; exact hlt i hi
            · intro i hi; rw [set1_ne u (by omega)]; exact hzero i (by omega)
          case measure => simp [intOf]
    · go_wp2
      go_loopw [20, 8] (fun i o wr => ∃ (j c : Nat) (u : Nat → Nat), j ≤ 4 ∧ i = .int .i64 j ∧ o = .int .u64 c ∧ c < 18446744073709551616 ∧ wr.heap[w.heap.size + 1 + 1 + 1]? = some (.cells (W8 u) 99 (0, 0)) ∧
          (∀ j, j < 8 → u j < 18446744073709551616) ∧ (∀ j, 6 ≤ j → u j = 0) ∧ lim u 8 + c * 18446744073709551616 ^ (2 + j) = x % 18446744073709551616 ^ 2 * y + a2 * (y % 18446744073709551616 ^ j) * 18446744073709551616 ^ 2 ∧
          Below (w.heap.size + 1 + 1 + 1) (((w.alloc (.cells #[.int .u64 a0, .int .u64 a1, .int .u64 a2, .int .u64 a3] 28)).alloc (.cells #[.int .u64 b0, .int .u64 b1, .int .u64 b2, .int .u64 b3] 28)).alloc (.cells #[.int .u64 0, .int .u64 0, .int .u64 0, .int .u64 0, .int .u64 0, .int .u64 0, .int .u64 0, .int .u64 0] 99)) wr)
        (fun i _ _ => 4 - (intOf i).toNat)
      case atStart => exact ⟨0, 0, p, by omega, rfl, rfl, by omega, hp, HP.out.1, HP.out.2.1, by rw [HP.out.2.2]; simp [Nat.mod_one], hbel⟩
      case round =>
        obtain ⟨j, c, u, hj, rfl, rfl, hc, hu, hlt, hzero, hsum, hbi⟩ := hrel
        clear hp hbel HP q0 q1 q2 q3 hsz
        have hz : ∀ j, wr.frozen? ⟨w.heap.size + 1 + 1 + 1, j, none⟩ = false := fun j => frozen_of_row wr _ j _ 99 hu
        have h : j = 0 ∨ j = 1 ∨ j = 2 ∨ j = 3 ∨ j = 4 := by omega
        clear hj
        rcases h with rfl | rfl | rfl | rfl | rfl
        · have hcell : wr.cell? ⟨w.heap.size + 1 + 1 + 1, 2, none⟩ = some (.int .u64 (u 2 : Nat)) := by rw [cell_of_row wr _ 2 _ 99 (0, 0) hu, W8_get u (by omega)]
          obtain ⟨hi, lo, s0, c0, s1, c1, k1, k2, k3, hcar, hs1, hstep⟩ := step64 (x := a2) (y := b0) (p := u 2) (c := c) (by rw [← HA.out.2.2.1]; exact lm_lt _ _) (by rw [← HB.out.1]; exact lm_lt _ _) (hlt 2 (by omega)) hc
          have HH := hidden (p := _ ∧ _ ∧ _ ∧ _ ∧ _) ⟨hlt, hzero, hsum, hs1, hstep⟩
          clear hlt hzero hsum hs1 hstep
          go_wp2_with (go_at_call 114; refine (k1 _).mono ?_; rintro e wj ⟨rfl, rfl⟩)
          refine ⟨?rel, ?measure⟩
          case rel =>
            repeat apply Exists.intro
            refine And.intro ?_ rfl
            obtain ⟨hlt, hzero, hsum, hs1, hstep⟩ := HH.out
            refine ⟨1, hi + c0 + c1, set1 u 2 s1, by omega, by go_num, by go_num, hcar, ?_, ?_, ?_, ?_, hbi.setCell (by simp) _⟩
            · rw [← W8_set u s1 (by omega)]; exact heap_setCell_same _ _ 2 _ 99 _ hu
            · intro i hi
              by_cases h : i = 2
              · subst h; rw [set1_eq]; exact hs1
              · rw [set1_ne u h]; exact hlt i hi
            · intro i hi; rw [set1_ne u (by omega)]; exact hzero i hi
            · exact inner_step (q := 2) (j := 0) (by omega) HB.out.1 hstep hsum
          case measure => simp [intOf]
        · have hcell : wr.cell? ⟨w.heap.size + 1 + 1 + 1, 3, none⟩ = some (.int .u64 (u 3 : Nat)) := by rw [cell_of_row wr _ 3 _ 99 (0, 0) hu, W8_get u (by omega)]
          obtain ⟨hi, lo, s0, c0, s1, c1, k1, k2, k3, hcar, hs1, hstep⟩ := step64 (x := a2) (y := b1) (p := u 3) (c := c) (by rw [← HA.out.2.2.1]; exact lm_lt _ _) (by rw [← HB.out.2.1]; exact lm_lt _ _) (hlt 3 (by omega)) hc
          have HH := hidden (p := _ ∧ _ ∧ _ ∧ _ ∧ _) ⟨hlt, hzero, hsum, hs1, hstep⟩
          clear hlt hzero hsum hs1 hstep
          go_wp2_with (go_at_call 114; refine (k1 _).mono ?_; rintro e wj ⟨rfl, rfl⟩)
          refine ⟨?rel, ?measure⟩
          case rel =>
            repeat apply Exists.intro
            refine And.intro ?_ rfl
            obtain ⟨hlt, hzero, hsum, hs1, hstep⟩ := HH.out
            refine ⟨2, hi + c0 + c1, set1 u 3 s1, by omega, by go_num, by go_num, hcar, ?_, ?_, ?_, ?_, hbi.setCell (by simp) _⟩
            · rw [← W8_set u s1 (by omega)]; exact heap_setCell_same _ _ 3 _ 99 _ hu
            · intro i hi
              by_cases h : i = 3
              · subst h; rw [set1_eq]; exact hs1
              · rw [set1_ne u h]; exact hlt i hi
            · intro i hi; rw [set1_ne u (by omega)]; exact hzero i hi
            · exact inner_step (q := 2) (j := 1) (by omega) HB.out.2.1 hstep hsum
          case measure => simp [intOf]
        · have hcell : wr.cell? ⟨w.heap.size + 1 + 1 + 1, 4, none⟩ = some (.int .u64 (u 4 : Nat)) := by rw [cell_of_row wr _ 4 _ 99 (0, 0) hu, W8_get u (by omega)]
          obtain ⟨hi, lo, s0, c0, s1, c1, k1, k2, k3, hcar, hs1, hstep⟩ := step64 (x := a2) (y := b2) (p := u 4) (c := c) (by rw [← HA.out.2.2.1]; exact lm_lt _ _) (by rw [← HB.out.2.2.1]; exact lm_lt _ _) (hlt 4 (by omega)) hc
          have HH := hidden (p := _ ∧ _ ∧ _ ∧ _ ∧ _) ⟨hlt, hzero, hsum, hs1, hstep⟩
          clear hlt hzero hsum hs1 hstep
          go_wp2_with (go_at_call 114; refine (k1 _).mono ?_; rintro e wj ⟨rfl, rfl⟩)
          refine ⟨?rel, ?measure⟩
          case rel =>
            repeat apply Exists.intro
            refine And.intro ?_ rfl
            obtain ⟨hlt, hzero, hsum, hs1, hstep⟩ := HH.out
            refine ⟨3, hi + c0 + c1, set1 u 4 s1, by omega, by go_num, by go_num, hcar, ?_, ?_, ?_, ?_, hbi.setCell (by simp) _⟩
            · rw [← W8_set u s1 (by omega)]; exact heap_setCell_same _ _ 4 _ 99 _ hu
            · intro i hi
              by_cases h : i = 4
              · subst h; rw [set1_eq]; exact hs1
              · rw [set1_ne u h]; exact hlt i hi
            · intro i hi; rw [set1_ne u (by omega)]; exact hzero i hi
            · exact inner_step (q := 2) (j := 2) (by omega) HB.out.2.2.1 hstep hsum
          case measure => simp [intOf]
        · have hcell : wr.cell? ⟨w.heap.size + 1 + 1 + 1, 5, none⟩ = some (.int .u64 (u 5 : Nat)) := by rw [cell_of_row wr _ 5 _ 99 (0, 0) hu, W8_get u (by omega)]
          obtain ⟨hi, lo, s0, c0, s1, c1, k1, k2, k3, hcar, hs1, hstep⟩ := step64 (x := a2) (y := b3) (p := u 5) (c := c) (by rw [← HA.out.2.2.1]; exact lm_lt _ _) (by rw [← HB.out.2.2.2]; exact lm_lt _ _) (hlt 5 (by omega)) hc
          have HH := hidden (p := _ ∧ _ ∧ _ ∧ _ ∧ _) ⟨hlt, hzero, hsum, hs1, hstep⟩
          clear hlt hzero hsum hs1 hstep
          go_wp2_with (go_at_call 114; refine (k1 _).mono ?_; rintro e wj ⟨rfl, rfl⟩)
          refine ⟨?rel, ?measure⟩
          case rel =>
            repeat apply Exists.intro
            refine And.intro ?_ rfl
            obtain ⟨hlt, hzero, hsum, hs1, hstep⟩ := HH.out
            refine ⟨4, hi + c0 + c1, set1 u 5 s1, by omega, by go_num, by go_num, hcar, ?_, ?_, ?_, ?_, hbi.setCell (by simp) _⟩
            · rw [← W8_set u s1 (by omega)]; exact heap_setCell_same _ _ 5 _ 99 _ hu
            · intro i hi
              by_cases h : i = 5
              · subst h; rw [set1_eq]; exact hs1
              · rw [set1_ne u h]; exact hlt i hi
            · intro i hi; rw [set1_ne u (by omega)]; exact hzero i hi
            · exact inner_step (q := 2) (j := 3) (by omega) HB.out.2.2.2 hstep hsum
          case measure => simp [intOf]
        · have HH := hidden (p := _ ∧ _ ∧ _) ⟨hlt, hzero, hsum⟩
          have hcell : wr.cell? ⟨w.heap.size + 1 + 1 + 1, 6, none⟩ = some (.int .u64 (u 6 : Nat)) := by rw [cell_of_row wr _ 6 _ 99 (0, 0) hu, W8_get u (by omega)]
          clear hlt hzero hsum
          go_wp2
          go_roundw
          case rel =>
            obtain ⟨hlt, hzero, hsum⟩ := HH.out
            refine ⟨3, set1 u 6 c, by omega, by go_num, ?_, ?_, ?_, outer_step (q := 2) (by omega) HA.out.2.2.1 HR.out.2.2 (hzero _ (by omega)) hsum, hbi.setCell (by simp) _⟩
            · rw [← W8_set u c (by omega)]; exact heap_setCell_same _ _ 6 _ 99 _ hu
            · intro i hi
              by_cases h : i = 6
              · subst h; rw [set1_eq]; exact hc
              · rw [set1_ne u h]; exact hlt i hi
            · intro i hi; rw [set1_ne u (by omega)]; exact hzero i (by omega)
          case measure => simp [intOf]
    · go_wp2
      go_loopw [20, 8] (fun i o wr => ∃ (j c : Nat) (u : Nat → Nat), j ≤ 4 ∧ i = .int .i64 j ∧ o = .int .u64 c ∧ c < 18446744073709551616 ∧ wr.heap[w.heap.size + 1 + 1 + 1]? = some (.cells (W8 u) 99 (0, 0)) ∧
          (∀ j, j < 8 → u j < 18446744073709551616) ∧ (∀ j, 7 ≤ j → u j = 0) ∧ lim u 8 + c * 18446744073709551616 ^ (3 + j) = x % 18446744073709551616 ^ 3 * y + a3 * (y % 18446744073709551616 ^ j) * 18446744073709551616 ^ 3 ∧
          Below (w.heap.size + 1 + 1 + 1) (((w.alloc (.cells #[.int .u64 a0, .int .u64 a1, .int .u64 a2, .int .u64 a3] 28)).alloc (.cells #[.int .u64 b0, .int .u64 b1, .int .u64 b2, .int .u64 b3] 28)).alloc (.cells #[.int .u64 0, .int .u64 0, .int .u64 0, .int .u64 0, .int .u64 0, .int .u64 0, .int .u64 0, .int .u64 0] 99)) wr)
        (fun i _ _ => 4 - (intOf i).toNat)
      case atStart => exact ⟨0, 0, p, by omega, rfl, rfl, by omega, hp, HP.out.1, HP.out.2.1, by rw [HP.out.2.2]; simp [Nat.mod_one], hbel⟩
      case round =>
        obtain ⟨j, c, u, hj, rfl, rfl, hc, hu, hlt, hzero, hsum, hbi⟩ := hrel
        clear hp hbel HP q0 q1 q2 q3 hsz
        have hz : ∀ j, wr.frozen? ⟨w.heap.size + 1 + 1 + 1, j, none⟩ = false := fun j => frozen_of_row wr _ j _ 99 hu
        have h : j = 0 ∨ j = 1 ∨ j = 2 ∨ j = 3 ∨ j = 4 := by omega
        clear hj
        rcases h with rfl | rfl | rfl | rfl | rfl
        · have hcell : wr.cell? ⟨w.heap.size + 1 + 1 + 1, 3, none⟩ = some (.int .u64 (u 3 : Nat)) := by rw [cell_of_row wr _ 3 _ 99 (0, 0) hu, W8_get u (by omega)]
          obtain ⟨hi, lo, s0, c0, s1, c1, k1, k2, k3, hcar, hs1, hstep⟩ := step64 (x := a3) (y := b0) (p := u 3) (c := c) (by rw [← HA.out.2.2.2]; exact lm_lt _ _) (by rw [← HB.out.1]; exact lm_lt _ _) (hlt 3 (by omega)) hc
          have HH := hidden (p := _ ∧ _ ∧ _ ∧ _ ∧ _) ⟨hlt, hzero, hsum, hs1, hstep⟩
          clear hlt hzero hsum hs1 hstep
          go_wp2_with (go_at_call 114; refine (k1 _).mono ?_; rintro e wj ⟨rfl, rfl⟩)
          refine ⟨?rel, ?measure⟩
          case rel =>
            repeat apply Exists.intro
            refine And.intro ?_ rfl
            obtain ⟨hlt, hzero, hsum, hs1, hstep⟩ := HH.out
            refine ⟨1, hi + c0 + c1, set1 u 3 s1, by omega, by go_num, by go_num, hcar, ?_, ?_, ?_, ?_, hbi.setCell (by simp) _⟩
            · rw [← W8_set u s1 (by omega)]; exact heap_setCell_same _ _ 3 _ 99 _ hu
            · intro i hi
              by_cases h : i = 3
              · subst h; rw [set1_eq]; exact hs1
              · rw [set1_ne u h]; exact hlt i hi
            · intro i hi; rw [set1_ne u (by omega)]; exact hzero i hi
            · exact inner_step (q := 3) (j := 0) (by omega) HB.out.1 hstep hsum
          case measure => simp [intOf]
        · have hcell : wr.cell? ⟨w.heap.size + 1 + 1 + 1, 4, none⟩ = some (.int .u64 (u 4 : Nat)) := by rw [cell_of_row wr _ 4 _ 99 (0, 0) hu, W8_get u (by omega)]
          obtain ⟨hi, lo, s0, c0, s1, c1, k1, k2, k3, hcar, hs1, hstep⟩ := step64 (x := a3) (y := b1) (p := u 4) (c := c) (by rw [← HA.out.2.2.2]; exact lm_lt _ _) (by rw [← HB.out.2.1]; exact lm_lt _ _) (hlt 4 (by omega)) hc
          have HH := hidden (p := _ ∧ _ ∧ _ ∧ _ ∧ _) ⟨hlt, hzero, hsum, hs1, hstep⟩
          clear hlt hzero hsum hs1 hstep
          go_wp2_with (go_at_call 114; refine (k1 _).mono ?_; rintro e wj ⟨rfl, rfl⟩)
          refine ⟨?rel, ?measure⟩
          case rel =>
            repeat apply Exists.intro
            refine And.intro ?_ rfl
            obtain ⟨hlt, hzero, hsum, hs1, hstep⟩ := HH.out
            refine ⟨2, hi + c0 + c1, set1 u 4 s1, by omega, by go_num, by go_num, hcar, ?_, ?_, ?_, ?_, hbi.setCell (by simp) _⟩
            · rw [← W8_set u s1 (by omega)]; exact heap_setCell_same _ _ 4 _ 99 _ hu
            · intro i hi
              by_cases h : i = 4
              · subst h; rw [set1_eq]; exact hs1
              · rw [set1_ne u h]; exact hlt i hi
            · intro i hi; rw [set1_ne u (by omega)]; exact hzero i hi
            · exact inner_step (q := 3) (j := 1) (by omega) HB.out.2.1 hstep hsum
          case measure => simp [intOf]
        · have hcell : wr.cell? ⟨w.heap.size + 1 + 1 + 1, 5, none⟩ = some (.int .u64 (u 5 : Nat)) := by rw [cell_of_row wr _ 5 _ 99 (0, 0) hu, W8_get u (by omega)]
          obtain ⟨hi, lo, s0, c0, s1, c1, k1, k2, k3, hcar, hs1, hstep⟩ := step64 (x := a3) (y := b2) (p := u 5) (c := c) (by rw [← HA.out.2.2.2]; exact lm_lt _ _) (by rw [← HB.out.2.2.1]; exact lm_lt _ _) (hlt 5 (by omega)) hc
          have HH := hidden (p := _ ∧ _ ∧ _ ∧ _ ∧ _) ⟨hlt, hzero, hsum, hs1, hstep⟩
          clear hlt hzero hsum hs1 hstep
          go_wp2_with (go_at_call 114; refine (k1 _).mono ?_; rintro e wj ⟨rfl, rfl⟩)
          refine ⟨?rel, ?measure⟩
          case rel =>
            repeat apply Exists.intro
            refine And.intro ?_ rfl
            obtain ⟨hlt, hzero, hsum, hs1, hstep⟩ := HH.out
            refine ⟨3, hi + c0 + c1, set1 u 5 s1, by omega, by go_num, by go_num, hcar, ?_, ?_, ?_, ?_, hbi.setCell (by simp) _⟩
            · rw [← W8_set u s1 (by omega)]; exact heap_setCell_same _ _ 5 _ 99 _ hu
            · intro i hi
              by_cases h : i = 5
              · subst h; rw [set1_eq]; exact hs1
              · rw [set1_ne u h]; exact hlt i hi
            · intro i hi; rw [set1_ne u (by omega)]; exact hzero i hi
            · exact inner_step (q := 3) (j := 2) (by omega) HB.out.2.2.1 hstep hsum
          case measure => simp [intOf]
        · have hcell : wr.cell? ⟨w.heap.size + 1 + 1 + 1, 6, none⟩ = some (.int .u64 (u 6 : Nat)) := by rw [cell_of_row wr _ 6 _ 99 (0, 0) hu, W8_get u (by omega)]
          obtain ⟨hi, lo, s0, c0, s1, c1, k1, k2, k3, hcar, hs1, hstep⟩ := step64 (x := a3) (y := b3) (p := u 6) (c := c) (by rw [← HA.out.2.2.2]; exact lm_lt _ _) (by rw [← HB.out.2.2.2]; exact lm_lt _ _) (hlt 6 (by omega)) hc
          have HH := hidden (p := _ ∧ _ ∧ _ ∧ _ ∧ _) ⟨hlt, hzero, hsum, hs1, hstep⟩
          clear hlt hzero hsum hs1 hstep
          go_wp2_with (go_at_call 114; refine (k1 _).mono ?_; rintro e wj ⟨rfl, rfl⟩)
          refine ⟨?rel, ?measure⟩
          case rel =>
            repeat apply Exists.intro
            refine And.intro ?_ rfl
            obtain ⟨hlt, hzero, hsum, hs1, hstep⟩ := HH.out
            refine ⟨4, hi + c0 + c1, set1 u 6 s1, by omega, by go_num, by go_num, hcar, ?_, ?_, ?_, ?_, hbi.setCell (by simp) _⟩
            · rw [← W8_set u s1 (by omega)]; exact heap_setCell_same _ _ 6 _ 99 _ hu
            · intro i hi
              by_cases h : i = 6
              · subst h; rw [set1_eq]; exact hs1
              · rw [set1_ne u h]; exact hlt i hi
            · intro i hi; rw [set1_ne u (by omega)]; exact hzero i hi
            · exact inner_step (q := 3) (j := 3) (by omega) HB.out.2.2.2 hstep hsum
          case measure => simp [intOf]
        · have HH := hidden (p := _ ∧ _ ∧ _) ⟨hlt, hzero, hsum⟩
          have hcell : wr.cell? ⟨w.heap.size + 1 + 1 + 1, 7, none⟩ = some (.int .u64 (u 7 : Nat)) := by rw [cell_of_row wr _ 7 _ 99 (0, 0) hu, W8_get u (by omega)]
          clear hlt hzero hsum
          go_wp2
          go_roundw
          case rel =>
            obtain ⟨hlt, hzero, hsum⟩ := HH.out
            refine ⟨4, set1 u 7 c, by omega, by go_num, ?_, ?_, ?_, outer_step (q := 3) (by omega) HA.out.2.2.2 HR.out.2.2 (hzero _ (by omega)) hsum, hbi.setCell (by simp) _⟩
            · rw [← W8_set u c (by omega)]; exact heap_setCell_same _ _ 7 _ 99 _ hu
            · intro i hi
              by_cases h : i = 7
              · subst h; rw [set1_eq]; exact hc
              · rw [set1_ne u h]; exact hlt i hi
            · intro i hi; rw [set1_ne u (by omega)]; exact hzero i (by omega)
          case measure => simp [intOf]
    · obtain ⟨m0, m1, m2, m3, m4, m5, m6, m7, -⟩ := cells8 hp
      obtain ⟨z0, z1, z2, z3, z4, z5, z6, z7, zz⟩ := cells8 ((hbel.block (w.heap.size + 1 + 1) (by omega)).trans (three _ _ _ _ _ _ _).2.2)
      have HQ : Hid (r = .agg (W8 p)) := by
        show r = .agg (W8 p)
        obtain ⟨hlt, -, hsum⟩ := HP.out
        have e : x % 18446744073709551616 ^ 4 = x := Nat.mod_eq_of_lt HR.out.2.1
        rw [e] at hsum
        rw [← HR.out.1, ← hsum, PV_lim hlt]
      have HD := hidden hbel
      clear HP hbel hp q0 q1 q2 q3
      unfold W8 at HQ
      go_wp2
      refine bodyPost_ret (v := .agg #[.int .u64 (p 0 : Nat), .int .u64 (p 1 : Nat), .int .u64 (p 2 : Nat), .int .u64 (p 3 : Nat), .int .u64 (p 4 : Nat), .int .u64 (p 5 : Nat), .int .u64 (p 6 : Nat), .int .u64 (p 7 : Nat)]) (by simp [results, Try.results101, go_sem, z0, z1, z2, z3, z4, z5, z6, z7]) rfl ⟨congrArg Ending.returned HQ.out.symm, ?_⟩
      have K := (Below.alloc (Below.alloc (Below.alloc (Below.refl w.heap.size w) (Nat.le_refl _) (.cells #[.int .u64 a0, .int .u64 a1, .int .u64 a2, .int .u64 a3] 28)) (by simp) (.cells #[.int .u64 b0, .int .u64 b1, .int .u64 b2, .int .u64 b3] 28)) (by simp; omega) (.cells #[.int .u64 0, .int .u64 0, .int .u64 0, .int .u64 0, .int .u64 0, .int .u64 0, .int .u64 0, .int .u64 0] 99)).trans (HD.out.mono (by omega))
      exact (((((((K.setCell (by simp; omega) _).setCell (by simp; omega) _).setCell (by simp; omega) _).setCell (by simp; omega) _).setCell (by simp; omega) _).setCell (by simp; omega) _).setCell (by simp; omega) _).setCell (by simp; omega) _

end Go.Proofs.Ytmjdmhelmgcanaa

/- num's product.low: the product, if it fits. -/
namespace Go.Proofs.Ytmjdmhelmgcanaa
open Go.RowKit

theorem arr27 (b o : Nat) (w : World) : (Instr.arrayAt 27 (.slice (some ⟨b, o, none⟩) 4 4)).run Try.prog w = .ok (.pointer (some ⟨b, o, none⟩)) w := by kernel_rfl
theorem arr28 (b o : Nat) (c : Nat) (w : World) : (Instr.arrayAt 28 (.slice (some ⟨b, o, none⟩) 4 c)).run Try.prog w = .ok (.pointer (some ⟨b, o, none⟩)) w := by kernel_rfl

theorem eq27 (d : Nat) (a0 a1 a2 a3 b0 b1 b2 b3 : Int) (w : World) : (Op.equalIn (d + 2) 27 (.agg #[.int .u64 a0, .int .u64 a1, .int .u64 a2, .int .u64 a3]) (.agg #[.int .u64 b0, .int .u64 b1, .int .u64 b2, .int .u64 b3])).run Try.prog w = .ok (decide (a0 = b0 ∧ a1 = b1 ∧ a2 = b2 ∧ a3 = b3)) w := by
  unfold Op.equalIn
  have r : List.range' 0 4 = [0, 1, 2, 3] := rfl
  simp only [go_sem, Std.Legacy.Range.forIn_eq_forIn_range', Std.Legacy.Range.size]
  simp [go_sem, r]
  by_cases h0 : a0 = b0
  · by_cases h1 : a1 = b1
    · by_cases h2 : a2 = b2
      · by_cases h3 : a3 = b3
        · subst h0 h1 h2 h3; simp [go_sem]
        · simp [go_sem, h0, h1, h2, h3]
      · simp [go_sem, h0, h1, h2]
    · simp [go_sem, h0, h1]
  · simp [go_sem, h0]

set_option maxHeartbeats 2000000 in
set_option maxRecDepth 1000000 in
theorem low_low (a0 a1 a2 a3 a4 a5 a6 a7 : Nat) (w : World) (h : a4 = 0 ∧ a5 = 0 ∧ a6 = 0 ∧ a7 = 0) :
    Calls Try.prog 102 #[.agg #[.int .u64 a0, .int .u64 a1, .int .u64 a2, .int .u64 a3, .int .u64 a4, .int .u64 a5, .int .u64 a6, .int .u64 a7]] w fun e w' => e = .returned (.tuple #[V4 a0 a1 a2 a3, .int .i64 0]) ∧ Below w.heap.size w w' := by
  have x27 := arr27
  have x28 := arr28
  have e27 : ∀ w, (Op.equalIn 10000 27 (.agg #[.int .u64 a4, .int .u64 a5, .int .u64 a6, .int .u64 a7]) (.agg #[.int .u64 0, .int .u64 0, .int .u64 0, .int .u64 0])).run Try.prog w = .ok true w := fun w => by
    rw [show (10000 : Nat) = 9998 + 2 from rfl, eq27]; congr 1; exact decide_eq_true (by omega)
  unfold V4
  clear h
  go_enter Try.func102, Try.ntmps102
  go_wp2
  refine bodyPost_ret (v := .tuple #[.agg #[.int .u64 a0, .int .u64 a1, .int .u64 a2, .int .u64 a3], .int .i64 0]) (by simp [results, Try.results102, go_sem]) rfl ⟨rfl, ?_⟩
  repeat (first | exact Below.refl _ _ | refine Below.setCell ?_ (by simp) _ | refine Below.alloc ?_ (by simp <;> omega) _ | refine Below.drew ?_)

set_option maxHeartbeats 2000000 in
set_option maxRecDepth 1000000 in
theorem low_high (a0 a1 a2 a3 a4 a5 a6 a7 : Nat) (w : World) (h : ¬ (a4 = 0 ∧ a5 = 0 ∧ a6 = 0 ∧ a7 = 0)) :
    Calls Try.prog 102 #[.agg #[.int .u64 a0, .int .u64 a1, .int .u64 a2, .int .u64 a3, .int .u64 a4, .int .u64 a5, .int .u64 a6, .int .u64 a7]] w fun e w' => e = .returned (.tuple #[V4 0 0 0 0, .int .i64 2]) ∧ Below w.heap.size w w' := by
  have x27 := arr27
  have x28 := arr28
  have e27 : ∀ w, (Op.equalIn 10000 27 (.agg #[.int .u64 a4, .int .u64 a5, .int .u64 a6, .int .u64 a7]) (.agg #[.int .u64 0, .int .u64 0, .int .u64 0, .int .u64 0])).run Try.prog w = .ok false w := fun w => by
    rw [show (10000 : Nat) = 9998 + 2 from rfl, eq27]; congr 1; exact decide_eq_false (by omega)
  unfold V4
  clear h
  go_enter Try.func102, Try.ntmps102
  go_wp2
  refine bodyPost_ret (v := .tuple #[.agg #[.int .u64 0, .int .u64 0, .int .u64 0, .int .u64 0], .int .i64 2]) (by simp [results, Try.results102, go_sem]) rfl ⟨rfl, ?_⟩
  repeat (first | exact Below.refl _ _ | refine Below.setCell ?_ (by simp) _ | refine Below.alloc ?_ (by simp <;> omega) _ | refine Below.drew ?_)

theorem PV_parts (z : Nat) : PV z = .agg #[.int .u64 (lm z 0 : Nat), .int .u64 (lm z 1 : Nat), .int .u64 (lm z 2 : Nat), .int .u64 (lm z 3 : Nat), .int .u64 (lm z 4 : Nat), .int .u64 (lm z 5 : Nat), .int .u64 (lm z 6 : Nat), .int .u64 (lm z 7 : Nat)] := by
  simp [PV, limbs]
theorem top_pow : (18446744073709551616 : Nat) ^ 4 = TOP := rfl
theorem lm_high (z j : Nat) : lm z (4 + j) = lm (z / TOP) j := by
  unfold lm; rw [Nat.pow_add, ← Nat.div_div_eq_div_mul, top_pow]
theorem high_zero {z : Nat} (hz : z < TOP * TOP) : (lm z 4 = 0 ∧ lm z 5 = 0 ∧ lm z 6 = 0 ∧ lm z 7 = 0) ↔ z < TOP := by
  have hh : z / TOP < TOP := Nat.div_lt_of_lt_mul hz
  have e4 : lm z 4 = lm (z / TOP) 0 := lm_high z 0
  have e5 : lm z 5 = lm (z / TOP) 1 := lm_high z 1
  have e6 : lm z 6 = lm (z / TOP) 2 := lm_high z 2
  have e7 : lm z 7 = lm (z / TOP) 3 := lm_high z 3
  rw [e4, e5, e6, e7]
  have hm := mk4_lm hh
  constructor
  · rintro ⟨h0, h1, h2, h3⟩
    rw [h0, h1, h2, h3] at hm
    have h0 : z / TOP = 0 := by rw [← hm]; rfl
    exact (Nat.div_eq_zero_iff_lt top_pos).1 h0
  · intro h
    rw [Nat.div_eq_of_lt h]
    exact ⟨rfl, rfl, rfl, rfl⟩

theorem low_calls (z : Nat) (hz : z < TOP * TOP) (w : World) :
    Calls Try.prog 102 #[PV z] w fun e w' => e = .returned (if z < TOP then .tuple #[V z, .int .i64 0] else .tuple #[V 0, .int .i64 2]) ∧ Below w.heap.size w w' := by
  rw [PV_parts]
  by_cases h : z < TOP
  · rw [if_pos h]
    exact low_low _ _ _ _ _ _ _ _ w ((high_zero hz).2 h)
  · rw [if_neg h]
    have hV0 : V 0 = V4 0 0 0 0 := V_mk4 (a := 0) (b := 0) (c := 0) (d := 0) (by omega) (by omega) (by omega) (by omega)
    rw [hV0]
    exact low_high _ _ _ _ _ _ _ _ w (fun hn => h ((high_zero hz).1 hn))

end Go.Proofs.Ytmjdmhelmgcanaa

/- num's product, its lower half, the division, as the machine's contracts; Mul and MulDiv. -/
namespace Go.Proofs.Ytmjdmhelmgcanaa
namespace M
open Go.RowKit

def W (z : Nat) : List Av := [.big 8 z]
def lowK : PCon
  | [[.big 8 z]] => some [(z < TOP, .tup [N z, E 0]), (TOP ≤ z, .tup [N 0, E 2])]
  | _ => none
def byK : PCon
  | [[.big 8 z], [.big 4 c]] => some [(0 < c, .tup [W (z / c), N (z % c)])]
  | _ => none
def smallK : PCon
  | [[.lit .u64 n]] => some [(0 ≤ n ∧ n < 18446744073709551616, .one (N n.toNat))]
  | [[.int .u64 n]] => some [(0 ≤ n ∧ n < 18446744073709551616, .one (N n.toNat))]
  | _ => none
def eTimes : Entry := ⟨101, 0, pcon (k2 fun x y => [(True, .one (W (x * y)))])⟩
def eLow : Entry := ⟨102, 0, pcon lowK⟩
def eBy : Entry := ⟨104, 0, pcon byK⟩
def eNOf : Entry := ⟨97, 0, pcon smallK⟩
def eSmall : Entry := ⟨78, 0, pcon smallK⟩
def tabT : List Entry := eTimes :: eLow :: eBy :: eNOf :: eSmall :: tabA

theorem denL_W (ρ : Env) (z : Nat) : denL ρ (W z) = PV z := by rw [PV_parts]; simp [W, denL, Av.val, words]
theorem pow64_8 : pow64 8 = TOP * TOP := by
  show (18446744073709551616 : Nat) ^ 8 = TOP * TOP
  rw [← top_pow, ← Nat.pow_add]
theorem W_plain {z : Nat} (h : z < TOP * TOP) : ∀ a ∈ W z, a.plain := by
  intro a ha
  simp only [W, List.mem_singleton] at ha
  subst ha
  show z < pow64 8
  rw [pow64_8]
  exact h
theorem W_lt {args : List (List Av)} (h : ∀ A ∈ args, ∀ a ∈ A, a.name = none → a.plain) {x : Nat} (hx : [Av.big 8 x] ∈ args) : x < TOP * TOP := by
  rw [← pow64_8]
  exact h _ hx (.big 8 x) List.mem_cons_self rfl

theorem times_e : EOK eTimes := by
  refine k2_ok (fun a w => Try.call101 a w) fun x y hx hy p hp hc => ?_
  simp only [List.mem_cons, List.not_mem_nil, or_false] at hp
  subst hp
  refine ⟨W_plain (Nat.mul_lt_mul_of_lt_of_lt hx hy), fun ρ w => ?_⟩
  simp only [List.map_cons, List.map_nil, denL_num]
  refine (times_calls x y hx hy w).mono ?_
  rintro e w' ⟨rfl, hb⟩
  exact ⟨hb, by simp only [Sv.den, denL_W]⟩
theorem low_e : EOK eLow := by
  refine pcon_ok (fun a w => Try.call102 a w) fun args l hl ha p hp hc => ?_
  unfold lowK at hl
  split at hl
  · rename_i z
    have hz := W_lt ha (x := z) (by simp)
    cases hl
    simp only [List.mem_cons, List.not_mem_nil, or_false] at hp
    rcases hp with rfl | rfl
    · refine ⟨plain2 hc (E_plain _), fun ρ w => ?_⟩
      show Calls Try.prog 102 (#[denL ρ (W z)]) w _
      rw [denL_W]
      refine (low_calls z hz w).mono ?_
      rintro e w' ⟨rfl, hb⟩
      have hc' : z < TOP := hc
      exact ⟨hb, by simp only [if_pos hc', Sv.den, List.map_cons, List.map_nil, denL_num]; rfl⟩
    · refine ⟨plain2 top_pos (E_plain _), fun ρ w => ?_⟩
      show Calls Try.prog 102 (#[denL ρ (W z)]) w _
      rw [denL_W]
      refine (low_calls z hz w).mono ?_
      rintro e w' ⟨rfl, hb⟩
      have hn : ¬ z < TOP := Nat.not_lt.2 hc
      exact ⟨hb, by simp only [if_neg hn, Sv.den, List.map_cons, List.map_nil, denL_num]; rfl⟩
  · cases hl
theorem by_e : EOK eBy := by
  refine pcon_ok (fun a w => Try.call104 a w) fun args l hl ha p hp hc => ?_
  unfold byK at hl
  split at hl
  · rename_i z c
    have hz := W_lt ha (x := z) (by simp)
    have hct := big_lt ha (x := c) (by simp)
    cases hl
    simp only [List.mem_cons, List.not_mem_nil, or_false] at hp
    subst hp
    have hc0 : 0 < c := hc
    have hq : z / c ≤ z := Nat.div_le_self _ _
    have hm : z % c < c := Nat.mod_lt _ hc0
    have hpl : (Sv.tup [W (z / c), N (z % c)]).all Av.plain := by
      intro m hm
      simp only [List.mem_cons, List.not_mem_nil, or_false] at hm
      rcases hm with rfl | rfl
      · exact W_plain (by omega)
      · exact N_plain (by omega)
    refine ⟨hpl, fun ρ w => ?_⟩
    exact pure_calls' (ctx_ok tabB_ok 48) Try.func104 (c := bodyOf Try.f104) rfl rfl (args := [W z, N c]) (Nat.le_of_ble_eq_true (by kernel_rfl)) (fun l hl => by
      simp only [List.mem_cons, List.not_mem_nil, or_false] at hl
      rcases hl with rfl | rfl
      · exact W_plain hz
      · exact N_plain hct) hpl (fun w0 => by_goes (by rw [pow64_8]; exact hz) hc0 hct) ρ w
  · cases hl
theorem small_e : EOK eSmall ∧ EOK eNOf := by
  have key : ∀ f, (∀ args w, (callFunc f args).run Try.prog w = .ok (.enter f args) w) → (∀ (n : Nat) w, Calls Try.prog f #[.int .u64 n] w fun e w' => e = .returned (V4 n 0 0 0) ∧ Below w.heap.size w w') → EOK ⟨f, 0, pcon smallK⟩ := by
    intro f hcall h
    refine pcon_ok hcall fun args l hl ha p hp hc => ?_
    have ht := top_eq
    unfold smallK at hl
    split at hl
    all_goals
      first
        | cases hl; done
        | rename_i n
          cases hl
          simp only [List.mem_cons, List.not_mem_nil, or_false] at hp
          subst hp
          obtain ⟨h0, h1⟩ := hc
          obtain ⟨k, rfl⟩ := Int.eq_ofNat_of_zero_le h0
          refine ⟨N_plain (by rw [Int.toNat_natCast]; omega), fun ρ w => ?_⟩
          refine (h k w).mono ?_
          rintro e w' ⟨rfl, hb⟩
          refine ⟨hb, ?_⟩
          rw [den_num, Int.toNat_natCast, V_small (by omega)]
  exact ⟨key 78 (fun a w => Try.call78 a w) small_calls, key 97 (fun a w => Try.call97 a w) nof_calls⟩

theorem tabT_ok : TabOK tabT := .cons times_e (.cons low_e (.cons by_e (.cons small_e.2 (.cons small_e.1 tabA_ok))))


theorem mul_goes {w0 : Base} {x y : Nat} (i : Nat) (hc : if i = 0 then x * y < TOP else TOP ≤ x * y) : Goes Try.prog Try.f73.ntmps w0 [.code (bodyOf Try.f73)] .norm (kn (argS 0 [.one (N x), .one (N y)]) [])
    (Fin (ctx tabT 12) Try.f73.results.toList fun v _ => v = if i = 0 then .tup [N (x * y), E 0] else .tup [N 0, E 2]) := by
  by_cases h : i = 0
  · rw [if_pos h] at hc
    simp only [if_pos h]
    exact goes_ret (ctx_ok tabT_ok 12) mixed rfl (orc := way []) (stops := []) (f := 3000) (k := [.code (bodyOf Try.f73)]) (o := .norm) (σ := (kn (argS 0 [.one (N x), .one (N y)]) [])) (cs := [True, True, True, True, True, True, True, x * y < TOP, True, True, True, True]) (o' := .ret) (rs := Try.f73.results.toList) (v := (.tup [N (x * y), E 0])) (H := ([] : List (Nat × Bk))) (by kernel_rfl) (.inr rfl) (by simp [conj, hc]) fun _ _ => rfl
  · rw [if_neg h] at hc
    simp only [if_neg h]
    exact goes_ret (ctx_ok tabT_ok 12) mixed rfl (orc := way [(9, 1)]) (stops := []) (f := 3000) (k := [.code (bodyOf Try.f73)]) (o := .norm) (σ := (kn (argS 0 [.one (N x), .one (N y)]) [])) (cs := [True, True, True, True, True, True, True, TOP ≤ x * y, True, True, True, True]) (o' := .ret) (rs := Try.f73.results.toList) (v := (.tup [N 0, E 2])) (H := ([] : List (Nat × Bk))) (by kernel_rfl) (.inr rfl) (by simp [conj, hc]) fun _ _ => rfl

end M
end Go.Proofs.Ytmjdmhelmgcanaa

/- num.Mul, num.MulDiv. -/
namespace Go.Proofs.Ytmjdmhelmgcanaa
namespace M
open Go.RowKit
set_option linter.unusedSimpArgs false

def mulC (x y : Nat) : List (Prop × Sv) := [(x * y < TOP, .tup [N (x * y), E 0]), (TOP ≤ x * y, .tup [N 0, E 2])]
def eMul : Entry := ⟨73, 0, pcon (k2 mulC)⟩
/-- a division, rounded up -/
def up (a c : Nat) : Nat := (a + (c - 1)) / c
def mdF (x y z : Nat) : List (Prop × Sv) := [(0 < z ∧ x * y / z < TOP, .tup [N (x * y / z), E 0]), (0 < z ∧ TOP ≤ x * y / z, .tup [N 0, E 2]), (z = 0, .tup [N 0, E 1])]
def mdT (x y z : Nat) : List (Prop × Sv) := [(0 < z ∧ up (x * y) z < TOP, .tup [N (up (x * y) z), E 0]), (0 < z ∧ TOP ≤ up (x * y) z, .tup [N 0, E 2]), (z = 0, .tup [N 0, E 1])]
def mdK : PCon
  | [[.big 4 x], [.big 4 y], [.big 4 z], [.bool true]] => some (mdT x y z)
  | [[.big 4 x], [.big 4 y], [.big 4 z], [.bool false]] => some (mdF x y z)
  | _ => none
def eMulDiv : Entry := ⟨75, 0, pcon mdK⟩
def tabM : List Entry := eMul :: eMulDiv :: tabT

theorem up_zero {a c : Nat} (h0 : 0 < c) (h : a % c = 0) : up a c = a / c := by
  unfold up
  have h1 := Nat.div_add_mod a c
  rw [h, Nat.add_zero] at h1
  rw [Nat.add_comm, ← h1, Nat.add_mul_div_left _ _ h0, Nat.mul_div_cancel_left _ h0, Nat.div_eq_of_lt (by omega), Nat.zero_add]
theorem up_more {a c : Nat} (h0 : 0 < c) (h : a % c ≠ 0) : up a c = a / c + 1 := by
  unfold up
  have h1 := Nat.div_add_mod a c
  have h2 := Nat.mod_lt a h0
  have e : a + (c - 1) = (a % c - 1) + c * (a / c + 1) := by rw [Nat.mul_add, Nat.mul_one]; omega
  rw [e, Nat.add_mul_div_left _ _ h0, Nat.div_eq_of_lt (by omega), Nat.zero_add]

theorem mul_owes {x y : Nat} (hx : x < TOP) (hy : y < TOP) :
    Owes 73 [N x, N y] [(x * y < TOP, .tup [N (x * y), E 0]), (TOP ≤ x * y, .tup [N 0, E 2])] := by
  have ht := top_eq
  intro p0 hp0 hc
  simp only [List.mem_cons, List.not_mem_nil, or_false] at hp0
  rcases hp0 with rfl | rfl
  · have hc' : x * y < TOP := hc
    have hpl : (.tup [N (x * y), E 0] : Sv).all Av.plain := by ((first | refine tupP ?_ | refine oneP ?_) <;> first | (first | exact E_plain _ | exact B_plain _ | exact lit_plain _ _ | exact int_plain _ _ | exact N_plain (by omega) | exact N_plain2 (by omega) (by omega) | assumption) | ((repeat' (first | exact argsP_nil | refine argsP_cons ?_ ?_)) <;> (first | exact E_plain _ | exact B_plain _ | exact lit_plain _ _ | exact int_plain _ _ | exact N_plain (by omega) | exact N_plain2 (by omega) (by omega) | assumption)))
    refine ⟨hpl, pure_calls' (ctx_ok tabT_ok 12) Try.func73 (c := bodyOf Try.f73) rfl rfl (args := [N x, N y]) (Nat.le_of_ble_eq_true (by kernel_rfl)) (by ((repeat' (first | exact argsP_nil | refine argsP_cons ?_ ?_)) <;> (first | exact E_plain _ | exact B_plain _ | exact lit_plain _ _ | exact int_plain _ _ | exact N_plain (by omega) | exact N_plain2 (by omega) (by omega) | assumption))) hpl (fun w0 => ?_)⟩
    exact goes_ret (ctx_ok tabT_ok 12) mixed rfl (orc := way []) (stops := []) (f := 3000) (k := [.code (bodyOf Try.f73)]) (o := .norm) (σ := (kn (argS 0 ([N x, N y].map .one)) [])) (cs := [True, True, True, True, True, True, True, x * y < TOP, True, True, True, True]) (o' := .ret) (rs := Try.f73.results.toList) (v := (.tup [N (x * y), E 0])) (H := ([] : List (Nat × Bk))) (by kernel_rfl) (.inr rfl) (by ((simp only [conj, and_true, true_and, and_self, cmp_lt0, cmp_le0, cmp_ge0, cmp_gt0, reduceCtorEq, not_false_eq_true]) <;> first | omega | (simp_all; done) | (simp_all; omega))) fun _ _ => rfl
  · have hc' : TOP ≤ x * y := hc
    have hpl : (.tup [N 0, E 2] : Sv).all Av.plain := by ((first | refine tupP ?_ | refine oneP ?_) <;> first | (first | exact E_plain _ | exact B_plain _ | exact lit_plain _ _ | exact int_plain _ _ | exact N_plain (by omega) | exact N_plain2 (by omega) (by omega) | assumption) | ((repeat' (first | exact argsP_nil | refine argsP_cons ?_ ?_)) <;> (first | exact E_plain _ | exact B_plain _ | exact lit_plain _ _ | exact int_plain _ _ | exact N_plain (by omega) | exact N_plain2 (by omega) (by omega) | assumption)))
    refine ⟨hpl, pure_calls' (ctx_ok tabT_ok 12) Try.func73 (c := bodyOf Try.f73) rfl rfl (args := [N x, N y]) (Nat.le_of_ble_eq_true (by kernel_rfl)) (by ((repeat' (first | exact argsP_nil | refine argsP_cons ?_ ?_)) <;> (first | exact E_plain _ | exact B_plain _ | exact lit_plain _ _ | exact int_plain _ _ | exact N_plain (by omega) | exact N_plain2 (by omega) (by omega) | assumption))) hpl (fun w0 => ?_)⟩
    exact goes_ret (ctx_ok tabT_ok 12) mixed rfl (orc := way [(9, 1)]) (stops := []) (f := 3000) (k := [.code (bodyOf Try.f73)]) (o := .norm) (σ := (kn (argS 0 ([N x, N y].map .one)) [])) (cs := [True, True, True, True, True, True, True, TOP ≤ x * y, True, True, True, True]) (o' := .ret) (rs := Try.f73.results.toList) (v := (.tup [N 0, E 2])) (H := ([] : List (Nat × Bk))) (by kernel_rfl) (.inr rfl) (by ((simp only [conj, and_true, true_and, and_self, cmp_lt0, cmp_le0, cmp_ge0, cmp_gt0, reduceCtorEq, not_false_eq_true]) <;> first | omega | (simp_all; done) | (simp_all; omega))) fun _ _ => rfl

theorem mul_e : EOK eMul := k2_ok (fun a w => Try.call73 a w) fun _ _ hx hy => mul_owes hx hy

theorem mdF_owes {x y z : Nat} (hx : x < TOP) (hy : y < TOP) (hz : z < TOP) :
    Owes 75 [N x, N y, N z, B false] [(0 < z ∧ x * y / z < TOP, .tup [N (x * y / z), E 0]), (0 < z ∧ TOP ≤ x * y / z, .tup [N 0, E 2]), (z = 0, .tup [N 0, E 1])] := by
  have ht := top_eq
  intro p0 hp0 hc
  simp only [List.mem_cons, List.not_mem_nil, or_false] at hp0
  rcases hp0 with rfl | rfl | rfl
  · have hc' : 0 < z ∧ x * y / z < TOP := hc
    have hpl : (.tup [N (x * y / z), E 0] : Sv).all Av.plain := by ((first | refine tupP ?_ | refine oneP ?_) <;> first | (first | exact E_plain _ | exact B_plain _ | exact lit_plain _ _ | exact int_plain _ _ | exact N_plain (by omega) | exact N_plain2 (by omega) (by omega) | assumption) | ((repeat' (first | exact argsP_nil | refine argsP_cons ?_ ?_)) <;> (first | exact E_plain _ | exact B_plain _ | exact lit_plain _ _ | exact int_plain _ _ | exact N_plain (by omega) | exact N_plain2 (by omega) (by omega) | assumption)))
    refine ⟨hpl, pure_calls' (ctx_ok tabT_ok 48) Try.func75 (c := bodyOf Try.f75) rfl rfl (args := [N x, N y, N z, B false]) (Nat.le_of_ble_eq_true (by kernel_rfl)) (by ((repeat' (first | exact argsP_nil | refine argsP_cons ?_ ?_)) <;> (first | exact E_plain _ | exact B_plain _ | exact lit_plain _ _ | exact int_plain _ _ | exact N_plain (by omega) | exact N_plain2 (by omega) (by omega) | assumption))) hpl (fun w0 => ?_)⟩
    exact goes_ret (ctx_ok tabT_ok 48) mixed rfl (orc := way [(16, 1)]) (stops := []) (f := 3000) (k := [.code (bodyOf Try.f75)]) (o := .norm) (σ := (kn (argS 0 ([N x, N y, N z, B false].map .one)) [])) (cs := [True, True, True, True, True, True, True, ¬z = (0 : Nat), True, True, True, True, (0 : Nat) < z, True, True, True, True, True, True, True, True, x * y / z < TOP, True, True, True, True, True, True, True, True, True, True, True, True, True, True, True, True, True, True, True, True]) (o' := .ret) (rs := Try.f75.results.toList) (v := (.tup [N (x * y / z), E 0])) (H := ([] : List (Nat × Bk))) (by kernel_rfl) (.inr rfl) (by ((simp only [conj, and_true, true_and, and_self, cmp_lt0, cmp_le0, cmp_ge0, cmp_gt0, reduceCtorEq, not_false_eq_true]) <;> first | omega | (simp_all; done) | (simp_all; omega))) fun _ _ => rfl
  · have hc' : 0 < z ∧ TOP ≤ x * y / z := hc
    have hpl : (.tup [N 0, E 2] : Sv).all Av.plain := by ((first | refine tupP ?_ | refine oneP ?_) <;> first | (first | exact E_plain _ | exact B_plain _ | exact lit_plain _ _ | exact int_plain _ _ | exact N_plain (by omega) | exact N_plain2 (by omega) (by omega) | assumption) | ((repeat' (first | exact argsP_nil | refine argsP_cons ?_ ?_)) <;> (first | exact E_plain _ | exact B_plain _ | exact lit_plain _ _ | exact int_plain _ _ | exact N_plain (by omega) | exact N_plain2 (by omega) (by omega) | assumption)))
    refine ⟨hpl, pure_calls' (ctx_ok tabT_ok 48) Try.func75 (c := bodyOf Try.f75) rfl rfl (args := [N x, N y, N z, B false]) (Nat.le_of_ble_eq_true (by kernel_rfl)) (by ((repeat' (first | exact argsP_nil | refine argsP_cons ?_ ?_)) <;> (first | exact E_plain _ | exact B_plain _ | exact lit_plain _ _ | exact int_plain _ _ | exact N_plain (by omega) | exact N_plain2 (by omega) (by omega) | assumption))) hpl (fun w0 => ?_)⟩
    exact goes_ret (ctx_ok tabT_ok 48) mixed rfl (orc := way [(16, 1), (28, 1)]) (stops := []) (f := 3000) (k := [.code (bodyOf Try.f75)]) (o := .norm) (σ := (kn (argS 0 ([N x, N y, N z, B false].map .one)) [])) (cs := [True, True, True, True, True, True, True, ¬z = (0 : Nat), True, True, True, True, (0 : Nat) < z, True, True, True, True, True, True, True, True, TOP ≤ x * y / z, True, True, True, True, True, True, True, True, True, True, True, True, True, True, True, True, True, True, True, True]) (o' := .ret) (rs := Try.f75.results.toList) (v := (.tup [N 0, E 2])) (H := ([] : List (Nat × Bk))) (by kernel_rfl) (.inr rfl) (by ((simp only [conj, and_true, true_and, and_self, cmp_lt0, cmp_le0, cmp_ge0, cmp_gt0, reduceCtorEq, not_false_eq_true]) <;> first | omega | (simp_all; done) | (simp_all; omega))) fun _ _ => rfl
  · have hc' : z = 0 := hc
    have hpl : (.tup [N 0, E 1] : Sv).all Av.plain := by ((first | refine tupP ?_ | refine oneP ?_) <;> first | (first | exact E_plain _ | exact B_plain _ | exact lit_plain _ _ | exact int_plain _ _ | exact N_plain (by omega) | exact N_plain2 (by omega) (by omega) | assumption) | ((repeat' (first | exact argsP_nil | refine argsP_cons ?_ ?_)) <;> (first | exact E_plain _ | exact B_plain _ | exact lit_plain _ _ | exact int_plain _ _ | exact N_plain (by omega) | exact N_plain2 (by omega) (by omega) | assumption)))
    refine ⟨hpl, pure_calls' (ctx_ok tabT_ok 48) Try.func75 (c := bodyOf Try.f75) rfl rfl (args := [N x, N y, N z, B false]) (Nat.le_of_ble_eq_true (by kernel_rfl)) (by ((repeat' (first | exact argsP_nil | refine argsP_cons ?_ ?_)) <;> (first | exact E_plain _ | exact B_plain _ | exact lit_plain _ _ | exact int_plain _ _ | exact N_plain (by omega) | exact N_plain2 (by omega) (by omega) | assumption))) hpl (fun w0 => ?_)⟩
    exact goes_ret (ctx_ok tabT_ok 48) mixed rfl (orc := way []) (stops := []) (f := 3000) (k := [.code (bodyOf Try.f75)]) (o := .norm) (σ := (kn (argS 0 ([N x, N y, N z, B false].map .one)) [])) (cs := [True, True, True, True, True, True, True, z = (0 : Nat), True, True, True]) (o' := .ret) (rs := Try.f75.results.toList) (v := (.tup [N 0, E 1])) (H := ([] : List (Nat × Bk))) (by kernel_rfl) (.inr rfl) (by ((simp only [conj, and_true, true_and, and_self, cmp_lt0, cmp_le0, cmp_ge0, cmp_gt0, reduceCtorEq, not_false_eq_true]) <;> first | omega | (simp_all; done) | (simp_all; omega))) fun _ _ => rfl

theorem mdT_owes {x y z : Nat} (hx : x < TOP) (hy : y < TOP) (hz : z < TOP) :
    Owes 75 [N x, N y, N z, B true] [(0 < z ∧ up (x * y) z < TOP, .tup [N (up (x * y) z), E 0]), (0 < z ∧ TOP ≤ up (x * y) z, .tup [N 0, E 2]), (z = 0, .tup [N 0, E 1])] := by
  have ht := top_eq
  intro p0 hp0 hc
  simp only [List.mem_cons, List.not_mem_nil, or_false] at hp0
  rcases hp0 with rfl | rfl | rfl
  · have hc' : 0 < z ∧ up (x * y) z < TOP := hc
    have hpl : (.tup [N (up (x * y) z), E 0] : Sv).all Av.plain := by ((first | refine tupP ?_ | refine oneP ?_) <;> first | (first | exact E_plain _ | exact B_plain _ | exact lit_plain _ _ | exact int_plain _ _ | exact N_plain (by omega) | exact N_plain2 (by omega) (by omega) | assumption) | ((repeat' (first | exact argsP_nil | refine argsP_cons ?_ ?_)) <;> (first | exact E_plain _ | exact B_plain _ | exact lit_plain _ _ | exact int_plain _ _ | exact N_plain (by omega) | exact N_plain2 (by omega) (by omega) | assumption)))
    refine ⟨hpl, pure_calls' (ctx_ok tabT_ok 48) Try.func75 (c := bodyOf Try.f75) rfl rfl (args := [N x, N y, N z, B true]) (Nat.le_of_ble_eq_true (by kernel_rfl)) (by ((repeat' (first | exact argsP_nil | refine argsP_cons ?_ ?_)) <;> (first | exact E_plain _ | exact B_plain _ | exact lit_plain _ _ | exact int_plain _ _ | exact N_plain (by omega) | exact N_plain2 (by omega) (by omega) | assumption))) hpl (fun w0 => ?_)⟩
    by_cases h : x * y % z = 0
    · skip
      rw [up_zero hc'.1 h] at hc' ⊢
      exact goes_ret (ctx_ok tabT_ok 48) mixed rfl (orc := way [(16, 1)]) (stops := []) (f := 3000) (k := [.code (bodyOf Try.f75)]) (o := .norm) (σ := (kn (argS 0 ([N x, N y, N z, B true].map .one)) [])) (cs := [True, True, True, True, True, True, True, ¬z = (0 : Nat), True, True, True, True, (0 : Nat) < z, True, True, True, True, True, True, True, True, x * y / z < TOP, True, True, True, True, True, True, True, True, True, True, True, True, True, True, x * y % z = (0 : Nat), True, True, True, True, True]) (o' := .ret) (rs := Try.f75.results.toList) (v := (.tup [N (x * y / z), E 0])) (H := ([] : List (Nat × Bk))) (by kernel_rfl) (.inr rfl) (by ((simp only [conj, and_true, true_and, and_self, cmp_lt0, cmp_le0, cmp_ge0, cmp_gt0, reduceCtorEq, not_false_eq_true]) <;> first | omega | (simp_all; done) | (simp_all; omega))) fun _ _ => rfl
    · skip
      rw [up_more hc'.1 h] at hc' ⊢
      exact goes_ret (ctx_ok tabT_ok 48) mixed rfl (orc := way [(16, 1), (39, 1)]) (stops := []) (f := 3000) (k := [.code (bodyOf Try.f75)]) (o := .norm) (σ := (kn (argS 0 ([N x, N y, N z, B true].map .one)) [])) (cs := [True, True, True, True, True, True, True, ¬z = (0 : Nat), True, True, True, True, (0 : Nat) < z, True, True, True, True, True, True, True, True, x * y / z < TOP, True, True, True, True, True, True, True, True, True, True, True, True, True, True, ¬x * y % z = (0 : Nat), True, True, (0 : Int) ≤ (1 : Int) ∧ (1 : Int) < (18446744073709551616 : Int), x * y / z + 1 < TOP, True, True, True, True]) (o' := .ret) (rs := Try.f75.results.toList) (v := (.tup [N (x * y / z + 1), E 0])) (H := ([] : List (Nat × Bk))) (by kernel_rfl) (.inr rfl) (by ((simp only [conj, and_true, true_and, and_self, cmp_lt0, cmp_le0, cmp_ge0, cmp_gt0, reduceCtorEq, not_false_eq_true]) <;> first | omega | (simp_all; done) | (simp_all; omega))) fun _ _ => rfl
  · have hc' : 0 < z ∧ TOP ≤ up (x * y) z := hc
    have hpl : (.tup [N 0, E 2] : Sv).all Av.plain := by ((first | refine tupP ?_ | refine oneP ?_) <;> first | (first | exact E_plain _ | exact B_plain _ | exact lit_plain _ _ | exact int_plain _ _ | exact N_plain (by omega) | exact N_plain2 (by omega) (by omega) | assumption) | ((repeat' (first | exact argsP_nil | refine argsP_cons ?_ ?_)) <;> (first | exact E_plain _ | exact B_plain _ | exact lit_plain _ _ | exact int_plain _ _ | exact N_plain (by omega) | exact N_plain2 (by omega) (by omega) | assumption)))
    refine ⟨hpl, pure_calls' (ctx_ok tabT_ok 48) Try.func75 (c := bodyOf Try.f75) rfl rfl (args := [N x, N y, N z, B true]) (Nat.le_of_ble_eq_true (by kernel_rfl)) (by ((repeat' (first | exact argsP_nil | refine argsP_cons ?_ ?_)) <;> (first | exact E_plain _ | exact B_plain _ | exact lit_plain _ _ | exact int_plain _ _ | exact N_plain (by omega) | exact N_plain2 (by omega) (by omega) | assumption))) hpl (fun w0 => ?_)⟩
    have hs : TOP ≤ x * y / z ∨ (x * y / z < TOP ∧ x * y % z ≠ 0 ∧ TOP ≤ x * y / z + 1) := by
      by_cases h : x * y % z = 0
      · rw [up_zero hc'.1 h] at hc'; omega
      · rw [up_more hc'.1 h] at hc'; omega
    rcases hs with h | h
    · skip
      exact goes_ret (ctx_ok tabT_ok 48) mixed rfl (orc := way [(16, 1), (28, 1)]) (stops := []) (f := 3000) (k := [.code (bodyOf Try.f75)]) (o := .norm) (σ := (kn (argS 0 ([N x, N y, N z, B true].map .one)) [])) (cs := [True, True, True, True, True, True, True, ¬z = (0 : Nat), True, True, True, True, (0 : Nat) < z, True, True, True, True, True, True, True, True, TOP ≤ x * y / z, True, True, True, True, True, True, True, True, True, True, True, True, True, True, True, True, True, True, True, True]) (o' := .ret) (rs := Try.f75.results.toList) (v := (.tup [N 0, E 2])) (H := ([] : List (Nat × Bk))) (by kernel_rfl) (.inr rfl) (by ((simp only [conj, and_true, true_and, and_self, cmp_lt0, cmp_le0, cmp_ge0, cmp_gt0, reduceCtorEq, not_false_eq_true]) <;> first | omega | (simp_all; done) | (simp_all; omega))) fun _ _ => rfl
    · skip
      exact goes_ret (ctx_ok tabT_ok 48) mixed rfl (orc := way [(16, 1), (39, 1), (43, 1)]) (stops := []) (f := 3000) (k := [.code (bodyOf Try.f75)]) (o := .norm) (σ := (kn (argS 0 ([N x, N y, N z, B true].map .one)) [])) (cs := [True, True, True, True, True, True, True, ¬z = (0 : Nat), True, True, True, True, (0 : Nat) < z, True, True, True, True, True, True, True, True, x * y / z < TOP, True, True, True, True, True, True, True, True, True, True, True, True, True, True, ¬x * y % z = (0 : Nat), True, True, (0 : Int) ≤ (1 : Int) ∧ (1 : Int) < (18446744073709551616 : Int), TOP ≤ x * y / z + 1, True, True, True, True]) (o' := .ret) (rs := Try.f75.results.toList) (v := (.tup [N 0, E 2])) (H := ([] : List (Nat × Bk))) (by kernel_rfl) (.inr rfl) (by ((simp only [conj, and_true, true_and, and_self, cmp_lt0, cmp_le0, cmp_ge0, cmp_gt0, reduceCtorEq, not_false_eq_true]) <;> first | omega | (simp_all; done) | (simp_all; omega))) fun _ _ => rfl
  · have hc' : z = 0 := hc
    have hpl : (.tup [N 0, E 1] : Sv).all Av.plain := by ((first | refine tupP ?_ | refine oneP ?_) <;> first | (first | exact E_plain _ | exact B_plain _ | exact lit_plain _ _ | exact int_plain _ _ | exact N_plain (by omega) | exact N_plain2 (by omega) (by omega) | assumption) | ((repeat' (first | exact argsP_nil | refine argsP_cons ?_ ?_)) <;> (first | exact E_plain _ | exact B_plain _ | exact lit_plain _ _ | exact int_plain _ _ | exact N_plain (by omega) | exact N_plain2 (by omega) (by omega) | assumption)))
    refine ⟨hpl, pure_calls' (ctx_ok tabT_ok 48) Try.func75 (c := bodyOf Try.f75) rfl rfl (args := [N x, N y, N z, B true]) (Nat.le_of_ble_eq_true (by kernel_rfl)) (by ((repeat' (first | exact argsP_nil | refine argsP_cons ?_ ?_)) <;> (first | exact E_plain _ | exact B_plain _ | exact lit_plain _ _ | exact int_plain _ _ | exact N_plain (by omega) | exact N_plain2 (by omega) (by omega) | assumption))) hpl (fun w0 => ?_)⟩
    exact goes_ret (ctx_ok tabT_ok 48) mixed rfl (orc := way []) (stops := []) (f := 3000) (k := [.code (bodyOf Try.f75)]) (o := .norm) (σ := (kn (argS 0 ([N x, N y, N z, B true].map .one)) [])) (cs := [True, True, True, True, True, True, True, z = (0 : Nat), True, True, True]) (o' := .ret) (rs := Try.f75.results.toList) (v := (.tup [N 0, E 1])) (H := ([] : List (Nat × Bk))) (by kernel_rfl) (.inr rfl) (by ((simp only [conj, and_true, true_and, and_self, cmp_lt0, cmp_le0, cmp_ge0, cmp_gt0, reduceCtorEq, not_false_eq_true]) <;> first | omega | (simp_all; done) | (simp_all; omega))) fun _ _ => rfl

theorem muldiv_e : EOK eMulDiv := by
  refine pcon_ok (fun a w => Try.call75 a w) fun args l hl ha p hp => ?_
  unfold mdK at hl
  split at hl
  · rename_i x y z
    cases hl; exact mdT_owes (big_lt ha (by simp)) (big_lt ha (by simp)) (big_lt ha (by simp)) p hp
  · rename_i x y z
    cases hl; exact mdF_owes (big_lt ha (by simp)) (big_lt ha (by simp)) (big_lt ha (by simp)) p hp
  · cases hl

theorem tabM_ok : TabOK tabM := .cons mul_e (.cons muldiv_e tabT_ok)

end M
end Go.Proofs.Ytmjdmhelmgcanaa
