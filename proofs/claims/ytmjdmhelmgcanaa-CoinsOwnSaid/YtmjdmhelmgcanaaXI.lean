/- Joined out of smaller texts: CoE, CoF, CoG, LiftC. -/
import Derived.Test.YtmjdmhelmgcanaaXH
import Derived.Test.YtmjdmhelmgcanaaXG
/- of, One, r02.One, r02.Amount, coins.Same. -/
namespace Go.Proofs.Ytmjdmhelmgcanaa
namespace M
open Go.RowKit
set_option linter.unusedSimpArgs false
set_option linter.unusedVariables false


/-! ## of -/

theorem ofs_nil {w0 : Base} : Goes Try.prog Try.f34.ntmps w0 [.code (bodyOf Try.f34)] .norm (kn (argS 0 [.one [.nil]]) []) (Fin (ctx tC2 25) Try.f34.results.toList (LFin (ofP []).lst none)) := by
  have h0 : (Purse.mk' fun _ => 0).lst.length = 0 := (Purse.len0 (p := Purse.mk' fun _ => 0)).2 fun d => by
    by_cases hd : d < 8
    · rw [Purse.mk'_f hd top_pos]
    · exact (Purse.mk' fun _ => 0).hm d (by omega)
  exact goes_ret (ctx_ok tC2_ok 25) mixed rfl (orc := way []) (stops := []) (f := 3000) (k := [.code (bodyOf Try.f34)]) (o := .norm) (σ := (kn (argS 0 [.one [.nil]]) [])) (cs := [True, True, True, True, True, True, True, True, True ∧ List.length (Purse.lst (Purse.mk' fun x => (0 : Nat))) = (0 : Nat), True]) (o' := .ret) (rs := Try.f34.results.toList) (v := (.one [.nil])) (H := ([] : List (Nat × Bk))) (by kernel_rfl) (.inr rfl) (by simp only [conj, and_true, true_and]; exact h0) fun _ _ => .inl ⟨h0, rfl⟩

theorem ofs_row {w0 : Base} {l : Cs} (hn : l.length < 4096) : Goes Try.prog Try.f34.ntmps w0 [.code (bodyOf Try.f34)] .norm (kn (argS 0 [slA l]) [rwA 84 l])
    (Fin (ctx tC2 25) Try.f34.results.toList (LFin (ofP l).lst none)) := by
  refine (goes (ctx_ok tC2_ok 25) mixed rfl (gs := [4]) (gh := []) (orc := way []) (stops := [0]) (f := 3000) (k := [.code (bodyOf Try.f34)]) (o := .norm) (σ := (kn (argS 0 [slA l]) [rwA 84 l])) (cs := [True, True, True]) (k' := (kOf 0 (bodyOf Try.f34))) (o' := .norm) (S := (osS l 0)) (H := (osH l 0)) (by kernel_rfl) (by kernel_rfl) (by simp [conj])).bind ?_
  rintro k o σ ⟨rfl, rfl, rfl⟩
  have hk : kOf 0 (bodyOf Try.f34) = .code (.block 0 (.loop (roundOf 0 (bodyOf Try.f34)))) :: restOf 0 (bodyOf Try.f34) := by kernel_rfl
  rw [hk]
  refine (goes_loop (fun i : Nat => kn (osS l i) (osH l i)) (fun i => i ≤ l.length) (fun i => l.length - i)
    (fun o σ => o = .norm ∧ σ = kn (osS l l.length) (osH l l.length)) ?_ (p := 0) (Nat.zero_le _)).bind ?_
  · intro i hle
    by_cases hi : i < l.length
    · have h8 : (getc l i).1 % 8 < 8 := Nat.mod_lt _ (by omega)
      refine (goes (ctx_ok tC2_ok 25) mixed rfl (gs := []) (gh := []) (orc := way []) (stops := []) (f := 3000) (k := [.code (roundOf 0 (bodyOf Try.f34))]) (o := .norm) (σ := (kn (osS l i) (osH l i))) (cs := [True, True, True, (↑i : Int) < (↑(List.length l) : Int), True, True, (0 : Int) ≤ (↑i : Int) ∧ (↑i : Int) < (↑(List.length l) : Int), True, addO (0 : Nat) i < List.length l, (0 : Int) ≤ (↑(Prod.fst (getc l (addO (0 : Nat) i))) : Int), True, True, (0 : Int) ≤ (↑i : Int) ∧ (↑i : Int) < (↑(List.length l) : Int), True, addO (0 : Nat) i < List.length l, (0 : Int) ≤ (↑(Prod.fst (getc l (addO (0 : Nat) i))) : Int) % (8 : Int) ∧ (↑(Prod.fst (getc l (addO (0 : Nat) i))) : Int) % (8 : Int) < (↑(8 : Nat) : Int), Prod.fst (getc l (addO (0 : Nat) i)) % 8 < (8 : Nat), True, (-9223372036854775808 : Int) ≤ (↑i : Int) + (1 : Int) ∧ (↑i : Int) + (1 : Int) < (9223372036854775808 : Int), True]) (k' := []) (o' := .norm) (S := (osS l (i + 1))) (H := (osH l (i + 1))) (by kernel_rfl) (by kernel_rfl) (by simp only [conj, and_true, true_and, addO_eq, Nat.zero_add, Int.toNat_natCast]; omega)).mono ?_
      rintro k o σ ⟨rfl, rfl, rfl⟩
      exact ⟨rfl, .inl ⟨rfl, i + 1, hi, by omega, rfl⟩⟩
    · obtain rfl : i = l.length := by omega
      refine (goes (ctx_ok tC2_ok 25) mixed rfl (gs := []) (gh := []) (orc := way [(8, 1)]) (stops := []) (f := 3000) (k := [.code (roundOf 0 (bodyOf Try.f34))]) (o := .norm) (σ := (kn (osS l l.length) (osH l l.length))) (cs := [True, True, True, ¬(↑(List.length l) : Int) < (↑(List.length l) : Int)]) (k' := []) (o' := (.exit 0)) (S := (osS l l.length)) (H := (osH l l.length)) (by kernel_rfl) (by kernel_rfl) (by simp [conj])).mono ?_
      rintro k o σ ⟨rfl, rfl, rfl⟩
      exact ⟨rfl, .inr ⟨by simp, rfl, rfl⟩⟩
  · rintro k o σ ⟨rfl, rfl, rfl⟩
    by_cases h0 : (ofP l).lst.length = 0
    · exact goes_ret (ctx_ok tC2_ok 25) mixed rfl (orc := way []) (stops := []) (f := 3000) (k := (restOf 0 (bodyOf Try.f34))) (o := .norm) (σ := (kn (osS l l.length) (osH l l.length))) (cs := [True, True ∧ List.length (Purse.lst (Purse.mk' (sof l (List.length l)))) = (0 : Nat), True]) (o' := .ret) (rs := Try.f34.results.toList) (v := (.one [.nil])) (H := ([] : List (Nat × Bk))) (by kernel_rfl) (.inr rfl) (by simp only [conj, and_true, true_and]; exact h0) fun _ _ => .inl ⟨h0, rfl⟩
    · exact goes_ret (ctx_ok tC2_ok 25) mixed rfl (orc := way [(24, 1)]) (stops := []) (f := 3000) (k := (restOf 0 (bodyOf Try.f34))) (o := .norm) (σ := (kn (osS l l.length) (osH l l.length))) (cs := [True, True ∧ (0 : Nat) < List.length (Purse.lst (Purse.mk' (sof l (List.length l)))), True]) (o' := .ret) (rs := Try.f34.results.toList) (v := (.one [.sl 24 5 0 (ofP l).lst.length])) (H := [(24, Bk.row true 60 5 (ofP l).lst.length (rowL (ofP l).lst))]) (by kernel_rfl) (.inr rfl) (by simp only [conj, and_true, true_and]; exact Nat.pos_of_ne_zero h0) fun σ hσ => .inr ⟨by omega, 24, _, rfl, hσ (24, _) List.mem_cons_self, rfl⟩

theorem ofs_e : EOK ⟨34, 1, lcon ofsK⟩ := by
  refine co_lcon (t := 84) Try.func34 (c := bodyOf Try.f34) rfl (fun a w => Try.call34 a w) tC2_ok fun args l hl p hp hc => ?_
  unfold ofsK at hl
  split at hl
  · rename_i A
    obtain ⟨a, ha, rfl⟩ := Option.map_eq_some_iff.1 hl
    simp only [List.mem_singleton] at hp
    subst hp
    refine ⟨[a.2], [], ⟨[A], [], rfl, .cons ha hc .nil, rfl, fun l hl => by cases hl⟩, Nat.le_of_ble_eq_true (by kernel_rfl), fun h1 _ => ⟨⟨okP _, fun _ h => by cases h⟩, fun ps e1 e2 w0 => ?_⟩⟩
    rcases one_in e1 e2 with ⟨rfl, e3⟩ | rfl
    · show Goes _ _ _ _ _ _ (Fin _ _ (LFin (ofP a.2).lst none))
      rw [e3]
      exact ofs_nil
    · exact ofs_row (h1 _ List.mem_cons_self).1
  · cases hl

/-! ## One -/

theorem nz_one (d x m : Nat) : nz (fun k => if k = d then x else 0) m = if d < m ∧ x ≠ 0 then [(d, x)] else [] := by
  induction m with
  | zero => rw [if_neg (by omega)]; rfl
  | succ m ih =>
    rw [nz, ih]
    by_cases hx : x = 0
    · have hn : ∀ m, ¬ (d < m ∧ x ≠ 0) := fun m h => h.2 hx
      have : (if m = d then x else 0) = 0 := by split <;> simp [hx]
      rw [if_neg (hn m), if_neg (hn (m + 1)), if_pos this]; rfl
    · by_cases hd : m = d
      · subst hd
        rw [if_neg (by omega), if_pos rfl, if_neg hx, if_pos ⟨by omega, hx⟩]; rfl
      · rw [if_neg hd, if_pos rfl, List.append_nil]
        by_cases h : d < m
        · rw [if_pos ⟨h, hx⟩, if_pos ⟨by omega, hx⟩]
        · rw [if_neg (by omega), if_neg (by omega)]
theorem one_lst {d x : Nat} (hx : x < TOP) : (Purse.one d x).lst = if d < 8 ∧ x ≠ 0 then [(d, x)] else [] := by
  rw [← nz_one]
  exact mk'_lst fun k _ => by
    split
    · exact hx
    · exact top_pos
theorem Rgt_one (d x : Nat) : Rgt [(d, x)] ↔ d < 8 ∧ x ≠ 0 := by
  constructor
  · intro h; exact ⟨(h 0 (by simp)).1, (h 0 (by simp)).2.1⟩
  · rintro ⟨h1, h2⟩ i hi
    have : i = 0 := by simpa using hi
    subst this
    exact ⟨h1, h2, fun h => by omega⟩

/-- a row of one coin -/
theorem lst_one (d x : Nat) : lst (getL [[.int .u8 (d : Nat), .big 4 x]]) 1 = [(d, x)] := by
  simp [lst, List.range_succ, getL, cd1]
theorem Coi_one {d x : Nat} (hd : d < 256) (hx : x < TOP) : Coi (getL [[.int .u8 (d : Nat), .big 4 x]]) 1 := by
  unfold Coi
  rw [lst_one]
  refine ⟨rfl, fun c hc => ?_⟩
  simp only [List.mem_singleton] at hc
  subst hc
  exact ⟨hd, hx⟩

theorem one_goes {w0 : Base} {d x : Nat} (hd : d < 256) (hx : x < TOP) : Goes Try.prog Try.f38.ntmps w0 [.code (bodyOf Try.f38)] .norm (kn (argS 0 [.one [.int .u8 (d : Nat)], .one (N x)]) [])
    (Fin (ctx tC2 13) Try.f38.results.toList (LFin (Purse.one d x).lst none)) := by
  have h1 := lst_one d x
  have h2 := Coi_one hd hx
  rw [one_lst hx]
  by_cases h : d < 8 ∧ x ≠ 0
  · rw [if_pos h]
    have h3 := (Rgt_one d x).2 h
    exact goes_ret (ctx_ok tC2_ok 13) mixed rfl (orc := way []) (stops := []) (f := 3000) (k := [.code (bodyOf Try.f38)]) (o := .norm) (σ := (kn (argS 0 [.one [.int .u8 (d : Nat)], .one (N x)]) [])) (cs := [True, True, True, True, True, True, True, True, ((60 : TypeId) = (60 : TypeId) ∧ (1 : Nat) = (1 : Nat) ∧ (1 : Nat) < (4096 : Nat) ∧ Coi (getL [[Av.int IntKind.u8 (↑d : Int), Av.big (4 : Nat) x]]) (1 : Nat)) ∧ Rgt (lst (getL [[Av.int IntKind.u8 (↑d : Int), Av.big (4 : Nat) x]]) (1 : Nat)), True, True]) (o' := .ret) (rs := Try.f38.results.toList) (v := (.one [.sl 9 5 0 1])) (H := [(9, Bk.row true 60 5 1 (getL [[.int .u8 (d : Nat), .big 4 x]]))]) (by kernel_rfl) (.inr rfl) (by simp only [conj, and_true, true_and, h1, h2, h3, Nat.reduceLT]) fun σ hσ => .inr ⟨by simp, 9, _, rfl, hσ (9, _) List.mem_cons_self, rfl⟩
  · rw [if_neg h]
    have h3 : ¬ Rgt [(d, x)] := fun hr => h ((Rgt_one d x).1 hr)
    exact goes_ret (ctx_ok tC2_ok 13) mixed rfl (orc := way [(11, 1)]) (stops := []) (f := 3000) (k := [.code (bodyOf Try.f38)]) (o := .norm) (σ := (kn (argS 0 [.one [.int .u8 (d : Nat)], .one (N x)]) [])) (cs := [True, True, True, True, True, True, True, True, ((60 : TypeId) = (60 : TypeId) ∧ (1 : Nat) = (1 : Nat) ∧ (1 : Nat) < (4096 : Nat) ∧ Coi (getL [[Av.int IntKind.u8 (↑d : Int), Av.big (4 : Nat) x]]) (1 : Nat)) ∧ ¬Rgt (lst (getL [[Av.int IntKind.u8 (↑d : Int), Av.big (4 : Nat) x]]) (1 : Nat)), True]) (o' := .ret) (rs := Try.f38.results.toList) (v := (.one [.nil])) (H := ([] : List (Nat × Bk))) (by kernel_rfl) (.inr rfl) (by simp only [conj, and_true, true_and, h1, h2, h3, Nat.reduceLT, not_false_eq_true]) fun _ _ => .inl ⟨rfl, rfl⟩

theorem one_upd (d x : Nat) : Purse.mk' (upd (fun _ => 0) d x) = Purse.one d x := by
  refine congrArg _ (funext fun k => ?_)
  by_cases h : k = d
  · subst h; rw [upd_same, if_pos rfl]
  · rw [upd_ne _ _ h, if_neg h]
theorem one_zero {d x : Nat} (hd : ¬ d < 8) : Purse.mk' (fun _ => 0) = Purse.one d x := Purse.ext' fun k hk => by
  rw [Purse.mk'_f hk top_pos]
  unfold Purse.one
  rw [Purse.mk'_f hk (by rw [if_neg (by omega)]; exact top_pos), if_neg (by omega)]

theorem rone_goes {w0 : Base} {d x : Nat} : Goes Try.prog Try.f39.ntmps w0 [.code (bodyOf Try.f39)] .norm (kn (argS 0 [.one [.int .u8 (d : Nat)], .one (N x)]) [])
    (Fin (ctx tC2 13) Try.f39.results.toList (LFin (Purse.one d x).lst none)) := by
  by_cases hd : d < 8
  · rw [← one_upd]
    by_cases h0 : (Purse.mk' (upd (fun _ => 0) d x)).lst.length = 0
    · exact goes_ret (ctx_ok tC2_ok 13) mixed rfl (orc := way []) (stops := []) (f := 3000) (k := [.code (bodyOf Try.f39)]) (o := .norm) (σ := (kn (argS 0 [.one [.int .u8 (d : Nat)], .one (N x)]) [])) (cs := [True, True, True, True, (↑d : Int) < (8 : Int), True, True, (0 : Int) ≤ (↑d : Int) ∧ (↑d : Int) < (↑(8 : Nat) : Int), d < (8 : Nat), True, True ∧ List.length (Purse.lst (Purse.mk' (upd (fun x => (0 : Nat)) d x))) = (0 : Nat), True]) (o' := .ret) (rs := Try.f39.results.toList) (v := (.one [.nil])) (H := ([] : List (Nat × Bk))) (by kernel_rfl) (.inr rfl) (by simp only [conj, and_true, true_and, Int.toNat_natCast, h0]; omega) fun _ _ => .inl ⟨h0, rfl⟩
    · exact goes_ret (ctx_ok tC2_ok 13) mixed rfl (orc := way [(12, 1)]) (stops := []) (f := 3000) (k := [.code (bodyOf Try.f39)]) (o := .norm) (σ := (kn (argS 0 [.one [.int .u8 (d : Nat)], .one (N x)]) [])) (cs := [True, True, True, True, (↑d : Int) < (8 : Int), True, True, (0 : Int) ≤ (↑d : Int) ∧ (↑d : Int) < (↑(8 : Nat) : Int), d < (8 : Nat), True, True ∧ (0 : Nat) < List.length (Purse.lst (Purse.mk' (upd (fun x => (0 : Nat)) d x))), True]) (o' := .ret) (rs := Try.f39.results.toList) (v := (.one [.sl 12 5 0 (Purse.mk' (upd (fun _ => 0) d x)).lst.length])) (H := [(12, Bk.row true 60 5 (Purse.mk' (upd (fun _ => 0) d x)).lst.length (rowL (Purse.mk' (upd (fun _ => 0) d x)).lst))]) (by kernel_rfl) (.inr rfl) (by simp only [conj, and_true, true_and, Int.toNat_natCast]; omega) fun σ hσ => .inr ⟨by omega, 12, _, rfl, hσ (12, _) List.mem_cons_self, rfl⟩
  · rw [← one_zero hd]
    have h0 : (Purse.mk' fun _ => 0).lst.length = 0 := (Purse.len0 (p := Purse.mk' fun _ => 0)).2 fun d => by
      by_cases hd : d < 8
      · rw [Purse.mk'_f hd top_pos]
      · exact (Purse.mk' fun _ => 0).hm d (by omega)
    exact goes_ret (ctx_ok tC2_ok 13) mixed rfl (orc := way [(7, 1)]) (stops := []) (f := 3000) (k := [.code (bodyOf Try.f39)]) (o := .norm) (σ := (kn (argS 0 [.one [.int .u8 (d : Nat)], .one (N x)]) [])) (cs := [True, True, True, True, ¬(↑d : Int) < (8 : Int), True, True ∧ List.length (Purse.lst (Purse.mk' fun x => (0 : Nat))) = (0 : Nat), True]) (o' := .ret) (rs := Try.f39.results.toList) (v := (.one [.nil])) (H := ([] : List (Nat × Bk))) (by kernel_rfl) (.inr rfl) (by simp only [conj, and_true, true_and, h0]; omega) fun _ _ => .inl ⟨h0, rfl⟩

theorem oneE {f : FuncId} {fn : Func} {c : Code} (hf : Try.prog.funcs[f]? = some fn) (hb : fn.body = some c) (hcall : ∀ args w, (callFunc f args).run Try.prog w = .ok (.enter f args) w) (hnt : 2 ≤ fn.ntmps)
    (h : ∀ {w0 : Base} {d x : Nat}, d < 256 → x < TOP → Goes Try.prog fn.ntmps w0 [.code c] .norm (kn (argS 0 [.one [.int .u8 (d : Nat)], .one (N x)]) []) (Fin (ctx tC2 fn.ntmps) fn.results.toList (LFin (Purse.one d x).lst none))) : EOK ⟨f, 0, lcon oneK⟩ := by
  refine co_lcon (t := 60) hf hb hcall tC2_ok fun args l hl p hp hc => ?_
  unfold oneK at hl
  split at hl
  · rename_i d y x z
    cases hl
    simp only [List.mem_singleton] at hp
    subst hp
    obtain ⟨c1, c2⟩ : 0 ≤ d ∧ d < 256 := hc
    obtain ⟨m, rfl⟩ := Int.eq_ofNat_of_zero_le c1
    refine ⟨[], [[.int .u8 (m : Nat)], [.big 4 x]], ⟨[], [[(.int .u8 (m : Nat), y)], [(.big 4 x, z)]], rfl, .nil, rfl, ?_⟩, hnt, fun _ h2 => ⟨⟨okP _, fun _ h => by cases h⟩, fun ps e1 e2 w0 => ?_⟩⟩
    · intro l hl a ha
      simp only [List.mem_cons, List.not_mem_nil, or_false] at hl
      rcases hl with rfl | rfl <;> (simp only [List.mem_singleton] at ha; subst ha; rfl)
    · have hx : x < TOP := by
        have h3 : x < pow64 4 := h2 [.big 4 x] (List.mem_cons_of_mem _ List.mem_cons_self) _ List.mem_cons_self
        rw [← pow64_4]; exact h3
      have : ps = [] := by cases ps with
        | nil => rfl
        | cons p r => simp at e1
      subst this
      exact h (by omega) hx
  · cases hl
theorem one_e : EOK ⟨38, 0, lcon oneK⟩ := oneE Try.func38 (c := bodyOf Try.f38) rfl (fun a w => Try.call38 a w) (Nat.le_of_ble_eq_true (by kernel_rfl)) fun h1 h2 => one_goes h1 h2
theorem rone_e : EOK ⟨39, 0, lcon oneK⟩ := oneE Try.func39 (c := bodyOf Try.f39) rfl (fun a w => Try.call39 a w) (Nat.le_of_ble_eq_true (by kernel_rfl)) fun _ _ => rone_goes

/-! ## r02.Amount -/

theorem IsP_nil : IsP [] := by
  have h : (puL []).lst.length = 0 := (Purse.len0 (p := puL [])).2 fun d => by
    by_cases hd : d < 8
    · exact Purse.mk'_f hd top_pos
    · exact (puL []).hm d (by omega)
  exact (List.length_eq_zero_iff.1 h).symm
theorem IsP_amt {l : Cs} (h : IsP l) (d : Nat) : (puL l).f d = amt l d := by
  have h' : l = (puL l).lst := h
  have h3 := amt_lst (puL l) d
  rw [← h'] at h3
  exact h3.symm
theorem IsP_ge {l : Cs} (h : IsP l) {d : Nat} (hd : 8 ≤ d) : amt l d = 0 := by rw [← IsP_amt h]; exact (puL l).hm d hd

theorem ramount_goes {w0 : Base} {l : Cs} {d : Nat} (hn : okC l) (hp : IsP l) {b : Bool} (hb : b = true → l = []) : Goes Try.prog Try.f36.ntmps w0 [.code (bodyOf Try.f36)] .norm (kn (argS 0 [inS b 1000 l, .one [.int .u8 (d : Nat)]]) (inH 60 b 1000 l []))
    (Fin (ctx tC2 12) Try.f36.results.toList fun v _ => v = .one (N (amt l d))) := by
  have hc : Coi (rowL l) l.length := Coi_rowL hn.2
  have hl := lst_rowL l
  have h0 := IsP_nil
  cases b
  · by_cases hd : d < 8
    · rw [← IsP_amt hp]
      exact goes_ret (ctx_ok tC2_ok 12) mixed rfl (orc := way [(6, 1)]) (stops := []) (f := 3000) (k := [.code (bodyOf Try.f36)]) (o := .norm) (σ := (kn (argS 0 [slA l, .one [.int .u8 (d : Nat)]]) [rwA 60 l])) (cs := [True, True, ¬(7 : Int) < (↑d : Int), True, ((60 : TypeId) = (60 : TypeId) ∧ List.length l = List.length l ∧ List.length l < (4096 : Nat) ∧ Coi (rowL l) (List.length l)) ∧ IsP (lst (rowL l) (List.length l)), True, (0 : Int) ≤ (↑d : Int) ∧ (↑d : Int) < (↑(8 : Nat) : Int), True]) (o' := .ret) (rs := Try.f36.results.toList) (v := (.one (N ((puL (lst (rowL l) l.length)).f d)))) (H := ([] : List (Nat × Bk))) (by kernel_rfl) (.inr rfl) (by simp only [conj, and_true, true_and, hl, hc, hp, hn.1, Int.toNat_natCast]; omega) fun _ _ => by rw [hl]
    · rw [IsP_ge hp (by omega)]
      exact goes_ret (ctx_ok tC2_ok 12) mixed rfl (orc := way []) (stops := []) (f := 3000) (k := [.code (bodyOf Try.f36)]) (o := .norm) (σ := (kn (argS 0 [slA l, .one [.int .u8 (d : Nat)]]) [rwA 60 l])) (cs := [True, True, (7 : Int) < (↑d : Int), True, True]) (o' := .ret) (rs := Try.f36.results.toList) (v := (.one (N 0))) (H := ([] : List (Nat × Bk))) (by kernel_rfl) (.inr rfl) (by simp only [conj, and_true, true_and]; omega) fun _ _ => rfl
  · obtain rfl := hb rfl
    by_cases hd : d < 8
    · rw [← IsP_amt hp]
      exact goes_ret (ctx_ok tC2_ok 12) mixed rfl (orc := way [(6, 1)]) (stops := []) (f := 3000) (k := [.code (bodyOf Try.f36)]) (o := .norm) (σ := (kn (argS 0 [.one [.nil], .one [.int .u8 (d : Nat)]]) [])) (cs := [True, True, ¬(7 : Int) < (↑d : Int), True, True ∧ IsP [], True, (0 : Int) ≤ (↑d : Int) ∧ (↑d : Int) < (↑(8 : Nat) : Int), True]) (o' := .ret) (rs := Try.f36.results.toList) (v := (.one (N ((puL []).f d)))) (H := ([] : List (Nat × Bk))) (by kernel_rfl) (.inr rfl) (by simp only [conj, and_true, true_and, h0, Int.toNat_natCast]; omega) fun _ _ => rfl
    · rw [IsP_ge hp (by omega)]
      exact goes_ret (ctx_ok tC2_ok 12) mixed rfl (orc := way []) (stops := []) (f := 3000) (k := [.code (bodyOf Try.f36)]) (o := .norm) (σ := (kn (argS 0 [.one [.nil], .one [.int .u8 (d : Nat)]]) [])) (cs := [True, True, (7 : Int) < (↑d : Int), True, True]) (o' := .ret) (rs := Try.f36.results.toList) (v := (.one (N 0))) (H := ([] : List (Nat × Bk))) (by kernel_rfl) (.inr rfl) (by simp only [conj, and_true, true_and]; omega) fun _ _ => rfl

theorem ramount_e : EOK ⟨36, 1, dcon ramK⟩ := by
  refine co_dcon (t := 60) Try.func36 (c := bodyOf Try.f36) rfl (fun a w => Try.call36 a w) tC2_ok fun args l hl p hp hc => ?_
  unfold ramK at hl
  split at hl
  · rename_i A d x
    obtain ⟨a, ha, rfl⟩ := Option.map_eq_some_iff.1 hl
    simp only [List.mem_singleton] at hp
    subst hp
    obtain ⟨c1, c2, c3⟩ := hc
    obtain ⟨m, rfl⟩ := Int.eq_ofNat_of_zero_le c2
    refine ⟨[a.2], [[.int .u8 (m : Nat)]], ⟨[A], [[(.int .u8 (m : Nat), x)]], rfl, .cons ha c1 .nil, rfl, ?_⟩, Nat.le_of_ble_eq_true (by kernel_rfl), fun h1 _ => ⟨oneP (N_plain (amt_lt (h1 _ List.mem_cons_self) _)), fun ps e1 e2 w0 => ?_⟩⟩
    · intro l hl a ha
      simp only [List.mem_singleton] at hl
      subst hl
      simp only [List.mem_singleton] at ha
      subst ha
      rfl
    · rcases one_in e1 e2 with ⟨rfl, e3⟩ | rfl
      · exact ramount_goes (l := a.2) (b := true) (h1 _ List.mem_cons_self) c3 (fun _ => e3)
      · exact ramount_goes (b := false) (h1 _ List.mem_cons_self) c3 (fun h => by cases h)
  · cases hl

/-! ## coins.Same -/

theorem csame_goes {w0 : Base} {l m : Cs} {b c : Bool} (hl : okC l) (hm : okC m) (hb : b = true → l = []) (hc : c = true → m = []) :
    Goes Try.prog Try.f43.ntmps w0 [.code (bodyOf Try.f43)] .norm (kn (argS 0 [inS b 1000 l, inS c 1001 m]) (inH 60 b 1000 l (inH 60 c 1001 m [])))
    (Fin (ctx tC2 8) Try.f43.results.toList fun v _ => ∃ r, v = .one (B r) ∧ (r = true ↔ l = m)) := by
  have c1 : Coi (rowL l) l.length := Coi_rowL hl.2
  have c2 : Coi (rowL m) m.length := Coi_rowL hm.2
  have l1 := lst_rowL l
  have l2 := lst_rowL m
  by_cases he : l = m
  · cases b
    · cases c
      · exact goes_ret (ctx_ok tC2_ok 8) mixed rfl (orc := way []) (stops := []) (f := 3000) (k := [.code (bodyOf Try.f43)]) (o := .norm) (σ := (kn (argS 0 [slA l, slB m]) (saH l m))) (cs := [True, True, True, ((60 : TypeId) = (60 : TypeId) ∧ List.length l = List.length l ∧ List.length l < (4096 : Nat) ∧ Coi (rowL l) (List.length l)) ∧ ((60 : TypeId) = (60 : TypeId) ∧ List.length m = List.length m ∧ List.length m < (4096 : Nat) ∧ Coi (rowL m) (List.length m)) ∧ lst (rowL l) (List.length l) = lst (rowL m) (List.length m), True]) (o' := .ret) (rs := Try.f43.results.toList) (v := (.one (B true))) (H := ([] : List (Nat × Bk))) (by kernel_rfl) (.inr rfl) (by simp only [conj, and_true, true_and, l1, l2, c1, c2, hl.1, hm.1, he]) fun _ _ => ⟨true, rfl, fun _ => he, fun _ => rfl⟩
      · obtain rfl := hc rfl
        exact goes_ret (ctx_ok tC2_ok 8) mixed rfl (orc := way []) (stops := []) (f := 3000) (k := [.code (bodyOf Try.f43)]) (o := .norm) (σ := (kn (argS 0 [slA l, .one [.nil]]) [rwA 60 l])) (cs := [True, True, True, ((60 : TypeId) = (60 : TypeId) ∧ List.length l = List.length l ∧ List.length l < (4096 : Nat) ∧ Coi (rowL l) (List.length l)) ∧ True ∧ lst (rowL l) (List.length l) = [], True]) (o' := .ret) (rs := Try.f43.results.toList) (v := (.one (B true))) (H := ([] : List (Nat × Bk))) (by kernel_rfl) (.inr rfl) (by simp only [conj, and_true, true_and, l1, c1, hl.1]; exact he) fun _ _ => ⟨true, rfl, fun _ => he, fun _ => rfl⟩
    · obtain rfl := hb rfl
      cases c
      · exact goes_ret (ctx_ok tC2_ok 8) mixed rfl (orc := way []) (stops := []) (f := 3000) (k := [.code (bodyOf Try.f43)]) (o := .norm) (σ := (kn (argS 0 [.one [.nil], slB m]) [rwB m])) (cs := [True, True, True, True ∧ ((60 : TypeId) = (60 : TypeId) ∧ List.length m = List.length m ∧ List.length m < (4096 : Nat) ∧ Coi (rowL m) (List.length m)) ∧ [] = lst (rowL m) (List.length m), True]) (o' := .ret) (rs := Try.f43.results.toList) (v := (.one (B true))) (H := ([] : List (Nat × Bk))) (by kernel_rfl) (.inr rfl) (by simp only [conj, and_true, true_and, l2, c2, hm.1]; exact he) fun _ _ => ⟨true, rfl, fun _ => he, fun _ => rfl⟩
      · obtain rfl := hc rfl
        exact goes_ret (ctx_ok tC2_ok 8) mixed rfl (orc := way []) (stops := []) (f := 3000) (k := [.code (bodyOf Try.f43)]) (o := .norm) (σ := (kn (argS 0 [.one [.nil], .one [.nil]]) [])) (cs := [True, True, True, True ∧ True ∧ ([] : Cs) = [], True]) (o' := .ret) (rs := Try.f43.results.toList) (v := (.one (B true))) (H := ([] : List (Nat × Bk))) (by kernel_rfl) (.inr rfl) (by simp [conj]) fun _ _ => ⟨true, rfl, fun _ => rfl, fun _ => rfl⟩
  · cases b
    · cases c
      · exact goes_ret (ctx_ok tC2_ok 8) mixed rfl (orc := way [(7, 1)]) (stops := []) (f := 3000) (k := [.code (bodyOf Try.f43)]) (o := .norm) (σ := (kn (argS 0 [slA l, slB m]) (saH l m))) (cs := [True, True, True, ((60 : TypeId) = (60 : TypeId) ∧ List.length l = List.length l ∧ List.length l < (4096 : Nat) ∧ Coi (rowL l) (List.length l)) ∧ ((60 : TypeId) = (60 : TypeId) ∧ List.length m = List.length m ∧ List.length m < (4096 : Nat) ∧ Coi (rowL m) (List.length m)) ∧ lst (rowL l) (List.length l) ≠ lst (rowL m) (List.length m), True]) (o' := .ret) (rs := Try.f43.results.toList) (v := (.one (B false))) (H := ([] : List (Nat × Bk))) (by kernel_rfl) (.inr rfl) (by simp only [conj, and_true, true_and, l1, l2, c1, c2, hl.1, hm.1]; exact he) fun _ _ => ⟨false, rfl, (fun h => by cases h), fun h => absurd h he⟩
      · obtain rfl := hc rfl
        exact goes_ret (ctx_ok tC2_ok 8) mixed rfl (orc := way [(7, 1)]) (stops := []) (f := 3000) (k := [.code (bodyOf Try.f43)]) (o := .norm) (σ := (kn (argS 0 [slA l, .one [.nil]]) [rwA 60 l])) (cs := [True, True, True, ((60 : TypeId) = (60 : TypeId) ∧ List.length l = List.length l ∧ List.length l < (4096 : Nat) ∧ Coi (rowL l) (List.length l)) ∧ True ∧ lst (rowL l) (List.length l) ≠ [], True]) (o' := .ret) (rs := Try.f43.results.toList) (v := (.one (B false))) (H := ([] : List (Nat × Bk))) (by kernel_rfl) (.inr rfl) (by simp only [conj, and_true, true_and, l1, c1, hl.1]; exact he) fun _ _ => ⟨false, rfl, (fun h => by cases h), fun h => absurd h he⟩
    · obtain rfl := hb rfl
      cases c
      · exact goes_ret (ctx_ok tC2_ok 8) mixed rfl (orc := way [(7, 1)]) (stops := []) (f := 3000) (k := [.code (bodyOf Try.f43)]) (o := .norm) (σ := (kn (argS 0 [.one [.nil], slB m]) [rwB m])) (cs := [True, True, True, True ∧ ((60 : TypeId) = (60 : TypeId) ∧ List.length m = List.length m ∧ List.length m < (4096 : Nat) ∧ Coi (rowL m) (List.length m)) ∧ [] ≠ lst (rowL m) (List.length m), True]) (o' := .ret) (rs := Try.f43.results.toList) (v := (.one (B false))) (H := ([] : List (Nat × Bk))) (by kernel_rfl) (.inr rfl) (by simp only [conj, and_true, true_and, l2, c2, hm.1]; exact he) fun _ _ => ⟨false, rfl, (fun h => by cases h), fun h => absurd h he⟩
      · obtain rfl := hc rfl
        exact absurd rfl he

theorem csame_e : EOK ⟨43, 1, dcon (k2c saL)⟩ := by
  refine k2c_ok Try.func43 (c := bodyOf Try.f43) rfl (fun a w => Try.call43 a w) tC2_ok (Nat.le_of_ble_eq_true (by kernel_rfl)) fun l m hl hm p hp hc => ?_
  simp only [saL, List.mem_cons, List.not_mem_nil, or_false] at hp
  rcases hp with rfl | rfl
  · refine ⟨oneP (B_plain _), fun w0 b c hb hc' => (csame_goes hl hm hb hc').mono fun k o σ hf => Fin.mono ?_ hf⟩
    rintro v _ ⟨b, rfl, hb⟩
    rw [hb.2 hc]
  · refine ⟨oneP (B_plain _), fun w0 b c hb hc' => (csame_goes hl hm hb hc').mono fun k o σ hf => Fin.mono ?_ hf⟩
    rintro v _ ⟨b, rfl, hb⟩
    cases b
    · rfl
    · exact absurd (hb.1 rfl) hc

end M
end Go.Proofs.Ytmjdmhelmgcanaa

/- r02.Rest, r02.Least, r02.Add, r02.Within. -/
namespace Go.Proofs.Ytmjdmhelmgcanaa
namespace M
open Go.RowKit
set_option linter.unusedSimpArgs false
set_option linter.unusedVariables false

def k2l (g : Cs → Cs → List (Prop × Cs × Option (List Av))) : LCon
  | [A, A'] => (coA 60 A).bind fun a => (coA 60 A').map fun b => (g a.2 b.2).map fun q => (a.1 ∧ b.1 ∧ q.1, q.2)
  | _ => none
def restL (l m : Cs) : List (Prop × Cs × Option (List Av)) := [(IsP l ∧ IsP m, ((puL l).sub (puL m)).lst, none)]
def leastL (l m : Cs) : List (Prop × Cs × Option (List Av)) := [(IsP l ∧ IsP m, ((puL l).min (puL m)).lst, none)]
def raddL (l m : Cs) : List (Prop × Cs × Option (List Av)) := [(IsP l ∧ IsP m ∧ (puL l).fits (puL m), ((puL l).add (puL m)).lst, some (B true)), (IsP l ∧ IsP m ∧ ¬ (puL l).fits (puL m), [], some (B false))]
def withL (l m : Cs) : List (Prop × Sv) := [(IsP l ∧ IsP m ∧ (puL l).le (puL m), .one (B true)), (IsP l ∧ IsP m ∧ ¬ (puL l).le (puL m), .one (B false))]
def tC3 : List Entry := ⟨34, 1, lcon ofsK⟩ :: ⟨38, 0, lcon oneK⟩ :: ⟨39, 0, lcon oneK⟩ :: ⟨36, 1, dcon ramK⟩ :: ⟨37, 1, dcon (k2c saL)⟩ :: ⟨43, 1, dcon (k2c saL)⟩ :: tC2
def X58 (x y : Nat → Nat) (i : Nat) : Nat → Nat := fun d => if d < i then x d - y d else x d
def X60 (x y : Nat → Nat) (i : Nat) : Nat → Nat := fun d => if d < i then min (x d) (y d) else x d
def X41 (x y : Nat → Nat) (i : Nat) : Nat → Nat := fun d => if d < i then x d + y d else x d
def X61 (x _y : Nat → Nat) (_i : Nat) : Nat → Nat := x
def o58 (a b : Nat) : Nat := a - b
def o60 (a b : Nat) : Nat := min a b
def S58 (i : Nat) : List (Nat × Sv) := [(5, .one [.ptr 5 0]), (6, .one [.ptr 6 0]), (7, .one [.int .i64 (i : Nat)])]
def S60 (i : Nat) : List (Nat × Sv) := [(5, .one [.ptr 5 0]), (6, .one [.ptr 6 0]), (7, .one [.int .i64 (i : Nat)])]
def S61 (i : Nat) : List (Nat × Sv) := [(5, .one [.ptr 5 0]), (6, .one [.ptr 6 0]), (7, .one [.int .i64 (i : Nat)])]
def S41 (i : Nat) : List (Nat × Sv) := [(6, .one [.ptr 6 0]), (7, .one [.ptr 7 0]), (8, .one [.int .i64 (i : Nat)])]
def H58 (x y : Nat → Nat) : List (Nat × Bk) := [(5, .var [.vec 4 8 x] 82), (6, .var [.vec 4 8 y] 82)]
def H60 (x y : Nat → Nat) : List (Nat × Bk) := [(5, .var [.vec 4 8 x] 82), (6, .var [.vec 4 8 y] 82)]
def H61 (x y : Nat → Nat) : List (Nat × Bk) := [(5, .var [.vec 4 8 x] 82), (6, .var [.vec 4 8 y] 82)]
def H41 (x y : Nat → Nat) : List (Nat × Bk) := [(6, .var [.vec 4 8 x] 82), (7, .var [.vec 4 8 y] 82)]
def T58 : Nat := 27
def T60 : Nat := 27
def T61 : Nat := 24
def T41 : Nat := 36
theorem tC3_ok : TabOK tC3 := .cons ofs_e (.cons one_e (.cons rone_e (.cons ramount_e (.cons same37_e (.cons csame_e tC2_ok)))))


theorem k2l_ok {f : FuncId} {fn : Func} {c : Code} (hf : Try.prog.funcs[f]? = some fn) (hb : fn.body = some c) (hcall : ∀ args w, (callFunc f args).run Try.prog w = .ok (.enter f args) w) {tab : List Entry} (ht : TabOK tab) {g : Cs → Cs → List (Prop × Cs × Option (List Av))} {cls : Nat}
    (hnt : 2 ≤ fn.ntmps)
    (h : ∀ l m, okC l → okC m → ∀ p ∈ g l m, p.1 → (okC p.2.1 ∧ (∀ e, p.2.2 = some e → ∀ a ∈ e, a.plain)) ∧ ∀ w0 b c', (b = true → l = []) → (c' = true → m = []) →
      Goes Try.prog fn.ntmps w0 [.code c] .norm (kn (argS 0 [inS b 1000 l, inS c' 1001 m]) (inH 60 b 1000 l (inH 60 c' 1001 m []))) (Fin (ctx tab fn.ntmps) fn.results.toList (LFin p.2.1 p.2.2))) : EOK ⟨f, cls, lcon (k2l g)⟩ := by
  refine co_lcon (t := 60) hf hb hcall ht fun args l hl p hp hc => ?_
  unfold k2l at hl
  split at hl
  · rename_i A A'
    obtain ⟨a, ha, hl⟩ := Option.bind_eq_some_iff.1 hl
    obtain ⟨b, hb', rfl⟩ := Option.map_eq_some_iff.1 hl
    obtain ⟨q, hq, rfl⟩ := List.mem_map.1 hp
    refine ⟨[a.2, b.2], [], ⟨[A, A'], [], rfl, .cons ha hc.1 (.cons hb' hc.2.1 .nil), rfl, fun l hl => by cases hl⟩, hnt, fun h1 _ => ?_⟩
    obtain ⟨h2, h3⟩ := h a.2 b.2 (h1 _ List.mem_cons_self) (h1 _ (List.mem_cons_of_mem _ List.mem_cons_self)) q hq hc.2.2
    refine ⟨h2, fun ps e1 e2 w0 => ?_⟩
    obtain ⟨x, y, rfl, e3, e4⟩ := two_in e1 e2
    exact h3 w0 x y e3 e4
  · cases hl

theorem start58 {w0 : Base} {l m : Cs} {b c : Bool} (hl : okC l) (hm : okC m) (pl : IsP l) (pm : IsP m) (hb : b = true → l = []) (hc : c = true → m = []) :
    Goes Try.prog Try.f58.ntmps w0 [.code (bodyOf Try.f58)] .norm (kn (argS 0 [inS b 1000 l, inS c 1001 m]) (inH 60 b 1000 l (inH 60 c 1001 m [])))
    fun k o σ => k = kOf 0 (bodyOf Try.f58) ∧ o = .norm ∧ σ = kn (S58 0) (H58 (puL l).f (puL m).f) := by
  have c1 : Coi (rowL l) l.length := Coi_rowL hl.2
  have c2 : Coi (rowL m) m.length := Coi_rowL hm.2
  have l1 := lst_rowL l
  have l2 := lst_rowL m
  have h0 := IsP_nil
  cases b
  · cases c
    · have e : kn (S58 0) (H58 (puL l).f (puL m).f) = kn (S58 0) (H58 (puL (lst (rowL l) l.length)).f (puL (lst (rowL m) m.length)).f) := by rw [l1, l2]
      rw [e]
      exact goes (ctx_ok tC2_ok T58) mixed rfl (gs := [7, 8]) (gh := []) (orc := way []) (stops := [0]) (f := 3000) (k := [.code (bodyOf Try.f58)]) (o := .norm) (σ := (kn (argS 0 [slA l, slB m]) (saH l m))) (cs := [True, True, ((60 : TypeId) = (60 : TypeId) ∧ List.length l = List.length l ∧ List.length l < (4096 : Nat) ∧ Coi (rowL l) (List.length l)) ∧ IsP (lst (rowL l) (List.length l)), True, ((60 : TypeId) = (60 : TypeId) ∧ List.length m = List.length m ∧ List.length m < (4096 : Nat) ∧ Coi (rowL m) (List.length m)) ∧ IsP (lst (rowL m) (List.length m)), True, True, True, True, True]) (k' := (kOf 0 (bodyOf Try.f58))) (o' := .norm) (S := (S58 0)) (H := (H58 (puL (lst (rowL l) l.length)).f (puL (lst (rowL m) m.length)).f)) (by kernel_rfl) (by kernel_rfl) (by simp only [conj, and_true, true_and, l1, l2, c1, c2, hl.1, hm.1, pl, pm])
    · obtain rfl := hc rfl
      have e : kn (S58 0) (H58 (puL l).f (puL []).f) = kn (S58 0) (H58 (puL (lst (rowL l) l.length)).f (puL []).f) := by rw [l1]
      rw [e]
      exact goes (ctx_ok tC2_ok T58) mixed rfl (gs := [7, 8]) (gh := []) (orc := way []) (stops := [0]) (f := 3000) (k := [.code (bodyOf Try.f58)]) (o := .norm) (σ := (kn (argS 0 [slA l, .one [.nil]]) [rwA 60 l])) (cs := [True, True, ((60 : TypeId) = (60 : TypeId) ∧ List.length l = List.length l ∧ List.length l < (4096 : Nat) ∧ Coi (rowL l) (List.length l)) ∧ IsP (lst (rowL l) (List.length l)), True, True ∧ IsP [], True, True, True, True, True]) (k' := (kOf 0 (bodyOf Try.f58))) (o' := .norm) (S := (S58 0)) (H := (H58 (puL (lst (rowL l) l.length)).f (puL []).f)) (by kernel_rfl) (by kernel_rfl) (by simp only [conj, and_true, true_and, l1, c1, hl.1, pl, h0])
  · obtain rfl := hb rfl
    cases c
    · have e : kn (S58 0) (H58 (puL []).f (puL m).f) = kn (S58 0) (H58 (puL []).f (puL (lst (rowL m) m.length)).f) := by rw [l2]
      rw [e]
      exact goes (ctx_ok tC2_ok T58) mixed rfl (gs := [7, 8]) (gh := []) (orc := way []) (stops := [0]) (f := 3000) (k := [.code (bodyOf Try.f58)]) (o := .norm) (σ := (kn (argS 0 [.one [.nil], slB m]) [rwB m])) (cs := [True, True, True ∧ IsP [], True, ((60 : TypeId) = (60 : TypeId) ∧ List.length m = List.length m ∧ List.length m < (4096 : Nat) ∧ Coi (rowL m) (List.length m)) ∧ IsP (lst (rowL m) (List.length m)), True, True, True, True, True]) (k' := (kOf 0 (bodyOf Try.f58))) (o' := .norm) (S := (S58 0)) (H := (H58 (puL []).f (puL (lst (rowL m) m.length)).f)) (by kernel_rfl) (by kernel_rfl) (by simp only [conj, and_true, true_and, l2, c2, hm.1, pm, h0])
    · obtain rfl := hc rfl
      exact goes (ctx_ok tC2_ok T58) mixed rfl (gs := [7, 8]) (gh := []) (orc := way []) (stops := [0]) (f := 3000) (k := [.code (bodyOf Try.f58)]) (o := .norm) (σ := (kn (argS 0 [.one [.nil], .one [.nil]]) [])) (cs := [True, True, True ∧ IsP [], True, True ∧ IsP [], True, True, True, True, True]) (k' := (kOf 0 (bodyOf Try.f58))) (o' := .norm) (S := (S58 0)) (H := (H58 (puL []).f (puL []).f)) (by kernel_rfl) (by kernel_rfl) (by simp only [conj, and_true, true_and, h0])

theorem start60 {w0 : Base} {l m : Cs} {b c : Bool} (hl : okC l) (hm : okC m) (pl : IsP l) (pm : IsP m) (hb : b = true → l = []) (hc : c = true → m = []) :
    Goes Try.prog Try.f60.ntmps w0 [.code (bodyOf Try.f60)] .norm (kn (argS 0 [inS b 1000 l, inS c 1001 m]) (inH 60 b 1000 l (inH 60 c 1001 m [])))
    fun k o σ => k = kOf 0 (bodyOf Try.f60) ∧ o = .norm ∧ σ = kn (S60 0) (H60 (puL l).f (puL m).f) := by
  have c1 : Coi (rowL l) l.length := Coi_rowL hl.2
  have c2 : Coi (rowL m) m.length := Coi_rowL hm.2
  have l1 := lst_rowL l
  have l2 := lst_rowL m
  have h0 := IsP_nil
  cases b
  · cases c
    · have e : kn (S60 0) (H60 (puL l).f (puL m).f) = kn (S60 0) (H60 (puL (lst (rowL l) l.length)).f (puL (lst (rowL m) m.length)).f) := by rw [l1, l2]
      rw [e]
      exact goes (ctx_ok tC2_ok T60) mixed rfl (gs := [7, 8]) (gh := []) (orc := way []) (stops := [0]) (f := 3000) (k := [.code (bodyOf Try.f60)]) (o := .norm) (σ := (kn (argS 0 [slA l, slB m]) (saH l m))) (cs := [True, True, ((60 : TypeId) = (60 : TypeId) ∧ List.length l = List.length l ∧ List.length l < (4096 : Nat) ∧ Coi (rowL l) (List.length l)) ∧ IsP (lst (rowL l) (List.length l)), True, ((60 : TypeId) = (60 : TypeId) ∧ List.length m = List.length m ∧ List.length m < (4096 : Nat) ∧ Coi (rowL m) (List.length m)) ∧ IsP (lst (rowL m) (List.length m)), True, True, True, True, True]) (k' := (kOf 0 (bodyOf Try.f60))) (o' := .norm) (S := (S60 0)) (H := (H60 (puL (lst (rowL l) l.length)).f (puL (lst (rowL m) m.length)).f)) (by kernel_rfl) (by kernel_rfl) (by simp only [conj, and_true, true_and, l1, l2, c1, c2, hl.1, hm.1, pl, pm])
    · obtain rfl := hc rfl
      have e : kn (S60 0) (H60 (puL l).f (puL []).f) = kn (S60 0) (H60 (puL (lst (rowL l) l.length)).f (puL []).f) := by rw [l1]
      rw [e]
      exact goes (ctx_ok tC2_ok T60) mixed rfl (gs := [7, 8]) (gh := []) (orc := way []) (stops := [0]) (f := 3000) (k := [.code (bodyOf Try.f60)]) (o := .norm) (σ := (kn (argS 0 [slA l, .one [.nil]]) [rwA 60 l])) (cs := [True, True, ((60 : TypeId) = (60 : TypeId) ∧ List.length l = List.length l ∧ List.length l < (4096 : Nat) ∧ Coi (rowL l) (List.length l)) ∧ IsP (lst (rowL l) (List.length l)), True, True ∧ IsP [], True, True, True, True, True]) (k' := (kOf 0 (bodyOf Try.f60))) (o' := .norm) (S := (S60 0)) (H := (H60 (puL (lst (rowL l) l.length)).f (puL []).f)) (by kernel_rfl) (by kernel_rfl) (by simp only [conj, and_true, true_and, l1, c1, hl.1, pl, h0])
  · obtain rfl := hb rfl
    cases c
    · have e : kn (S60 0) (H60 (puL []).f (puL m).f) = kn (S60 0) (H60 (puL []).f (puL (lst (rowL m) m.length)).f) := by rw [l2]
      rw [e]
      exact goes (ctx_ok tC2_ok T60) mixed rfl (gs := [7, 8]) (gh := []) (orc := way []) (stops := [0]) (f := 3000) (k := [.code (bodyOf Try.f60)]) (o := .norm) (σ := (kn (argS 0 [.one [.nil], slB m]) [rwB m])) (cs := [True, True, True ∧ IsP [], True, ((60 : TypeId) = (60 : TypeId) ∧ List.length m = List.length m ∧ List.length m < (4096 : Nat) ∧ Coi (rowL m) (List.length m)) ∧ IsP (lst (rowL m) (List.length m)), True, True, True, True, True]) (k' := (kOf 0 (bodyOf Try.f60))) (o' := .norm) (S := (S60 0)) (H := (H60 (puL []).f (puL (lst (rowL m) m.length)).f)) (by kernel_rfl) (by kernel_rfl) (by simp only [conj, and_true, true_and, l2, c2, hm.1, pm, h0])
    · obtain rfl := hc rfl
      exact goes (ctx_ok tC2_ok T60) mixed rfl (gs := [7, 8]) (gh := []) (orc := way []) (stops := [0]) (f := 3000) (k := [.code (bodyOf Try.f60)]) (o := .norm) (σ := (kn (argS 0 [.one [.nil], .one [.nil]]) [])) (cs := [True, True, True ∧ IsP [], True, True ∧ IsP [], True, True, True, True, True]) (k' := (kOf 0 (bodyOf Try.f60))) (o' := .norm) (S := (S60 0)) (H := (H60 (puL []).f (puL []).f)) (by kernel_rfl) (by kernel_rfl) (by simp only [conj, and_true, true_and, h0])

theorem start61 {w0 : Base} {l m : Cs} {b c : Bool} (hl : okC l) (hm : okC m) (pl : IsP l) (pm : IsP m) (hb : b = true → l = []) (hc : c = true → m = []) :
    Goes Try.prog Try.f61.ntmps w0 [.code (bodyOf Try.f61)] .norm (kn (argS 0 [inS b 1000 l, inS c 1001 m]) (inH 60 b 1000 l (inH 60 c 1001 m [])))
    fun k o σ => k = kOf 0 (bodyOf Try.f61) ∧ o = .norm ∧ σ = kn (S61 0) (H61 (puL l).f (puL m).f) := by
  have c1 : Coi (rowL l) l.length := Coi_rowL hl.2
  have c2 : Coi (rowL m) m.length := Coi_rowL hm.2
  have l1 := lst_rowL l
  have l2 := lst_rowL m
  have h0 := IsP_nil
  cases b
  · cases c
    · have e : kn (S61 0) (H61 (puL l).f (puL m).f) = kn (S61 0) (H61 (puL (lst (rowL l) l.length)).f (puL (lst (rowL m) m.length)).f) := by rw [l1, l2]
      rw [e]
      exact goes (ctx_ok tC2_ok T61) mixed rfl (gs := [7, 8]) (gh := []) (orc := way []) (stops := [0]) (f := 3000) (k := [.code (bodyOf Try.f61)]) (o := .norm) (σ := (kn (argS 0 [slA l, slB m]) (saH l m))) (cs := [True, True, ((60 : TypeId) = (60 : TypeId) ∧ List.length l = List.length l ∧ List.length l < (4096 : Nat) ∧ Coi (rowL l) (List.length l)) ∧ IsP (lst (rowL l) (List.length l)), True, ((60 : TypeId) = (60 : TypeId) ∧ List.length m = List.length m ∧ List.length m < (4096 : Nat) ∧ Coi (rowL m) (List.length m)) ∧ IsP (lst (rowL m) (List.length m)), True, True, True, True, True]) (k' := (kOf 0 (bodyOf Try.f61))) (o' := .norm) (S := (S61 0)) (H := (H61 (puL (lst (rowL l) l.length)).f (puL (lst (rowL m) m.length)).f)) (by kernel_rfl) (by kernel_rfl) (by simp only [conj, and_true, true_and, l1, l2, c1, c2, hl.1, hm.1, pl, pm])
    · obtain rfl := hc rfl
      have e : kn (S61 0) (H61 (puL l).f (puL []).f) = kn (S61 0) (H61 (puL (lst (rowL l) l.length)).f (puL []).f) := by rw [l1]
      rw [e]
      exact goes (ctx_ok tC2_ok T61) mixed rfl (gs := [7, 8]) (gh := []) (orc := way []) (stops := [0]) (f := 3000) (k := [.code (bodyOf Try.f61)]) (o := .norm) (σ := (kn (argS 0 [slA l, .one [.nil]]) [rwA 60 l])) (cs := [True, True, ((60 : TypeId) = (60 : TypeId) ∧ List.length l = List.length l ∧ List.length l < (4096 : Nat) ∧ Coi (rowL l) (List.length l)) ∧ IsP (lst (rowL l) (List.length l)), True, True ∧ IsP [], True, True, True, True, True]) (k' := (kOf 0 (bodyOf Try.f61))) (o' := .norm) (S := (S61 0)) (H := (H61 (puL (lst (rowL l) l.length)).f (puL []).f)) (by kernel_rfl) (by kernel_rfl) (by simp only [conj, and_true, true_and, l1, c1, hl.1, pl, h0])
  · obtain rfl := hb rfl
    cases c
    · have e : kn (S61 0) (H61 (puL []).f (puL m).f) = kn (S61 0) (H61 (puL []).f (puL (lst (rowL m) m.length)).f) := by rw [l2]
      rw [e]
      exact goes (ctx_ok tC2_ok T61) mixed rfl (gs := [7, 8]) (gh := []) (orc := way []) (stops := [0]) (f := 3000) (k := [.code (bodyOf Try.f61)]) (o := .norm) (σ := (kn (argS 0 [.one [.nil], slB m]) [rwB m])) (cs := [True, True, True ∧ IsP [], True, ((60 : TypeId) = (60 : TypeId) ∧ List.length m = List.length m ∧ List.length m < (4096 : Nat) ∧ Coi (rowL m) (List.length m)) ∧ IsP (lst (rowL m) (List.length m)), True, True, True, True, True]) (k' := (kOf 0 (bodyOf Try.f61))) (o' := .norm) (S := (S61 0)) (H := (H61 (puL []).f (puL (lst (rowL m) m.length)).f)) (by kernel_rfl) (by kernel_rfl) (by simp only [conj, and_true, true_and, l2, c2, hm.1, pm, h0])
    · obtain rfl := hc rfl
      exact goes (ctx_ok tC2_ok T61) mixed rfl (gs := [7, 8]) (gh := []) (orc := way []) (stops := [0]) (f := 3000) (k := [.code (bodyOf Try.f61)]) (o := .norm) (σ := (kn (argS 0 [.one [.nil], .one [.nil]]) [])) (cs := [True, True, True ∧ IsP [], True, True ∧ IsP [], True, True, True, True, True]) (k' := (kOf 0 (bodyOf Try.f61))) (o' := .norm) (S := (S61 0)) (H := (H61 (puL []).f (puL []).f)) (by kernel_rfl) (by kernel_rfl) (by simp only [conj, and_true, true_and, h0])

theorem start41 {w0 : Base} {l m : Cs} {b c : Bool} (hl : okC l) (hm : okC m) (pl : IsP l) (pm : IsP m) (hb : b = true → l = []) (hc : c = true → m = []) :
    Goes Try.prog Try.f41.ntmps w0 [.code (bodyOf Try.f41)] .norm (kn (argS 0 [inS b 1000 l, inS c 1001 m]) (inH 60 b 1000 l (inH 60 c 1001 m [])))
    fun k o σ => k = kOf 0 (bodyOf Try.f41) ∧ o = .norm ∧ σ = kn (S41 0) (H41 (puL l).f (puL m).f) := by
  have c1 : Coi (rowL l) l.length := Coi_rowL hl.2
  have c2 : Coi (rowL m) m.length := Coi_rowL hm.2
  have l1 := lst_rowL l
  have l2 := lst_rowL m
  have h0 := IsP_nil
  cases b
  · cases c
    · have e : kn (S41 0) (H41 (puL l).f (puL m).f) = kn (S41 0) (H41 (puL (lst (rowL l) l.length)).f (puL (lst (rowL m) m.length)).f) := by rw [l1, l2]
      rw [e]
      exact goes (ctx_ok tC2_ok T41) mixed rfl (gs := [7, 8]) (gh := []) (orc := way []) (stops := [0]) (f := 3000) (k := [.code (bodyOf Try.f41)]) (o := .norm) (σ := (kn (argS 0 [slA l, slB m]) (saH l m))) (cs := [True, True, True, ((60 : TypeId) = (60 : TypeId) ∧ List.length l = List.length l ∧ List.length l < (4096 : Nat) ∧ Coi (rowL l) (List.length l)) ∧ IsP (lst (rowL l) (List.length l)), True, ((60 : TypeId) = (60 : TypeId) ∧ List.length m = List.length m ∧ List.length m < (4096 : Nat) ∧ Coi (rowL m) (List.length m)) ∧ IsP (lst (rowL m) (List.length m)), True, True, True, True, True]) (k' := (kOf 0 (bodyOf Try.f41))) (o' := .norm) (S := (S41 0)) (H := (H41 (puL (lst (rowL l) l.length)).f (puL (lst (rowL m) m.length)).f)) (by kernel_rfl) (by kernel_rfl) (by simp only [conj, and_true, true_and, l1, l2, c1, c2, hl.1, hm.1, pl, pm])
    · obtain rfl := hc rfl
      have e : kn (S41 0) (H41 (puL l).f (puL []).f) = kn (S41 0) (H41 (puL (lst (rowL l) l.length)).f (puL []).f) := by rw [l1]
      rw [e]
      exact goes (ctx_ok tC2_ok T41) mixed rfl (gs := [7, 8]) (gh := []) (orc := way []) (stops := [0]) (f := 3000) (k := [.code (bodyOf Try.f41)]) (o := .norm) (σ := (kn (argS 0 [slA l, .one [.nil]]) [rwA 60 l])) (cs := [True, True, True, ((60 : TypeId) = (60 : TypeId) ∧ List.length l = List.length l ∧ List.length l < (4096 : Nat) ∧ Coi (rowL l) (List.length l)) ∧ IsP (lst (rowL l) (List.length l)), True, True ∧ IsP [], True, True, True, True, True]) (k' := (kOf 0 (bodyOf Try.f41))) (o' := .norm) (S := (S41 0)) (H := (H41 (puL (lst (rowL l) l.length)).f (puL []).f)) (by kernel_rfl) (by kernel_rfl) (by simp only [conj, and_true, true_and, l1, c1, hl.1, pl, h0])
  · obtain rfl := hb rfl
    cases c
    · have e : kn (S41 0) (H41 (puL []).f (puL m).f) = kn (S41 0) (H41 (puL []).f (puL (lst (rowL m) m.length)).f) := by rw [l2]
      rw [e]
      exact goes (ctx_ok tC2_ok T41) mixed rfl (gs := [7, 8]) (gh := []) (orc := way []) (stops := [0]) (f := 3000) (k := [.code (bodyOf Try.f41)]) (o := .norm) (σ := (kn (argS 0 [.one [.nil], slB m]) [rwB m])) (cs := [True, True, True, True ∧ IsP [], True, ((60 : TypeId) = (60 : TypeId) ∧ List.length m = List.length m ∧ List.length m < (4096 : Nat) ∧ Coi (rowL m) (List.length m)) ∧ IsP (lst (rowL m) (List.length m)), True, True, True, True, True]) (k' := (kOf 0 (bodyOf Try.f41))) (o' := .norm) (S := (S41 0)) (H := (H41 (puL []).f (puL (lst (rowL m) m.length)).f)) (by kernel_rfl) (by kernel_rfl) (by simp only [conj, and_true, true_and, l2, c2, hm.1, pm, h0])
    · obtain rfl := hc rfl
      exact goes (ctx_ok tC2_ok T41) mixed rfl (gs := [7, 8]) (gh := []) (orc := way []) (stops := [0]) (f := 3000) (k := [.code (bodyOf Try.f41)]) (o := .norm) (σ := (kn (argS 0 [.one [.nil], .one [.nil]]) [])) (cs := [True, True, True, True ∧ IsP [], True, True ∧ IsP [], True, True, True, True, True]) (k' := (kOf 0 (bodyOf Try.f41))) (o' := .norm) (S := (S41 0)) (H := (H41 (puL []).f (puL []).f)) (by kernel_rfl) (by kernel_rfl) (by simp only [conj, and_true, true_and, h0])

theorem X58_step (x y : Nat → Nat) (i : Nat) : upd (X58 x y i) i (o58 (X58 x y i i) (y i)) = X58 x y (i + 1) := by
  funext d
  by_cases h : d = i
  · subst h
    rw [upd_same]
    simp only [X58, o58, Nat.lt_irrefl, if_false, Nat.lt_succ_self, if_true]
  · rw [upd_ne _ _ h]
    simp only [X58]
    by_cases h2 : d < i
    · rw [if_pos h2, if_pos (by omega)]
    · rw [if_neg h2, if_neg (by omega)]

theorem go58 {w0 : Base} {x y : Nat → Nat} : Goes Try.prog Try.f58.ntmps w0 (kOf 0 (bodyOf Try.f58)) .norm (kn (S58 0) (H58 x y)) (Fin (ctx tC2 27) Try.f58.results.toList (LFin (Purse.mk' (X58 x y 8)).lst none)) := by
  have hk : kOf 0 (bodyOf Try.f58) = .code (.block 0 (.loop (roundOf 0 (bodyOf Try.f58)))) :: restOf 0 (bodyOf Try.f58) := by kernel_rfl
  rw [hk]
  have e0 : X58 x y 0 = x := rfl
  have ini : kn (S58 0) (H58 x y) = kn (S58 0) (H58 (X58 x y 0) y) := by rw [e0]
  rw [ini]
  refine (goes_loop (fun i : Nat => kn (S58 i) (H58 (X58 x y i) y)) (fun i => i ≤ 8) (fun i => 8 - i) (fun o σ => o = .norm ∧ σ = kn (S58 8) (H58 (X58 x y 8) y)) ?_ (p := 0) (by omega)).bind ?_
  · intro i hi
    by_cases h8 : i < 8
    · refine (goes (ctx_ok tC2_ok T58) mixed rfl (gs := []) (gh := []) (orc := way []) (stops := []) (f := 3000) (k := [.code (roundOf 0 (bodyOf Try.f58))]) (o := .norm) (σ := (kn (S58 i) (H58 (X58 x y i) y))) (cs := [True, (↑i : Int) < (8 : Int), True, True, (0 : Int) ≤ (↑i : Int) ∧ (↑i : Int) < (↑(8 : Nat) : Int), i < (8 : Nat), True, (0 : Int) ≤ (↑i : Int) ∧ (↑i : Int) < (↑(8 : Nat) : Int), i < (8 : Nat), True, (0 : Int) ≤ (↑i : Int) ∧ (↑i : Int) < (↑(8 : Nat) : Int), i < (8 : Nat), True, (-9223372036854775808 : Int) ≤ (↑i : Int) + (1 : Int) ∧ (↑i : Int) + (1 : Int) < (9223372036854775808 : Int), True]) (k' := []) (o' := .norm) (S := (S58 (i + 1))) (H := (H58 (upd (X58 x y i) i (o58 (X58 x y i i) (y i))) y)) (by kernel_rfl) (by kernel_rfl) (by simp only [conj, and_true, true_and, Int.toNat_natCast]; omega)).mono ?_
      rintro k o σ ⟨rfl, rfl, rfl⟩
      exact ⟨rfl, .inl ⟨rfl, i + 1, h8, by omega, by rw [X58_step]⟩⟩
    · obtain rfl : i = 8 := by omega
      refine (goes (ctx_ok tC2_ok T58) mixed rfl (gs := []) (gh := []) (orc := way [(13, 1)]) (stops := []) (f := 3000) (k := [.code (roundOf 0 (bodyOf Try.f58))]) (o := .norm) (σ := (kn (S58 8) (H58 (X58 x y 8) y))) (cs := [True, ¬(↑(8 : Nat) : Int) < (8 : Int)]) (k' := []) (o' := (.exit 0)) (S := (S58 8)) (H := (H58 (X58 x y 8) y)) (by kernel_rfl) (by kernel_rfl) (by simp [conj])).mono ?_
      rintro k o σ ⟨rfl, rfl, rfl⟩
      exact ⟨rfl, .inr ⟨by simp, rfl, rfl⟩⟩
  · rintro k o σ ⟨rfl, rfl, rfl⟩
    by_cases h0 : (Purse.mk' (X58 x y 8)).lst.length = 0
    · exact goes_ret (ctx_ok tC2_ok T58) mixed rfl (orc := way []) (stops := []) (f := 3000) (k := (restOf 0 (bodyOf Try.f58))) (o := .norm) (σ := (kn (S58 8) (H58 (X58 x y 8) y))) (cs := [True, True ∧ List.length (Purse.lst (Purse.mk' (X58 x y (8 : Nat)))) = (0 : Nat), True]) (o' := .ret) (rs := Try.f58.results.toList) (v := (.one [.nil])) (H := ([] : List (Nat × Bk))) (by kernel_rfl) (.inr rfl) (by simp only [conj, and_true, true_and]; exact h0) fun _ _ => .inl ⟨h0, rfl⟩
    · exact goes_ret (ctx_ok tC2_ok T58) mixed rfl (orc := way [(26, 1)]) (stops := []) (f := 3000) (k := (restOf 0 (bodyOf Try.f58))) (o := .norm) (σ := (kn (S58 8) (H58 (X58 x y 8) y))) (cs := [True, True ∧ (0 : Nat) < List.length (Purse.lst (Purse.mk' (X58 x y (8 : Nat)))), True]) (o' := .ret) (rs := Try.f58.results.toList) (v := (.one [.sl 26 5 0 (Purse.mk' (X58 x y 8)).lst.length])) (H := [(26, Bk.row true 60 5 (Purse.mk' (X58 x y 8)).lst.length (rowL (Purse.mk' (X58 x y 8)).lst))]) (by kernel_rfl) (.inr rfl) (by simp only [conj, and_true, true_and]; exact Nat.pos_of_ne_zero h0) fun σ hσ => .inr ⟨by omega, 26, _, rfl, hσ (26, _) List.mem_cons_self, rfl⟩

theorem X60_step (x y : Nat → Nat) (i : Nat) : upd (X60 x y i) i (o60 (X60 x y i i) (y i)) = X60 x y (i + 1) := by
  funext d
  by_cases h : d = i
  · subst h
    rw [upd_same]
    simp only [X60, o60, Nat.lt_irrefl, if_false, Nat.lt_succ_self, if_true]
  · rw [upd_ne _ _ h]
    simp only [X60]
    by_cases h2 : d < i
    · rw [if_pos h2, if_pos (by omega)]
    · rw [if_neg h2, if_neg (by omega)]

theorem go60 {w0 : Base} {x y : Nat → Nat} : Goes Try.prog Try.f60.ntmps w0 (kOf 0 (bodyOf Try.f60)) .norm (kn (S60 0) (H60 x y)) (Fin (ctx tC2 27) Try.f60.results.toList (LFin (Purse.mk' (X60 x y 8)).lst none)) := by
  have hk : kOf 0 (bodyOf Try.f60) = .code (.block 0 (.loop (roundOf 0 (bodyOf Try.f60)))) :: restOf 0 (bodyOf Try.f60) := by kernel_rfl
  rw [hk]
  have e0 : X60 x y 0 = x := rfl
  have ini : kn (S60 0) (H60 x y) = kn (S60 0) (H60 (X60 x y 0) y) := by rw [e0]
  rw [ini]
  refine (goes_loop (fun i : Nat => kn (S60 i) (H60 (X60 x y i) y)) (fun i => i ≤ 8) (fun i => 8 - i) (fun o σ => o = .norm ∧ σ = kn (S60 8) (H60 (X60 x y 8) y)) ?_ (p := 0) (by omega)).bind ?_
  · intro i hi
    by_cases h8 : i < 8
    · refine (goes (ctx_ok tC2_ok T60) mixed rfl (gs := []) (gh := []) (orc := way []) (stops := []) (f := 3000) (k := [.code (roundOf 0 (bodyOf Try.f60))]) (o := .norm) (σ := (kn (S60 i) (H60 (X60 x y i) y))) (cs := [True, (↑i : Int) < (8 : Int), True, True, (0 : Int) ≤ (↑i : Int) ∧ (↑i : Int) < (↑(8 : Nat) : Int), i < (8 : Nat), True, (0 : Int) ≤ (↑i : Int) ∧ (↑i : Int) < (↑(8 : Nat) : Int), i < (8 : Nat), True, (0 : Int) ≤ (↑i : Int) ∧ (↑i : Int) < (↑(8 : Nat) : Int), i < (8 : Nat), True, (-9223372036854775808 : Int) ≤ (↑i : Int) + (1 : Int) ∧ (↑i : Int) + (1 : Int) < (9223372036854775808 : Int), True]) (k' := []) (o' := .norm) (S := (S60 (i + 1))) (H := (H60 (upd (X60 x y i) i (o60 (X60 x y i i) (y i))) y)) (by kernel_rfl) (by kernel_rfl) (by simp only [conj, and_true, true_and, Int.toNat_natCast]; omega)).mono ?_
      rintro k o σ ⟨rfl, rfl, rfl⟩
      exact ⟨rfl, .inl ⟨rfl, i + 1, h8, by omega, by rw [X60_step]⟩⟩
    · obtain rfl : i = 8 := by omega
      refine (goes (ctx_ok tC2_ok T60) mixed rfl (gs := []) (gh := []) (orc := way [(13, 1)]) (stops := []) (f := 3000) (k := [.code (roundOf 0 (bodyOf Try.f60))]) (o := .norm) (σ := (kn (S60 8) (H60 (X60 x y 8) y))) (cs := [True, ¬(↑(8 : Nat) : Int) < (8 : Int)]) (k' := []) (o' := (.exit 0)) (S := (S60 8)) (H := (H60 (X60 x y 8) y)) (by kernel_rfl) (by kernel_rfl) (by simp [conj])).mono ?_
      rintro k o σ ⟨rfl, rfl, rfl⟩
      exact ⟨rfl, .inr ⟨by simp, rfl, rfl⟩⟩
  · rintro k o σ ⟨rfl, rfl, rfl⟩
    by_cases h0 : (Purse.mk' (X60 x y 8)).lst.length = 0
    · exact goes_ret (ctx_ok tC2_ok T60) mixed rfl (orc := way []) (stops := []) (f := 3000) (k := (restOf 0 (bodyOf Try.f60))) (o := .norm) (σ := (kn (S60 8) (H60 (X60 x y 8) y))) (cs := [True, True ∧ List.length (Purse.lst (Purse.mk' (X60 x y (8 : Nat)))) = (0 : Nat), True]) (o' := .ret) (rs := Try.f60.results.toList) (v := (.one [.nil])) (H := ([] : List (Nat × Bk))) (by kernel_rfl) (.inr rfl) (by simp only [conj, and_true, true_and]; exact h0) fun _ _ => .inl ⟨h0, rfl⟩
    · exact goes_ret (ctx_ok tC2_ok T60) mixed rfl (orc := way [(26, 1)]) (stops := []) (f := 3000) (k := (restOf 0 (bodyOf Try.f60))) (o := .norm) (σ := (kn (S60 8) (H60 (X60 x y 8) y))) (cs := [True, True ∧ (0 : Nat) < List.length (Purse.lst (Purse.mk' (X60 x y (8 : Nat)))), True]) (o' := .ret) (rs := Try.f60.results.toList) (v := (.one [.sl 26 5 0 (Purse.mk' (X60 x y 8)).lst.length])) (H := [(26, Bk.row true 60 5 (Purse.mk' (X60 x y 8)).lst.length (rowL (Purse.mk' (X60 x y 8)).lst))]) (by kernel_rfl) (.inr rfl) (by simp only [conj, and_true, true_and]; exact Nat.pos_of_ne_zero h0) fun σ hσ => .inr ⟨by omega, 26, _, rfl, hσ (26, _) List.mem_cons_self, rfl⟩

theorem X58_end (p q : Purse) : Purse.mk' (X58 p.f q.f 8) = p.sub q := Purse.ext' fun d hd => by
  have := p.hb d
  have e : X58 p.f q.f 8 d = p.f d - q.f d := if_pos hd
  rw [Purse.mk'_f hd (by rw [e]; omega), e]; rfl
theorem X60_end (p q : Purse) : Purse.mk' (X60 p.f q.f 8) = p.min q := Purse.ext' fun d hd => by
  have := p.hb d
  have e : X60 p.f q.f 8 d = min (p.f d) (q.f d) := if_pos hd
  rw [Purse.mk'_f hd (by rw [e]; omega), e]; rfl

theorem rrest_ce : EOK ⟨58, 1, lcon (k2l restL)⟩ := by
  refine k2l_ok Try.func58 (c := bodyOf Try.f58) rfl (fun a w => Try.call58 a w) tC2_ok (Nat.le_of_ble_eq_true (by kernel_rfl)) fun l m hl hm p hp hc => ?_
  simp only [restL, List.mem_singleton] at hp
  subst hp
  refine ⟨⟨okP _, fun _ h => by cases h⟩, fun w0 b c hb hc' => (start58 hl hm hc.1 hc.2 hb hc').bind ?_⟩
  rintro k o σ ⟨rfl, rfl, rfl⟩
  have := go58 (w0 := w0) (x := (puL l).f) (y := (puL m).f)
  rw [X58_end] at this
  exact this
theorem rleast_ce : EOK ⟨60, 1, lcon (k2l leastL)⟩ := by
  refine k2l_ok Try.func60 (c := bodyOf Try.f60) rfl (fun a w => Try.call60 a w) tC2_ok (Nat.le_of_ble_eq_true (by kernel_rfl)) fun l m hl hm p hp hc => ?_
  simp only [leastL, List.mem_singleton] at hp
  subst hp
  refine ⟨⟨okP _, fun _ h => by cases h⟩, fun w0 b c hb hc' => (start60 hl hm hc.1 hc.2 hb hc').bind ?_⟩
  rintro k o σ ⟨rfl, rfl, rfl⟩
  have := go60 (w0 := w0) (x := (puL l).f) (y := (puL m).f)
  rw [X60_end] at this
  exact this

/-! ## Within -/

theorem go61 {w0 : Base} {p q : Purse} : Goes Try.prog Try.f61.ntmps w0 (kOf 0 (bodyOf Try.f61)) .norm (kn (S61 0) (H61 p.f q.f)) (Fin (ctx tC2 24) Try.f61.results.toList fun v _ => ∃ r, v = .one (B r) ∧ (r = true ↔ p.le q)) := by
  have hk : kOf 0 (bodyOf Try.f61) = .code (.block 0 (.loop (roundOf 0 (bodyOf Try.f61)))) :: restOf 0 (bodyOf Try.f61) := by kernel_rfl
  rw [hk]
  refine (goes_loop (fun i : Nat => kn (S61 i) (H61 p.f q.f)) (fun i => i ≤ 8 ∧ ∀ d, d < i → p.f d ≤ q.f d) (fun i => 8 - i) (fun o σ => (o = .norm ∧ σ = kn (S61 8) (H61 p.f q.f) ∧ p.le q) ∨ (o = .ret ∧ σ = kn [(4, .one (B false))] [] ∧ ¬ p.le q)) ?_ (p := 0) ⟨by omega, fun d hd => by omega⟩).bind ?_
  · rintro i ⟨hi, hinv⟩
    by_cases h8 : i < 8
    · by_cases hle : p.f i ≤ q.f i
      · refine (goes (ctx_ok tC2_ok T61) mixed rfl (gs := []) (gh := []) (orc := way [(23, 1)]) (stops := []) (f := 3000) (k := [.code (roundOf 0 (bodyOf Try.f61))]) (o := .norm) (σ := (kn (S61 i) (H61 p.f q.f))) (cs := [True, (↑i : Int) < (8 : Int), True, (0 : Int) ≤ (↑i : Int) ∧ (↑i : Int) < (↑(8 : Nat) : Int), i < (8 : Nat), True, (0 : Int) ≤ (↑i : Int) ∧ (↑i : Int) < (↑(8 : Nat) : Int), i < (8 : Nat), True, ¬(0 : Int) < cmpN (Purse.f p i) (Purse.f q i), True, (-9223372036854775808 : Int) ≤ (↑i : Int) + (1 : Int) ∧ (↑i : Int) + (1 : Int) < (9223372036854775808 : Int), True]) (k' := []) (o' := .norm) (S := (S61 (i + 1))) (H := (H61 p.f q.f)) (by kernel_rfl) (by kernel_rfl) (by simp only [conj, and_true, true_and, Int.toNat_natCast, cmp_gt0]; omega)).mono ?_
        rintro k o σ ⟨rfl, rfl, rfl⟩
        refine ⟨rfl, .inl ⟨rfl, i + 1, ⟨h8, fun d hd => ?_⟩, by omega, rfl⟩⟩
        by_cases hd2 : d < i
        · exact hinv d hd2
        · obtain rfl : d = i := by omega
          exact hle
      · refine (goes (ctx_ok tC2_ok T61) mixed rfl (gs := []) (gh := []) (orc := way []) (stops := []) (f := 3000) (k := [.code (roundOf 0 (bodyOf Try.f61))]) (o := .norm) (σ := (kn (S61 i) (H61 p.f q.f))) (cs := [True, (↑i : Int) < (8 : Int), True, (0 : Int) ≤ (↑i : Int) ∧ (↑i : Int) < (↑(8 : Nat) : Int), i < (8 : Nat), True, (0 : Int) ≤ (↑i : Int) ∧ (↑i : Int) < (↑(8 : Nat) : Int), i < (8 : Nat), True, (0 : Int) < cmpN (Purse.f p i) (Purse.f q i), True]) (k' := []) (o' := .ret) (S := [(4, .one (B false))]) (H := ([] : List (Nat × Bk))) (by kernel_rfl) (by kernel_rfl) (by simp only [conj, and_true, true_and, Int.toNat_natCast, cmp_gt0]; omega)).mono ?_
        rintro k o σ ⟨rfl, rfl, rfl⟩
        exact ⟨rfl, .inr ⟨by simp, .inr ⟨rfl, rfl, fun h => hle (h i)⟩⟩⟩
    · obtain rfl : i = 8 := by omega
      refine (goes (ctx_ok tC2_ok T61) mixed rfl (gs := []) (gh := []) (orc := way [(13, 1)]) (stops := []) (f := 3000) (k := [.code (roundOf 0 (bodyOf Try.f61))]) (o := .norm) (σ := (kn (S61 8) (H61 p.f q.f))) (cs := [True, ¬(↑(8 : Nat) : Int) < (8 : Int)]) (k' := []) (o' := (.exit 0)) (S := (S61 8)) (H := (H61 p.f q.f)) (by kernel_rfl) (by kernel_rfl) (by simp [conj])).mono ?_
      rintro k o σ ⟨rfl, rfl, rfl⟩
      refine ⟨rfl, .inr ⟨by simp, .inl ⟨rfl, rfl, fun d => ?_⟩⟩⟩
      by_cases hd : d < 8
      · exact hinv d hd
      · rw [p.hm d (by omega)]; omega
  · rintro k o σ ⟨rfl, ⟨rfl, rfl, he⟩ | ⟨rfl, rfl, he⟩⟩
    · exact goes_ret (ctx_ok tC2_ok T61) mixed rfl (orc := way []) (stops := []) (f := 3000) (k := (restOf 0 (bodyOf Try.f61))) (o := .norm) (σ := (kn (S61 8) (H61 p.f q.f))) (cs := [True]) (o' := .ret) (rs := Try.f61.results.toList) (v := (.one (B true))) (H := ([] : List (Nat × Bk))) (by kernel_rfl) (.inr rfl) (by simp [conj]) fun _ _ => ⟨true, rfl, fun _ => he, fun _ => rfl⟩
    · exact goes_ret (ctx_ok tC2_ok T61) mixed rfl (orc := way []) (stops := []) (f := 3000) (k := (restOf 0 (bodyOf Try.f61))) (o := .ret) (σ := (kn [(4, .one (B false))] [])) (cs := []) (o' := .ret) (rs := Try.f61.results.toList) (v := (.one (B false))) (H := ([] : List (Nat × Bk))) (by kernel_rfl) (.inr rfl) (by simp [conj]) fun _ _ => ⟨false, rfl, (fun h => by cases h), fun h => absurd h he⟩

theorem rwithin_e : EOK ⟨61, 1, dcon (k2c withL)⟩ := by
  refine k2c_ok Try.func61 (c := bodyOf Try.f61) rfl (fun a w => Try.call61 a w) tC2_ok (Nat.le_of_ble_eq_true (by kernel_rfl)) fun l m hl hm p hp hc => ?_
  simp only [withL, List.mem_cons, List.not_mem_nil, or_false] at hp
  rcases hp with rfl | rfl
  all_goals
    refine ⟨oneP (B_plain _), fun w0 b c hb hc' => (start61 hl hm hc.1 hc.2.1 hb hc').bind ?_⟩
    rintro k o σ ⟨rfl, rfl, rfl⟩
    refine (go61 (w0 := w0) (p := puL l) (q := puL m)).mono fun k o σ hf => Fin.mono ?_ hf
    rintro v _ ⟨r, rfl, hr⟩
  · rw [hr.2 hc.2.2]
  · cases r
    · rfl
    · exact absurd (hr.1 rfl) hc.2.2

/-! ## Add -/

theorem X41_step (x y : Nat → Nat) (i : Nat) : upd (X41 x y i) i (X41 x y i i + y i) = X41 x y (i + 1) := by
  funext d
  by_cases h : d = i
  · subst h
    rw [upd_same]
    simp only [X41, Nat.lt_irrefl, if_false, Nat.lt_succ_self, if_true]
  · rw [upd_ne _ _ h]
    simp only [X41]
    by_cases h2 : d < i
    · rw [if_pos h2, if_pos (by omega)]
    · rw [if_neg h2, if_neg (by omega)]
theorem X41_end {p q : Purse} (h : p.fits q) : Purse.mk' (X41 p.f q.f 8) = p.add q := Purse.ext' fun d hd => by
  have e : X41 p.f q.f 8 d = p.f d + q.f d := if_pos hd
  rw [Purse.mk'_f hd (by rw [e]; exact h d), e, Purse.add_f h]

theorem go41 {w0 : Base} {p q : Purse} : Goes Try.prog Try.f41.ntmps w0 (kOf 0 (bodyOf Try.f41)) .norm (kn (S41 0) (H41 p.f q.f)) (Fin (ctx tC2 36) Try.f41.results.toList fun v σ =>
    (p.fits q ∧ LFin (p.add q).lst (some (B true)) v σ) ∨ (¬ p.fits q ∧ LFin [] (some (B false)) v σ)) := by
  have hk : kOf 0 (bodyOf Try.f41) = .code (.block 0 (.loop (roundOf 0 (bodyOf Try.f41)))) :: restOf 0 (bodyOf Try.f41) := by kernel_rfl
  rw [hk]
  have e0 : X41 p.f q.f 0 = p.f := rfl
  have ini : kn (S41 0) (H41 p.f q.f) = kn (S41 0) (H41 (X41 p.f q.f 0) q.f) := by rw [e0]
  rw [ini]
  refine (goes_loop (fun i : Nat => kn (S41 i) (H41 (X41 p.f q.f i) q.f)) (fun i => i ≤ 8 ∧ ∀ d, d < i → p.f d + q.f d < TOP) (fun i => 8 - i)
    (fun o σ => (o = .norm ∧ σ = kn (S41 8) (H41 (X41 p.f q.f 8) q.f) ∧ p.fits q) ∨ (o = .ret ∧ σ = kn [(4, .one [.nil]), (5, .one (B false))] [] ∧ ¬ p.fits q)) ?_ (p := 0) ⟨by omega, fun d hd => by omega⟩).bind ?_
  · rintro i ⟨hi, hinv⟩
    by_cases h8 : i < 8
    · have ei : X41 p.f q.f i i = p.f i := if_neg (Nat.lt_irrefl _)
      by_cases hle : p.f i + q.f i < TOP
      · refine (goes (ctx_ok tC2_ok T41) mixed rfl (gs := []) (gh := []) (orc := way []) (stops := []) (f := 3000) (k := [.code (roundOf 0 (bodyOf Try.f41))]) (o := .norm) (σ := (kn (S41 i) (H41 (X41 p.f q.f i) q.f))) (cs := [True, (↑i : Int) < (8 : Int), True, (0 : Int) ≤ (↑i : Int) ∧ (↑i : Int) < (↑(8 : Nat) : Int), i < (8 : Nat), True, (0 : Int) ≤ (↑i : Int) ∧ (↑i : Int) < (↑(8 : Nat) : Int), i < (8 : Nat), X41 (Purse.f p) (Purse.f q) i i + Purse.f q i < TOP, True, True, True, True, True, True, True, True, True, True, (0 : Int) ≤ (↑i : Int) ∧ (↑i : Int) < (↑(8 : Nat) : Int), i < (8 : Nat), True, (-9223372036854775808 : Int) ≤ (↑i : Int) + (1 : Int) ∧ (↑i : Int) + (1 : Int) < (9223372036854775808 : Int), True]) (k' := []) (o' := .norm) (S := (S41 (i + 1))) (H := (H41 (upd (X41 p.f q.f i) i (X41 p.f q.f i i + q.f i)) q.f)) (by kernel_rfl) (by kernel_rfl) (by simp only [conj, and_true, true_and, Int.toNat_natCast, ei]; omega)).mono ?_
        rintro k o σ ⟨rfl, rfl, rfl⟩
        refine ⟨rfl, .inl ⟨rfl, i + 1, ⟨h8, fun d hd => ?_⟩, by omega, by rw [X41_step]⟩⟩
        by_cases hd2 : d < i
        · exact hinv d hd2
        · obtain rfl : d = i := by omega
          exact hle
      · refine (goes (ctx_ok tC2_ok T41) mixed rfl (gs := []) (gh := []) (orc := way [(26, 1)]) (stops := []) (f := 3000) (k := [.code (roundOf 0 (bodyOf Try.f41))]) (o := .norm) (σ := (kn (S41 i) (H41 (X41 p.f q.f i) q.f))) (cs := [True, (↑i : Int) < (8 : Int), True, (0 : Int) ≤ (↑i : Int) ∧ (↑i : Int) < (↑(8 : Nat) : Int), i < (8 : Nat), True, (0 : Int) ≤ (↑i : Int) ∧ (↑i : Int) < (↑(8 : Nat) : Int), i < (8 : Nat), TOP ≤ X41 (Purse.f p) (Purse.f q) i i + Purse.f q i, True, True, True, True, True, True, True, True, True, True]) (k' := []) (o' := .ret) (S := [(4, .one [.nil]), (5, .one (B false))]) (H := ([] : List (Nat × Bk))) (by kernel_rfl) (by kernel_rfl) (by simp only [conj, and_true, true_and, Int.toNat_natCast, ei]; omega)).mono ?_
        rintro k o σ ⟨rfl, rfl, rfl⟩
        exact ⟨rfl, .inr ⟨by simp, .inr ⟨rfl, rfl, fun h => hle (h i)⟩⟩⟩
    · obtain rfl : i = 8 := by omega
      refine (goes (ctx_ok tC2_ok T41) mixed rfl (gs := []) (gh := []) (orc := way [(16, 1)]) (stops := []) (f := 3000) (k := [.code (roundOf 0 (bodyOf Try.f41))]) (o := .norm) (σ := (kn (S41 8) (H41 (X41 p.f q.f 8) q.f))) (cs := [True, ¬(↑(8 : Nat) : Int) < (8 : Int)]) (k' := []) (o' := (.exit 0)) (S := (S41 8)) (H := (H41 (X41 p.f q.f 8) q.f)) (by kernel_rfl) (by kernel_rfl) (by simp [conj])).mono ?_
      rintro k o σ ⟨rfl, rfl, rfl⟩
      refine ⟨rfl, .inr ⟨by simp, .inl ⟨rfl, rfl, fun d => ?_⟩⟩⟩
      by_cases hd : d < 8
      · exact hinv d hd
      · rw [p.hm d (by omega), q.hm d (by omega)]; exact top_pos
  · rintro k o σ ⟨rfl, ⟨rfl, rfl, he⟩ | ⟨rfl, rfl, he⟩⟩
    · have e3 := X41_end he
      by_cases h0 : (Purse.mk' (X41 p.f q.f 8)).lst.length = 0
      · exact goes_ret (ctx_ok tC2_ok T41) mixed rfl (orc := way []) (stops := []) (f := 3000) (k := (restOf 0 (bodyOf Try.f41))) (o := .norm) (σ := (kn (S41 8) (H41 (X41 p.f q.f 8) q.f))) (cs := [True, True ∧ List.length (Purse.lst (Purse.mk' (X41 (Purse.f p) (Purse.f q) (8 : Nat)))) = (0 : Nat), True, True]) (o' := .ret) (rs := Try.f41.results.toList) (v := (.tup [[.nil], B true])) (H := ([] : List (Nat × Bk))) (by kernel_rfl) (.inr rfl) (by simp only [conj, and_true, true_and]; exact h0) fun _ _ => .inl ⟨he, .inl ⟨by rw [← e3]; exact h0, rfl⟩⟩
      · refine goes_ret (ctx_ok tC2_ok T41) mixed rfl (orc := way [(35, 1)]) (stops := []) (f := 3000) (k := (restOf 0 (bodyOf Try.f41))) (o := .norm) (σ := (kn (S41 8) (H41 (X41 p.f q.f 8) q.f))) (cs := [True, True ∧ (0 : Nat) < List.length (Purse.lst (Purse.mk' (X41 (Purse.f p) (Purse.f q) (8 : Nat)))), True, True]) (o' := .ret) (rs := Try.f41.results.toList) (v := (.tup [[.sl 35 5 0 (Purse.mk' (X41 p.f q.f 8)).lst.length], B true])) (H := [(35, Bk.row true 60 5 (Purse.mk' (X41 p.f q.f 8)).lst.length (rowL (Purse.mk' (X41 p.f q.f 8)).lst))]) (by kernel_rfl) (.inr rfl) (by simp only [conj, and_true, true_and]; exact Nat.pos_of_ne_zero h0) fun σ hσ => .inl ⟨he, ?_⟩
        rw [e3] at h0 hσ ⊢
        exact .inr ⟨by omega, 35, _, rfl, hσ (35, _) List.mem_cons_self, rfl⟩
    · exact goes_ret (ctx_ok tC2_ok T41) mixed rfl (orc := way []) (stops := []) (f := 3000) (k := (restOf 0 (bodyOf Try.f41))) (o := .ret) (σ := (kn [(4, .one [.nil]), (5, .one (B false))] [])) (cs := []) (o' := .ret) (rs := Try.f41.results.toList) (v := (.tup [[.nil], B false])) (H := ([] : List (Nat × Bk))) (by kernel_rfl) (.inr rfl) (by simp [conj]) fun _ _ => .inr ⟨he, .inl ⟨rfl, rfl⟩⟩

theorem okC_nil : okC [] := ⟨by decide, fun c hc => by cases hc⟩
theorem radd_ce : EOK ⟨41, 1, lcon (k2l raddL)⟩ := by
  refine k2l_ok Try.func41 (c := bodyOf Try.f41) rfl (fun a w => Try.call41 a w) tC2_ok (Nat.le_of_ble_eq_true (by kernel_rfl)) fun l m hl hm p hp hc => ?_
  simp only [raddL, List.mem_cons, List.not_mem_nil, or_false] at hp
  rcases hp with rfl | rfl
  · refine ⟨⟨okP _, fun _ h => by cases h; exact B_plain _⟩, fun w0 b c hb hc' => (start41 hl hm hc.1 hc.2.1 hb hc').bind ?_⟩
    rintro k o σ ⟨rfl, rfl, rfl⟩
    refine (go41 (w0 := w0) (p := puL l) (q := puL m)).mono fun k o σ hf => Fin.mono ?_ hf
    rintro v σ (⟨_, h⟩ | ⟨h, _⟩)
    · exact h
    · exact absurd hc.2.2 h
  · refine ⟨⟨okC_nil, fun _ h => by cases h; exact B_plain _⟩, fun w0 b c hb hc' => (start41 hl hm hc.1 hc.2.1 hb hc').bind ?_⟩
    rintro k o σ ⟨rfl, rfl, rfl⟩
    refine (go41 (w0 := w0) (p := puL l) (q := puL m)).mono fun k o σ hf => Fin.mono ?_ hf
    rintro v σ (⟨h, _⟩ | ⟨_, h⟩)
    · exact absurd h hc.2.2
    · exact h

end M
end Go.Proofs.Ytmjdmhelmgcanaa

/- coins.sure, its closure, coins.each. -/
namespace Go.Proofs.Ytmjdmhelmgcanaa
namespace M
open Go.RowKit
set_option linter.unusedSimpArgs false
set_option linter.unusedVariables false

def cloK : DCon
  | [[(.big 4 x, _)], [(.big 4 y, _)], [(.ptr _ 0, some (.var [.fn 86] 55))]] => some [(x < TOP ∧ y < TOP, .tup [N (x - y), E 0])]
  | [[(.big 4 x, _)], [(.big 4 y, _)], [(.ptr _ 0, some (.var [.fn 87] 55))]] => some [(x < TOP ∧ y < TOP, .tup [N (min x y), E 0])]
  | _ => none
def sureC : Con
  | [[(.fn g, _)]] => some [⟨True, fun d => .one [.clo 109 d], fun d => .new d (.var [.fn g] 55)⟩]
  | _ => none
def cloH (g : Nat) : List (Nat × Bk) := [(1000, .var [.fn g] 55)]
def tC4 : List Entry := ⟨109, 1, dcon cloK⟩ :: ⟨96, 0, sureC⟩ :: tC3
def apL (l m : Cs) : Nat → List Av := fun i => bif Nat.blt i l.length then rowL l i else rowL m (0 + (i - l.length))
def apL0 (m : Cs) : Nat → List Av := fun i => rowL m (0 + i)
def G79 : Sv := .one [.fn 79]
def G80 : Sv := .one [.fn 80]
def G86 : Sv := .one [.clo 109 1002]
def G87 : Sv := .one [.clo 109 1002]
def Gh79 : List (Nat × Bk) := []
def Gh80 : List (Nat × Bk) := []
def Gh86 : List (Nat × Bk) := [(1002, .var [.fn 86] 55)]
def Gh87 : List (Nat × Bk) := [(1002, .var [.fn 87] 55)]
def o79 (a b : Nat) : Nat := a + b
def o80 (a b : Nat) : Nat := a - b
def o86 (a b : Nat) : Nat := a - b
def o87 (a b : Nat) : Nat := min a b
def k79 (a b : Nat) : Prop := a + b < TOP
def k80 (a b : Nat) : Prop := b ≤ a
def k86 (_ _ : Nat) : Prop := True
def k87 (_ _ : Nat) : Prop := True
def er79 : Int := 2
def er80 : Int := 3
/-- an argument's coins, as the contract reads them -/
def laA (b : Bool) (l : Cs) : Cs := bif b then [] else lst (rowL l) l.length
def eaS (a c : Bool) (G : Sv) (l m : Cs) (k : Nat) (v : Av) : List (Nat × Sv) := [(0, inS a 1000 l), (1, inS c 1001 m), (2, G), (8, .one [v]), (12, .one [.int .u8 (k : Nat)])]
def eaH (a c : Bool) (H : List (Nat × Bk)) (l m : Cs) : List (Nat × Bk) := inH 60 a 1000 l (inH 60 c 1001 m H)
def rw5 (l : Cs) : Nat × Bk := (500, .row true 60 5 l.length (rowL l))
def Z79 (a c : Bool) (l m : Cs) (k : Nat) : Nat := o79 (amt (laA a l) k) (amt (laA c m) k)
def Z80 (a c : Bool) (l m : Cs) (k : Nat) : Nat := o80 (amt (laA a l) k) (amt (laA c m) k)
def Z86 (a c : Bool) (l m : Cs) (k : Nat) : Nat := o86 (amt (laA a l) k) (amt (laA c m) k)
def Z87 (a c : Bool) (l m : Cs) (k : Nat) : Nat := o87 (amt (laA a l) k) (amt (laA c m) k)

theorem tC3'_ok : TabOK tC3 := tC3_ok

/-- a call that keeps a variable that is not its own -/
theorem below_cap {nt : Nat} {w w' : World} {ρ ρ' : Env} {σ' : Ms} {a : Act} {bc : Nat} {hF : ∀ b, w.heap.size ≤ b → b = bc ∨ w.heap.size ≤ b} {l : List Av} {t : TypeId} {i : Nat} (hr : Rep nt ⟨w, fun b => b = bc ∨ w.heap.size ≤ b, ρ, hF⟩ ρ' σ' a w')
    (hi : 1000 ≤ i) (hbc : ρ.b i = bc) (hl : ∀ a ∈ l, a.plain) (hw : w.heap[bc]? = some (.cells (cellsL ρ0 l).toArray t (0, 0))) (hs : σ'.heap i = some (.var l t)) : Below w.heap.size w w' := by
  refine ⟨hr.below.os, hr.below.tape, hr.below.output, hr.below.size, fun k hk => ?_⟩
  by_cases hkb : k = bc
  · subst hkb
    obtain ⟨_, h2⟩ := hr.blocks i _ hs
    have h3 : ρ'.b i = k := (hr.names i hi).2.1.trans hbc
    rw [h3, cells_plain hl ρ0 ρ'] at h2
    rw [h2, hw]
  · exact hr.below.block k hk fun h => by
      rcases h with h | h
      · exact hkb h
      · omega

theorem clo86_goes {w0 : Base} {x y : Nat} : Goes Try.prog Try.f109.ntmps w0 [.code (bodyOf Try.f109)] .norm (kn (argS 0 [.one (N x), .one (N y), .one [.ptr 1000 0]]) (cloH 86))
    (Fin (ctx tC3 11) Try.f109.results.toList fun v σ => v = .tup [N (o86 x y), E 0] ∧ σ.heap 1000 = some (.var [.fn 86] 55)) :=
  goes_ret (ctx_ok tC3_ok 11) mixed rfl (orc := way []) (stops := []) (f := 3000) (k := [.code (bodyOf Try.f109)]) (o := .norm) (σ := (kn (argS 0 [.one (N x), .one (N y), .one [.ptr 1000 0]]) (cloH 86))) (cs := [True, True, True, True, True, True, True, True, True, True]) (o' := .ret) (rs := Try.f109.results.toList) (v := (.tup [N (o86 x y), E 0])) (H := (cloH 86)) (by kernel_rfl) (.inr rfl) (by simp [conj]) fun σ hσ => ⟨rfl, hσ (1000, _) List.mem_cons_self⟩

theorem clo87_goes {w0 : Base} {x y : Nat} : Goes Try.prog Try.f109.ntmps w0 [.code (bodyOf Try.f109)] .norm (kn (argS 0 [.one (N x), .one (N y), .one [.ptr 1000 0]]) (cloH 87))
    (Fin (ctx tC3 11) Try.f109.results.toList fun v σ => v = .tup [N (o87 x y), E 0] ∧ σ.heap 1000 = some (.var [.fn 87] 55)) :=
  goes_ret (ctx_ok tC3_ok 11) mixed rfl (orc := way []) (stops := []) (f := 3000) (k := [.code (bodyOf Try.f109)]) (o := .norm) (σ := (kn (argS 0 [.one (N x), .one (N y), .one [.ptr 1000 0]]) (cloH 87))) (cs := [True, True, True, True, True, True, True, True, True, True]) (o' := .ret) (rs := Try.f109.results.toList) (v := (.tup [N (o87 x y), E 0])) (H := (cloH 87)) (by kernel_rfl) (.inr rfl) (by simp [conj]) fun σ hσ => ⟨rfl, hσ (1000, _) List.mem_cons_self⟩

theorem clo_calls {g : Nat} {x y : Nat} {r : Sv} (hr : r.all Av.plain) (hg : ∀ w0, Goes Try.prog Try.f109.ntmps w0 [.code (bodyOf Try.f109)] .norm (kn (argS 0 [.one (N x), .one (N y), .one [.ptr 1000 0]]) (cloH g))
    (Fin (ctx tC3 11) Try.f109.results.toList fun v σ => v = r ∧ σ.heap 1000 = some (.var [.fn g] 55))) {hx hy : Option Bk} {id : Nat} {ρ : Env} {w : World} {B : Nat → Prop}
    (hargs : ∀ A ∈ [[(Av.big 4 x, hx)], [(Av.big 4 y, hy)], [(Av.ptr id 0, some (Bk.var [.fn g] 55))]], ∀ q ∈ A, ArgOK ρ w B q) :
    Calls Try.prog 109 ([[(Av.big 4 x, hx)], [(Av.big 4 y, hy)], [(Av.ptr id 0, some (Bk.var [.fn g] 55))]].map (argV ρ)).toArray w fun e w' => Below w.heap.size w w' ∧ e = .returned (r.den ρ) := by
  have h1 : x < pow64 4 := (hargs _ List.mem_cons_self _ List.mem_cons_self).1 rfl
  have h2 : y < pow64 4 := (hargs _ (List.mem_cons_of_mem _ List.mem_cons_self) _ List.mem_cons_self).1 rfl
  obtain ⟨id', hid, ⟨hb1, hb2⟩, _⟩ := (hargs _ (List.mem_cons_of_mem _ (List.mem_cons_of_mem _ List.mem_cons_self)) _ List.mem_cons_self).2 _ rfl
  cases hid
  have hF : ∀ b, w.heap.size ≤ b → b = ρ.b id ∨ w.heap.size ≤ b := fun _ h => .inr h
  have hin : InOK ⟨w, fun b => b = ρ.b id ∨ w.heap.size ≤ b, ⟨fun _ => ρ.b id, ρ.o, ρ.c⟩, hF⟩ [.one (N x), .one (N y), .one [.ptr 1000 0]] (cloH g) := by
    refine ⟨?_, fun id' k hk => ?_, fun id' k hk => ?_, fun i j ki kj hi hj => ?_⟩
    · simp only [List.mem_cons, List.not_mem_nil, or_false]
      rintro s (rfl | rfl | rfl)
      · exact one1 (AvOK.of_plain h1)
      · exact one1 (AvOK.of_plain h2)
      · exact one1 ⟨rfl, rfl⟩
    · have := lookH_mem hk
      simp only [cloH, List.mem_singleton, Prod.mk.injEq] at this
      obtain ⟨rfl, rfl⟩ := this
      exact ⟨.inl rfl, hb2⟩
    · have := lookH_mem hk
      simp only [cloH, List.mem_singleton, Prod.mk.injEq] at this
      obtain ⟨rfl, rfl⟩ := this
      intro a ha
      simp only [List.mem_singleton] at ha
      subst ha
      exact AvOK.of_plain trivial
    · have a1 := lookH_mem hi
      have a2 := lookH_mem hj
      simp only [cloH, List.mem_singleton, Prod.mk.injEq] at a1 a2
      obtain ⟨rfl, rfl⟩ := a1
      obtain ⟨rfl, rfl⟩ := a2
      exact fun _ _ _ => rfl
  refine (calls_of (ctx_ok tC3_ok 11) Try.func109 (c := bodyOf Try.f109) rfl rfl (Nat.le_of_ble_eq_true (by kernel_rfl)) hin (hg _)).mono ?_
  rintro e w' ⟨v, σ', ρ', a', ⟨rfl, hs⟩, rfl, hrep, _⟩
  exact ⟨below_cap (l := [.fn g]) hrep (Nat.le_refl 1000) rfl (fun a ha => by simp only [List.mem_singleton] at ha; subst ha; trivial) hb2 hs, congrArg _ (den_plain hr ρ ρ')⟩

theorem clo_e : EOK ⟨109, 1, dcon cloK⟩ := by
  refine dcon_ok (fun a w => Try.call109 a w) fun args l hl p hp hc => ?_
  have ht := top_eq
  unfold cloK at hl
  split at hl
  · rename_i x hx y hy id
    cases hl
    simp only [List.mem_singleton] at hp
    subst hp
    obtain ⟨c1, c2⟩ : x < TOP ∧ y < TOP := hc
    have hpl : (Sv.tup [N (o86 x y), E 0]).all Av.plain := plain2 (by unfold o86; omega) (E_plain _)
    exact ⟨hpl, fun ρ w B' hargs => clo_calls hpl (fun w0 => clo86_goes) hargs⟩
  · rename_i x hx y hy id
    cases hl
    simp only [List.mem_singleton] at hp
    subst hp
    obtain ⟨c1, c2⟩ : x < TOP ∧ y < TOP := hc
    have hpl : (Sv.tup [N (o87 x y), E 0]).all Av.plain := plain2 (by unfold o87; omega) (E_plain _)
    exact ⟨hpl, fun ρ w B' hargs => clo_calls hpl (fun w0 => clo87_goes) hargs⟩
  · cases hl

theorem sure_goes {w0 : Base} {g : Nat} : Goes Try.prog Try.f96.ntmps w0 [.code (bodyOf Try.f96)] .norm (kn (argS 0 [.one [.fn g]]) [])
    (Fin (ctx tC3 4) Try.f96.results.toList fun v σ => v = .one [.clo 109 1] ∧ σ.heap 1 = some (.var [.fn g] 55)) :=
  goes_ret (ctx_ok tC3_ok 4) mixed rfl (orc := way []) (stops := []) (f := 3000) (k := [.code (bodyOf Try.f96)]) (o := .norm) (σ := (kn (argS 0 [.one [.fn g]]) [])) (cs := [True, True, True, True]) (o' := .ret) (rs := Try.f96.results.toList) (v := (.one [.clo 109 1])) (H := [(1, Bk.var [.fn g] 55)]) (by kernel_rfl) (.inr rfl) (by simp [conj]) fun σ hσ => ⟨rfl, hσ (1, _) List.mem_cons_self⟩

theorem sure_e : EOK ⟨96, 0, sureC⟩ := by
  constructor
  · intro args outs ho hargs i oc hi hc d
    have ho' : sureC args = some outs := ho
    unfold sureC at ho'
    split at ho'
    · rename_i g x
      cases ho'
      have hi' := List.mem_of_getElem? hi
      simp only [List.mem_singleton] at hi'
      subst hi'
      exact ⟨(fun d' h => by cases h; rfl), (fun _ h => by cases h), (fun _ _ h => by cases h; exact ⟨rfl, fun a ha => by simp only [List.mem_singleton] at ha; subst ha; trivial, trivial⟩), one1 (.inr (.inl ⟨rfl, rfl, rfl⟩))⟩
    · cases ho'
  · intro args outs ho i oc hi hc ρ w B' d hB hargs hd hinj
    have ho' : sureC args = some outs := ho
    unfold sureC at ho'
    split at ho'
    · rename_i g x
      cases ho'
      have hi' := List.mem_of_getElem? hi
      simp only [List.mem_singleton] at hi'
      subst hi'
      refine ⟨Try.call96 _ _, ?_⟩
      refine (calls_of (w0 := base w ρ) (ctx_ok tC3_ok 4) Try.func96 (c := bodyOf Try.f96) rfl rfl (args := [.one [.fn g]]) (Nat.le_of_ble_eq_true (by kernel_rfl)) (plain_in (base w ρ) [[.fn g]] (fun l hl a ha => by
        simp only [List.mem_singleton] at hl
        subst hl
        simp only [List.mem_singleton] at ha
        subst ha
        trivial)) sure_goes).mono ?_
      rintro e w' ⟨v, σ', ρ', a', ⟨rfl, hs⟩, rfl, hr, _⟩
      obtain ⟨h1, h2⟩ := hr.blocks 1 _ hs
      have hk := kept_below hr.below
      refine ⟨ρ.set d (ρ'.b 1) 0, ⟨hk.os, hk.tape, hk.output, hk.size, fun i hi => Env.set_ne fun e => hi (by rw [e]; rfl), fun b hb _ => hk.block b hb, fun id k h => ?_, fun d' h _ => ?_⟩, ?_⟩
      · cases h
        have e1 : (ρ.set d (ρ'.b 1) 0).b d = ρ'.b 1 := by simp [Env.set, upd_same]
        refine ⟨by rw [e1]; exact hB _ h1, by rw [e1, h2]; rfl⟩
      · cases h
        exact .inl (by simp [Env.set, upd_same]; exact h1)
      · have e1 : (ρ.set d (ρ'.b 1) 0).b d = ρ'.b 1 := by simp [Env.set, upd_same]
        refine congrArg _ ?_
        simp only [Sv.den, denL, Av.val, e1]
    · cases ho'

theorem tC4_ok : TabOK tC4 := .cons clo_e (.cons sure_e tC3_ok)

end M
end Go.Proofs.Ytmjdmhelmgcanaa

/- The lift of laws that take coins. -/
namespace Go.Proofs.Ytmjdmhelmgcanaa
open Go.ChangeShapes Go.WideShapes Go.ChangeAt Go.RowKit

namespace M
/-- a slice of so many elements, each known -/
def OpenS (es : Nat) (W : World) (v : Value) (f : Nat → List Av) (n : Nat) : Prop := (v = .slice none 0 0 ∧ n = 0) ∨ ∃ b off cap, v = .slice (some ⟨b, off, none⟩) n cap ∧ b < W.heap.size ∧ n ≤ cap ∧ cap ≤ maxLen ∧ RowOK es n f ∧ ∀ j u, (rowC f n)[j]? = some u → W.cell? ⟨b, off + j, none⟩ = some u

theorem rowC_get {f : Nat → List Av} {es : Nat} (hes : 0 < es) : ∀ {n : Nat}, (∀ i, i < n → sizeL (f i) = es) → ∀ {j : Nat} {u : Value}, (rowC f n)[j]? = some u → ∃ i r, i < n ∧ r < es ∧ j = i * es + r ∧ (cellsL ρ0 (f i))[r]? = some u
  | 0, _, j, u, h => by simp [rowC] at h
  | n + 1, hs, j, u, h => by
    rw [rowC] at h
    have hl : (rowC f n).length = n * es := rowC_length fun i hi => hs i (by omega)
    by_cases hj : j < n * es
    · rw [List.getElem?_append_left (by omega)] at h
      obtain ⟨i, r, h1, h2, h3, h4⟩ := rowC_get hes (fun i hi => hs i (by omega)) h
      exact ⟨i, r, by omega, h2, h3, h4⟩
    · rw [List.getElem?_append_right (by omega), hl] at h
      have hlt := (List.getElem?_eq_some_iff.1 h).1
      rw [cellsL_length, hs n (by omega)] at hlt
      exact ⟨n, j - n * es, by omega, hlt, by omega, h⟩
end M

set_option maxRecDepth 100000 in
/-- a slice of a law's argument, opened: what its elements are is said by the last hypothesis -/
theorem open_slice {H : Type} {enc : TypeId × Value → H} {W : World} {base : Nat} {spare : Nat → Bool} {held : Bool} {r : Reach} {b0 : Nat} {v : Value} {d : DataW H} {ps : List MemPlace} {t e : TypeId} {es : Nat} (hes : 0 < es)
    (ht : Try.prog.underlying t = some (.slice e)) (hce : Try.prog.cellsOf e = es)
    (hval : Value.okWide Try.prog W r b0 t v) (hd : DataW.Trod enc Try.prog W base spare held t v d ps)
    (hel : ∀ n cs x, cs.length = es → DataW.trod enc Try.prog W base spare held n e cs = some x → ∃ l : List M.Av, cs = M.cellsL M.ρ0 l ∧ M.sizeL l = es ∧ ∀ a ∈ l, a.plain) :
    ∃ f n, M.OpenS es W v f n ∧ ∀ i, i < n → ∃ m cs x, cs.length = es ∧ DataW.trod enc Try.prog W base spare held m e cs = some x ∧ cs = M.cellsL M.ρ0 (f i) := by
  obtain ⟨fuel, hf⟩ := hd
  obtain ⟨a, len, cap, rfl⟩ := okWide_slice ht hval
  rcases DataW.trod_slice ht hf with ⟨hcs, _⟩ | ⟨a', len', cap', elems, rest, m, _, hcs, _, _, hle, hmax, hlen, hget, _⟩
  · simp [Value.cells] at hcs
    obtain ⟨rfl, rfl, rfl⟩ := hcs
    exact ⟨fun _ => [], 0, .inl ⟨rfl, rfl⟩, fun i hi => by omega⟩
  · simp [Value.cells] at hcs
    obtain ⟨rfl, rfl, rfl⟩ := hcs
    simp only [Value.okWide, ht, Cell.okWide, Cell.ok] at hval
    obtain ⟨_, _, _, hspot, row, cells, hsh, _⟩ := hval
    obtain ⟨b, off, spot⟩ := a'
    simp only at hspot
    subst hspot
    have hb : b < W.heap.size := by
      simp only [World.shape?] at hsh
      cases hbk : W.heap[b]? with
      | none => rw [hbk] at hsh; simp at hsh
      | some o => exact (Array.getElem?_eq_some_iff.1 hbk).1
    rw [hce] at hget
    have key : ∀ i, i < len → ∃ cs x, cs.length = es ∧ (∀ k, k < es → W.cell? ⟨b, off + i * es + k, none⟩ = cs[k]?) ∧ DataW.trod enc Try.prog W base spare held m e cs = some x := by
      intro i hi
      have h1 := hget i hi
      have h2 : ∃ x, elems[i]? = some x := ⟨_, List.getElem?_eq_getElem (by omega)⟩
      obtain ⟨x, hx⟩ := h2
      rw [hx] at h1
      obtain ⟨cs, h3, h4⟩ := Option.bind_eq_some_iff.1 h1
      obtain ⟨_, h5, h6⟩ := World.cells?_some h3
      refine ⟨cs, x, h5, fun k hk => ?_, h4⟩
      have := h6 k hk
      rw [add_plain, add_plain] at this
      exact this
    have key2 : ∀ i, ∃ l : List M.Av, i < len → M.sizeL l = es ∧ (∀ a ∈ l, a.plain) ∧ ∃ cs x, cs.length = es ∧ DataW.trod enc Try.prog W base spare held m e cs = some x ∧ cs = M.cellsL M.ρ0 l ∧ ∀ k, k < es → W.cell? ⟨b, off + i * es + k, none⟩ = cs[k]? := by
      intro i
      by_cases hi : i < len
      · obtain ⟨cs, x, h1, h2, h3⟩ := key i hi
        obtain ⟨l, h4, h5, h6⟩ := hel m cs x h1 h3
        exact ⟨l, fun _ => ⟨h5, h6, cs, x, h1, h3, h4, h2⟩⟩
      · exact ⟨[], fun h => absurd h hi⟩
    obtain ⟨f, hf2⟩ := Classical.axiomOfChoice key2
    refine ⟨f, len, .inr ⟨b, off, cap, rfl, hb, hle, hmax, ⟨hes, fun i hi => ⟨(hf2 i hi).1, (hf2 i hi).2.1⟩⟩, fun j u hj => ?_⟩, fun i hi => ?_⟩
    · obtain ⟨i, r, h1, h2, rfl, h4⟩ := M.rowC_get hes (fun i hi => (hf2 i hi).1) hj
      obtain ⟨_, _, cs, x, h5, h6, h7, h8⟩ := hf2 i h1
      have := h8 r h2
      rw [h7, h4] at this
      rw [← this, Nat.add_assoc]
    · obtain ⟨_, _, cs, x, h5, h6, h7, h8⟩ := hf2 i hi
      exact ⟨m, cs, x, h5, h6, h7⟩

set_option maxRecDepth 100000 in
/-- a coin's cells, read: or what has a denomination and a number -/
theorem coin_cells {H : Type} {enc : TypeId × Value → H} {W : World} {base : Nat} {spare : Nat → Bool} {held : Bool} {m : Nat} {cs : List Value} {x : DataW H × List MemPlace} {e : TypeId} {f0 f1 : Field}
    (ht : Try.prog.underlying e = some (.struct #[f0, f1])) (h0 : f0.type = 5) (h1 : f1.type = 28) (o0 : f0.offset = 0) (o1 : f1.offset = 1) (hl : cs.length = 5)
    (h : DataW.trod enc Try.prog W base spare held m e cs = some x) : ∃ c : Nat × Nat, (c.1 < 256 ∧ c.2 < TOP) ∧ cs = M.cellsL M.ρ0 (M.cel c) := by
  obtain ⟨y0, y1, n, -, -, g0, g1⟩ := trod_struct2 ht h
  have e5 : Try.prog.cellsOf 5 = 1 := by kernel_rfl
  have e4 : Try.prog.cellsOf 28 = 4 := by kernel_rfl
  rw [h0, o0, e5] at g0
  rw [h1, o1, e4] at g1
  match cs, hl with
  | [c0, c1, c2, c3, c4], _ =>
    simp only [List.drop_zero, List.drop_succ_cons, List.take_succ_cons, List.take_zero] at g0 g1
    obtain ⟨d, ed, -, wd⟩ := DataW.trod_int Try.underlying5 g0
    obtain ⟨n, hn, en⟩ := num_cells g1
    simp only [List.cons.injEq, and_true] at ed
    subst ed
    simp only [Lit.wf, Bool.and_eq_true, decide_eq_true_eq] at wd
    have q1 : IntKind.u8.min = 0 := rfl
    have q2 : IntKind.u8.max = 255 := rfl
    obtain ⟨k, rfl⟩ := Int.eq_ofNat_of_zero_le (by omega : 0 ≤ d)
    refine ⟨(k, n), ⟨by show k < 256; omega, hn⟩, ?_⟩
    rw [en]
    simp [M.cellsL, M.cel, M.Av.cells, M.Av.val, M.words4, limbs]

namespace M
/-- an argument that is coins -/
def OpenC (W : World) (v : Value) (l : Cs) : Prop := (∀ c ∈ l, c.1 < 256 ∧ c.2 < TOP) ∧ OpenS 5 W v (rowL l) l.length

end M

set_option maxRecDepth 100000 in
theorem open_coins {H : Type} {enc : TypeId × Value → H} {W : World} {base : Nat} {spare : Nat → Bool} {held : Bool} {r : Reach} {b0 : Nat} {v : Value} {d : DataW H} {ps : List MemPlace} {t e : TypeId} {f0 f1 : Field}
    (ht : Try.prog.underlying t = some (.slice e)) (hce : Try.prog.cellsOf e = 5) (hte : Try.prog.underlying e = some (.struct #[f0, f1])) (h0 : f0.type = 5) (h1 : f1.type = 28) (o0 : f0.offset = 0) (o1 : f1.offset = 1)
    (hval : Value.okWide Try.prog W r b0 t v) (hd : DataW.Trod enc Try.prog W base spare held t v d ps) : ∃ l : M.Cs, M.OpenC W v l := by
  obtain ⟨f, n, ho, hf⟩ := open_slice (by omega : 0 < 5) ht hce hval hd fun m cs x hl hx => by
    obtain ⟨c, hc, e⟩ := coin_cells hte h0 h1 o0 o1 hl hx
    refine ⟨M.cel c, e, rfl, fun a ha => ?_⟩
    simp only [M.cel, List.mem_cons, List.not_mem_nil, or_false] at ha
    rcases ha with rfl | rfl
    · trivial
    · show c.2 < M.pow64 4
      rw [M.pow64_4]; exact hc.2
  have key : ∀ i, ∃ c : Nat × Nat, i < n → (c.1 < 256 ∧ c.2 < TOP) ∧ M.cellsL M.ρ0 (f i) = M.cellsL M.ρ0 (M.cel c) := by
    intro i
    by_cases hi : i < n
    · obtain ⟨m, cs, x, hl, hx, e⟩ := hf i hi
      obtain ⟨c, hc, e2⟩ := coin_cells hte h0 h1 o0 o1 hl hx
      exact ⟨c, fun _ => ⟨hc, by rw [← e, e2]⟩⟩
    · exact ⟨(0, 0), fun h => absurd h hi⟩
  obtain ⟨g, hg⟩ := Classical.axiomOfChoice key
  have hlen : ((List.range n).map g).length = n := by simp
  have hget : ∀ i, i < n → M.getc ((List.range n).map g) i = g i := fun i hi => by
    rw [M.getc_lt (by rw [hlen]; exact hi)]; simp
  have hok : ∀ c ∈ (List.range n).map g, c.1 < 256 ∧ c.2 < TOP := fun c hc => by
    obtain ⟨i, hi, rfl⟩ := List.mem_map.1 hc
    exact (hg i (List.mem_range.1 hi)).1
  have hrow : M.rowC (M.rowL ((List.range n).map g)) n = M.rowC f n := by
    clear ho hlen
    have : ∀ k, k ≤ n → M.rowC (M.rowL ((List.range n).map g)) k = M.rowC f k := by
      intro k hk
      induction k with
      | zero => rfl
      | succ k ih =>
        rw [M.rowC, M.rowC, ih (by omega), (hg k (by omega)).2]
        simp only [M.rowL, hget k (by omega)]
    exact this n (Nat.le_refl _)
  refine ⟨(List.range n).map g, hok, ?_⟩
  rw [hlen]
  have hRow := M.rowL_OK (l := (List.range n).map g) fun c hc => (hok c hc).2
  rw [hlen] at hRow
  rcases ho with ⟨rfl, rfl⟩ | ⟨b, off, cap, rfl, q1, q2, q3, q4, q5⟩
  · exact .inl ⟨rfl, rfl⟩
  · exact .inr ⟨b, off, cap, rfl, q1, q2, q3, hRow, by rw [hrow]; exact q5⟩

namespace M
/-- the arguments of a law that takes coins, then what has no names -/
inductive OpenAll (W : World) : List Value → List Cs → Prop
  | nil : OpenAll W [] []
  | cons {v : Value} {l : Cs} {vs : List Value} {ls : List Cs} : OpenC W v l → OpenAll W vs ls → OpenAll W (v :: vs) (l :: ls)

def nilBs : List (Bool × Cs) → Prop
  | [] => True
  | p :: r => (p.1 = true → p.2 = []) ∧ (∀ c ∈ p.2, c.1 < 256 ∧ c.2 < TOP) ∧ nilBs r

theorem ins_law {t : TypeId} {W : World} : ∀ {vs : List Value} {ls : List Cs}, OpenAll W vs ls → ∀ id, ∃ ps : List (Bool × Cs), ps.map (·.2) = ls ∧ nilBs ps ∧
    ∃ ρ2 : Env, ∀ ρ' : Env, (∀ i, id ≤ i → ρ'.b i = ρ2.b i ∧ ρ'.o i = ρ2.o i ∧ ρ'.c i = ρ2.c i) → (insS id ps).map (Sv.den ρ') = vs ∧
      (∀ p ∈ insH t id ps, id ≤ p.1 ∧ p.2.own = false ∧ p.2.named (fun _ => False) ∧ BkOK ρ' W (fun b => W.heap.size ≤ b) p.1 p.2) ∧
      (∀ s ∈ insS id ps, s.all fun a => a.plain ∨ ∃ i k, a.name = some i ∧ lookH (insH t id ps) i = some k)
  | _, _, .nil, id => ⟨[], rfl, trivial, ρ0, fun _ _ => ⟨rfl, fun _ h => (by cases h), fun _ h => (by cases h)⟩⟩
  | _, _, .cons (v := v) (l := l) (vs := vs) (ls := ls) hv hr, id => by
    obtain ⟨ps, h1, h2, ρ2, h3⟩ := ins_law (t := t) hr (id + 1)
    obtain ⟨hok, hv⟩ := hv
    rcases hv with ⟨rfl, h0⟩ | ⟨b, off, cap, rfl, q1, q2, q3, q4, q5⟩
    · have hl : l = [] := List.length_eq_zero_iff.1 h0
      subst hl
      refine ⟨(true, []) :: ps, by simp [h1], ⟨fun _ => rfl, hok, h2⟩, ρ2, fun ρ' hρ => ?_⟩
      obtain ⟨g1, g2, g3⟩ := h3 ρ' fun i hi => hρ i (by omega)
      refine ⟨?_, fun p hp => ?_, fun s hs => ?_⟩
      · show (Sv.one [.nil]).den ρ' :: (insS (id + 1) ps).map (Sv.den ρ') = _
        rw [g1]; rfl
      · obtain ⟨k1, k3⟩ := g2 p hp
        exact ⟨by omega, k3⟩
      · have hs' : s ∈ Sv.one [.nil] :: insS (id + 1) ps := hs
        rcases List.mem_cons.1 hs' with rfl | hs'
        · exact one1 (.inl trivial)
        · exact g3 s hs'
    · refine ⟨(false, l) :: ps, by simp [h1], ⟨(fun h => by cases h), hok, h2⟩, ⟨fun i => if i = id then b else ρ2.b i, fun i => if i = id then off else ρ2.o i, fun i => if i = id then cap else ρ2.c i⟩, fun ρ' hρ => ?_⟩
      obtain ⟨g1, g2, g3⟩ := h3 ρ' fun i hi => by
        have := hρ i (by omega)
        simp only [if_neg (show i ≠ id by omega)] at this
        exact this
      obtain ⟨e1, e2, e3⟩ := hρ id (Nat.le_refl _)
      simp only [if_true] at e1 e2 e3
      have hH : insH t id ((false, l) :: ps) = (id, .row false t 5 l.length (rowL l)) :: insH t (id + 1) ps := rfl
      refine ⟨?_, fun p hp => ?_, fun s hs => ?_⟩
      · show (inS false id l).den ρ' :: (insS (id + 1) ps).map (Sv.den ρ') = _
        rw [g1]
        have : (inS false id l).den ρ' = .slice (some ⟨b, off, none⟩) l.length cap := by
          show (Av.sl id 5 0 l.length).val ρ' = _
          simp only [Av.val, e1, e2, e3, Nat.zero_mul, Nat.add_zero, Nat.sub_zero]
        rw [this]
      · rw [hH] at hp
        rcases List.mem_cons.1 hp with rfl | hp
        · exact ⟨Nat.le_refl _, rfl, trivial, q4, by rw [e3]; exact q2, by rw [e3]; exact q3, by rw [e1]; omega, by rw [e1]; exact q1, by rw [e1, e2]; exact q5⟩
        · obtain ⟨k1, k3⟩ := g2 p hp
          exact ⟨by omega, k3⟩
      · have hs' : s ∈ inS false id l :: insS (id + 1) ps := hs
        rw [hH]
        rcases List.mem_cons.1 hs' with rfl | hs'
        · exact one1 (.inr ⟨id, _, rfl, by rw [lookH, show Nat.beq id id = true from Nat.beq_refl id]; rfl⟩)
        · refine Sv.all_mono ?_ (g3 s hs')
          rintro a (h | ⟨i, k, hi, hk⟩)
          · exact .inl h
          · have := (g2 _ (lookH_mem hk)).1
            have hne : Nat.beq id i = false := by
              cases hb : Nat.beq id i with
              | false => rfl
              | true => have := Nat.eq_of_beq_eq_true hb; omega
            exact .inr ⟨i, k, hi, by
              rw [lookH]
              first
                | (rw [hne]; exact hk)
                | (have hne' : Nat.beq i id = false := by
                     cases hb : Nat.beq i id with
                     | false => rfl
                     | true => have := Nat.eq_of_beq_eq_true hb; omega
                   rw [hne']; exact hk)⟩

theorem one_law {ps : List (Bool × Cs)} {l : Cs} (h : ps.map (·.2) = [l]) (hb : nilBs ps) : ∃ b, ps = [(b, l)] ∧ (b = true → l = []) ∧ ∀ c ∈ l, c.1 < 256 ∧ c.2 < TOP := by
  match ps, h with
  | [(b, m)], h =>
    simp only [List.map_cons, List.map_nil, List.cons.injEq, and_true] at h
    subst h
    exact ⟨b, rfl, hb.1, hb.2.1⟩
theorem two_law {ps : List (Bool × Cs)} {l m : Cs} (h : ps.map (·.2) = [l, m]) (hb : nilBs ps) : ∃ b c, ps = [(b, l), (c, m)] ∧ (b = true → l = []) ∧ (c = true → m = []) ∧ (∀ c ∈ l, c.1 < 256 ∧ c.2 < TOP) ∧ ∀ c ∈ m, c.1 < 256 ∧ c.2 < TOP := by
  match ps, h with
  | [(b, l'), (c, m')], h =>
    simp only [List.map_cons, List.map_nil, List.cons.injEq, and_true] at h
    obtain ⟨rfl, rfl⟩ := h
    exact ⟨b, c, rfl, hb.1, hb.2.2.1, hb.2.1, hb.2.2.2.1⟩

set_option maxRecDepth 100000 in
/-- a law's call, out of its run -/
theorem law_calls {f : FuncId} {fn : Func} {c : Code} (hf : Try.prog.funcs[f]? = some fn) (hb : fn.body = some c) {tab : List Entry} (ht : TabOK tab) {t : TypeId} {W : World} {vs : List Value} {ls : List Cs} {pl : List (List Av)}
    (ho : OpenAll W vs ls) (hpl : ∀ l ∈ pl, ∀ a ∈ l, a.plain) (hlen : ls.length + pl.length ≤ fn.ntmps)
    (hg : ∀ ps : List (Bool × Cs), ps.map (·.2) = ls → nilBs ps → ∀ w0, Goes Try.prog fn.ntmps w0 [.code c] .norm (kn (argS 0 (insS 1000 ps ++ pl.map Sv.one)) (insH t 1000 ps)) (Fin (ctx tab fn.ntmps) fn.results.toList fun v _ => v = .one (B true))) :
    Calls Try.prog f (vs ++ pl.map (denL ρ0)).toArray W fun e w' => Below W.heap.size W w' ∧ e = .returned (.bool true) := by
  obtain ⟨ps, e1, e2, ρ2, h3⟩ := ins_law (t := t) ho 1000
  obtain ⟨g1, g2, g3⟩ := h3 ρ2 fun _ _ => ⟨rfl, rfl, rfl⟩
  have slen : ∀ (ps : List (Bool × Cs)) id, (insS id ps).length = ps.length := by
    intro ps
    induction ps with
    | nil => intro _; rfl
    | cons p r ih => intro id; simp [insS, ih]
  have hin : InOK (base W ρ2) (insS 1000 ps ++ pl.map Sv.one) (insH t 1000 ps) := by
    refine in_reads (fun p hp => (g2 p hp).2) fun s hs => ?_
    rcases List.mem_append.1 hs with hs | hs
    · exact g3 s hs
    · obtain ⟨l, hl, rfl⟩ := List.mem_map.1 hs
      exact fun a ha => .inl (hpl l hl a ha)
  have hps : ps.length = ls.length := by rw [← e1]; simp
  have hc2 := calls_of (ctx_ok ht fn.ntmps) hf hb rfl (by rw [List.length_append, slen, List.length_map, hps]; exact hlen) hin (hg ps e1 e2 _)
  have e3 : (insS 1000 ps ++ pl.map Sv.one).map (Sv.den (base W ρ2).ρ) = vs ++ pl.map (denL ρ0) := by
    show (insS 1000 ps ++ pl.map Sv.one).map (Sv.den ρ2) = _
    rw [List.map_append, g1, List.map_map]
    congr 1
    refine List.map_congr_left fun l hl => ?_
    show denL ρ2 l = denL ρ0 l
    exact denL_congr (dom := fun _ => false) (fun _ h => by cases h) fun a ha => Av.plain_inD (hpl _ hl a ha) _
  rw [e3] at hc2
  refine hc2.mono ?_
  rintro e w' ⟨v, σ', ρ', a', rfl, rfl, hr, _⟩
  exact ⟨kept_below hr.below, rfl⟩

end M

set_option maxRecDepth 100000 in
theorem open_u8 {H : Type} {enc : TypeId × Value → H} {W : World} {base : Nat} {spare : Nat → Bool} {held : Bool} {r : Reach} {b0 : Nat} {v : Value} {d : DataW H} {ps : List MemPlace}
    (hval : Value.okWide Try.prog W r b0 5 v) (hd : DataW.Trod enc Try.prog W base spare held 5 v d ps) : ∃ n : Nat, n < 256 ∧ v = .int .u8 n := by
  obtain ⟨n, rfl⟩ := okWide_int Try.underlying5 hval
  obtain ⟨fuel, hf⟩ := hd
  obtain ⟨m, e, -, w⟩ := DataW.trod_int Try.underlying5 hf
  have e' : n = m := by
    have := e
    simp [Value.cells] at this
    exact this
  subst e'
  simp only [Lit.wf, Bool.and_eq_true, decide_eq_true_eq] at w
  have h1 : IntKind.u8.min = 0 := rfl
  have h2 : IntKind.u8.max = 255 := rfl
  obtain ⟨k, rfl⟩ := Int.eq_ofNat_of_zero_le (by omega : 0 ≤ n)
  exact ⟨k, by omega, rfl⟩

end Go.Proofs.Ytmjdmhelmgcanaa
