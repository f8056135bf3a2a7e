/- Joined out of smaller texts: Pur, CoA, CoZ, CoB, CoC, CoD. -/
import Derived.Test.YtmjdmhelmgcanaaXG
/- Purses: eight numbers, and the coins of those that aren't 0; rows of coins. -/
namespace Go.Proofs.Ytmjdmhelmgcanaa
namespace M
open Go.RowKit

structure Purse where
  f : Nat → Nat
  hm : ∀ d, 8 ≤ d → f d = 0
  hb : ∀ d, f d < TOP

theorem Purse.ext' {p q : Purse} (h : ∀ d, d < 8 → p.f d = q.f d) : p = q := by
  obtain ⟨f, hm, hb⟩ := p
  obtain ⟨g, gm, gb⟩ := q
  have : f = g := by
    funext d
    by_cases hd : d < 8
    · exact h d hd
    · rw [hm d (by omega), gm d (by omega)]
  subst this
  rfl

/-- eight numbers out of any -/
def Purse.mk' (f : Nat → Nat) : Purse := ⟨fun d => if d < 8 then f d % TOP else 0, fun d hd => if_neg (by omega), fun d => by
  have := top_eq
  split
  · exact Nat.mod_lt _ (by omega)
  · omega⟩
theorem Purse.mk'_f {f : Nat → Nat} {d : Nat} (hd : d < 8) (h : f d < TOP) : (Purse.mk' f).f d = f d := by
  show (if d < 8 then f d % TOP else 0) = f d
  rw [if_pos hd, Nat.mod_eq_of_lt h]

def getc (l : List (Nat × Nat)) (i : Nat) : Nat × Nat := (l[i]?).getD (0, 0)
theorem getc_lt {l : List (Nat × Nat)} {i : Nat} (h : i < l.length) : getc l i = l[i] := by unfold getc; rw [List.getElem?_eq_getElem h]; rfl
theorem getc_mem {l : List (Nat × Nat)} {i : Nat} (h : i < l.length) : getc l i ∈ l := by rw [getc_lt h]; exact List.getElem_mem h

/-- those of the first k that aren't 0 -/
def nz (f : Nat → Nat) : Nat → List (Nat × Nat)
  | 0 => []
  | k + 1 => nz f k ++ (if f k = 0 then [] else [(k, f k)])

def amt : List (Nat × Nat) → Nat → Nat
  | [], _ => 0
  | c :: r, d => if c.1 = d then c.2 else amt r d

theorem amt_none {l : List (Nat × Nat)} {d : Nat} (h : ∀ c ∈ l, c.1 ≠ d) : amt l d = 0 := by
  induction l with
  | nil => rfl
  | cons c r ih => rw [amt, if_neg (h c List.mem_cons_self), ih fun c hc => h c (List.mem_cons_of_mem _ hc)]
theorem amt_new {l m : List (Nat × Nat)} {d : Nat} (h : ∀ c ∈ l, c.1 ≠ d) : amt (l ++ m) d = amt m d := by
  induction l with
  | nil => rfl
  | cons c r ih => rw [List.cons_append, amt, if_neg (h c List.mem_cons_self), ih fun c hc => h c (List.mem_cons_of_mem _ hc)]
theorem amt_old {l m : List (Nat × Nat)} {d : Nat} (h : ∀ c ∈ m, c.1 ≠ d) : amt (l ++ m) d = amt l d := by
  induction l with
  | nil => exact amt_none h
  | cons c r ih => rw [List.cons_append, amt, amt, ih]
theorem amt_drop {l : List (Nat × Nat)} {i d : Nat} (hi : i < l.length) : amt (l.drop i) d = if (getc l i).1 = d then (getc l i).2 else amt (l.drop (i + 1)) d := by
  rw [List.drop_eq_getElem_cons hi, amt, getc_lt hi]

theorem nz_lt {f : Nat → Nat} {k : Nat} : ∀ c ∈ nz f k, c.1 < k ∧ c.2 = f c.1 ∧ c.2 ≠ 0 := by
  induction k with
  | zero => intro c hc; cases hc
  | succ k ih =>
    intro c hc
    rw [nz] at hc
    rcases List.mem_append.1 hc with hc | hc
    · have := ih c hc; exact ⟨by omega, this.2⟩
    · split at hc
      · cases hc
      · simp only [List.mem_singleton] at hc
        subst hc
        exact ⟨by show k < k + 1; omega, rfl, by assumption⟩
theorem amt_nz (f : Nat → Nat) (k d : Nat) : amt (nz f k) d = if d < k then f d else 0 := by
  induction k with
  | zero => rfl
  | succ k ih =>
    rw [nz]
    by_cases hd : d = k
    · subst hd
      rw [amt_new fun c hc => by have := nz_lt c hc; omega, if_pos (Nat.lt_succ_self d)]
      by_cases h0 : f d = 0
      · rw [if_pos h0, h0]; rfl
      · rw [if_neg h0, amt, if_pos rfl]
    · rw [amt_old fun c hc => ?_, ih]
      · by_cases h : d < k
        · rw [if_pos h, if_pos (by omega)]
        · rw [if_neg h, if_neg (by omega)]
      · split at hc
        · cases hc
        · simp only [List.mem_singleton] at hc; subst hc; exact fun e => hd e.symm
theorem nz_length (f : Nat → Nat) (k : Nat) : (nz f k).length ≤ k := by
  induction k with
  | zero => exact Nat.le_refl _
  | succ k ih =>
    rw [nz, List.length_append]
    split
    · simp; omega
    · simp; omega
theorem nz_congr {f g : Nat → Nat} {k : Nat} (h : ∀ d, d < k → f d = g d) : nz f k = nz g k := by
  induction k with
  | zero => rfl
  | succ k ih => rw [nz, nz, ih fun d hd => h d (by omega), h k (by omega)]
theorem nz_mono {f : Nat → Nat} {k : Nat} (m : Nat) : (nz f k).length ≤ (nz f (k + m)).length := by
  induction m with
  | zero => exact Nat.le_refl _
  | succ m ih => rw [Nat.add_succ, nz, List.length_append]; omega

/-! ## Rows of coins -/

def cel (c : Nat × Nat) : List Av := [.int .u8 (c.1 : Nat), .big 4 c.2]
def rowL (l : List (Nat × Nat)) : Nat → List Av := fun i => cel (getc l i)
def cd1 : List Av → Nat × Nat
  | [.int .u8 d, .big 4 x] => (d.toNat, x)
  | [.lit .u8 d, .big 4 x] => (d.toNat, x)
  | _ => (0, 0)
def lst (f : Nat → List Av) (n : Nat) : List (Nat × Nat) := (List.range n).map fun i => cd1 (f i)
theorem cd1_cel (c : Nat × Nat) : cd1 (cel c) = c := by simp [cd1, cel]
theorem lst_rowL (l : List (Nat × Nat)) : lst (rowL l) l.length = l := by
  apply List.ext_getElem?
  intro i
  simp only [lst, List.getElem?_map]
  by_cases h : i < l.length
  · simp [rowL, getc, cd1_cel, h]
  · simp [h]
theorem lst_length (f : Nat → List Av) (n : Nat) : (lst f n).length = n := by simp [lst]

theorem rowL_OK {l : List (Nat × Nat)} (h : ∀ c ∈ l, c.2 < TOP) : RowOK 5 l.length (rowL l) := by
  refine ⟨by omega, fun i hi => ⟨rfl, fun a ha => ?_⟩⟩
  simp only [rowL, cel, List.mem_cons, List.not_mem_nil, or_false] at ha
  rcases ha with rfl | rfl
  · trivial
  · have := h _ (getc_mem hi)
    show (getc l i).2 < pow64 4
    rw [pow64_4]; exact this

/-- is it a row of coins? -/
def Coi (f : Nat → List Av) (n : Nat) : Prop := rowC f n = rowC (rowL (lst f n)) n ∧ ∀ c ∈ lst f n, c.1 < 256 ∧ c.2 < TOP
theorem Coi_rowL {l : List (Nat × Nat)} (h : ∀ c ∈ l, c.1 < 256 ∧ c.2 < TOP) : Coi (rowL l) l.length := by
  unfold Coi
  rw [lst_rowL]
  exact ⟨rfl, h⟩

def Purse.lst (p : Purse) : List (Nat × Nat) := nz p.f 8
def Purse.len (p : Purse) : Nat := p.lst.length
def Purse.row (p : Purse) : Nat → List Av := rowL p.lst
theorem Purse.len_le (p : Purse) : p.len ≤ 8 := nz_length _ _
theorem Purse.lst_ok (p : Purse) : ∀ c ∈ p.lst, c.1 < 256 ∧ c.2 < TOP := fun c hc => by
  have := nz_lt c hc
  exact ⟨by omega, by rw [this.2.1]; exact p.hb _⟩
theorem Purse.row_OK (p : Purse) : RowOK 5 p.len p.row := rowL_OK fun c hc => (p.lst_ok c hc).2
/-- the purse that a row of coins is -/
def puL (l : List (Nat × Nat)) : Purse := Purse.mk' (amt l)
def pu (f : Nat → List Av) (n : Nat) : Purse := puL (M.lst f n)
theorem puL_lst (p : Purse) : puL p.lst = p := Purse.ext' fun d hd => by
  have h : amt p.lst d = p.f d := by unfold Purse.lst; rw [amt_nz, if_pos hd]
  unfold puL
  rw [Purse.mk'_f hd (by rw [h]; exact p.hb d), h]
/-- is it a row of a purse's coins? -/
def Pu (f : Nat → List Av) (n : Nat) : Prop := n = (pu f n).len ∧ rowC f n = rowC (pu f n).row n
theorem pu_row (p : Purse) : pu p.row p.len = p := by
  unfold pu Purse.row Purse.len
  rw [lst_rowL, puL_lst]
theorem Pu_row (p : Purse) : Pu p.row p.len := by
  unfold Pu
  rw [pu_row]
  exact ⟨rfl, rfl⟩
theorem Purse.lst_inj {p q : Purse} (h : p.lst = q.lst) : p = q := by rw [← puL_lst p, ← puL_lst q, h]
theorem amt_lst (p : Purse) (d : Nat) : amt p.lst d = p.f d := by
  unfold Purse.lst
  rw [amt_nz]
  split
  · rfl
  · rw [p.hm d (by omega)]

theorem Purse.len0 {p : Purse} : p.len = 0 ↔ ∀ d, p.f d = 0 := by
  constructor
  · intro h d
    have : p.lst = [] := List.length_eq_zero_iff.1 h
    rw [← amt_lst, this]; rfl
  · intro h
    have : ∀ k, nz p.f k = [] := fun k => by
      induction k with
      | zero => rfl
      | succ k ih => rw [nz, ih, if_pos (h k)]; rfl
    unfold Purse.len Purse.lst
    rw [this]; rfl

/-! ## Sums and the like -/

def Purse.nil : Purse := ⟨fun _ => 0, fun _ _ => rfl, fun _ => top_pos⟩
def Purse.one (d x : Nat) : Purse := Purse.mk' fun k => if k = d then x else 0
def Purse.add (p q : Purse) : Purse := Purse.mk' fun d => p.f d + q.f d
def Purse.sub (p q : Purse) : Purse := ⟨fun d => p.f d - q.f d, fun d hd => by rw [p.hm d hd]; omega, fun d => by have := p.hb d; omega⟩
def Purse.min (p q : Purse) : Purse := ⟨fun d => Nat.min (p.f d) (q.f d), fun d hd => by rw [p.hm d hd]; exact Nat.zero_min _, fun d => Nat.lt_of_le_of_lt (Nat.min_le_left _ _) (p.hb d)⟩
/-- of none more than there is -/
def Purse.le (p q : Purse) : Prop := ∀ d, p.f d ≤ q.f d
/-- both together are not too much -/
def Purse.fits (p q : Purse) : Prop := ∀ d, p.f d + q.f d < TOP

theorem Purse.add_f {p q : Purse} (h : p.fits q) (d : Nat) : (p.add q).f d = p.f d + q.f d := by
  by_cases hd : d < 8
  · exact Purse.mk'_f (f := fun d => p.f d + q.f d) hd (h d)
  · rw [(p.add q).hm d (by omega), p.hm d (by omega), q.hm d (by omega)]
theorem Purse.ext {p q : Purse} (h : ∀ d, p.f d = q.f d) : p = q := Purse.ext' fun d _ => h d
theorem Purse.sub_f (p q : Purse) (d : Nat) : (p.sub q).f d = p.f d - q.f d := rfl
theorem Purse.min_f (p q : Purse) (d : Nat) : (p.min q).f d = Nat.min (p.f d) (q.f d) := rfl
theorem Purse.nil_f (d : Nat) : Purse.nil.f d = 0 := rfl

end M
end Go.Proofs.Ytmjdmhelmgcanaa

/- Contracts of calls that take coins. -/
namespace Go.Proofs.Ytmjdmhelmgcanaa
namespace M
open Go.RowKit

abbrev Cs := List (Nat × Nat)
/-- the coins of an argument -/
def coA (t : TypeId) : RArg → Option (Prop × Cs)
  | [(.nil, _)] => some (True, [])
  | [(.sl _ 5 0 n, some (.row _ e 5 n1 f))] => some (e = t ∧ n1 = n ∧ n < 4096 ∧ Coi f n, lst f n)
  | _ => none

/-- coins handed in, at a name: none at all, or a row -/
def inS (b : Bool) (id : Nat) (l : Cs) : Sv := bif b then .one [.nil] else .one [.sl id 5 0 l.length]
def inH (t : TypeId) (b : Bool) (id : Nat) (l : Cs) (r : List (Nat × Bk)) : List (Nat × Bk) := bif b then r else (id, .row false t 5 l.length (rowL l)) :: r
def insS : Nat → List (Bool × Cs) → List Sv
  | _, [] => []
  | id, p :: r => inS p.1 id p.2 :: insS (id + 1) r
def insH (t : TypeId) : Nat → List (Bool × Cs) → List (Nat × Bk)
  | _, [] => []
  | id, p :: r => inH t p.1 id p.2 (insH t (id + 1) r)

def okC (l : Cs) : Prop := l.length < 4096 ∧ ∀ c ∈ l, c.1 < 256 ∧ c.2 < TOP
theorem coA_ok {t : TypeId} {A : RArg} {c : Prop} {l : Cs} (h : coA t A = some (c, l)) (hc : c) : okC l := by
  unfold coA at h
  split at h
  · cases h; exact ⟨by decide, fun c hc => by cases hc⟩
  · cases h; exact ⟨by rw [lst_length]; exact hc.2.2.1, hc.2.2.2.2⟩
  · cases h

theorem coA_open {t : TypeId} {ρ : Env} {w : World} {B : Nat → Prop} {A : RArg} {c : Prop} {l : Cs} (h : coA t A = some (c, l)) (hc : c) (hA : ∀ q ∈ A, ArgOK ρ w B q) :
    (l = [] ∧ argV ρ A = .slice none 0 0) ∨ ∃ i0, (∃ o e n f, BkOK ρ w B i0 (.row o e 5 n f)) ∧ (∀ (ρ' : Env) i, ρ'.b i = ρ.b i0 → ρ'.o i = ρ.o i0 → ρ'.c i = ρ.c i0 → (inS false i l).den ρ' = argV ρ A ∧ BkOK ρ' w (fun b => w.heap.size ≤ b) i (.row false t 5 l.length (rowL l))) := by
  unfold coA at h
  split at h
  · cases h; exact .inl ⟨rfl, rfl⟩
  · rename_i a n o e n1 f
    cases h
    obtain ⟨rfl, rfl, _, h2⟩ := hc
    obtain ⟨ida, ha1, ha2, _⟩ := (hA _ List.mem_cons_self).2 _ rfl
    cases ha1
    refine .inr ⟨a, ⟨_, _, _, _, ha2⟩, fun ρ' i hb ho hcc => ⟨?_, ?_⟩⟩
    · show (Av.sl i 5 0 (lst f n1).length).val ρ' = (Av.sl a 5 0 n1).val ρ
      simp only [Av.val, hb, ho, hcc, lst_length]
    · rw [lst_length]
      have h3 := rowL_OK (l := lst f n1) fun c hc => (h2.2 c hc).2
      rw [lst_length] at h3
      exact BSim.ok (.inr ⟨_, _, _, _, _, _, rfl, rfl, h3, h2.1⟩) (read_bk ha2 hb ho hcc)
  · cases h

/-- these arguments are these coins -/
inductive CoArgs (t : TypeId) : List RArg → List Cs → Prop
  | nil : CoArgs t [] []
  | cons {A : RArg} {l : Cs} {c : Prop} {r : List RArg} {ls : List Cs} : coA t A = some (c, l) → c → CoArgs t r ls → CoArgs t (A :: r) (l :: ls)

def okBs : List (Bool × Cs) → Prop
  | [] => True
  | p :: r => (p.1 = true → p.2 = []) ∧ okC p.2 ∧ okBs r

theorem ins_open {t : TypeId} {ρ : Env} {w : World} {B : Nat → Prop} : ∀ {As : List RArg} {ls : List Cs}, CoArgs t As ls → (∀ A ∈ As, ∀ q ∈ A, ArgOK ρ w B q) → ∀ id, ∃ ps : List (Bool × Cs), ps.map (·.2) = ls ∧ okBs ps ∧
    ∃ ρ2 : Env, ∀ ρ' : Env, (∀ i, id ≤ i → i < id + As.length → ρ'.b i = ρ2.b i ∧ ρ'.o i = ρ2.o i ∧ ρ'.c i = ρ2.c i) → (insS id ps).map (Sv.den ρ') = As.map (argV ρ) ∧
      (∀ p ∈ insH t id ps, id ≤ p.1 ∧ p.1 < id + ps.length ∧ p.2.own = false ∧ p.2.named (fun _ => False) ∧ BkOK ρ' w (fun b => w.heap.size ≤ b) p.1 p.2 ∧ ∃ i0 o e n f, ρ'.b p.1 = ρ.b i0 ∧ BkOK ρ w B i0 (.row o e 5 n f)) ∧
      (∀ s ∈ insS id ps, s.all fun a => a.plain ∨ ∃ i k, a.name = some i ∧ lookH (insH t id ps) i = some k)
  | _, _, .nil, _, id => ⟨[], rfl, trivial, ρ0, fun _ _ => ⟨rfl, fun _ h => (by cases h), fun _ h => (by cases h)⟩⟩
  | _, _, .cons (A := A) (l := l) (r := r) (ls := ls) hA hc hr, hall, id => by
    obtain ⟨ps, h1, h2, ρ2, h3⟩ := ins_open hr (fun A hA => hall A (List.mem_cons_of_mem _ hA)) (id + 1)
    have hok := coA_ok hA hc
    rcases coA_open hA hc (hall A List.mem_cons_self) with ⟨rfl, hv⟩ | ⟨i0, ⟨oo, oe, on, of', hbk⟩, hv⟩
    · refine ⟨(true, []) :: ps, by simp [h1], ⟨fun _ => rfl, hok, h2⟩, ρ2, fun ρ' hρ => ?_⟩
      obtain ⟨g1, g2, g3⟩ := h3 ρ' fun i hi hi2 => hρ i (by omega) (by simp only [List.length_cons]; omega)
      refine ⟨?_, fun p hp => ?_, fun s hs => ?_⟩
      · show (Sv.one [.nil]).den ρ' :: (insS (id + 1) ps).map (Sv.den ρ') = _
        rw [g1, List.map_cons, hv]; rfl
      · obtain ⟨k1, k2, k3⟩ := g2 p hp
        exact ⟨by omega, by simp only [List.length_cons]; omega, k3⟩
      · have hs' : s ∈ Sv.one [.nil] :: insS (id + 1) ps := hs
        rcases List.mem_cons.1 hs' with rfl | hs'
        · exact one1 (.inl trivial)
        · exact g3 s hs'
    · refine ⟨(false, l) :: ps, by simp [h1], ⟨(fun h => by cases h), hok, h2⟩, ⟨fun i => if i = id then ρ.b i0 else ρ2.b i, fun i => if i = id then ρ.o i0 else ρ2.o i, fun i => if i = id then ρ.c i0 else ρ2.c i⟩, fun ρ' hρ => ?_⟩
      obtain ⟨g1, g2, g3⟩ := h3 ρ' fun i hi hi2 => by
        have := hρ i (by omega) (by simp only [List.length_cons]; omega)
        simp only [if_neg (show i ≠ id by omega)] at this
        exact this
      obtain ⟨e1, e2, e3⟩ := hρ id (Nat.le_refl _) (by simp only [List.length_cons]; omega)
      simp only [if_true] at e1 e2 e3
      obtain ⟨v1, v2⟩ := hv ρ' id e1 e2 e3
      have hH : insH t id ((false, l) :: ps) = (id, .row false t 5 l.length (rowL l)) :: insH t (id + 1) ps := rfl
      refine ⟨?_, fun p hp => ?_, fun s hs => ?_⟩
      · show (inS false id l).den ρ' :: (insS (id + 1) ps).map (Sv.den ρ') = _
        rw [g1, List.map_cons, v1]
      · rw [hH] at hp
        rcases List.mem_cons.1 hp with rfl | hp
        · exact ⟨Nat.le_refl _, by simp only [List.length_cons]; omega, rfl, trivial, v2, i0, oo, oe, on, of', e1, hbk⟩
        · obtain ⟨k1, k2, k3⟩ := g2 p hp
          exact ⟨by omega, by simp only [List.length_cons]; omega, k3⟩
      · have hs' : s ∈ inS false id l :: insS (id + 1) ps := hs
        rw [hH]
        rcases List.mem_cons.1 hs' with rfl | hs'
        · exact one1 (.inr ⟨id, _, rfl, by rw [lookH, show Nat.beq id id = true from Nat.beq_refl id]; rfl⟩)
        · refine Sv.all_mono ?_ (g3 s hs')
          rintro a (h | ⟨i, k, hi, hk⟩)
          · exact .inl h
          · have := (g2 _ (lookH_mem hk)).1
            have hne : Nat.beq id i = false := by
              cases hb : Nat.beq id i with
              | false => rfl
              | true => have := Nat.eq_of_beq_eq_true hb; omega
            exact .inr ⟨i, k, hi, by
              rw [lookH]
              first
                | (rw [hne]; exact hk)
                | (have hne' : Nat.beq i id = false := by
                     cases hb : Nat.beq i id with
                     | false => rfl
                     | true => have := Nat.eq_of_beq_eq_true hb; omega
                   rw [hne']; exact hk)⟩

/-- coins, then what has no names -/
def CoIn (t : TypeId) (args : List RArg) (ls : List Cs) (pl : List (List Av)) : Prop := ∃ As Ps, args = As ++ Ps ∧ CoArgs t As ls ∧ pl = Ps.map (fun A => A.map (·.1)) ∧ ∀ l ∈ pl, ∀ a ∈ l, a.name = none

theorem in_coins {t : TypeId} {ρ : Env} {w : World} {B : Nat → Prop} {args : List RArg} {ls : List Cs} {pl : List (List Av)} (h : CoIn t args ls pl) (hA : ∀ A ∈ args, ∀ q ∈ A, ArgOK ρ w B q) :
    ∃ ps ρ2, ps.map (·.2) = ls ∧ okBs ps ∧ (∀ l ∈ pl, ∀ a ∈ l, a.plain) ∧ (insS 1000 ps ++ pl.map Sv.one).map (Sv.den ρ2) = args.map (argV ρ) ∧ InOK (base w ρ2) (insS 1000 ps ++ pl.map Sv.one) (insH t 1000 ps) := by
  obtain ⟨As, Ps, rfl, hc, rfl, hn⟩ := h
  obtain ⟨ps, h1, h2, ρ2, h3⟩ := ins_open hc (fun A hA' => hA A (List.mem_append_left _ hA')) 1000
  obtain ⟨g1, g2, g3⟩ := h3 ρ2 fun _ _ _ => ⟨rfl, rfl, rfl⟩
  have hpl : ∀ l ∈ Ps.map (fun A => A.map (·.1)), ∀ a ∈ l, a.plain := by
    intro l hl a ha
    obtain ⟨A, hA', rfl⟩ := List.mem_map.1 hl
    obtain ⟨q, hq, rfl⟩ := List.mem_map.1 ha
    exact (hA A (List.mem_append_right _ hA') q hq).1 (hn _ hl _ ha)
  refine ⟨ps, ρ2, h1, h2, hpl, ?_, ?_⟩
  · rw [List.map_append, List.map_append, g1, List.map_map]
    congr 1
    rw [List.map_map]
    refine List.map_congr_left fun A hA' => ?_
    show denL ρ2 (A.map (·.1)) = denL ρ (A.map (·.1))
    exact denL_congr (dom := fun _ => false) (fun _ h => by cases h) fun a ha => Av.plain_inD (hpl _ (List.mem_map_of_mem hA') a ha) _
  · refine in_reads (fun p hp => ⟨(g2 p hp).2.2.1, (g2 p hp).2.2.2.1, (g2 p hp).2.2.2.2.1⟩) fun s hs => ?_
    rcases List.mem_append.1 hs with hs | hs
    · exact g3 s hs
    · obtain ⟨l, hl, rfl⟩ := List.mem_map.1 hs
      exact fun a ha => .inl (hpl l hl a ha)

/-- a call that takes coins and gives plain values -/
theorem co_dcon {f : FuncId} {fn : Func} {c : Code} (hf : Try.prog.funcs[f]? = some fn) (hb : fn.body = some c) (hcall : ∀ args w, (callFunc f args).run Try.prog w = .ok (.enter f args) w) {tab : List Entry} (ht : TabOK tab) {t : TypeId} {k : DCon} {cls : Nat}
    (h : ∀ args l, k args = some l → ∀ p ∈ l, p.1 → ∃ ls pl, CoIn t args ls pl ∧ ls.length + pl.length ≤ fn.ntmps ∧ ((∀ l ∈ ls, okC l) → (∀ l ∈ pl, ∀ a ∈ l, a.plain) → p.2.all Av.plain ∧ ∀ ps : List (Bool × Cs), ps.map (·.2) = ls → okBs ps →
      ∀ w0, Goes Try.prog fn.ntmps w0 [.code c] .norm (kn (argS 0 (insS 1000 ps ++ pl.map Sv.one)) (insH t 1000 ps)) (Fin (ctx tab fn.ntmps) fn.results.toList fun v _ => v = p.2))) : EOK ⟨f, cls, dcon k⟩ := by
  have okls : ∀ {As : List RArg} {ls : List Cs}, CoArgs t As ls → ∀ l ∈ ls, okC l := by
    intro As ls hh
    induction hh with
    | nil => intro l hl; cases hl
    | cons h1 h2 _ ih =>
      intro l hl
      rcases List.mem_cons.1 hl with rfl | hl
      · exact coA_ok h1 h2
      · exact ih l hl
  have slen : ∀ (ps : List (Bool × Cs)) id, (insS id ps).length = ps.length := by
    intro ps
    induction ps with
    | nil => intro _; rfl
    | cons p r ih => intro id; simp [insS, ih]
  constructor
  · intro args outs ho hargs i oc hi hc d
    obtain ⟨l, hl, rfl⟩ := Option.map_eq_some_iff.1 ho
    rw [List.getElem?_map] at hi
    obtain ⟨p, hp, rfl⟩ := Option.map_eq_some_iff.1 hi
    obtain ⟨ls, pl, hin, _, h2⟩ := h _ l hl p (List.mem_of_getElem? hp) hc
    obtain ⟨As, Ps, rfl, hca, rfl, hn⟩ := hin
    have hpl : ∀ l ∈ Ps.map (fun A => A.map (·.1)), ∀ a ∈ l, a.plain := by
      intro l hl a ha
      obtain ⟨A, hA', rfl⟩ := List.mem_map.1 hl
      obtain ⟨q, hq, rfl⟩ := List.mem_map.1 ha
      exact (hargs A (List.mem_append_right _ hA') q hq).1 (hn _ hl _ ha)
    have h3 := (h2 (okls hca) hpl).1
    exact ⟨(fun _ h => by cases h), (fun _ h => by cases h), (fun _ _ h => by cases h), Sv.all_mono (fun _ h => .inl h) h3⟩
  · intro args outs ho i oc hi hc ρ w B d hB hargs hd _
    obtain ⟨l, hl, rfl⟩ := Option.map_eq_some_iff.1 ho
    rw [List.getElem?_map] at hi
    obtain ⟨p, hp, rfl⟩ := Option.map_eq_some_iff.1 hi
    obtain ⟨ls, pl, hin, hlen, h2⟩ := h _ l hl p (List.mem_of_getElem? hp) hc
    obtain ⟨ps, ρ2, e1, e2, hpl, e3, e4⟩ := in_coins hin hargs
    have hls : ∀ l ∈ ls, okC l := by
      obtain ⟨As, Ps, _, hca, _⟩ := hin
      exact okls hca
    obtain ⟨hplain, hg⟩ := h2 hls hpl
    refine ⟨hcall _ _, ?_⟩
    have hps : ps.length = ls.length := by rw [← e1]; simp
    have hc2 := calls_of (ctx_ok ht fn.ntmps) hf hb rfl (by rw [List.length_append, slen, List.length_map, hps]; exact hlen) e4 (hg ps e1 e2 _)
    have e3' : (insS 1000 ps ++ pl.map Sv.one).map (Sv.den (base w ρ2).ρ) = args.map (argV ρ) := e3
    rw [e3'] at hc2
    refine hc2.mono ?_
    rintro e w' ⟨v, σ', ρ', a', rfl, rfl, hr, _⟩
    exact ⟨ρ, postBelow (kept_below hr.below), congrArg _ (den_plain hplain ρ ρ')⟩

/-! ## Calls that give coins -/

/-- coins alone, or with something plain behind -/
def mkS (o : Option (List Av)) (v : List Av) : Sv := match o with
  | none => .one v
  | some e => .tup [v, e]

abbrev LCon := List RArg → Option (List (Prop × Cs × Option (List Av)))
def lout (p : Prop × Cs × Option (List Av)) : List Outc :=
  [⟨p.1 ∧ p.2.1.length = 0, fun _ => mkS p.2.2 [.nil], fun _ => .nop⟩, ⟨p.1 ∧ 0 < p.2.1.length, fun d => mkS p.2.2 [.sl d 5 0 p.2.1.length], fun d => .new d (.row true 60 5 p.2.1.length (rowL p.2.1))⟩]
def louts : List (Prop × Cs × Option (List Av)) → List Outc
  | [] => []
  | p :: r => lout p ++ louts r
def lcon (k : LCon) : Con := fun args => (k args).map louts

/-- what a run that gives coins comes to -/
def LFin (l : Cs) (o : Option (List Av)) (v : Sv) (σ : Ms) : Prop := (l.length = 0 ∧ v = mkS o [.nil]) ∨ (0 < l.length ∧ ∃ s g, v = mkS o [.sl s 5 0 l.length] ∧ σ.heap s = some (.row true 60 5 l.length g) ∧ rowC g l.length = rowC (rowL l) l.length)

theorem mkS_plain {o : Option (List Av)} (ho : ∀ e, o = some e → ∀ a ∈ e, a.plain) {v : List Av} {p : Av → Prop} (hp : ∀ a, a.plain → p a) (hv : ∀ a ∈ v, p a) : (mkS o v).all p := by
  cases o with
  | none => exact hv
  | some e =>
    intro m hm
    simp only [List.mem_cons, List.not_mem_nil, or_false] at hm
    rcases hm with rfl | rfl
    · exact hv
    · exact fun a ha => hp a (ho _ rfl a ha)
theorem mkS_den {o : Option (List Av)} (ho : ∀ e, o = some e → ∀ a ∈ e, a.plain) {v v' : List Av} {ρ ρ' : Env} (h : denL ρ v = denL ρ' v') : (mkS o v).den ρ = (mkS o v').den ρ' := by
  cases o with
  | none => exact h
  | some e =>
    have he : denL ρ e = denL ρ' e := denL_congr (dom := fun _ => false) (fun _ h => by cases h) fun a ha => Av.plain_inD (ho e rfl a ha) _
    simp only [mkS, Sv.den, List.map_cons, List.map_nil, h, he]

theorem lcon_ok {f : Nat} (hcall : ∀ args w, (callFunc f args).run Try.prog w = .ok (.enter f args) w) {k : LCon} {cls : Nat}
    (h : ∀ args ls, k args = some ls → (∀ A ∈ args, ∀ p ∈ A, (p.1.name = none → p.1.plain) ∧ ∀ k, p.2 = some k → k.rowsOK ∧ k.loose) → ∀ p ∈ ls, p.1 → okC p.2.1 ∧ (∀ e, p.2.2 = some e → ∀ a ∈ e, a.plain))
    (h2 : ∀ args ls, k args = some ls → ∀ p ∈ ls, p.1 → ∀ ρ w (B : Nat → Prop), (∀ b, w.heap.size ≤ b → B b) → (∀ A ∈ args, ∀ q ∈ A, ArgOK ρ w B q) →
      (okC p.2.1 ∧ (∀ e, p.2.2 = some e → ∀ a ∈ e, a.plain)) ∧
      Calls Try.prog f (args.map (argV ρ)).toArray w fun e w' => (p.2.1.length = 0 ∧ Below w.heap.size w w' ∧ e = .returned ((mkS p.2.2 [.nil]).den ρ)) ∨
        (0 < p.2.1.length ∧ ∃ nt ρc ρ' σ' a' s g, e = .returned ((mkS p.2.2 [.sl s 5 0 p.2.1.length]).den ρ') ∧ Rep nt (base w ρc) ρ' σ' a' w' ∧ σ'.heap s = some (.row true 60 5 p.2.1.length g) ∧ rowC g p.2.1.length = rowC (rowL p.2.1) p.2.1.length)) : EOK ⟨f, cls, lcon k⟩ := by
  have key : ∀ (ls : List (Prop × Cs × Option (List Av))) (i : Nat) oc, (louts ls)[i]? = some oc → ∃ p ∈ ls, oc ∈ lout p := by
    intro ls i oc hi
    have := List.mem_of_getElem? hi
    clear hi
    induction ls with
    | nil => cases this
    | cons p r ih =>
      rcases List.mem_append.1 this with h | h
      · exact ⟨p, List.mem_cons_self, h⟩
      · obtain ⟨q, h1, h2⟩ := ih h
        exact ⟨q, List.mem_cons_of_mem _ h1, h2⟩
  constructor
  · intro args outs ho hargs i oc hi hc d
    obtain ⟨ls, hl, rfl⟩ := Option.map_eq_some_iff.1 ho
    obtain ⟨p, hp, hoc⟩ := key ls i oc hi
    simp only [lout, List.mem_cons, List.not_mem_nil, or_false] at hoc
    rcases hoc with rfl | rfl
    · obtain ⟨h3, h4⟩ := h args ls hl hargs p hp hc.1
      exact ⟨(fun _ h => by cases h), (fun _ h => by cases h), (fun _ _ h => by cases h), mkS_plain h4 (fun _ h => .inl h) fun a ha => by simp only [List.mem_singleton] at ha; subst ha; exact .inl trivial⟩
    · obtain ⟨h3, h4⟩ := h args ls hl hargs p hp hc.1
      refine ⟨(fun d' h => by cases h; rfl), (fun id' h => by cases h), (fun id' k' h => by cases h; exact ⟨rfl, trivial, rowL_OK fun c hc => (h3.2 c hc).2⟩), mkS_plain h4 (fun _ h => .inl h) fun a ha => ?_⟩
      simp only [List.mem_singleton] at ha
      subst ha
      exact .inr (.inl ⟨rfl, rfl, rfl⟩)
  · intro args outs ho i oc hi hc ρ w B d hB hargs hd _
    obtain ⟨ls, hl, rfl⟩ := Option.map_eq_some_iff.1 ho
    obtain ⟨p, hp, hoc⟩ := key ls i oc hi
    refine ⟨hcall _ _, ?_⟩
    simp only [lout, List.mem_cons, List.not_mem_nil, or_false] at hoc
    rcases hoc with rfl | rfl
    · obtain ⟨hc1, hc2⟩ := hc
      obtain ⟨⟨h3, h4⟩, h5⟩ := h2 args ls hl p hp hc1 ρ w B hB hargs
      refine h5.mono ?_
      rintro e w' (⟨_, hb, rfl⟩ | ⟨h0, _⟩)
      · exact ⟨ρ, postBelow hb, rfl⟩
      · omega
    · obtain ⟨hc1, hc2⟩ := hc
      obtain ⟨⟨h3, h4⟩, h5⟩ := h2 args ls hl p hp hc1 ρ w B hB hargs
      refine h5.mono ?_
      rintro e w' (⟨h0, _⟩ | ⟨_, nt, ρc, ρ', σ', a', s, g, rfl, hr, hs, hrow⟩)
      · omega
      · exact ⟨_, fresh_post (d := d) (ρe := ρ) hB hr hs (rowL_OK fun c hc => (h3.2 c hc).2) hrow, congrArg _ (mkS_den h4 (fresh_val (ρe := ρ) hr hs))⟩

/-- a call that takes coins and gives coins -/
theorem co_lcon {f : FuncId} {fn : Func} {c : Code} (hf : Try.prog.funcs[f]? = some fn) (hb : fn.body = some c) (hcall : ∀ args w, (callFunc f args).run Try.prog w = .ok (.enter f args) w) {tab : List Entry} (ht : TabOK tab) {t : TypeId} {k : LCon} {cls : Nat}
    (h : ∀ args l, k args = some l → ∀ p ∈ l, p.1 → ∃ ls pl, CoIn t args ls pl ∧ ls.length + pl.length ≤ fn.ntmps ∧ ((∀ l ∈ ls, okC l) → (∀ l ∈ pl, ∀ a ∈ l, a.plain) → (okC p.2.1 ∧ (∀ e, p.2.2 = some e → ∀ a ∈ e, a.plain)) ∧ ∀ ps : List (Bool × Cs), ps.map (·.2) = ls → okBs ps →
      ∀ w0, Goes Try.prog fn.ntmps w0 [.code c] .norm (kn (argS 0 (insS 1000 ps ++ pl.map Sv.one)) (insH t 1000 ps)) (Fin (ctx tab fn.ntmps) fn.results.toList (LFin p.2.1 p.2.2)))) : EOK ⟨f, cls, lcon k⟩ := by
  have okls : ∀ {As : List RArg} {ls : List Cs}, CoArgs t As ls → ∀ l ∈ ls, okC l := by
    intro As ls hh
    induction hh with
    | nil => intro l hl; cases hl
    | cons h1 h2 _ ih =>
      intro l hl
      rcases List.mem_cons.1 hl with rfl | hl
      · exact coA_ok h1 h2
      · exact ih l hl
  have slen : ∀ (ps : List (Bool × Cs)) id, (insS id ps).length = ps.length := by
    intro ps
    induction ps with
    | nil => intro _; rfl
    | cons p r ih => intro id; simp [insS, ih]
  refine lcon_ok hcall ?_ ?_
  · intro args outs ho hargs p hp hc
    obtain ⟨ls, pl, hin, _, h2⟩ := h _ _ ho p hp hc
    obtain ⟨As, Ps, rfl, hca, rfl, hn⟩ := hin
    have hpl : ∀ l ∈ Ps.map (fun A => A.map (·.1)), ∀ a ∈ l, a.plain := by
      intro l hl a ha
      obtain ⟨A, hA', rfl⟩ := List.mem_map.1 hl
      obtain ⟨q, hq, rfl⟩ := List.mem_map.1 ha
      exact (hargs A (List.mem_append_right _ hA') q hq).1 (hn _ hl _ ha)
    exact (h2 (okls hca) hpl).1
  · intro args outs ho p hp hc ρ w B hB hargs
    obtain ⟨ls, pl, hin, hlen, h2⟩ := h _ _ ho p hp hc
    obtain ⟨ps, ρ2, e1, e2, hpl, e3, e4⟩ := in_coins hin hargs
    have hls : ∀ l ∈ ls, okC l := by
      obtain ⟨As, Ps, _, hca, _⟩ := hin
      exact okls hca
    obtain ⟨hplain, hg⟩ := h2 hls hpl
    refine ⟨hplain, ?_⟩
    have hps : ps.length = ls.length := by rw [← e1]; simp
    have hc2 := calls_of (ctx_ok ht fn.ntmps) hf hb rfl (by rw [List.length_append, slen, List.length_map, hps]; exact hlen) e4 (hg ps e1 e2 _)
    have e3' : (insS 1000 ps ++ pl.map Sv.one).map (Sv.den (base w ρ2).ρ) = args.map (argV ρ) := e3
    rw [e3'] at hc2
    refine hc2.mono ?_
    rintro e w' ⟨v, σ', ρ', a', hfin, rfl, hr, _⟩
    rcases hfin with ⟨h0, rfl⟩ | ⟨h0, s, g, rfl, hs, hrow⟩
    · exact .inl ⟨h0, kept_below hr.below, congrArg _ (mkS_den hplain.2 rfl)⟩
    · exact .inr ⟨h0, _, _, ρ', σ', a', s, g, rfl, hr, hs, hrow⟩

end M
end Go.Proofs.Ytmjdmhelmgcanaa

/- Sums, differences, the less one: contracts that the coins need. -/
namespace Go.Proofs.Ytmjdmhelmgcanaa
namespace M
open Go.RowKit
set_option linter.unusedSimpArgs false

def tZ2 : List Entry := ⟨80, 0, pcon (k2 fun x y => [(y ≤ x, .tup [N (x - y), E 0]), (x < y, .tup [N 0, E 3])])⟩ :: tabA
def tZ : List Entry := ⟨86, 0, pcon (k2 fun x y => [(True, .one (N (x - y)))])⟩ :: ⟨87, 0, pcon (k2 fun x y => [(True, .one (N (min x y)))])⟩ :: ⟨56, 0, pcon (k2 fun x y => [(True, .one (N (min x y)))])⟩ :: tZ2

theorem goes_z {nt : Nat} {w0 : Base} {k : List Fr} {o : Out} {σ : Ms} {Z : List Fr → Out → Ms → Prop} (h : Z k o σ) : Goes Try.prog nt w0 k o σ Z := fun _ hQ ρ a w hr => hQ _ _ _ h ρ a w hr

theorem znsub_owes {x y : Nat} (hx : x < TOP) (hy : y < TOP) :
    Owes 80 [N x, N y] [(y ≤ x, .tup [N (x - y), E 0]), (x < y, .tup [N 0, E 3])] := by
  have ht := top_eq
  intro p0 hp0 hc
  simp only [List.mem_cons, List.not_mem_nil, or_false] at hp0
  rcases hp0 with rfl | rfl
  · have hc' : y ≤ x := hc
    have hpl : (.tup [N (x - y), E 0] : Sv).all Av.plain := by ((first | refine tupP ?_ | refine oneP ?_) <;> first | (first | exact E_plain _ | exact B_plain _ | exact lit_plain _ _ | exact int_plain _ _ | exact N_plain (by omega) | exact N_plain2 (by omega) (by omega) | assumption) | ((repeat' (first | exact argsP_nil | refine argsP_cons ?_ ?_)) <;> (first | exact E_plain _ | exact B_plain _ | exact lit_plain _ _ | exact int_plain _ _ | exact N_plain (by omega) | exact N_plain2 (by omega) (by omega) | assumption)))
    refine ⟨hpl, pure_calls' (ctx_ok tabA_ok 17) Try.func80 (c := bodyOf Try.f80) rfl rfl (args := [N x, N y]) (Nat.le_of_ble_eq_true (by kernel_rfl)) (by ((repeat' (first | exact argsP_nil | refine argsP_cons ?_ ?_)) <;> (first | exact E_plain _ | exact B_plain _ | exact lit_plain _ _ | exact int_plain _ _ | exact N_plain (by omega) | exact N_plain2 (by omega) (by omega) | assumption))) hpl (fun w0 => ?_)⟩
    exact goes_ret (ctx_ok tabA_ok 17) mixed rfl (orc := way []) (stops := []) (f := 3000) (k := [.code (bodyOf Try.f80)]) (o := .norm) (σ := (kn (argS 0 ([N x, N y].map .one)) [])) (cs := [True, True, True, True, True, True, y ≤ x, True, True, True, True, True, True, True, True, True, True]) (o' := .ret) (rs := Try.f80.results.toList) (v := (.tup [N (x - y), E 0])) (H := ([] : List (Nat × Bk))) (by kernel_rfl) (.inr rfl) (by ((simp only [conj, and_true, true_and, and_self, cmp_lt0, cmp_le0, cmp_ge0, cmp_gt0, reduceCtorEq, not_false_eq_true]) <;> first | omega | (simp_all; done) | (simp_all; omega))) fun _ _ => rfl
  · have hc' : x < y := hc
    have hpl : (.tup [N 0, E 3] : Sv).all Av.plain := by ((first | refine tupP ?_ | refine oneP ?_) <;> first | (first | exact E_plain _ | exact B_plain _ | exact lit_plain _ _ | exact int_plain _ _ | exact N_plain (by omega) | exact N_plain2 (by omega) (by omega) | assumption) | ((repeat' (first | exact argsP_nil | refine argsP_cons ?_ ?_)) <;> (first | exact E_plain _ | exact B_plain _ | exact lit_plain _ _ | exact int_plain _ _ | exact N_plain (by omega) | exact N_plain2 (by omega) (by omega) | assumption)))
    refine ⟨hpl, pure_calls' (ctx_ok tabA_ok 17) Try.func80 (c := bodyOf Try.f80) rfl rfl (args := [N x, N y]) (Nat.le_of_ble_eq_true (by kernel_rfl)) (by ((repeat' (first | exact argsP_nil | refine argsP_cons ?_ ?_)) <;> (first | exact E_plain _ | exact B_plain _ | exact lit_plain _ _ | exact int_plain _ _ | exact N_plain (by omega) | exact N_plain2 (by omega) (by omega) | assumption))) hpl (fun w0 => ?_)⟩
    exact goes_ret (ctx_ok tabA_ok 17) mixed rfl (orc := way [(11, 1)]) (stops := []) (f := 3000) (k := [.code (bodyOf Try.f80)]) (o := .norm) (σ := (kn (argS 0 ([N x, N y].map .one)) [])) (cs := [True, True, True, True, True, True, x < y, True, True, True, True, True, True, True, True, True, True]) (o' := .ret) (rs := Try.f80.results.toList) (v := (.tup [N 0, E 3])) (H := ([] : List (Nat × Bk))) (by kernel_rfl) (.inr rfl) (by ((simp only [conj, and_true, true_and, and_self, cmp_lt0, cmp_le0, cmp_ge0, cmp_gt0, reduceCtorEq, not_false_eq_true]) <;> first | omega | (simp_all; done) | (simp_all; omega))) fun _ _ => rfl

theorem tZ2_ok : TabOK tZ2 := .cons (k2_ok (fun a w => Try.call80 a w) fun _ _ h1 h2 => znsub_owes h1 h2) tabA_ok


theorem znrest_owes {x y : Nat} (hx : x < TOP) (hy : y < TOP) :
    Owes 86 [N x, N y] [(True, .one (N (x - y)))] := by
  have ht := top_eq
  intro p0 hp0 hc
  simp only [List.mem_cons, List.not_mem_nil, or_false] at hp0
  subst hp0
  · have hc' : True := hc
    have hpl : (.one (N (x - y)) : Sv).all Av.plain := by ((first | refine tupP ?_ | refine oneP ?_) <;> first | (first | exact E_plain _ | exact B_plain _ | exact lit_plain _ _ | exact int_plain _ _ | exact N_plain (by omega) | exact N_plain2 (by omega) (by omega) | assumption) | ((repeat' (first | exact argsP_nil | refine argsP_cons ?_ ?_)) <;> (first | exact E_plain _ | exact B_plain _ | exact lit_plain _ _ | exact int_plain _ _ | exact N_plain (by omega) | exact N_plain2 (by omega) (by omega) | assumption)))
    refine ⟨hpl, pure_calls' (ctx_ok tZ2_ok 14) Try.func86 (c := bodyOf Try.f86) rfl rfl (args := [N x, N y]) (Nat.le_of_ble_eq_true (by kernel_rfl)) (by ((repeat' (first | exact argsP_nil | refine argsP_cons ?_ ?_)) <;> (first | exact E_plain _ | exact B_plain _ | exact lit_plain _ _ | exact int_plain _ _ | exact N_plain (by omega) | exact N_plain2 (by omega) (by omega) | assumption))) hpl (fun w0 => ?_)⟩
    rcases Nat.lt_or_ge x y with h | h
    · skip
      rw [show x - y = 0 by omega]
      exact goes_ret (ctx_ok tZ2_ok 14) mixed rfl (orc := way [(10, 1)]) (stops := []) (f := 3000) (k := [.code (bodyOf Try.f86)]) (o := .norm) (σ := (kn (argS 0 ([N x, N y].map .one)) [])) (cs := [True, True, True, True, True, x < y, True, True, True, True, True, True, True, True]) (o' := .ret) (rs := Try.f86.results.toList) (v := (.one (N 0))) (H := ([] : List (Nat × Bk))) (by kernel_rfl) (.inr rfl) (by ((simp only [conj, and_true, true_and, and_self, cmp_lt0, cmp_le0, cmp_ge0, cmp_gt0, reduceCtorEq, not_false_eq_true]) <;> first | omega | (simp_all; done) | (simp_all; omega))) fun _ _ => rfl
    · skip
      exact goes_ret (ctx_ok tZ2_ok 14) mixed rfl (orc := way []) (stops := []) (f := 3000) (k := [.code (bodyOf Try.f86)]) (o := .norm) (σ := (kn (argS 0 ([N x, N y].map .one)) [])) (cs := [True, True, True, True, True, y ≤ x, True, True, True, True, True, True, True, True]) (o' := .ret) (rs := Try.f86.results.toList) (v := (.one (N (x - y)))) (H := ([] : List (Nat × Bk))) (by kernel_rfl) (.inr rfl) (by ((simp only [conj, and_true, true_and, and_self, cmp_lt0, cmp_le0, cmp_ge0, cmp_gt0, reduceCtorEq, not_false_eq_true]) <;> first | omega | (simp_all; done) | (simp_all; omega))) fun _ _ => rfl

theorem znleast_owes {x y : Nat} (hx : x < TOP) (hy : y < TOP) :
    Owes 87 [N x, N y] [(True, .one (N (min x y)))] := by
  have ht := top_eq
  intro p0 hp0 hc
  simp only [List.mem_cons, List.not_mem_nil, or_false] at hp0
  subst hp0
  · have hc' : True := hc
    have hpl : (.one (N (min x y)) : Sv).all Av.plain := by ((first | refine tupP ?_ | refine oneP ?_) <;> first | (first | exact E_plain _ | exact B_plain _ | exact lit_plain _ _ | exact int_plain _ _ | exact N_plain (by omega) | exact N_plain2 (by omega) (by omega) | assumption) | ((repeat' (first | exact argsP_nil | refine argsP_cons ?_ ?_)) <;> (first | exact E_plain _ | exact B_plain _ | exact lit_plain _ _ | exact int_plain _ _ | exact N_plain (by omega) | exact N_plain2 (by omega) (by omega) | assumption)))
    refine ⟨hpl, pure_calls' (ctx_ok tZ2_ok 11) Try.func87 (c := bodyOf Try.f87) rfl rfl (args := [N x, N y]) (Nat.le_of_ble_eq_true (by kernel_rfl)) (by ((repeat' (first | exact argsP_nil | refine argsP_cons ?_ ?_)) <;> (first | exact E_plain _ | exact B_plain _ | exact lit_plain _ _ | exact int_plain _ _ | exact N_plain (by omega) | exact N_plain2 (by omega) (by omega) | assumption))) hpl (fun w0 => ?_)⟩
    rcases Nat.lt_or_ge x y with h | h
    · skip
      rw [show min x y = x by omega]
      exact goes_ret (ctx_ok tZ2_ok 11) mixed rfl (orc := way []) (stops := []) (f := 3000) (k := [.code (bodyOf Try.f87)]) (o := .norm) (σ := (kn (argS 0 ([N x, N y].map .one)) [])) (cs := [True, True, True, True, True, True, cmpN x y < (0 : Int), True, True]) (o' := .ret) (rs := Try.f87.results.toList) (v := (.one (N x))) (H := ([] : List (Nat × Bk))) (by kernel_rfl) (.inr rfl) (by ((simp only [conj, and_true, true_and, and_self, cmp_lt0, cmp_le0, cmp_ge0, cmp_gt0, reduceCtorEq, not_false_eq_true]) <;> first | omega | (simp_all; done) | (simp_all; omega))) fun _ _ => rfl
    · skip
      rw [show min x y = y by omega]
      exact goes_ret (ctx_ok tZ2_ok 11) mixed rfl (orc := way [(8, 1)]) (stops := []) (f := 3000) (k := [.code (bodyOf Try.f87)]) (o := .norm) (σ := (kn (argS 0 ([N x, N y].map .one)) [])) (cs := [True, True, True, True, True, True, ¬cmpN x y < (0 : Int), True, True]) (o' := .ret) (rs := Try.f87.results.toList) (v := (.one (N y))) (H := ([] : List (Nat × Bk))) (by kernel_rfl) (.inr rfl) (by ((simp only [conj, and_true, true_and, and_self, cmp_lt0, cmp_le0, cmp_ge0, cmp_gt0, reduceCtorEq, not_false_eq_true]) <;> first | omega | (simp_all; done) | (simp_all; omega))) fun _ _ => rfl

theorem zrleast_owes {x y : Nat} (hx : x < TOP) (hy : y < TOP) :
    Owes 56 [N x, N y] [(True, .one (N (min x y)))] := by
  have ht := top_eq
  intro p0 hp0 hc
  simp only [List.mem_cons, List.not_mem_nil, or_false] at hp0
  subst hp0
  · have hc' : True := hc
    have hpl : (.one (N (min x y)) : Sv).all Av.plain := by ((first | refine tupP ?_ | refine oneP ?_) <;> first | (first | exact E_plain _ | exact B_plain _ | exact lit_plain _ _ | exact int_plain _ _ | exact N_plain (by omega) | exact N_plain2 (by omega) (by omega) | assumption) | ((repeat' (first | exact argsP_nil | refine argsP_cons ?_ ?_)) <;> (first | exact E_plain _ | exact B_plain _ | exact lit_plain _ _ | exact int_plain _ _ | exact N_plain (by omega) | exact N_plain2 (by omega) (by omega) | assumption)))
    refine ⟨hpl, pure_calls' (ctx_ok tZ2_ok 11) Try.func56 (c := bodyOf Try.f56) rfl rfl (args := [N x, N y]) (Nat.le_of_ble_eq_true (by kernel_rfl)) (by ((repeat' (first | exact argsP_nil | refine argsP_cons ?_ ?_)) <;> (first | exact E_plain _ | exact B_plain _ | exact lit_plain _ _ | exact int_plain _ _ | exact N_plain (by omega) | exact N_plain2 (by omega) (by omega) | assumption))) hpl (fun w0 => ?_)⟩
    rcases Nat.lt_or_ge y x with h | h
    · skip
      rw [show min x y = y by omega]
      exact goes_ret (ctx_ok tZ2_ok 11) mixed rfl (orc := way [(8, 1)]) (stops := []) (f := 3000) (k := [.code (bodyOf Try.f56)]) (o := .norm) (σ := (kn (argS 0 ([N x, N y].map .one)) [])) (cs := [True, True, True, True, True, True, ¬cmpN x y ≤ (0 : Int), True, True]) (o' := .ret) (rs := Try.f56.results.toList) (v := (.one (N y))) (H := ([] : List (Nat × Bk))) (by kernel_rfl) (.inr rfl) (by ((simp only [conj, and_true, true_and, and_self, cmp_lt0, cmp_le0, cmp_ge0, cmp_gt0, reduceCtorEq, not_false_eq_true]) <;> first | omega | (simp_all; done) | (simp_all; omega))) fun _ _ => rfl
    · skip
      rw [show min x y = x by omega]
      exact goes_ret (ctx_ok tZ2_ok 11) mixed rfl (orc := way []) (stops := []) (f := 3000) (k := [.code (bodyOf Try.f56)]) (o := .norm) (σ := (kn (argS 0 ([N x, N y].map .one)) [])) (cs := [True, True, True, True, True, True, cmpN x y ≤ (0 : Int), True, True]) (o' := .ret) (rs := Try.f56.results.toList) (v := (.one (N x))) (H := ([] : List (Nat × Bk))) (by kernel_rfl) (.inr rfl) (by ((simp only [conj, and_true, true_and, and_self, cmp_lt0, cmp_le0, cmp_ge0, cmp_gt0, reduceCtorEq, not_false_eq_true]) <;> first | omega | (simp_all; done) | (simp_all; omega))) fun _ _ => rfl

theorem tZ_ok : TabOK tZ := .cons (k2_ok (fun a w => Try.call86 a w) fun _ _ h1 h2 => znrest_owes h1 h2) (.cons (k2_ok (fun a w => Try.call87 a w) fun _ _ h1 h2 => znleast_owes h1 h2) (.cons (k2_ok (fun a w => Try.call56 a w) fun _ _ h1 h2 => zrleast_owes h1 h2) tZ2_ok))

end M
end Go.Proofs.Ytmjdmhelmgcanaa

/- coins.Amount, coins.Right, r02.Right, r02.Of. -/
namespace Go.Proofs.Ytmjdmhelmgcanaa
namespace M
open Go.RowKit
set_option linter.unusedSimpArgs false
set_option linter.unusedVariables false

def slA (l : Cs) : Sv := .one [.sl 1000 5 0 l.length]
def rwA (t : TypeId) (l : Cs) : Nat × Bk := (1000, .row false t 5 l.length (rowL l))
def amS (d : Int) (l : Cs) (i : Nat) : List (Nat × Sv) := [(1, .one [.int .u8 d]), (4, .one [.ptr 4 0]), (7, slA l), (8, .one [.int .i64 (l.length : Nat)]), (9, .one [.int .i64 (i : Nat)])]
def amH (l : Cs) : List (Nat × Bk) := [rwA 60 l, (4, .var [.big 4 0] 28)]
def amK : DCon
  | [A, [(.int .u8 d, _)]] => (coA 60 A).map fun a => [(a.1 ∧ 0 ≤ d, .one (N (amt a.2 d.toNat)))]
  | [A, [(.lit .u8 d, _)]] => (coA 60 A).map fun a => [(a.1 ∧ 0 ≤ d, .one (N (amt a.2 d.toNat)))]
  | _ => none
def rgS (l : Cs) (i : Nat) : List (Nat × Sv) := [(0, slA l), (5, slA l), (6, .one [.int .i64 (l.length : Nat)]), (7, .one [.int .i64 (i : Nat)])]
def rgH (l : Cs) : List (Nat × Bk) := [rwA 60 l]
def rqS (l : Cs) (i : Nat) : List (Nat × Sv) := [(0, slA l), (3, .one [.int .i64 (i : Nat)])]
def rqT (l : Cs) (i k : Nat) : List (Nat × Sv) := [(0, slA l), (3, .one [.int .i64 (i : Nat)]), (4, .one [.int .i64 (k : Nat)])]
/-- the coins of the first i, by denomination -/
def ofF (l : Cs) : Nat → Nat → Nat
  | 0 => fun _ => 0
  | i + 1 => upd (ofF l i) (getc l i).1 (getc l i).2
def oofS (l : Cs) (i : Nat) : List (Nat × Sv) := [(0, slA l), (2, .one [.ptr 2 0]), (3, .one [.ptr 3 0]), (4, .one [.int .i64 (i : Nat)])]
def oofH (l : Cs) (i : Nat) : List (Nat × Bk) := [rwA 60 l, (2, .var [.vec 4 8 (fun _ => 0)] 82), (3, .var [.vec 4 8 (ofF l i)] 82)]

/-! ## Amount -/

theorem amount_nil {w0 : Base} {d : Int} {b : Bool} : Goes Try.prog Try.f35.ntmps w0 [.code (bodyOf Try.f35)] .norm (kn (argS 0 [.one [.nil], .one [bif b then .int .u8 d else .lit .u8 d]]) [])
    (Fin (ctx tZ 21) Try.f35.results.toList fun v _ => v = .one (N 0)) := by
  cases b
  · exact goes_ret (ctx_ok tZ_ok 21) mixed rfl (orc := way []) (stops := []) (f := 3000) (k := [.code (bodyOf Try.f35)]) (o := .norm) (σ := (kn (argS 0 [.one [.nil], .one [.lit .u8 d]]) [])) (cs := [True, True, True, True, True, True, True]) (o' := .ret) (rs := Try.f35.results.toList) (v := (.one (N 0))) (H := ([] : List (Nat × Bk))) (by kernel_rfl) (.inr rfl) (by simp [conj]) fun _ _ => rfl
  · exact goes_ret (ctx_ok tZ_ok 21) mixed rfl (orc := way []) (stops := []) (f := 3000) (k := [.code (bodyOf Try.f35)]) (o := .norm) (σ := (kn (argS 0 [.one [.nil], .one [.int .u8 d]]) [])) (cs := [True, True, True, True, True, True, True]) (o' := .ret) (rs := Try.f35.results.toList) (v := (.one (N 0))) (H := ([] : List (Nat × Bk))) (by kernel_rfl) (.inr rfl) (by simp [conj]) fun _ _ => rfl

theorem amount_row {w0 : Base} {l : Cs} {d : Int} {b : Bool} (hn : l.length < 4096) (hd : 0 ≤ d) : Goes Try.prog Try.f35.ntmps w0 [.code (bodyOf Try.f35)] .norm (kn (argS 0 [slA l, .one [bif b then .int .u8 d else .lit .u8 d]]) [rwA 60 l])
    (Fin (ctx tZ 21) Try.f35.results.toList fun v _ => v = .one (N (amt l d.toNat))) := by
  have hst : Goes Try.prog Try.f35.ntmps w0 [.code (bodyOf Try.f35)] .norm (kn (argS 0 [slA l, .one [bif b then .int .u8 d else .lit .u8 d]]) [rwA 60 l]) fun k o σ => k = kOf 0 (bodyOf Try.f35) ∧ o = .norm ∧ σ = kn (amS d l 0) (amH l) := by
    cases b
    · exact goes (ctx_ok tZ_ok 21) mixed rfl (gs := [1, 9]) (gh := []) (orc := way []) (stops := [0]) (f := 3000) (k := [.code (bodyOf Try.f35)]) (o := .norm) (σ := (kn (argS 0 [slA l, .one [.lit .u8 d]]) [rwA 60 l])) (cs := [True, True, True, True]) (k' := (kOf 0 (bodyOf Try.f35))) (o' := .norm) (S := (amS d l 0)) (H := (amH l)) (by kernel_rfl) (by kernel_rfl) (by simp [conj])
    · exact goes (ctx_ok tZ_ok 21) mixed rfl (gs := [1, 9]) (gh := []) (orc := way []) (stops := [0]) (f := 3000) (k := [.code (bodyOf Try.f35)]) (o := .norm) (σ := (kn (argS 0 [slA l, .one [.int .u8 d]]) [rwA 60 l])) (cs := [True, True, True, True]) (k' := (kOf 0 (bodyOf Try.f35))) (o' := .norm) (S := (amS d l 0)) (H := (amH l)) (by kernel_rfl) (by kernel_rfl) (by simp [conj])
  refine hst.bind ?_
  rintro k o σ ⟨rfl, rfl, rfl⟩
  have hk : kOf 0 (bodyOf Try.f35) = .code (.block 0 (.loop (roundOf 0 (bodyOf Try.f35)))) :: restOf 0 (bodyOf Try.f35) := by kernel_rfl
  rw [hk]
  refine (goes_loop (fun i : Nat => kn (amS d l i) (amH l)) (fun i => i ≤ l.length ∧ amt l d.toNat = amt (l.drop i) d.toNat) (fun i => l.length - i)
    (fun o σ => (o = .norm ∧ σ = kn (amS d l l.length) (amH l) ∧ amt l d.toNat = 0) ∨ (o = .ret ∧ ∃ x, σ = kn [(4, .one [.ptr 4 0])] [(4, .var [.big 4 x] 28)] ∧ x = amt l d.toNat)) ?_ (p := 0) ⟨Nat.zero_le _, rfl⟩).bind ?_
  · rintro i ⟨hle, hinv⟩
    by_cases hi : i < l.length
    · have hdr := amt_drop (d := d.toNat) hi
      by_cases he : (getc l i).1 = d.toNat
      · refine (goes (ctx_ok tZ_ok 21) mixed rfl (gs := []) (gh := []) (orc := way []) (stops := []) (f := 3000) (k := [.code (roundOf 0 (bodyOf Try.f35))]) (o := .norm) (σ := (kn (amS d l i) (amH l))) (cs := [(↑i : Int) < (↑(List.length l) : Int), (0 : Int) ≤ (↑i : Int) ∧ (↑i : Int) < (↑(List.length l) : Int), addO (0 : Nat) i < List.length l, True, True, True, True, True, (↑(Prod.fst (getc l (addO (0 : Nat) i))) : Int) = d, True, True, True]) (k' := []) (o' := .ret) (S := [(4, .one [.ptr 4 0])]) (H := [(4, .var [.big 4 (getc l i).2] 28)]) (by kernel_rfl) (by kernel_rfl) (by
          have he' : ((getc l i).1 : Int) = d := by omega
          simp only [conj, and_true, true_and, addO_eq, Nat.zero_add, Int.toNat_natCast, he']; omega)).mono ?_
        rintro k o σ ⟨rfl, rfl, rfl⟩
        refine ⟨rfl, .inr ⟨by simp, .inr ⟨rfl, _, rfl, ?_⟩⟩⟩
        rw [hinv, hdr, if_pos he]
      · refine (goes (ctx_ok tZ_ok 21) mixed rfl (gs := []) (gh := []) (orc := way [(16, 1)]) (stops := []) (f := 3000) (k := [.code (roundOf 0 (bodyOf Try.f35))]) (o := .norm) (σ := (kn (amS d l i) (amH l))) (cs := [(↑i : Int) < (↑(List.length l) : Int), (0 : Int) ≤ (↑i : Int) ∧ (↑i : Int) < (↑(List.length l) : Int), addO (0 : Nat) i < List.length l, True, True, True, True, True, ¬(↑(Prod.fst (getc l (addO (0 : Nat) i))) : Int) = d, (-9223372036854775808 : Int) ≤ (↑i : Int) + (1 : Int) ∧ (↑i : Int) + (1 : Int) < (9223372036854775808 : Int), True]) (k' := []) (o' := .norm) (S := (amS d l (i + 1))) (H := (amH l)) (by kernel_rfl) (by kernel_rfl) (by
          have he' : ¬ ((getc l i).1 : Int) = d := by omega
          simp only [conj, and_true, true_and, addO_eq, Nat.zero_add, Int.toNat_natCast, he', not_false_eq_true]; omega)).mono ?_
        rintro k o σ ⟨rfl, rfl, rfl⟩
        refine ⟨rfl, .inl ⟨rfl, i + 1, ⟨hi, ?_⟩, by omega, rfl⟩⟩
        rw [hinv, hdr, if_neg he]
    · obtain rfl : i = l.length := by omega
      refine (goes (ctx_ok tZ_ok 21) mixed rfl (gs := []) (gh := []) (orc := way [(10, 1)]) (stops := []) (f := 3000) (k := [.code (roundOf 0 (bodyOf Try.f35))]) (o := .norm) (σ := (kn (amS d l l.length) (amH l))) (cs := [¬(↑(List.length l) : Int) < (↑(List.length l) : Int)]) (k' := []) (o' := (.exit 0)) (S := (amS d l l.length)) (H := (amH l)) (by kernel_rfl) (by kernel_rfl) (by simp [conj])).mono ?_
      rintro k o σ ⟨rfl, rfl, rfl⟩
      refine ⟨rfl, .inr ⟨by simp, .inl ⟨rfl, rfl, ?_⟩⟩⟩
      rw [hinv, List.drop_of_length_le (Nat.le_refl _)]; rfl
  · rintro k o σ ⟨rfl, ⟨rfl, rfl, he⟩ | ⟨rfl, x, rfl, rfl⟩⟩
    · rw [he]
      exact goes_ret (ctx_ok tZ_ok 21) mixed rfl (orc := way []) (stops := []) (f := 3000) (k := (restOf 0 (bodyOf Try.f35))) (o := .norm) (σ := (kn (amS d l l.length) (amH l))) (cs := [True, True]) (o' := .ret) (rs := Try.f35.results.toList) (v := (.one (N 0))) (H := ([] : List (Nat × Bk))) (by kernel_rfl) (.inr rfl) (by simp [conj]) fun _ _ => rfl
    · exact goes_ret (ctx_ok tZ_ok 21) mixed rfl (orc := way []) (stops := []) (f := 3000) (k := (restOf 0 (bodyOf Try.f35))) (o := .ret) (σ := (kn [(4, .one [.ptr 4 0])] [(4, .var [.big 4 (amt l d.toNat)] 28)])) (cs := []) (o' := .ret) (rs := Try.f35.results.toList) (v := (.one (N (amt l d.toNat)))) (H := ([] : List (Nat × Bk))) (by kernel_rfl) (.inr rfl) (by simp [conj]) fun _ _ => rfl

theorem amt_lt {l : Cs} (h : okC l) (d : Nat) : amt l d < TOP := by
  induction l with
  | nil => exact top_pos
  | cons c r ih =>
    rw [amt]
    split
    · exact (h.2 c List.mem_cons_self).2
    · exact ih ⟨by have := h.1; simp only [List.length_cons] at this; omega, fun c hc => h.2 c (List.mem_cons_of_mem _ hc)⟩

/-- one argument of coins, opened -/
theorem one_in {ps : List (Bool × Cs)} {l : Cs} (h : ps.map (·.2) = [l]) (hb : okBs ps) : (ps = [(true, [])] ∧ l = []) ∨ ps = [(false, l)] := by
  match ps, h with
  | [(b, m)], h =>
    simp only [List.map_cons, List.map_nil, List.cons.injEq, and_true] at h
    subst h
    cases b with
    | true => have := hb.1 rfl; subst this; exact .inl ⟨rfl, rfl⟩
    | false => exact .inr rfl
theorem two_in {ps : List (Bool × Cs)} {l m : Cs} (h : ps.map (·.2) = [l, m]) (hb : okBs ps) : ∃ b c, ps = [(b, l), (c, m)] ∧ (b = true → l = []) ∧ (c = true → m = []) := by
  match ps, h with
  | [(b, l'), (c, m')], h =>
    simp only [List.map_cons, List.map_nil, List.cons.injEq, and_true] at h
    obtain ⟨rfl, rfl⟩ := h
    exact ⟨b, c, rfl, hb.1, hb.2.2.1⟩

theorem amount_e : EOK ⟨35, 1, dcon amK⟩ := by
  refine co_dcon (t := 60) Try.func35 (c := bodyOf Try.f35) rfl (fun a w => Try.call35 a w) tZ_ok fun args l hl p hp hc => ?_
  unfold amK at hl
  have main : ∀ {A : RArg} {d : Int} {x : Option Bk} {c : Prop} {m : Cs} (b : Bool), coA 60 A = some (c, m) → c → 0 ≤ d → p.2 = .one (N (amt m d.toNat)) → args = [A, [(bif b then .int .u8 d else .lit .u8 d, x)]] →
      ∃ ls pl, CoIn 60 args ls pl ∧ ls.length + pl.length ≤ Try.f35.ntmps ∧ ((∀ l ∈ ls, okC l) → (∀ l ∈ pl, ∀ a ∈ l, a.plain) → p.2.all Av.plain ∧ ∀ ps : List (Bool × Cs), ps.map (·.2) = ls → okBs ps →
      ∀ w0, Goes Try.prog Try.f35.ntmps w0 [.code (bodyOf Try.f35)] .norm (kn (argS 0 (insS 1000 ps ++ pl.map Sv.one)) (insH 60 1000 ps)) (Fin (ctx tZ Try.f35.ntmps) Try.f35.results.toList fun v _ => v = p.2)) := by
    intro A d x c m b hA hc hd hv he
    refine ⟨[m], [[bif b then .int .u8 d else .lit .u8 d]], ⟨[A], [[(bif b then .int .u8 d else .lit .u8 d, x)]], he, .cons hA hc .nil, rfl, ?_⟩, Nat.le_of_ble_eq_true (by kernel_rfl), fun h1 _ => ?_⟩
    · intro l hl a ha
      simp only [List.mem_singleton] at hl
      subst hl
      simp only [List.mem_singleton] at ha
      subst ha
      cases b <;> rfl
    · rw [hv]
      refine ⟨oneP (N_plain (amt_lt (h1 m List.mem_cons_self) _)), fun ps e1 e2 w0 => ?_⟩
      rcases one_in e1 e2 with ⟨rfl, rfl⟩ | rfl
      · exact amount_nil
      · exact amount_row (h1 m List.mem_cons_self).1 hd
  split at hl
  · rename_i A d x
    obtain ⟨a, ha, rfl⟩ := Option.map_eq_some_iff.1 hl
    simp only [List.mem_singleton] at hp
    subst hp
    exact main (x := x) true ha hc.1 hc.2 rfl rfl
  · rename_i A d x
    obtain ⟨a, ha, rfl⟩ := Option.map_eq_some_iff.1 hl
    simp only [List.mem_singleton] at hp
    subst hp
    exact main (x := x) false ha hc.1 hc.2 rfl rfl
  · cases hl

end M
end Go.Proofs.Ytmjdmhelmgcanaa

/- coins.Right, r02.Right, r02.Of. -/
namespace Go.Proofs.Ytmjdmhelmgcanaa
namespace M
open Go.RowKit
set_option linter.unusedSimpArgs false
set_option linter.unusedVariables false

/-- these coins may be -/
def Rgt (l : Cs) : Prop := ∀ i, i < l.length → (getc l i).1 < 8 ∧ (getc l i).2 ≠ 0 ∧ (0 < i → (getc l (i - 1)).1 < (getc l i).1)
def k1c (g : Cs → List (Prop × Sv)) : DCon
  | [A] => (coA 60 A).map fun a => (g a.2).map fun q => (a.1 ∧ q.1, q.2)
  | _ => none
def rgL (l : Cs) : List (Prop × Sv) := [(Rgt l, .one (B true)), (¬ Rgt l, .one (B false))]
/-- these are a purse's coins -/
def IsP (l : Cs) : Prop := l = (puL l).lst
def ofL (l : Cs) : List (Prop × Sv) := [(IsP l, .one [.vec 4 8 (puL l).f])]

theorem k1c_ok {f : FuncId} {fn : Func} {c : Code} (hf : Try.prog.funcs[f]? = some fn) (hb : fn.body = some c) (hcall : ∀ args w, (callFunc f args).run Try.prog w = .ok (.enter f args) w) {tab : List Entry} (ht : TabOK tab) {g : Cs → List (Prop × Sv)} {cls : Nat}
    (hnt : 1 ≤ fn.ntmps)
    (h : ∀ l, okC l → ∀ p ∈ g l, p.1 → p.2.all Av.plain ∧ ∀ w0, (l = [] → Goes Try.prog fn.ntmps w0 [.code c] .norm (kn (argS 0 [.one [.nil]]) []) (Fin (ctx tab fn.ntmps) fn.results.toList fun v _ => v = p.2)) ∧
      Goes Try.prog fn.ntmps w0 [.code c] .norm (kn (argS 0 [slA l]) [rwA 60 l]) (Fin (ctx tab fn.ntmps) fn.results.toList fun v _ => v = p.2)) : EOK ⟨f, cls, dcon (k1c g)⟩ := by
  refine co_dcon (t := 60) hf hb hcall ht fun args l hl p hp hc => ?_
  unfold k1c at hl
  split at hl
  · rename_i A
    obtain ⟨a, ha, rfl⟩ := Option.map_eq_some_iff.1 hl
    obtain ⟨q, hq, rfl⟩ := List.mem_map.1 hp
    refine ⟨[a.2], [], ⟨[A], [], rfl, .cons ha hc.1 .nil, rfl, fun l hl => by cases hl⟩, hnt, fun h1 _ => ?_⟩
    obtain ⟨h2, h3⟩ := h a.2 (h1 _ List.mem_cons_self) q hq hc.2
    refine ⟨h2, fun ps e1 e2 w0 => ?_⟩
    rcases one_in e1 e2 with ⟨rfl, e3⟩ | rfl
    · exact (h3 w0).1 e3
    · exact (h3 w0).2
  · cases hl

/-! ## Right -/

theorem Rgt_nil : Rgt [] := fun i hi => by cases hi

theorem right_nil {w0 : Base} : Goes Try.prog Try.f32.ntmps w0 [.code (bodyOf Try.f32)] .norm (kn (argS 0 [.one [.nil]]) []) (Fin (ctx tZ 37) Try.f32.results.toList fun v _ => v = .one (B true)) :=
  goes_ret (ctx_ok tZ_ok 37) mixed rfl (orc := way []) (stops := []) (f := 3000) (k := [.code (bodyOf Try.f32)]) (o := .norm) (σ := (kn (argS 0 [.one [.nil]]) [])) (cs := [True, True, True, True, True, True]) (o' := .ret) (rs := Try.f32.results.toList) (v := (.one (B true))) (H := ([] : List (Nat × Bk))) (by kernel_rfl) (.inr rfl) (by simp [conj]) fun _ _ => rfl

theorem right_row {w0 : Base} {l : Cs} (hn : l.length < 4096) : Goes Try.prog Try.f32.ntmps w0 [.code (bodyOf Try.f32)] .norm (kn (argS 0 [slA l]) [rwA 60 l])
    (Fin (ctx tZ 37) Try.f32.results.toList fun v _ => ∃ b, v = .one (B b) ∧ (b = true ↔ Rgt l)) := by
  refine (goes (ctx_ok tZ_ok 37) mixed rfl (gs := [7]) (gh := []) (orc := way []) (stops := [0]) (f := 3000) (k := [.code (bodyOf Try.f32)]) (o := .norm) (σ := (kn (argS 0 [slA l]) [rwA 60 l])) (cs := [True, True, True, True]) (k' := (kOf 0 (bodyOf Try.f32))) (o' := .norm) (S := (rgS l 0)) (H := (rgH l)) (by kernel_rfl) (by kernel_rfl) (by simp [conj])).bind ?_
  rintro k o σ ⟨rfl, rfl, rfl⟩
  have hk : kOf 0 (bodyOf Try.f32) = .code (.block 0 (.loop (roundOf 0 (bodyOf Try.f32)))) :: restOf 0 (bodyOf Try.f32) := by kernel_rfl
  rw [hk]
  refine (goes_loop (fun i : Nat => kn (rgS l i) (rgH l)) (fun i => i ≤ l.length ∧ ∀ j, j < i → (getc l j).1 < 8 ∧ (getc l j).2 ≠ 0 ∧ (0 < j → (getc l (j - 1)).1 < (getc l j).1)) (fun i => l.length - i)
    (fun o σ => (o = .norm ∧ σ = kn (rgS l l.length) (rgH l) ∧ Rgt l) ∨ (o = .ret ∧ σ = kn [(2, .one (B false))] [] ∧ ¬ Rgt l)) ?_ (p := 0) ⟨Nat.zero_le _, fun j hj => by omega⟩).bind ?_
  · rintro i ⟨hle, hinv⟩
    by_cases hi : i < l.length
    · by_cases h1 : (getc l i).1 < 8
      · by_cases h2 : (getc l i).2 = 0
        · refine (goes (ctx_ok tZ_ok 37) mixed rfl (gs := []) (gh := []) (orc := way [(14, 1)]) (stops := []) (f := 3000) (k := [.code (roundOf 0 (bodyOf Try.f32))]) (o := .norm) (σ := (kn (rgS l i) (rgH l))) (cs := [(↑i : Int) < (↑(List.length l) : Int), True, (0 : Int) ≤ (↑i : Int) ∧ (↑i : Int) < (↑(List.length l) : Int), addO (0 : Nat) i < List.length l, True, True, True, True, True, ¬(8 : Int) ≤ (↑(Prod.fst (getc l (addO (0 : Nat) i))) : Int), True, True, True, True, Prod.snd (getc l (addO (0 : Nat) i)) = (0 : Nat), True, True, True, True, True, True, True, True, True, True, True, True, True, True, True, True, True]) (k' := []) (o' := .ret) (S := [(2, .one (B false))]) (H := ([] : List (Nat × Bk))) (by kernel_rfl) (by kernel_rfl) (by simp only [conj, and_true, true_and, addO_eq, Nat.zero_add, Int.toNat_natCast, h2]; omega)).mono ?_
          rintro k o σ ⟨rfl, rfl, rfl⟩
          exact ⟨rfl, .inr ⟨by simp, .inr ⟨rfl, rfl, fun h => (h i hi).2.1 h2⟩⟩⟩
        · by_cases h3 : i = 0
          · refine (goes (ctx_ok tZ_ok 37) mixed rfl (gs := []) (gh := []) (orc := way [(14, 1), (19, 1), (23, 1)]) (stops := []) (f := 3000) (k := [.code (roundOf 0 (bodyOf Try.f32))]) (o := .norm) (σ := (kn (rgS l i) (rgH l))) (cs := [(↑i : Int) < (↑(List.length l) : Int), True, (0 : Int) ≤ (↑i : Int) ∧ (↑i : Int) < (↑(List.length l) : Int), addO (0 : Nat) i < List.length l, True, True, True, True, True, ¬(8 : Int) ≤ (↑(Prod.fst (getc l (addO (0 : Nat) i))) : Int), True, True, True, True, ¬Prod.snd (getc l (addO (0 : Nat) i)) = (0 : Nat), True, True, True, ¬(0 : Int) < (↑i : Int), True, True, True, True, True, True, True, True, True, True, True, True, (-9223372036854775808 : Int) ≤ (↑i : Int) + (1 : Int) ∧ (↑i : Int) + (1 : Int) < (9223372036854775808 : Int), True]) (k' := []) (o' := .norm) (S := (rgS l (i + 1))) (H := (rgH l)) (by kernel_rfl) (by kernel_rfl) (by simp only [conj, and_true, true_and, addO_eq, Nat.zero_add, Int.toNat_natCast, h2, not_false_eq_true]; omega)).mono ?_
            rintro k o σ ⟨rfl, rfl, rfl⟩
            refine ⟨rfl, .inl ⟨rfl, i + 1, ⟨hi, fun j hj => ?_⟩, by omega, rfl⟩⟩
            obtain rfl : j = i := by omega
            exact ⟨h1, h2, fun h => by omega⟩
          · have e1 : ((i : Int) - 1).toNat = i - 1 := by omega
            by_cases h4 : (getc l i).1 ≤ (getc l (i - 1)).1
            · refine (goes (ctx_ok tZ_ok 37) mixed rfl (gs := []) (gh := []) (orc := way [(14, 1), (19, 1)]) (stops := []) (f := 3000) (k := [.code (roundOf 0 (bodyOf Try.f32))]) (o := .norm) (σ := (kn (rgS l i) (rgH l))) (cs := [(↑i : Int) < (↑(List.length l) : Int), True, (0 : Int) ≤ (↑i : Int) ∧ (↑i : Int) < (↑(List.length l) : Int), addO (0 : Nat) i < List.length l, True, True, True, True, True, ¬(8 : Int) ≤ (↑(Prod.fst (getc l (addO (0 : Nat) i))) : Int), True, True, True, True, ¬Prod.snd (getc l (addO (0 : Nat) i)) = (0 : Nat), True, True, True, (0 : Int) < (↑i : Int), True, True, True, (-9223372036854775808 : Int) ≤ (↑i : Int) - (1 : Int) ∧ (↑i : Int) - (1 : Int) < (9223372036854775808 : Int), (0 : Int) ≤ (↑i : Int) - (1 : Int) ∧ (↑i : Int) - (1 : Int) < (↑(List.length l) : Int), True, addO (0 : Nat) (Int.toNat ((↑i : Int) - (1 : Int))) < List.length l, True, True, (↑(Prod.fst (getc l (addO (0 : Nat) i))) : Int) ≤ (↑(Prod.fst (getc l (addO (0 : Nat) (Int.toNat ((↑i : Int) - (1 : Int)))))) : Int), True, True, True]) (k' := []) (o' := .ret) (S := [(2, .one (B false))]) (H := ([] : List (Nat × Bk))) (by kernel_rfl) (by kernel_rfl) (by simp only [conj, and_true, true_and, addO_eq, Nat.zero_add, Int.toNat_natCast, h2, not_false_eq_true, e1]; omega)).mono ?_
              rintro k o σ ⟨rfl, rfl, rfl⟩
              exact ⟨rfl, .inr ⟨by simp, .inr ⟨rfl, rfl, fun h => by have := (h i hi).2.2 (by omega); omega⟩⟩⟩
            · refine (goes (ctx_ok tZ_ok 37) mixed rfl (gs := []) (gh := []) (orc := way [(14, 1), (19, 1), (33, 1)]) (stops := []) (f := 3000) (k := [.code (roundOf 0 (bodyOf Try.f32))]) (o := .norm) (σ := (kn (rgS l i) (rgH l))) (cs := [(↑i : Int) < (↑(List.length l) : Int), True, (0 : Int) ≤ (↑i : Int) ∧ (↑i : Int) < (↑(List.length l) : Int), addO (0 : Nat) i < List.length l, True, True, True, True, True, ¬(8 : Int) ≤ (↑(Prod.fst (getc l (addO (0 : Nat) i))) : Int), True, True, True, True, ¬Prod.snd (getc l (addO (0 : Nat) i)) = (0 : Nat), True, True, True, (0 : Int) < (↑i : Int), True, True, True, (-9223372036854775808 : Int) ≤ (↑i : Int) - (1 : Int) ∧ (↑i : Int) - (1 : Int) < (9223372036854775808 : Int), (0 : Int) ≤ (↑i : Int) - (1 : Int) ∧ (↑i : Int) - (1 : Int) < (↑(List.length l) : Int), True, addO (0 : Nat) (Int.toNat ((↑i : Int) - (1 : Int))) < List.length l, True, True, ¬(↑(Prod.fst (getc l (addO (0 : Nat) i))) : Int) ≤ (↑(Prod.fst (getc l (addO (0 : Nat) (Int.toNat ((↑i : Int) - (1 : Int)))))) : Int), True, True, (-9223372036854775808 : Int) ≤ (↑i : Int) + (1 : Int) ∧ (↑i : Int) + (1 : Int) < (9223372036854775808 : Int), True]) (k' := []) (o' := .norm) (S := (rgS l (i + 1))) (H := (rgH l)) (by kernel_rfl) (by kernel_rfl) (by simp only [conj, and_true, true_and, addO_eq, Nat.zero_add, Int.toNat_natCast, h2, not_false_eq_true, e1]; omega)).mono ?_
              rintro k o σ ⟨rfl, rfl, rfl⟩
              refine ⟨rfl, .inl ⟨rfl, i + 1, ⟨hi, fun j hj => ?_⟩, by omega, rfl⟩⟩
              by_cases hj2 : j < i
              · exact hinv j hj2
              · obtain rfl : j = i := by omega
                exact ⟨h1, h2, fun _ => by omega⟩
      · refine (goes (ctx_ok tZ_ok 37) mixed rfl (gs := []) (gh := []) (orc := way []) (stops := []) (f := 3000) (k := [.code (roundOf 0 (bodyOf Try.f32))]) (o := .norm) (σ := (kn (rgS l i) (rgH l))) (cs := [(↑i : Int) < (↑(List.length l) : Int), True, (0 : Int) ≤ (↑i : Int) ∧ (↑i : Int) < (↑(List.length l) : Int), addO (0 : Nat) i < List.length l, True, True, True, True, True, (8 : Int) ≤ (↑(Prod.fst (getc l (addO (0 : Nat) i))) : Int), True, True, True, True, True, True, True, True, True, True, True, True, True, True, True, True, True, True, True, True, True, True]) (k' := []) (o' := .ret) (S := [(2, .one (B false))]) (H := ([] : List (Nat × Bk))) (by kernel_rfl) (by kernel_rfl) (by simp only [conj, and_true, true_and, addO_eq, Nat.zero_add, Int.toNat_natCast]; omega)).mono ?_
        rintro k o σ ⟨rfl, rfl, rfl⟩
        exact ⟨rfl, .inr ⟨by simp, .inr ⟨rfl, rfl, fun h => h1 (h i hi).1⟩⟩⟩
    · obtain rfl : i = l.length := by omega
      refine (goes (ctx_ok tZ_ok 37) mixed rfl (gs := []) (gh := []) (orc := way [(8, 1)]) (stops := []) (f := 3000) (k := [.code (roundOf 0 (bodyOf Try.f32))]) (o := .norm) (σ := (kn (rgS l l.length) (rgH l))) (cs := [¬(↑(List.length l) : Int) < (↑(List.length l) : Int)]) (k' := []) (o' := (.exit 0)) (S := (rgS l l.length)) (H := (rgH l)) (by kernel_rfl) (by kernel_rfl) (by simp [conj])).mono ?_
      rintro k o σ ⟨rfl, rfl, rfl⟩
      exact ⟨rfl, .inr ⟨by simp, .inl ⟨rfl, rfl, hinv⟩⟩⟩
  · rintro k o σ ⟨rfl, ⟨rfl, rfl, he⟩ | ⟨rfl, rfl, he⟩⟩
    · exact goes_ret (ctx_ok tZ_ok 37) mixed rfl (orc := way []) (stops := []) (f := 3000) (k := (restOf 0 (bodyOf Try.f32))) (o := .norm) (σ := (kn (rgS l l.length) (rgH l))) (cs := [True]) (o' := .ret) (rs := Try.f32.results.toList) (v := (.one (B true))) (H := ([] : List (Nat × Bk))) (by kernel_rfl) (.inr rfl) (by simp [conj]) fun _ _ => ⟨true, rfl, fun _ => he, fun _ => rfl⟩
    · exact goes_ret (ctx_ok tZ_ok 37) mixed rfl (orc := way []) (stops := []) (f := 3000) (k := (restOf 0 (bodyOf Try.f32))) (o := .ret) (σ := (kn [(2, .one (B false))] [])) (cs := []) (o' := .ret) (rs := Try.f32.results.toList) (v := (.one (B false))) (H := ([] : List (Nat × Bk))) (by kernel_rfl) (.inr rfl) (by simp [conj]) fun _ _ => ⟨false, rfl, (fun h => by cases h), fun h => absurd h he⟩

theorem Fin.mono {C : Ctx} {rs : List ResultVar} {R R' : Sv → Ms → Prop} (h : ∀ v σ, R v σ → R' v σ) {k : List Fr} {o : Out} {σ : Ms} (hf : Fin C rs R k o σ) : Fin C rs R' k o σ := by
  obtain ⟨h1, h2, v, h3, h4⟩ := hf
  exact ⟨h1, h2, v, h3, h _ _ h4⟩

theorem right_e : EOK ⟨32, 1, dcon (k1c rgL)⟩ := by
  refine k1c_ok Try.func32 (c := bodyOf Try.f32) rfl (fun a w => Try.call32 a w) tZ_ok (Nat.le_of_ble_eq_true (by kernel_rfl)) fun l hl p hp hc => ?_
  simp only [rgL, List.mem_cons, List.not_mem_nil, or_false] at hp
  rcases hp with rfl | rfl
  · refine ⟨oneP (B_plain _), fun w0 => ⟨fun _ => right_nil, (right_row hl.1).mono fun k o σ hf => Fin.mono ?_ hf⟩⟩
    rintro v _ ⟨b, rfl, hb⟩
    rw [hb.2 hc]
  · refine ⟨oneP (B_plain _), fun w0 => ⟨fun e => absurd (e ▸ Rgt_nil) hc, (right_row hl.1).mono fun k o σ hf => Fin.mono ?_ hf⟩⟩
    rintro v _ ⟨b, rfl, hb⟩
    cases b
    · rfl
    · exact absurd (hb.1 rfl) hc

/-! ## r02.Right -/

theorem rright_nil {w0 : Base} : Goes Try.prog Try.f33.ntmps w0 [.code (bodyOf Try.f33)] .norm (kn (argS 0 [.one [.nil]]) []) (Fin (ctx tZ 41) Try.f33.results.toList fun v _ => v = .one (B true)) :=
  goes_ret (ctx_ok tZ_ok 41) mixed rfl (orc := way []) (stops := []) (f := 3000) (k := [.code (bodyOf Try.f33)]) (o := .norm) (σ := (kn (argS 0 [.one [.nil]]) [])) (cs := [True, True, True, True, True, True, True]) (o' := .ret) (rs := Try.f33.results.toList) (v := (.one (B true))) (H := ([] : List (Nat × Bk))) (by kernel_rfl) (.inr rfl) (by simp [conj]) fun _ _ => rfl

def gd2 (l : Cs) (i : Nat) : Prop := (getc l i).1 < 8 ∧ (getc l i).2 ≠ 0 ∧ ∀ k, k < i → (getc l k).1 < (getc l i).1

theorem Rgt_gd2 {l : Cs} : Rgt l ↔ ∀ i, i < l.length → gd2 l i := by
  constructor
  · intro h i hi
    refine ⟨(h i hi).1, (h i hi).2.1, ?_⟩
    induction i with
    | zero => intro k hk; omega
    | succ i ih =>
      intro k hk
      have h1 := (h (i + 1) hi).2.2 (by omega)
      rw [Nat.add_sub_cancel] at h1
      by_cases hki : k < i
      · have := ih (by omega) k hki; omega
      · obtain rfl : k = i := by omega
        exact h1
  · intro h i hi
    exact ⟨(h i hi).1, (h i hi).2.1, fun h0 => (h i hi).2.2 (i - 1) (by omega)⟩

theorem rr_round {w0 : Base} {l : Cs} (hn : l.length < 4096) {i : Nat} (hi : i < l.length) : Goes Try.prog Try.f33.ntmps w0 [.code (roundOf 0 (bodyOf Try.f33))] .norm (kn (rqS l i) (rgH l)) fun k o σ => k = [] ∧
    ((o = .norm ∧ σ = kn (rqS l (i + 1)) (rgH l) ∧ gd2 l i) ∨ (o = .ret ∧ σ = kn [(2, .one (B false))] [] ∧ ¬ gd2 l i)) := by
  by_cases h1 : (getc l i).1 < 8
  · by_cases h2 : (getc l i).2 = 0
    · refine (goes (ctx_ok tZ_ok 41) mixed rfl (gs := []) (gh := []) (orc := way [(16, 1)]) (stops := []) (f := 3000) (k := [.code (roundOf 0 (bodyOf Try.f33))]) (o := .norm) (σ := (kn (rqS l i) (rgH l))) (cs := [True, True, True, (↑i : Int) < (↑(List.length l) : Int), True, True, (0 : Int) ≤ (↑i : Int) ∧ (↑i : Int) < (↑(List.length l) : Int), True, addO (0 : Nat) i < List.length l, ¬(7 : Int) < (↑(Prod.fst (getc l (addO (0 : Nat) i))) : Int), True, True, True, (0 : Int) ≤ (↑i : Int) ∧ (↑i : Int) < (↑(List.length l) : Int), True, addO (0 : Nat) i < List.length l, Prod.snd (getc l (addO (0 : Nat) i)) = (0 : Nat), True, True]) (k' := []) (o' := .ret) (S := [(2, .one (B false))]) (H := ([] : List (Nat × Bk))) (by kernel_rfl) (by kernel_rfl) (by simp only [conj, and_true, true_and, addO_eq, Nat.zero_add, Int.toNat_natCast, h2]; omega)).mono ?_
      rintro k o σ ⟨rfl, rfl, rfl⟩
      exact ⟨rfl, .inr ⟨rfl, rfl, fun h => h.2.1 h2⟩⟩
    · refine (goes (ctx_ok tZ_ok 41) mixed rfl (gs := [4]) (gh := []) (orc := way [(16, 1), (23, 1)]) (stops := [2]) (f := 3000) (k := [.code (roundOf 0 (bodyOf Try.f33))]) (o := .norm) (σ := (kn (rqS l i) (rgH l))) (cs := [True, True, True, (↑i : Int) < (↑(List.length l) : Int), True, True, (0 : Int) ≤ (↑i : Int) ∧ (↑i : Int) < (↑(List.length l) : Int), True, addO (0 : Nat) i < List.length l, ¬(7 : Int) < (↑(Prod.fst (getc l (addO (0 : Nat) i))) : Int), True, True, True, (0 : Int) ≤ (↑i : Int) ∧ (↑i : Int) < (↑(List.length l) : Int), True, addO (0 : Nat) i < List.length l, (0 : Nat) < Prod.snd (getc l (addO (0 : Nat) i)), True, True]) (k' := (kOf 2 (roundOf 0 (bodyOf Try.f33)))) (o' := .norm) (S := (rqT l i 0)) (H := (rgH l)) (by kernel_rfl) (by kernel_rfl) (by simp only [conj, and_true, true_and, addO_eq, Nat.zero_add, Int.toNat_natCast]; omega)).bind ?_
      rintro k o σ ⟨rfl, rfl, rfl⟩
      have hk : kOf 2 (roundOf 0 (bodyOf Try.f33)) = .code (.block 2 (.loop (roundOf 2 (roundOf 0 (bodyOf Try.f33))))) :: restOf 2 (roundOf 0 (bodyOf Try.f33)) := by kernel_rfl
      rw [hk]
      refine (goes_loop (fun k : Nat => kn (rqT l i k) (rgH l)) (fun k => k ≤ i ∧ ∀ j, j < k → (getc l j).1 < (getc l i).1) (fun k => i - k)
        (fun o σ => (o = .norm ∧ σ = kn (rqT l i i) (rgH l) ∧ gd2 l i) ∨ (o = .ret ∧ σ = kn [(2, .one (B false))] [] ∧ ¬ gd2 l i)) ?_ (p := 0) ⟨Nat.zero_le _, fun j hj => by omega⟩).bind ?_
      · rintro m ⟨hle, hinv⟩
        by_cases hm : m < i
        · by_cases h3 : (getc l i).1 ≤ (getc l m).1
          · refine (goes (ctx_ok tZ_ok 41) mixed rfl (gs := []) (gh := []) (orc := way []) (stops := []) (f := 3000) (k := [.code (roundOf 2 (roundOf 0 (bodyOf Try.f33)))]) (o := .norm) (σ := (kn (rqT l i m) (rgH l))) (cs := [True, True, (↑m : Int) < (↑i : Int), True, True, (0 : Int) ≤ (↑m : Int) ∧ (↑m : Int) < (↑(List.length l) : Int), True, addO (0 : Nat) m < List.length l, True, True, (0 : Int) ≤ (↑i : Int) ∧ (↑i : Int) < (↑(List.length l) : Int), True, addO (0 : Nat) i < List.length l, (↑(Prod.fst (getc l (addO (0 : Nat) i))) : Int) ≤ (↑(Prod.fst (getc l (addO (0 : Nat) m))) : Int), True]) (k' := []) (o' := .ret) (S := [(2, .one (B false))]) (H := ([] : List (Nat × Bk))) (by kernel_rfl) (by kernel_rfl) (by simp only [conj, and_true, true_and, addO_eq, Nat.zero_add, Int.toNat_natCast]; omega)).mono ?_
            rintro k o σ ⟨rfl, rfl, rfl⟩
            exact ⟨rfl, .inr ⟨by simp, .inr ⟨rfl, rfl, fun h => by have := h.2.2 m hm; omega⟩⟩⟩
          · refine (goes (ctx_ok tZ_ok 41) mixed rfl (gs := []) (gh := []) (orc := way [(40, 1)]) (stops := []) (f := 3000) (k := [.code (roundOf 2 (roundOf 0 (bodyOf Try.f33)))]) (o := .norm) (σ := (kn (rqT l i m) (rgH l))) (cs := [True, True, (↑m : Int) < (↑i : Int), True, True, (0 : Int) ≤ (↑m : Int) ∧ (↑m : Int) < (↑(List.length l) : Int), True, addO (0 : Nat) m < List.length l, True, True, (0 : Int) ≤ (↑i : Int) ∧ (↑i : Int) < (↑(List.length l) : Int), True, addO (0 : Nat) i < List.length l, ¬(↑(Prod.fst (getc l (addO (0 : Nat) i))) : Int) ≤ (↑(Prod.fst (getc l (addO (0 : Nat) m))) : Int), True, (-9223372036854775808 : Int) ≤ (↑m : Int) + (1 : Int) ∧ (↑m : Int) + (1 : Int) < (9223372036854775808 : Int), True]) (k' := []) (o' := .norm) (S := (rqT l i (m + 1))) (H := (rgH l)) (by kernel_rfl) (by kernel_rfl) (by simp only [conj, and_true, true_and, addO_eq, Nat.zero_add, Int.toNat_natCast]; omega)).mono ?_
            rintro k o σ ⟨rfl, rfl, rfl⟩
            refine ⟨rfl, .inl ⟨rfl, m + 1, ⟨hm, fun j hj => ?_⟩, by omega, rfl⟩⟩
            by_cases hj2 : j < m
            · exact hinv j hj2
            · obtain rfl : j = m := by omega
              omega
        · obtain rfl : m = i := by omega
          refine (goes (ctx_ok tZ_ok 41) mixed rfl (gs := []) (gh := []) (orc := way [(27, 1)]) (stops := []) (f := 3000) (k := [.code (roundOf 2 (roundOf 0 (bodyOf Try.f33)))]) (o := .norm) (σ := (kn (rqT l m m) (rgH l))) (cs := [True, True, ¬(↑m : Int) < (↑m : Int)]) (k' := []) (o' := (.exit 2)) (S := (rqT l m m)) (H := (rgH l)) (by kernel_rfl) (by kernel_rfl) (by simp [conj])).mono ?_
          rintro k o σ ⟨rfl, rfl, rfl⟩
          exact ⟨rfl, .inr ⟨by simp, .inl ⟨rfl, rfl, h1, h2, hinv⟩⟩⟩
      · rintro k o σ ⟨rfl, ⟨rfl, rfl, he⟩ | ⟨rfl, rfl, he⟩⟩
        · refine (goes (ctx_ok tZ_ok 41) mixed rfl (gs := []) (gh := []) (orc := way []) (stops := []) (f := 3000) (k := (restOf 2 (roundOf 0 (bodyOf Try.f33)))) (o := .norm) (σ := (kn (rqT l i i) (rgH l))) (cs := [True, (-9223372036854775808 : Int) ≤ (↑i : Int) + (1 : Int) ∧ (↑i : Int) + (1 : Int) < (9223372036854775808 : Int), True]) (k' := []) (o' := .norm) (S := (rqS l (i + 1))) (H := (rgH l)) (by kernel_rfl) (by kernel_rfl) (by simp only [conj, and_true, true_and]; omega)).mono ?_
          rintro k o σ ⟨rfl, rfl, rfl⟩
          exact ⟨rfl, .inl ⟨rfl, rfl, he⟩⟩
        · refine (goes (ctx_ok tZ_ok 41) mixed rfl (gs := []) (gh := []) (orc := way []) (stops := []) (f := 3000) (k := (restOf 2 (roundOf 0 (bodyOf Try.f33)))) (o := .ret) (σ := (kn [(2, .one (B false))] [])) (cs := []) (k' := []) (o' := .ret) (S := [(2, .one (B false))]) (H := ([] : List (Nat × Bk))) (by kernel_rfl) (by kernel_rfl) (by simp [conj])).mono ?_
          rintro k o σ ⟨rfl, rfl, rfl⟩
          exact ⟨rfl, .inr ⟨rfl, rfl, he⟩⟩
  · refine (goes (ctx_ok tZ_ok 41) mixed rfl (gs := []) (gh := []) (orc := way []) (stops := []) (f := 3000) (k := [.code (roundOf 0 (bodyOf Try.f33))]) (o := .norm) (σ := (kn (rqS l i) (rgH l))) (cs := [True, True, True, (↑i : Int) < (↑(List.length l) : Int), True, True, (0 : Int) ≤ (↑i : Int) ∧ (↑i : Int) < (↑(List.length l) : Int), True, addO (0 : Nat) i < List.length l, (7 : Int) < (↑(Prod.fst (getc l (addO (0 : Nat) i))) : Int), True, True, True, True, True, True, True, True, True]) (k' := []) (o' := .ret) (S := [(2, .one (B false))]) (H := ([] : List (Nat × Bk))) (by kernel_rfl) (by kernel_rfl) (by simp only [conj, and_true, true_and, addO_eq, Nat.zero_add, Int.toNat_natCast]; omega)).mono ?_
    rintro k o σ ⟨rfl, rfl, rfl⟩
    exact ⟨rfl, .inr ⟨rfl, rfl, fun h => h1 h.1⟩⟩

theorem rright_row {w0 : Base} {l : Cs} (hn : l.length < 4096) : Goes Try.prog Try.f33.ntmps w0 [.code (bodyOf Try.f33)] .norm (kn (argS 0 [slA l]) [rwA 60 l])
    (Fin (ctx tZ 41) Try.f33.results.toList fun v _ => ∃ b, v = .one (B b) ∧ (b = true ↔ Rgt l)) := by
  refine (goes (ctx_ok tZ_ok 41) mixed rfl (gs := [3]) (gh := []) (orc := way []) (stops := [0]) (f := 3000) (k := [.code (bodyOf Try.f33)]) (o := .norm) (σ := (kn (argS 0 [slA l]) [rwA 60 l])) (cs := [True, True]) (k' := (kOf 0 (bodyOf Try.f33))) (o' := .norm) (S := (rqS l 0)) (H := (rgH l)) (by kernel_rfl) (by kernel_rfl) (by simp [conj])).bind ?_
  rintro k o σ ⟨rfl, rfl, rfl⟩
  have hk : kOf 0 (bodyOf Try.f33) = .code (.block 0 (.loop (roundOf 0 (bodyOf Try.f33)))) :: restOf 0 (bodyOf Try.f33) := by kernel_rfl
  rw [hk]
  refine (goes_loop (fun i : Nat => kn (rqS l i) (rgH l)) (fun i => i ≤ l.length ∧ ∀ j, j < i → gd2 l j) (fun i => l.length - i)
    (fun o σ => (o = .norm ∧ σ = kn (rqS l l.length) (rgH l) ∧ Rgt l) ∨ (o = .ret ∧ σ = kn [(2, .one (B false))] [] ∧ ¬ Rgt l)) ?_ (p := 0) ⟨Nat.zero_le _, fun j hj => by omega⟩).bind ?_
  · rintro i ⟨hle, hinv⟩
    by_cases hi : i < l.length
    · refine (rr_round hn hi).mono ?_
      rintro k o σ ⟨rfl, ⟨rfl, rfl, hg⟩ | ⟨rfl, rfl, hg⟩⟩
      · refine ⟨rfl, .inl ⟨rfl, i + 1, ⟨hi, fun j hj => ?_⟩, by omega, rfl⟩⟩
        by_cases hj2 : j < i
        · exact hinv j hj2
        · obtain rfl : j = i := by omega
          exact hg
      · exact ⟨rfl, .inr ⟨by simp, .inr ⟨rfl, rfl, fun h => hg (Rgt_gd2.1 h i hi)⟩⟩⟩
    · obtain rfl : i = l.length := by omega
      refine (goes (ctx_ok tZ_ok 41) mixed rfl (gs := []) (gh := []) (orc := way [(8, 1)]) (stops := []) (f := 3000) (k := [.code (roundOf 0 (bodyOf Try.f33))]) (o := .norm) (σ := (kn (rqS l l.length) (rgH l))) (cs := [True, True, True, ¬(↑(List.length l) : Int) < (↑(List.length l) : Int)]) (k' := []) (o' := (.exit 0)) (S := (rqS l l.length)) (H := (rgH l)) (by kernel_rfl) (by kernel_rfl) (by simp [conj])).mono ?_
      rintro k o σ ⟨rfl, rfl, rfl⟩
      exact ⟨rfl, .inr ⟨by simp, .inl ⟨rfl, rfl, Rgt_gd2.2 hinv⟩⟩⟩
  · rintro k o σ ⟨rfl, ⟨rfl, rfl, he⟩ | ⟨rfl, rfl, he⟩⟩
    · exact goes_ret (ctx_ok tZ_ok 41) mixed rfl (orc := way []) (stops := []) (f := 3000) (k := (restOf 0 (bodyOf Try.f33))) (o := .norm) (σ := (kn (rqS l l.length) (rgH l))) (cs := [True]) (o' := .ret) (rs := Try.f33.results.toList) (v := (.one (B true))) (H := ([] : List (Nat × Bk))) (by kernel_rfl) (.inr rfl) (by simp [conj]) fun _ _ => ⟨true, rfl, fun _ => he, fun _ => rfl⟩
    · exact goes_ret (ctx_ok tZ_ok 41) mixed rfl (orc := way []) (stops := []) (f := 3000) (k := (restOf 0 (bodyOf Try.f33))) (o := .ret) (σ := (kn [(2, .one (B false))] [])) (cs := []) (o' := .ret) (rs := Try.f33.results.toList) (v := (.one (B false))) (H := ([] : List (Nat × Bk))) (by kernel_rfl) (.inr rfl) (by simp [conj]) fun _ _ => ⟨false, rfl, (fun h => by cases h), fun h => absurd h he⟩

theorem rright_e : EOK ⟨33, 1, dcon (k1c rgL)⟩ := by
  refine k1c_ok Try.func33 (c := bodyOf Try.f33) rfl (fun a w => Try.call33 a w) tZ_ok (Nat.le_of_ble_eq_true (by kernel_rfl)) fun l hl p hp hc => ?_
  simp only [rgL, List.mem_cons, List.not_mem_nil, or_false] at hp
  rcases hp with rfl | rfl
  · refine ⟨oneP (B_plain _), fun w0 => ⟨fun _ => rright_nil, (rright_row hl.1).mono fun k o σ hf => Fin.mono ?_ hf⟩⟩
    rintro v _ ⟨b, rfl, hb⟩
    rw [hb.2 hc]
  · refine ⟨oneP (B_plain _), fun w0 => ⟨fun e => absurd (e ▸ Rgt_nil) hc, (rright_row hl.1).mono fun k o σ hf => Fin.mono ?_ hf⟩⟩
    rintro v _ ⟨b, rfl, hb⟩
    cases b
    · rfl
    · exact absurd (hb.1 rfl) hc

/-! ## r02.Of -/

theorem getc_append {l m : Cs} {i : Nat} (h : i < l.length) : getc (l ++ m) i = getc l i := by unfold getc; rw [List.getElem?_append_left h]
theorem ofF_append {l m : Cs} {i : Nat} (h : i ≤ l.length) : ofF (l ++ m) i = ofF l i := by
  induction i with
  | zero => rfl
  | succ i ih => rw [ofF, ofF, ih (by omega), getc_append (by omega)]
theorem ofF_nz (f : Nat → Nat) (k d : Nat) : ofF (nz f k) (nz f k).length d = if d < k then f d else 0 := by
  induction k with
  | zero => rfl
  | succ k ih =>
    rw [nz]
    by_cases h0 : f k = 0
    · rw [if_pos h0, List.append_nil, ih]
      by_cases hd : d = k
      · subst hd; rw [if_neg (Nat.lt_irrefl _), if_pos (Nat.lt_succ_self _), h0]
      · by_cases h : d < k
        · rw [if_pos h, if_pos (by omega)]
        · rw [if_neg h, if_neg (by omega)]
    · rw [if_neg h0, List.length_append, List.length_singleton, ofF]
      have e : getc (nz f k ++ [(k, f k)]) (nz f k).length = (k, f k) := by simp [getc]
      rw [e, ofF_append (Nat.le_refl _)]
      by_cases hd : d = k
      · subst hd; rw [upd_same, if_pos (Nat.lt_succ_self _)]
      · rw [upd_ne _ _ hd, ih]
        by_cases h : d < k
        · rw [if_pos h, if_pos (by omega)]
        · rw [if_neg h, if_neg (by omega)]
theorem ofF_lst (p : Purse) : ofF p.lst p.lst.length = p.f := by
  funext d
  unfold Purse.lst
  rw [ofF_nz]
  by_cases h : d < 8
  · rw [if_pos h]
  · rw [if_neg h, p.hm d (by omega)]

theorem of_nil {w0 : Base} : Goes Try.prog Try.f90.ntmps w0 [.code (bodyOf Try.f90)] .norm (kn (argS 0 [.one [.nil]]) []) (Fin (ctx tZ 23) Try.f90.results.toList fun v _ => v = .one [.vec 4 8 (fun _ => 0)]) :=
  goes_ret (ctx_ok tZ_ok 23) mixed rfl (orc := way []) (stops := []) (f := 3000) (k := [.code (bodyOf Try.f90)]) (o := .norm) (σ := (kn (argS 0 [.one [.nil]]) [])) (cs := [True, True, True, True, True, True, True, True, True]) (o' := .ret) (rs := Try.f90.results.toList) (v := (.one [.vec 4 8 (fun _ => 0)])) (H := ([] : List (Nat × Bk))) (by kernel_rfl) (.inr rfl) (by simp [conj]) fun _ _ => rfl

theorem of_row {w0 : Base} {l : Cs} (hn : l.length < 4096) (hl : ∀ i, i < l.length → (getc l i).1 < 8) : Goes Try.prog Try.f90.ntmps w0 [.code (bodyOf Try.f90)] .norm (kn (argS 0 [slA l]) [rwA 60 l])
    (Fin (ctx tZ 23) Try.f90.results.toList fun v _ => v = .one [.vec 4 8 (ofF l l.length)]) := by
  refine (goes (ctx_ok tZ_ok 23) mixed rfl (gs := [4]) (gh := []) (orc := way []) (stops := [0]) (f := 3000) (k := [.code (bodyOf Try.f90)]) (o := .norm) (σ := (kn (argS 0 [slA l]) [rwA 60 l])) (cs := [True, True, True]) (k' := (kOf 0 (bodyOf Try.f90))) (o' := .norm) (S := (oofS l 0)) (H := (oofH l 0)) (by kernel_rfl) (by kernel_rfl) (by simp [conj])).bind ?_
  rintro k o σ ⟨rfl, rfl, rfl⟩
  have hk : kOf 0 (bodyOf Try.f90) = .code (.block 0 (.loop (roundOf 0 (bodyOf Try.f90)))) :: restOf 0 (bodyOf Try.f90) := by kernel_rfl
  rw [hk]
  refine (goes_loop (fun i : Nat => kn (oofS l i) (oofH l i)) (fun i => i ≤ l.length) (fun i => l.length - i)
    (fun o σ => o = .norm ∧ σ = kn (oofS l l.length) (oofH l l.length)) ?_ (p := 0) (Nat.zero_le _)).bind ?_
  · intro i hle
    by_cases hi : i < l.length
    · have h8 := hl i hi
      refine (goes (ctx_ok tZ_ok 23) mixed rfl (gs := []) (gh := []) (orc := way []) (stops := []) (f := 3000) (k := [.code (roundOf 0 (bodyOf Try.f90))]) (o := .norm) (σ := (kn (oofS l i) (oofH l i))) (cs := [True, True, True, (↑i : Int) < (↑(List.length l) : Int), True, True, (0 : Int) ≤ (↑i : Int) ∧ (↑i : Int) < (↑(List.length l) : Int), True, addO (0 : Nat) i < List.length l, True, True, (0 : Int) ≤ (↑i : Int) ∧ (↑i : Int) < (↑(List.length l) : Int), True, addO (0 : Nat) i < List.length l, (0 : Int) ≤ (↑(Prod.fst (getc l (addO (0 : Nat) i))) : Int) ∧ (↑(Prod.fst (getc l (addO (0 : Nat) i))) : Int) < (↑(8 : Nat) : Int), Prod.fst (getc l (addO (0 : Nat) i)) < (8 : Nat), True, (-9223372036854775808 : Int) ≤ (↑i : Int) + (1 : Int) ∧ (↑i : Int) + (1 : Int) < (9223372036854775808 : Int), True]) (k' := []) (o' := .norm) (S := (oofS l (i + 1))) (H := (oofH l (i + 1))) (by kernel_rfl) (by kernel_rfl) (by simp only [conj, and_true, true_and, addO_eq, Nat.zero_add, Int.toNat_natCast]; omega)).mono ?_
      rintro k o σ ⟨rfl, rfl, rfl⟩
      exact ⟨rfl, .inl ⟨rfl, i + 1, hi, by omega, rfl⟩⟩
    · obtain rfl : i = l.length := by omega
      refine (goes (ctx_ok tZ_ok 23) mixed rfl (gs := []) (gh := []) (orc := way [(8, 1)]) (stops := []) (f := 3000) (k := [.code (roundOf 0 (bodyOf Try.f90))]) (o := .norm) (σ := (kn (oofS l l.length) (oofH l l.length))) (cs := [True, True, True, ¬(↑(List.length l) : Int) < (↑(List.length l) : Int)]) (k' := []) (o' := (.exit 0)) (S := (oofS l l.length)) (H := (oofH l l.length)) (by kernel_rfl) (by kernel_rfl) (by simp [conj])).mono ?_
      rintro k o σ ⟨rfl, rfl, rfl⟩
      exact ⟨rfl, .inr ⟨by simp, rfl, rfl⟩⟩
  · rintro k o σ ⟨rfl, rfl, rfl⟩
    exact goes_ret (ctx_ok tZ_ok 23) mixed rfl (orc := way []) (stops := []) (f := 3000) (k := (restOf 0 (bodyOf Try.f90))) (o := .norm) (σ := (kn (oofS l l.length) (oofH l l.length))) (cs := [True, True]) (o' := .ret) (rs := Try.f90.results.toList) (v := (.one [.vec 4 8 (ofF l l.length)])) (H := ([] : List (Nat × Bk))) (by kernel_rfl) (.inr rfl) (by simp [conj]) fun _ _ => rfl

theorem vec_plain (p : Purse) : ∀ a ∈ [Av.vec 4 8 p.f], a.plain := by
  intro a ha
  simp only [List.mem_singleton] at ha
  subst ha
  intro i _
  rw [pow64_4]; exact p.hb i

theorem of_e : EOK ⟨90, 1, dcon (k1c ofL)⟩ := by
  refine k1c_ok Try.func90 (c := bodyOf Try.f90) rfl (fun a w => Try.call90 a w) tZ_ok (Nat.le_of_ble_eq_true (by kernel_rfl)) fun l hl p hp hc => ?_
  simp only [ofL, List.mem_singleton] at hp
  subst hp
  have hc' : l = (puL l).lst := hc
  have hF : ofF l l.length = (puL l).f := by
    have := ofF_lst (puL l)
    rw [← hc'] at this
    exact this
  refine ⟨oneP (vec_plain _), fun w0 => ⟨fun e => ?_, ?_⟩⟩
  · have hz : (puL l).f = fun _ => 0 := by rw [← hF, e]; rfl
    show Goes _ _ _ _ _ _ (Fin _ _ fun v _ => v = .one [.vec 4 8 (puL l).f])
    rw [hz]
    exact of_nil
  · show Goes _ _ _ _ _ _ (Fin _ _ fun v _ => v = .one [.vec 4 8 (puL l).f])
    rw [← hF]
    refine of_row hl.1 fun i hi => ?_
    have h9 : ∀ c ∈ l, c.1 < 8 := by rw [hc']; exact fun c hc => (nz_lt c hc).1
    exact h9 _ (getc_mem hi)

end M
end Go.Proofs.Ytmjdmhelmgcanaa

/- r02.List, of, One, Amount, Same. -/
namespace Go.Proofs.Ytmjdmhelmgcanaa
namespace M
open Go.RowKit
set_option linter.unusedSimpArgs false
set_option linter.unusedVariables false

def liS (k : Nat) (v : Av) : List (Nat × Sv) := [(1, .one [.ptr 1 0]), (3, .one [v]), (4, .one [.int .i64 (k : Nat)])]
def liH (f : Nat → Nat) : List (Nat × Bk) := [(1, .var [.vec 4 8 f] 82)]
def liH2 (f : Nat → Nat) (l : Cs) : List (Nat × Bk) := [(1, .var [.vec 4 8 f] 82), (500, .row true 60 5 l.length (rowL l))]
def apG (l : Cs) (c : Nat × Nat) : Nat → List Av := fun i => bif Nat.blt i l.length then rowL l i else getL [cel c] (0 + (i - l.length))
def apG0 (c : Nat × Nat) : Nat → List Av := fun i => getL [cel c] (0 + i)
def liK : LCon
  | [[(.vec 4 8 f, _)]] => some [(True, (Purse.mk' f).lst, none)]
  | _ => none
def sof (l : Cs) : Nat → Nat → Nat
  | 0 => fun _ => 0
  | i + 1 => upd (sof l i) ((getc l i).1 % 8) (getc l i).2
def ofP (l : Cs) : Purse := Purse.mk' (sof l l.length)
def osS (l : Cs) (i : Nat) : List (Nat × Sv) := [(0, slA l), (3, .one [.ptr 3 0]), (4, .one [.int .i64 (i : Nat)])]
def osH (l : Cs) (i : Nat) : List (Nat × Bk) := [rwA 84 l, (3, .var [.vec 4 8 (sof l i)] 82)]
def ofsK : LCon
  | [A] => (coA 84 A).map fun a => [(a.1, (ofP a.2).lst, none)]
  | _ => none
def oneK : LCon
  | [[(.int .u8 d, _)], [(.big 4 x, _)]] => some [(0 ≤ d ∧ d < 256, (Purse.one d.toNat x).lst, none)]
  | _ => none
def ramK : DCon
  | [A, [(.int .u8 d, _)]] => (coA 60 A).map fun a => [(a.1 ∧ 0 ≤ d ∧ IsP a.2, .one (N (amt a.2 d.toNat)))]
  | _ => none
def k2c (g : Cs → Cs → List (Prop × Sv)) : DCon
  | [A, A'] => (coA 60 A).bind fun a => (coA 60 A').map fun b => (g a.2 b.2).map fun q => (a.1 ∧ b.1 ∧ q.1, q.2)
  | _ => none
def saL (l m : Cs) : List (Prop × Sv) := [(l = m, .one (B true)), (l ≠ m, .one (B false))]
def slB (l : Cs) : Sv := .one [.sl 1001 5 0 l.length]
def rwB (l : Cs) : Nat × Bk := (1001, .row false 60 5 l.length (rowL l))
def S37 (l m : Cs) (i : Nat) : List (Nat × Sv) := [(0, slA l), (1, slB m), (5, .one [.int .i64 (i : Nat)])]
def S92 (l m : Cs) (i : Nat) : List (Nat × Sv) := [(0, slA l), (1, slB m), (12, .one [.int .i64 (l.length : Nat)]), (13, .one [.int .i64 (i : Nat)])]
def N37 : Nat := 25
def N92 : Nat := 24
def saH (l m : Cs) : List (Nat × Bk) := [rwA 60 l, rwB m]
def tC1 : List Entry := ⟨35, 1, dcon amK⟩ :: ⟨32, 1, dcon (k1c rgL)⟩ :: ⟨33, 1, dcon (k1c rgL)⟩ :: ⟨90, 1, dcon (k1c ofL)⟩ :: tZ
def tC2 : List Entry := ⟨89, 0, lcon liK⟩ :: ⟨92, 1, dcon (k2c saL)⟩ :: tC1

theorem tC1_ok : TabOK tC1 := .cons amount_e (.cons right_e (.cons rright_e (.cons of_e tZ_ok)))


theorem okP (p : Purse) : okC p.lst := ⟨by have := p.len_le; unfold Purse.len at this; omega, p.lst_ok⟩
theorem mk'_self (p : Purse) : Purse.mk' p.f = p := Purse.ext' fun _ hd => Purse.mk'_f hd (p.hb _)
theorem mk'_lst {f : Nat → Nat} (h : ∀ d, d < 8 → f d < TOP) : (Purse.mk' f).lst = nz f 8 := nz_congr fun _ hd => Purse.mk'_f hd (h _ hd)

theorem row_one (l : Cs) (c : Nat × Nat) : rowC (apG l c) (l.length + 1) = rowC (rowL (l ++ [c])) (l.length + 1) := by
  refine rowC_congr fun i hi => ?_
  unfold apG
  by_cases hi2 : i < l.length
  · have : Nat.blt i l.length = true := Nat.ble_eq_true_of_le hi2
    rw [this, cond_true]
    simp only [rowL, getc_append hi2]
  · obtain rfl : i = l.length := by omega
    have : Nat.blt l.length l.length = false := by
      cases h : Nat.blt l.length l.length with
      | false => rfl
      | true => exact absurd (Nat.le_of_ble_eq_true h) (Nat.lt_irrefl _)
    rw [this, cond_false, Nat.sub_self]
    have e : getc (l ++ [c]) l.length = c := by simp [getc]
    simp only [rowL, e]
    rfl

theorem li_skip {w0 : Base} {f : Nat → Nat} {k : Nat} (hk : k < 8) (hz : f k = 0) (v : Av) (H : List (Nat × Bk)) (hv : (v = .nil ∧ H = liH f) ∨ (v = .sl 500 5 0 (nz f k).length ∧ H = liH2 f (nz f k))) :
    Goes Try.prog Try.f89.ntmps w0 [.code (roundOf 0 (bodyOf Try.f89))] .norm (kn (liS k v) H) fun k' o σ => k' = [] ∧ o = .norm ∧ σ = kn (liS (k + 1) v) H := by
  rcases hv with ⟨rfl, rfl⟩ | ⟨rfl, rfl⟩
  · exact goes (ctx_ok tC1_ok 24) mixed rfl (gs := []) (gh := []) (orc := way []) (stops := []) (f := 3000) (k := [.code (roundOf 0 (bodyOf Try.f89))]) (o := .norm) (σ := (kn (liS k .nil) (liH f))) (cs := [True, (↑k : Int) < (8 : Int), True, (0 : Int) ≤ (↑k : Int) ∧ (↑k : Int) < (↑(8 : Nat) : Int), k < (8 : Nat), f (Int.toNat (Prod.snd (IntKind.i64, (↑k : Int)))) = (0 : Nat), True, True, (-9223372036854775808 : Int) ≤ (↑k : Int) + (1 : Int) ∧ (↑k : Int) + (1 : Int) < (9223372036854775808 : Int), True]) (k' := []) (o' := .norm) (S := (liS (k + 1) .nil)) (H := (liH f)) (by kernel_rfl) (by kernel_rfl) (by simp only [conj, and_true, true_and, addO_eq, Nat.zero_add, Int.toNat_natCast, hz]; omega)
  · exact goes (ctx_ok tC1_ok 24) mixed rfl (gs := []) (gh := []) (orc := way []) (stops := []) (f := 3000) (k := [.code (roundOf 0 (bodyOf Try.f89))]) (o := .norm) (σ := (kn (liS k (.sl 500 5 0 (nz f k).length)) (liH2 f (nz f k)))) (cs := [True, (↑k : Int) < (8 : Int), True, (0 : Int) ≤ (↑k : Int) ∧ (↑k : Int) < (↑(8 : Nat) : Int), k < (8 : Nat), f (Int.toNat (Prod.snd (IntKind.i64, (↑k : Int)))) = (0 : Nat), True, True, (-9223372036854775808 : Int) ≤ (↑k : Int) + (1 : Int) ∧ (↑k : Int) + (1 : Int) < (9223372036854775808 : Int), True]) (k' := []) (o' := .norm) (S := (liS (k + 1) (.sl 500 5 0 (nz f k).length))) (H := (liH2 f (nz f k))) (by kernel_rfl) (by kernel_rfl) (by simp only [conj, and_true, true_and, addO_eq, Nat.zero_add, Int.toNat_natCast, hz]; omega)

theorem li_first {w0 : Base} {f : Nat → Nat} {k : Nat} (hk : k < 8) (hz : f k ≠ 0) :
    Goes Try.prog Try.f89.ntmps w0 [.code (roundOf 0 (bodyOf Try.f89))] .norm (kn (liS k .nil) (liH f)) fun k' o σ => k' = [] ∧ o = .norm ∧ σ = kn (liS (k + 1) (.sl 22 5 0 1)) [(1, .var [.vec 4 8 f] 82), (22, .row true 60 5 1 (apG0 (k, f k)))] :=
  goes (ctx_ok tC1_ok 24) mixed rfl (gs := []) (gh := []) (orc := way [(12, 1)]) (stops := []) (f := 3000) (k := [.code (roundOf 0 (bodyOf Try.f89))]) (o := .norm) (σ := (kn (liS k .nil) (liH f))) (cs := [True, (↑k : Int) < (8 : Int), True, (0 : Int) ≤ (↑k : Int) ∧ (↑k : Int) < (↑(8 : Nat) : Int), k < (8 : Nat), (0 : Nat) < f (Int.toNat (Prod.snd (IntKind.i64, (↑k : Int)))), True, True, True, (0 : Int) ≤ (↑k : Int) ∧ (↑k : Int) < (256 : Int), True, (0 : Int) ≤ (↑k : Int) ∧ (↑k : Int) < (↑(8 : Nat) : Int), k < (8 : Nat), True, True, (0 : Nat) < (1 : Nat) ∧ (0 : Nat) + (1 : Nat) ≤ (1 : Nat) ∧ (1 : Nat) * (40 : Nat) ≤ (140737488355328 : Nat), True, True, (-9223372036854775808 : Int) ≤ (↑k : Int) + (1 : Int) ∧ (↑k : Int) + (1 : Int) < (9223372036854775808 : Int), True]) (k' := []) (o' := .norm) (S := (liS (k + 1) (.sl 22 5 0 1))) (H := [(1, .var [.vec 4 8 f] 82), (22, .row true 60 5 1 (apG0 (k, f k)))]) (by kernel_rfl) (by kernel_rfl) (by simp only [conj, and_true, true_and, addO_eq, Nat.zero_add, Int.toNat_natCast]; omega)

theorem li_more {w0 : Base} {f : Nat → Nat} {k : Nat} {l : Cs} (hk : k < 8) (hl : l.length ≤ 8) (h0 : 0 < l.length) (hz : f k ≠ 0) :
    Goes Try.prog Try.f89.ntmps w0 [.code (roundOf 0 (bodyOf Try.f89))] .norm (kn (liS k (.sl 500 5 0 l.length)) (liH2 f l)) fun k' o σ => k' = [] ∧ o = .norm ∧ σ = kn (liS (k + 1) (.sl 22 5 0 (l.length + 1))) [(1, .var [.vec 4 8 f] 82), (22, .row true 60 5 (l.length + 1) (apG l (k, f k)))] :=
  goes (ctx_ok tC1_ok 24) mixed rfl (gs := []) (gh := []) (orc := way [(12, 1)]) (stops := []) (f := 3000) (k := [.code (roundOf 0 (bodyOf Try.f89))]) (o := .norm) (σ := (kn (liS k (.sl 500 5 0 l.length)) (liH2 f l))) (cs := [True, (↑k : Int) < (8 : Int), True, (0 : Int) ≤ (↑k : Int) ∧ (↑k : Int) < (↑(8 : Nat) : Int), k < (8 : Nat), (0 : Nat) < f (Int.toNat (Prod.snd (IntKind.i64, (↑k : Int)))), True, True, True, (0 : Int) ≤ (↑k : Int) ∧ (↑k : Int) < (256 : Int), True, (0 : Int) ≤ (↑k : Int) ∧ (↑k : Int) < (↑(8 : Nat) : Int), k < (8 : Nat), True, True, List.length l = List.length l ∧ (0 : Nat) < (1 : Nat) ∧ (0 : Nat) + (1 : Nat) ≤ (1 : Nat) ∧ (List.length l + (1 : Nat)) * (40 : Nat) ≤ (140737488355328 : Nat), True, True, (-9223372036854775808 : Int) ≤ (↑k : Int) + (1 : Int) ∧ (↑k : Int) + (1 : Int) < (9223372036854775808 : Int), True]) (k' := []) (o' := .norm) (S := (liS (k + 1) (.sl 22 5 0 (l.length + 1)))) (H := [(1, .var [.vec 4 8 f] 82), (22, .row true 60 5 (l.length + 1) (apG l (k, f k)))]) (by kernel_rfl) (by kernel_rfl) (by simp only [conj, and_true, true_and, addO_eq, Nat.zero_add, Int.toNat_natCast]; omega)

def liSt (f : Nat → Nat) (k : Nat) : Ms := if (nz f k).length = 0 then kn (liS k .nil) (liH f) else kn (liS k (.sl 500 5 0 (nz f k).length)) (liH2 f (nz f k))

theorem li_round {w0 : Base} {f : Nat → Nat} (hf : ∀ d, d < 8 → f d < TOP) {k : Nat} (hk : k < 8) :
    Goes Try.prog Try.f89.ntmps w0 [.code (roundOf 0 (bodyOf Try.f89))] .norm (liSt f k) fun k' o σ => k' = [] ∧ o = .norm ∧ ∃ σ0, σ = σ0 ∧ ∀ {nt : Nat} {kk : List Fr} {Z : List Fr → Out → Ms → Prop}, Goes Try.prog nt w0 kk .norm (liSt f (k + 1)) Z → Goes Try.prog nt w0 kk .norm σ0 Z := by
  by_cases hz : f k = 0
  · have e : nz f (k + 1) = nz f k := by rw [nz, if_pos hz, List.append_nil]
    by_cases h0 : (nz f k).length = 0
    · have e1 : liSt f k = kn (liS k .nil) (liH f) := by unfold liSt; rw [if_pos h0]
      have e2 : liSt f (k + 1) = kn (liS (k + 1) .nil) (liH f) := by unfold liSt; rw [e, if_pos h0]
      rw [e1, e2]
      refine (li_skip hk hz _ _ (.inl ⟨rfl, rfl⟩)).mono ?_
      rintro k' o σ ⟨rfl, rfl, rfl⟩
      exact ⟨rfl, rfl, _, rfl, fun g => g⟩
    · have e1 : liSt f k = kn (liS k (.sl 500 5 0 (nz f k).length)) (liH2 f (nz f k)) := by unfold liSt; rw [if_neg h0]
      have e2 : liSt f (k + 1) = kn (liS (k + 1) (.sl 500 5 0 (nz f k).length)) (liH2 f (nz f k)) := by unfold liSt; rw [e, if_neg h0]
      rw [e1, e2]
      refine (li_skip hk hz _ _ (.inr ⟨rfl, rfl⟩)).mono ?_
      rintro k' o σ ⟨rfl, rfl, rfl⟩
      exact ⟨rfl, rfl, _, rfl, fun g => g⟩
  · have e : nz f (k + 1) = nz f k ++ [(k, f k)] := by rw [nz, if_neg hz]
    have hn : (nz f (k + 1)).length = (nz f k).length + 1 := by rw [e]; simp
    have hok : ∀ c ∈ nz f (k + 1), c.2 < TOP := fun c hc => by
      have := nz_lt c hc
      rw [this.2.1]; exact hf _ (by omega)
    have e2 : liSt f (k + 1) = kn (liS (k + 1) (.sl 500 5 0 ((nz f k).length + 1))) [(1, .var [.vec 4 8 f] 82), (500, .row true 60 5 ((nz f k).length + 1) (rowL (nz f (k + 1))))] := by
      unfold liSt; rw [if_neg (by omega)]; simp only [liH2, hn]
    have hrow : RowOK 5 ((nz f k).length + 1) (rowL (nz f (k + 1))) := by rw [← hn]; exact rowL_OK hok
    rw [e2]
    by_cases h0 : (nz f k).length = 0
    · have e1 : liSt f k = kn (liS k .nil) (liH f) := by unfold liSt; rw [if_pos h0]
      rw [e1]
      have hnil : nz f k = [] := List.length_eq_zero_iff.1 h0
      refine (li_first hk hz).mono ?_
      rintro k' o σ ⟨rfl, rfl, rfl⟩
      refine ⟨rfl, rfl, _, rfl, fun g => ?_⟩
      refine goes_name (a := 22) (b := 500) (by omega) (by omega) (by simp) ?_
      rw [e, hnil] at g hrow
      refine goes_sim (.same _ (.row hrow ?_ .nil)) g
      exact row_one [] (k, f k)
    · have e1 : liSt f k = kn (liS k (.sl 500 5 0 (nz f k).length)) (liH2 f (nz f k)) := by unfold liSt; rw [if_neg h0]
      rw [e1]
      refine (li_more hk (Nat.le_trans (nz_length f k) (by omega)) (by omega) hz).mono ?_
      rintro k' o σ ⟨rfl, rfl, rfl⟩
      refine ⟨rfl, rfl, _, rfl, fun g => ?_⟩
      refine goes_name (a := 22) (b := 500) (by omega) (by omega) (by simp) ?_
      refine goes_sim (.same _ (.row hrow ?_ .nil)) g
      rw [e]
      exact row_one _ _

theorem list_goes {w0 : Base} {f : Nat → Nat} (hf : ∀ d, d < 8 → f d < TOP) : Goes Try.prog Try.f89.ntmps w0 [.code (bodyOf Try.f89)] .norm (kn (argS 0 [.one [.vec 4 8 f]]) [])
    (Fin (ctx tC1 24) Try.f89.results.toList (LFin (nz f 8) none)) := by
  refine (goes (ctx_ok tC1_ok 24) mixed rfl (gs := [4]) (gh := []) (orc := way []) (stops := [0]) (f := 3000) (k := [.code (bodyOf Try.f89)]) (o := .norm) (σ := (kn (argS 0 [.one [.vec 4 8 f]]) [])) (cs := [True, True, True, True]) (k' := (kOf 0 (bodyOf Try.f89))) (o' := .norm) (S := (liS 0 .nil)) (H := (liH f)) (by kernel_rfl) (by kernel_rfl) (by simp [conj])).bind ?_
  rintro k o σ ⟨rfl, rfl, rfl⟩
  have hk : kOf 0 (bodyOf Try.f89) = .code (.block 0 (.loop (roundOf 0 (bodyOf Try.f89)))) :: restOf 0 (bodyOf Try.f89) := by kernel_rfl
  rw [hk]
  have e0 : kn (liS 0 .nil) (liH f) = liSt f 0 := rfl
  rw [e0]
  refine (goes_loop (liSt f) (fun k => k ≤ 8) (fun k => 8 - k) (fun o σ => o = .norm ∧ σ = liSt f 8) ?_ (p := 0) (by omega)).bind ?_
  · intro k hk
    by_cases hk8 : k < 8
    · refine (li_round hf hk8).bind ?_
      rintro k' o σ ⟨rfl, rfl, σ0, rfl, g⟩
      refine g (goes_z ?_)
      exact ⟨rfl, .inl ⟨rfl, k + 1, hk8, by omega, rfl⟩⟩
    · obtain rfl : k = 8 := by omega
      unfold liSt
      by_cases h0 : (nz f 8).length = 0
      · rw [if_pos h0]
        refine (goes (ctx_ok tC1_ok 24) mixed rfl (gs := []) (gh := []) (orc := way [(6, 1)]) (stops := []) (f := 3000) (k := [.code (roundOf 0 (bodyOf Try.f89))]) (o := .norm) (σ := (kn (liS 8 .nil) (liH f))) (cs := [True, ¬(↑(8 : Nat) : Int) < (8 : Int)]) (k' := []) (o' := (.exit 0)) (S := (liS 8 .nil)) (H := (liH f)) (by kernel_rfl) (by kernel_rfl) (by simp [conj])).mono ?_
        rintro k o σ ⟨rfl, rfl, rfl⟩
        exact ⟨rfl, .inr ⟨by simp, rfl, rfl⟩⟩
      · rw [if_neg h0]
        refine (goes (ctx_ok tC1_ok 24) mixed rfl (gs := []) (gh := []) (orc := way [(6, 1)]) (stops := []) (f := 3000) (k := [.code (roundOf 0 (bodyOf Try.f89))]) (o := .norm) (σ := (kn (liS 8 (.sl 500 5 0 (nz f 8).length)) (liH2 f (nz f 8)))) (cs := [True, ¬(↑(8 : Nat) : Int) < (8 : Int)]) (k' := []) (o' := (.exit 0)) (S := (liS 8 (.sl 500 5 0 (nz f 8).length))) (H := (liH2 f (nz f 8))) (by kernel_rfl) (by kernel_rfl) (by simp [conj])).mono ?_
        rintro k o σ ⟨rfl, rfl, rfl⟩
        exact ⟨rfl, .inr ⟨by simp, rfl, rfl⟩⟩
  · rintro k o σ ⟨rfl, rfl, rfl⟩
    unfold liSt
    by_cases h0 : (nz f 8).length = 0
    · rw [if_pos h0]
      exact goes_ret (ctx_ok tC1_ok 24) mixed rfl (orc := way []) (stops := []) (f := 3000) (k := (restOf 0 (bodyOf Try.f89))) (o := .norm) (σ := (kn (liS 8 .nil) (liH f))) (cs := [True, True]) (o' := .ret) (rs := Try.f89.results.toList) (v := (.one [.nil])) (H := ([] : List (Nat × Bk))) (by kernel_rfl) (.inr rfl) (by simp [conj]) fun _ _ => .inl ⟨h0, rfl⟩
    · rw [if_neg h0]
      exact goes_ret (ctx_ok tC1_ok 24) mixed rfl (orc := way []) (stops := []) (f := 3000) (k := (restOf 0 (bodyOf Try.f89))) (o := .norm) (σ := (kn (liS 8 (.sl 500 5 0 (nz f 8).length)) (liH2 f (nz f 8)))) (cs := [True, True]) (o' := .ret) (rs := Try.f89.results.toList) (v := (.one [.sl 500 5 0 (nz f 8).length])) (H := [(500, Bk.row true 60 5 (nz f 8).length (rowL (nz f 8)))]) (by kernel_rfl) (.inr rfl) (by simp [conj]) fun σ hσ => .inr ⟨by omega, 500, _, rfl, hσ (500, _) List.mem_cons_self, rfl⟩

theorem list_e : EOK ⟨89, 0, lcon liK⟩ := by
  refine co_lcon (t := 60) Try.func89 (c := bodyOf Try.f89) rfl (fun a w => Try.call89 a w) tC1_ok fun args l hl p hp hc => ?_
  unfold liK at hl
  split at hl
  · rename_i f x
    cases hl
    simp only [List.mem_singleton] at hp
    subst hp
    refine ⟨[], [[.vec 4 8 f]], ⟨[], [[(.vec 4 8 f, x)]], rfl, .nil, rfl, ?_⟩, Nat.le_of_ble_eq_true (by kernel_rfl), fun _ h2 => ⟨⟨okP _, fun _ h => by cases h⟩, fun ps e1 e2 w0 => ?_⟩⟩
    · intro l hl a ha
      simp only [List.mem_singleton] at hl
      subst hl
      simp only [List.mem_singleton] at ha
      subst ha
      rfl
    · have hf : ∀ d, d < 8 → f d < TOP := fun d hd => by
        have := h2 _ List.mem_cons_self _ List.mem_cons_self
        have h3 : f d < pow64 4 := this d hd
        rw [← pow64_4]; exact h3
      have : ps = [] := by cases ps with
        | nil => rfl
        | cons p r => simp at e1
      subst this
      show Goes _ _ _ _ _ _ (Fin _ _ (LFin (Purse.mk' f).lst none))
      rw [mk'_lst hf]
      exact list_goes hf
  · cases hl

/-! ## Same -/

theorem k2c_ok {f : FuncId} {fn : Func} {c : Code} (hf : Try.prog.funcs[f]? = some fn) (hb : fn.body = some c) (hcall : ∀ args w, (callFunc f args).run Try.prog w = .ok (.enter f args) w) {tab : List Entry} (ht : TabOK tab) {g : Cs → Cs → List (Prop × Sv)} {cls : Nat}
    (hnt : 2 ≤ fn.ntmps)
    (h : ∀ l m, okC l → okC m → ∀ p ∈ g l m, p.1 → p.2.all Av.plain ∧ ∀ w0 b c', (b = true → l = []) → (c' = true → m = []) →
      Goes Try.prog fn.ntmps w0 [.code c] .norm (kn (argS 0 [inS b 1000 l, inS c' 1001 m]) (inH 60 b 1000 l (inH 60 c' 1001 m []))) (Fin (ctx tab fn.ntmps) fn.results.toList fun v _ => v = p.2)) : EOK ⟨f, cls, dcon (k2c g)⟩ := by
  refine co_dcon (t := 60) hf hb hcall ht fun args l hl p hp hc => ?_
  unfold k2c at hl
  split at hl
  · rename_i A A'
    obtain ⟨a, ha, hl⟩ := Option.bind_eq_some_iff.1 hl
    obtain ⟨b, hb', rfl⟩ := Option.map_eq_some_iff.1 hl
    obtain ⟨q, hq, rfl⟩ := List.mem_map.1 hp
    refine ⟨[a.2, b.2], [], ⟨[A, A'], [], rfl, .cons ha hc.1 (.cons hb' hc.2.1 .nil), rfl, fun l hl => by cases hl⟩, hnt, fun h1 _ => ?_⟩
    obtain ⟨h2, h3⟩ := h a.2 b.2 (h1 _ List.mem_cons_self) (h1 _ (List.mem_cons_of_mem _ List.mem_cons_self)) q hq hc.2.2
    refine ⟨h2, fun ps e1 e2 w0 => ?_⟩
    obtain ⟨x, y, rfl, e3, e4⟩ := two_in e1 e2
    exact h3 w0 x y e3 e4
  · cases hl

theorem cs_ext {l m : Cs} (h : l.length = m.length) (he : ∀ j, j < l.length → getc l j = getc m j) : l = m := by
  refine List.ext_getElem h fun i h1 h2 => ?_
  have := he i h1
  rwa [getc_lt h1, getc_lt h2] at this

theorem same37_goes {w0 : Base} {l m : Cs} {b c : Bool} (hn : l.length < 4096) (hb : b = true → l = []) (hc : c = true → m = []) :
    Goes Try.prog Try.f37.ntmps w0 [.code (bodyOf Try.f37)] .norm (kn (argS 0 [inS b 1000 l, inS c 1001 m]) (inH 60 b 1000 l (inH 60 c 1001 m [])))
    (Fin (ctx tC1 26) Try.f37.results.toList fun v _ => ∃ r, v = .one (B r) ∧ (r = true ↔ l = m)) := by
  cases b
  · cases c
    · by_cases hlen : l.length = m.length
      · refine (goes (ctx_ok tC1_ok 26) mixed rfl (gs := [5, 13]) (gh := []) (orc := way [(10, 1)]) (stops := [0]) (f := 3000) (k := [.code (bodyOf Try.f37)]) (o := .norm) (σ := (kn (argS 0 [slA l, slB m]) (saH l m))) (cs := [True, True, True, True, True, ¬(↑(List.length l) : Int) ≠ (↑(List.length m) : Int), True]) (k' := (kOf 0 (bodyOf Try.f37))) (o' := .norm) (S := (S37 l m 0)) (H := (saH l m)) (by kernel_rfl) (by kernel_rfl) (by simp only [conj, and_true, true_and, ne_eq, Decidable.not_not]; omega)).bind ?_
        rintro k o σ ⟨rfl, rfl, rfl⟩
        have hk : kOf 0 (bodyOf Try.f37) = .code (.block 0 (.loop (roundOf 0 (bodyOf Try.f37)))) :: restOf 0 (bodyOf Try.f37) := by kernel_rfl
        rw [hk]
        refine (goes_loop (fun i : Nat => kn (S37 l m i) (saH l m)) (fun i => i ≤ l.length ∧ ∀ j, j < i → getc l j = getc m j) (fun i => l.length - i)
          (fun o σ => (o = .norm ∧ σ = kn (S37 l m l.length) (saH l m) ∧ l = m) ∨ (o = .ret ∧ σ = kn [(4, .one (B false))] [] ∧ l ≠ m)) ?_ (p := 0) ⟨Nat.zero_le _, fun j hj => by omega⟩).bind ?_
        · rintro i ⟨hle, hinv⟩
          by_cases hi : i < l.length
          · by_cases he : getc l i = getc m i
            · refine (goes (ctx_ok tC1_ok 26) mixed rfl (gs := []) (gh := []) (orc := way []) (stops := []) (f := 3000) (k := [.code (roundOf 0 (bodyOf Try.f37))]) (o := .norm) (σ := (kn (S37 l m i) (saH l m))) (cs := [True, True, True, (↑i : Int) < (↑(List.length l) : Int), True, True, (0 : Int) ≤ (↑i : Int) ∧ (↑i : Int) < (↑(List.length l) : Int), addO (0 : Nat) i < List.length l, True, True, (0 : Int) ≤ (↑i : Int) ∧ (↑i : Int) < (↑(List.length m) : Int), addO (0 : Nat) i < List.length m, (↑(Prod.fst (getc l (addO (0 : Nat) i))) : Int) = (↑(Prod.fst (getc m (addO (0 : Nat) i))) : Int) ∧ Prod.snd (getc l (addO (0 : Nat) i)) = Prod.snd (getc m (addO (0 : Nat) i)), True, (-9223372036854775808 : Int) ≤ (↑i : Int) + (1 : Int) ∧ (↑i : Int) + (1 : Int) < (9223372036854775808 : Int), True]) (k' := []) (o' := .norm) (S := (S37 l m (i + 1))) (H := (saH l m)) (by kernel_rfl) (by kernel_rfl) (by simp only [conj, and_true, true_and, addO_eq, Nat.zero_add, Int.toNat_natCast, he, ne_eq, and_self, not_true_eq_false, not_false_eq_true]; omega)).mono ?_
              rintro k o σ ⟨rfl, rfl, rfl⟩
              refine ⟨rfl, .inl ⟨rfl, i + 1, ⟨hi, fun j hj => ?_⟩, by omega, rfl⟩⟩
              by_cases hj2 : j < i
              · exact hinv j hj2
              · obtain rfl : j = i := by omega
                exact he
            · refine (goes (ctx_ok tC1_ok 26) mixed rfl (gs := []) (gh := []) (orc := way [(N37, 1)]) (stops := []) (f := 3000) (k := [.code (roundOf 0 (bodyOf Try.f37))]) (o := .norm) (σ := (kn (S37 l m i) (saH l m))) (cs := [True, True, True, (↑i : Int) < (↑(List.length l) : Int), True, True, (0 : Int) ≤ (↑i : Int) ∧ (↑i : Int) < (↑(List.length l) : Int), addO (0 : Nat) i < List.length l, True, True, (0 : Int) ≤ (↑i : Int) ∧ (↑i : Int) < (↑(List.length m) : Int), addO (0 : Nat) i < List.length m, ¬((↑(Prod.fst (getc l (addO (0 : Nat) i))) : Int) = (↑(Prod.fst (getc m (addO (0 : Nat) i))) : Int) ∧ Prod.snd (getc l (addO (0 : Nat) i)) = Prod.snd (getc m (addO (0 : Nat) i))), True]) (k' := []) (o' := .ret) (S := [(4, .one (B false))]) (H := ([] : List (Nat × Bk))) (by kernel_rfl) (by kernel_rfl) (by
                have he' : ¬ (((getc l i).1 : Int) = ((getc m i).1 : Int) ∧ (getc l i).2 = (getc m i).2) := fun h => he (Prod.ext (by omega) h.2)
                simp only [conj, and_true, true_and, addO_eq, Nat.zero_add, Int.toNat_natCast, ne_eq, he', not_false_eq_true]; omega)).mono ?_
              rintro k o σ ⟨rfl, rfl, rfl⟩
              exact ⟨rfl, .inr ⟨by simp, .inr ⟨rfl, rfl, fun h => he (by rw [h])⟩⟩⟩
          · obtain rfl : i = l.length := by omega
            refine (goes (ctx_ok tC1_ok 26) mixed rfl (gs := []) (gh := []) (orc := way [(14, 1)]) (stops := []) (f := 3000) (k := [.code (roundOf 0 (bodyOf Try.f37))]) (o := .norm) (σ := (kn (S37 l m l.length) (saH l m))) (cs := [True, True, True, ¬(↑(List.length l) : Int) < (↑(List.length l) : Int)]) (k' := []) (o' := (.exit 0)) (S := (S37 l m l.length)) (H := (saH l m)) (by kernel_rfl) (by kernel_rfl) (by simp [conj])).mono ?_
            rintro k o σ ⟨rfl, rfl, rfl⟩
            exact ⟨rfl, .inr ⟨by simp, .inl ⟨rfl, rfl, cs_ext hlen hinv⟩⟩⟩
        · rintro k o σ ⟨rfl, ⟨rfl, rfl, he⟩ | ⟨rfl, rfl, he⟩⟩
          · exact goes_ret (ctx_ok tC1_ok 26) mixed rfl (orc := way []) (stops := []) (f := 3000) (k := (restOf 0 (bodyOf Try.f37))) (o := .norm) (σ := (kn (S37 l m l.length) (saH l m))) (cs := [True]) (o' := .ret) (rs := Try.f37.results.toList) (v := (.one (B true))) (H := ([] : List (Nat × Bk))) (by kernel_rfl) (.inr rfl) (by simp [conj]) fun _ _ => ⟨true, rfl, fun _ => he, fun _ => rfl⟩
          · exact goes_ret (ctx_ok tC1_ok 26) mixed rfl (orc := way []) (stops := []) (f := 3000) (k := (restOf 0 (bodyOf Try.f37))) (o := .ret) (σ := (kn [(4, .one (B false))] [])) (cs := []) (o' := .ret) (rs := Try.f37.results.toList) (v := (.one (B false))) (H := ([] : List (Nat × Bk))) (by kernel_rfl) (.inr rfl) (by simp [conj]) fun _ _ => ⟨false, rfl, (fun h => by cases h), fun h => absurd h he⟩
      · exact goes_ret (ctx_ok tC1_ok 26) mixed rfl (orc := way []) (stops := []) (f := 3000) (k := [.code (bodyOf Try.f37)]) (o := .norm) (σ := (kn (argS 0 [slA l, slB m]) (saH l m))) (cs := [True, True, True, True, True, (↑(List.length l) : Int) ≠ (↑(List.length m) : Int), True]) (o' := .ret) (rs := Try.f37.results.toList) (v := (.one (B false))) (H := ([] : List (Nat × Bk))) (by kernel_rfl) (.inr rfl) (by simp only [conj, and_true, true_and]; omega) fun _ _ => ⟨false, rfl, (fun h => by cases h), fun h => absurd (by rw [h]) hlen⟩
    · obtain rfl := hc rfl
      by_cases hlen : l.length = 0
      · exact goes_ret (ctx_ok tC1_ok 26) mixed rfl (orc := way [(10, 1), (14, 1)]) (stops := []) (f := 3000) (k := [.code (bodyOf Try.f37)]) (o := .norm) (σ := (kn (argS 0 [slA l, .one [.nil]]) [rwA 60 l])) (cs := [True, True, True, True, True, ¬(↑(List.length l) : Int) ≠ (0 : Int), True, True, True, True, ¬(0 : Int) < (↑(List.length l) : Int), True]) (o' := .ret) (rs := Try.f37.results.toList) (v := (.one (B true))) (H := ([] : List (Nat × Bk))) (by kernel_rfl) (.inr rfl) (by simp only [conj, and_true, true_and, ne_eq, Decidable.not_not]; omega) fun _ _ => ⟨true, rfl, fun _ => List.length_eq_zero_iff.1 hlen, fun _ => rfl⟩
      · exact goes_ret (ctx_ok tC1_ok 26) mixed rfl (orc := way []) (stops := []) (f := 3000) (k := [.code (bodyOf Try.f37)]) (o := .norm) (σ := (kn (argS 0 [slA l, .one [.nil]]) [rwA 60 l])) (cs := [True, True, True, True, True, (↑(List.length l) : Int) ≠ (0 : Int), True]) (o' := .ret) (rs := Try.f37.results.toList) (v := (.one (B false))) (H := ([] : List (Nat × Bk))) (by kernel_rfl) (.inr rfl) (by simp only [conj, and_true, true_and]; omega) fun _ _ => ⟨false, rfl, (fun h => by cases h), fun h => absurd (by rw [h]; rfl) hlen⟩
  · obtain rfl := hb rfl
    cases c
    · by_cases hlen : m.length = 0
      · exact goes_ret (ctx_ok tC1_ok 26) mixed rfl (orc := way [(10, 1)]) (stops := []) (f := 3000) (k := [.code (bodyOf Try.f37)]) (o := .norm) (σ := (kn (argS 0 [.one [.nil], slB m]) [rwB m])) (cs := [True, True, True, True, True, ¬(0 : Int) ≠ (↑(List.length m) : Int), True, True, True, True, True, True]) (o' := .ret) (rs := Try.f37.results.toList) (v := (.one (B true))) (H := ([] : List (Nat × Bk))) (by kernel_rfl) (.inr rfl) (by simp only [conj, and_true, true_and, ne_eq, Decidable.not_not]; omega) fun _ _ => ⟨true, rfl, fun _ => (List.length_eq_zero_iff.1 hlen).symm, fun _ => rfl⟩
      · exact goes_ret (ctx_ok tC1_ok 26) mixed rfl (orc := way []) (stops := []) (f := 3000) (k := [.code (bodyOf Try.f37)]) (o := .norm) (σ := (kn (argS 0 [.one [.nil], slB m]) [rwB m])) (cs := [True, True, True, True, True, (0 : Int) ≠ (↑(List.length m) : Int), True]) (o' := .ret) (rs := Try.f37.results.toList) (v := (.one (B false))) (H := ([] : List (Nat × Bk))) (by kernel_rfl) (.inr rfl) (by simp only [conj, and_true, true_and]; omega) fun _ _ => ⟨false, rfl, (fun h => by cases h), fun h => absurd (by rw [← h]; rfl) hlen⟩
    · obtain rfl := hc rfl
      exact goes_ret (ctx_ok tC1_ok 26) mixed rfl (orc := way []) (stops := []) (f := 3000) (k := [.code (bodyOf Try.f37)]) (o := .norm) (σ := (kn (argS 0 [.one [.nil], .one [.nil]]) [])) (cs := [True, True, True, True, True, True, True, True, True, True, True, True]) (o' := .ret) (rs := Try.f37.results.toList) (v := (.one (B true))) (H := ([] : List (Nat × Bk))) (by kernel_rfl) (.inr rfl) (by simp [conj]) fun _ _ => ⟨true, rfl, fun _ => rfl, fun _ => rfl⟩

theorem same37_e : EOK ⟨37, 1, dcon (k2c saL)⟩ := by
  refine k2c_ok Try.func37 (c := bodyOf Try.f37) rfl (fun a w => Try.call37 a w) tC1_ok (Nat.le_of_ble_eq_true (by kernel_rfl)) fun l m hl hm p hp hc => ?_
  simp only [saL, List.mem_cons, List.not_mem_nil, or_false] at hp
  rcases hp with rfl | rfl
  · refine ⟨oneP (B_plain _), fun w0 b c hb hc' => (same37_goes hl.1 hb hc').mono fun k o σ hf => Fin.mono ?_ hf⟩
    rintro v _ ⟨b, rfl, hb⟩
    rw [hb.2 hc]
  · refine ⟨oneP (B_plain _), fun w0 b c hb hc' => (same37_goes hl.1 hb hc').mono fun k o σ hf => Fin.mono ?_ hf⟩
    rintro v _ ⟨b, rfl, hb⟩
    cases b
    · rfl
    · exact absurd (hb.1 rfl) hc

theorem same92_goes {w0 : Base} {l m : Cs} {b c : Bool} (hn : l.length < 4096) (hb : b = true → l = []) (hc : c = true → m = []) :
    Goes Try.prog Try.f92.ntmps w0 [.code (bodyOf Try.f92)] .norm (kn (argS 0 [inS b 1000 l, inS c 1001 m]) (inH 60 b 1000 l (inH 60 c 1001 m [])))
    (Fin (ctx tC1 26) Try.f92.results.toList fun v _ => ∃ r, v = .one (B r) ∧ (r = true ↔ l = m)) := by
  cases b
  · cases c
    · by_cases hlen : l.length = m.length
      · refine (goes (ctx_ok tC1_ok 26) mixed rfl (gs := [5, 13]) (gh := []) (orc := way [(10, 1)]) (stops := [0]) (f := 3000) (k := [.code (bodyOf Try.f92)]) (o := .norm) (σ := (kn (argS 0 [slA l, slB m]) (saH l m))) (cs := [True, True, True, True, True, ¬(↑(List.length l) : Int) ≠ (↑(List.length m) : Int), True, True, True]) (k' := (kOf 0 (bodyOf Try.f92))) (o' := .norm) (S := (S92 l m 0)) (H := (saH l m)) (by kernel_rfl) (by kernel_rfl) (by simp only [conj, and_true, true_and, ne_eq, Decidable.not_not]; omega)).bind ?_
        rintro k o σ ⟨rfl, rfl, rfl⟩
        have hk : kOf 0 (bodyOf Try.f92) = .code (.block 0 (.loop (roundOf 0 (bodyOf Try.f92)))) :: restOf 0 (bodyOf Try.f92) := by kernel_rfl
        rw [hk]
        refine (goes_loop (fun i : Nat => kn (S92 l m i) (saH l m)) (fun i => i ≤ l.length ∧ ∀ j, j < i → getc l j = getc m j) (fun i => l.length - i)
          (fun o σ => (o = .norm ∧ σ = kn (S92 l m l.length) (saH l m) ∧ l = m) ∨ (o = .ret ∧ σ = kn [(4, .one (B false))] [] ∧ l ≠ m)) ?_ (p := 0) ⟨Nat.zero_le _, fun j hj => by omega⟩).bind ?_
        · rintro i ⟨hle, hinv⟩
          by_cases hi : i < l.length
          · by_cases he : getc l i = getc m i
            · refine (goes (ctx_ok tC1_ok 26) mixed rfl (gs := []) (gh := []) (orc := way []) (stops := []) (f := 3000) (k := [.code (roundOf 0 (bodyOf Try.f92))]) (o := .norm) (σ := (kn (S92 l m i) (saH l m))) (cs := [(↑i : Int) < (↑(List.length l) : Int), True, True, True, True, (0 : Int) ≤ (↑i : Int) ∧ (↑i : Int) < (↑(List.length l) : Int), addO (0 : Nat) i < List.length l, True, True, (0 : Int) ≤ (↑i : Int) ∧ (↑i : Int) < (↑(List.length m) : Int), addO (0 : Nat) i < List.length m, (↑(Prod.fst (getc l (addO (0 : Nat) i))) : Int) = (↑(Prod.fst (getc m (addO (0 : Nat) i))) : Int) ∧ Prod.snd (getc l (addO (0 : Nat) i)) = Prod.snd (getc m (addO (0 : Nat) i)), (-9223372036854775808 : Int) ≤ (↑i : Int) + (1 : Int) ∧ (↑i : Int) + (1 : Int) < (9223372036854775808 : Int), True]) (k' := []) (o' := .norm) (S := (S92 l m (i + 1))) (H := (saH l m)) (by kernel_rfl) (by kernel_rfl) (by simp only [conj, and_true, true_and, addO_eq, Nat.zero_add, Int.toNat_natCast, he, ne_eq, and_self, not_true_eq_false, not_false_eq_true]; omega)).mono ?_
              rintro k o σ ⟨rfl, rfl, rfl⟩
              refine ⟨rfl, .inl ⟨rfl, i + 1, ⟨hi, fun j hj => ?_⟩, by omega, rfl⟩⟩
              by_cases hj2 : j < i
              · exact hinv j hj2
              · obtain rfl : j = i := by omega
                exact he
            · refine (goes (ctx_ok tC1_ok 26) mixed rfl (gs := []) (gh := []) (orc := way [(N92, 1)]) (stops := []) (f := 3000) (k := [.code (roundOf 0 (bodyOf Try.f92))]) (o := .norm) (σ := (kn (S92 l m i) (saH l m))) (cs := [(↑i : Int) < (↑(List.length l) : Int), True, True, True, True, (0 : Int) ≤ (↑i : Int) ∧ (↑i : Int) < (↑(List.length l) : Int), addO (0 : Nat) i < List.length l, True, True, (0 : Int) ≤ (↑i : Int) ∧ (↑i : Int) < (↑(List.length m) : Int), addO (0 : Nat) i < List.length m, ¬((↑(Prod.fst (getc l (addO (0 : Nat) i))) : Int) = (↑(Prod.fst (getc m (addO (0 : Nat) i))) : Int) ∧ Prod.snd (getc l (addO (0 : Nat) i)) = Prod.snd (getc m (addO (0 : Nat) i))), True]) (k' := []) (o' := .ret) (S := [(4, .one (B false))]) (H := ([] : List (Nat × Bk))) (by kernel_rfl) (by kernel_rfl) (by
                have he' : ¬ (((getc l i).1 : Int) = ((getc m i).1 : Int) ∧ (getc l i).2 = (getc m i).2) := fun h => he (Prod.ext (by omega) h.2)
                simp only [conj, and_true, true_and, addO_eq, Nat.zero_add, Int.toNat_natCast, ne_eq, he', not_false_eq_true]; omega)).mono ?_
              rintro k o σ ⟨rfl, rfl, rfl⟩
              exact ⟨rfl, .inr ⟨by simp, .inr ⟨rfl, rfl, fun h => he (by rw [h])⟩⟩⟩
          · obtain rfl : i = l.length := by omega
            refine (goes (ctx_ok tC1_ok 26) mixed rfl (gs := []) (gh := []) (orc := way [(14, 1)]) (stops := []) (f := 3000) (k := [.code (roundOf 0 (bodyOf Try.f92))]) (o := .norm) (σ := (kn (S92 l m l.length) (saH l m))) (cs := [¬(↑(List.length l) : Int) < (↑(List.length l) : Int)]) (k' := []) (o' := (.exit 0)) (S := (S92 l m l.length)) (H := (saH l m)) (by kernel_rfl) (by kernel_rfl) (by simp [conj])).mono ?_
            rintro k o σ ⟨rfl, rfl, rfl⟩
            exact ⟨rfl, .inr ⟨by simp, .inl ⟨rfl, rfl, cs_ext hlen hinv⟩⟩⟩
        · rintro k o σ ⟨rfl, ⟨rfl, rfl, he⟩ | ⟨rfl, rfl, he⟩⟩
          · exact goes_ret (ctx_ok tC1_ok 26) mixed rfl (orc := way []) (stops := []) (f := 3000) (k := (restOf 0 (bodyOf Try.f92))) (o := .norm) (σ := (kn (S92 l m l.length) (saH l m))) (cs := [True]) (o' := .ret) (rs := Try.f92.results.toList) (v := (.one (B true))) (H := ([] : List (Nat × Bk))) (by kernel_rfl) (.inr rfl) (by simp [conj]) fun _ _ => ⟨true, rfl, fun _ => he, fun _ => rfl⟩
          · exact goes_ret (ctx_ok tC1_ok 26) mixed rfl (orc := way []) (stops := []) (f := 3000) (k := (restOf 0 (bodyOf Try.f92))) (o := .ret) (σ := (kn [(4, .one (B false))] [])) (cs := []) (o' := .ret) (rs := Try.f92.results.toList) (v := (.one (B false))) (H := ([] : List (Nat × Bk))) (by kernel_rfl) (.inr rfl) (by simp [conj]) fun _ _ => ⟨false, rfl, (fun h => by cases h), fun h => absurd h he⟩
      · exact goes_ret (ctx_ok tC1_ok 26) mixed rfl (orc := way []) (stops := []) (f := 3000) (k := [.code (bodyOf Try.f92)]) (o := .norm) (σ := (kn (argS 0 [slA l, slB m]) (saH l m))) (cs := [True, True, True, True, True, (↑(List.length l) : Int) ≠ (↑(List.length m) : Int), True]) (o' := .ret) (rs := Try.f92.results.toList) (v := (.one (B false))) (H := ([] : List (Nat × Bk))) (by kernel_rfl) (.inr rfl) (by simp only [conj, and_true, true_and]; omega) fun _ _ => ⟨false, rfl, (fun h => by cases h), fun h => absurd (by rw [h]) hlen⟩
    · obtain rfl := hc rfl
      by_cases hlen : l.length = 0
      · exact goes_ret (ctx_ok tC1_ok 26) mixed rfl (orc := way [(10, 1), (14, 1)]) (stops := []) (f := 3000) (k := [.code (bodyOf Try.f92)]) (o := .norm) (σ := (kn (argS 0 [slA l, .one [.nil]]) [rwA 60 l])) (cs := [True, True, True, True, True, ¬(↑(List.length l) : Int) ≠ (0 : Int), True, True, True, ¬(0 : Int) < (↑(List.length l) : Int), True]) (o' := .ret) (rs := Try.f92.results.toList) (v := (.one (B true))) (H := ([] : List (Nat × Bk))) (by kernel_rfl) (.inr rfl) (by simp only [conj, and_true, true_and, ne_eq, Decidable.not_not]; omega) fun _ _ => ⟨true, rfl, fun _ => List.length_eq_zero_iff.1 hlen, fun _ => rfl⟩
      · exact goes_ret (ctx_ok tC1_ok 26) mixed rfl (orc := way []) (stops := []) (f := 3000) (k := [.code (bodyOf Try.f92)]) (o := .norm) (σ := (kn (argS 0 [slA l, .one [.nil]]) [rwA 60 l])) (cs := [True, True, True, True, True, (↑(List.length l) : Int) ≠ (0 : Int), True]) (o' := .ret) (rs := Try.f92.results.toList) (v := (.one (B false))) (H := ([] : List (Nat × Bk))) (by kernel_rfl) (.inr rfl) (by simp only [conj, and_true, true_and]; omega) fun _ _ => ⟨false, rfl, (fun h => by cases h), fun h => absurd (by rw [h]; rfl) hlen⟩
  · obtain rfl := hb rfl
    cases c
    · by_cases hlen : m.length = 0
      · exact goes_ret (ctx_ok tC1_ok 26) mixed rfl (orc := way [(10, 1)]) (stops := []) (f := 3000) (k := [.code (bodyOf Try.f92)]) (o := .norm) (σ := (kn (argS 0 [.one [.nil], slB m]) [rwB m])) (cs := [True, True, True, True, True, ¬(0 : Int) ≠ (↑(List.length m) : Int), True, True, True, True, True]) (o' := .ret) (rs := Try.f92.results.toList) (v := (.one (B true))) (H := ([] : List (Nat × Bk))) (by kernel_rfl) (.inr rfl) (by simp only [conj, and_true, true_and, ne_eq, Decidable.not_not]; omega) fun _ _ => ⟨true, rfl, fun _ => (List.length_eq_zero_iff.1 hlen).symm, fun _ => rfl⟩
      · exact goes_ret (ctx_ok tC1_ok 26) mixed rfl (orc := way []) (stops := []) (f := 3000) (k := [.code (bodyOf Try.f92)]) (o := .norm) (σ := (kn (argS 0 [.one [.nil], slB m]) [rwB m])) (cs := [True, True, True, True, True, (0 : Int) ≠ (↑(List.length m) : Int), True]) (o' := .ret) (rs := Try.f92.results.toList) (v := (.one (B false))) (H := ([] : List (Nat × Bk))) (by kernel_rfl) (.inr rfl) (by simp only [conj, and_true, true_and]; omega) fun _ _ => ⟨false, rfl, (fun h => by cases h), fun h => absurd (by rw [← h]; rfl) hlen⟩
    · obtain rfl := hc rfl
      exact goes_ret (ctx_ok tC1_ok 26) mixed rfl (orc := way []) (stops := []) (f := 3000) (k := [.code (bodyOf Try.f92)]) (o := .norm) (σ := (kn (argS 0 [.one [.nil], .one [.nil]]) [])) (cs := [True, True, True, True, True, True, True, True, True, True, True]) (o' := .ret) (rs := Try.f92.results.toList) (v := (.one (B true))) (H := ([] : List (Nat × Bk))) (by kernel_rfl) (.inr rfl) (by simp [conj]) fun _ _ => ⟨true, rfl, fun _ => rfl, fun _ => rfl⟩

theorem same92_e : EOK ⟨92, 1, dcon (k2c saL)⟩ := by
  refine k2c_ok Try.func92 (c := bodyOf Try.f92) rfl (fun a w => Try.call92 a w) tC1_ok (Nat.le_of_ble_eq_true (by kernel_rfl)) fun l m hl hm p hp hc => ?_
  simp only [saL, List.mem_cons, List.not_mem_nil, or_false] at hp
  rcases hp with rfl | rfl
  · refine ⟨oneP (B_plain _), fun w0 b c hb hc' => (same92_goes hl.1 hb hc').mono fun k o σ hf => Fin.mono ?_ hf⟩
    rintro v _ ⟨b, rfl, hb⟩
    rw [hb.2 hc]
  · refine ⟨oneP (B_plain _), fun w0 b c hb hc' => (same92_goes hl.1 hb hc').mono fun k o σ hf => Fin.mono ?_ hf⟩
    rintro v _ ⟨b, rfl, hb⟩
    cases b
    · rfl
    · exact absurd (hb.1 rfl) hc

theorem tC2_ok : TabOK tC2 := .cons list_e (.cons same92_e tC1_ok)

end M
end Go.Proofs.Ytmjdmhelmgcanaa
