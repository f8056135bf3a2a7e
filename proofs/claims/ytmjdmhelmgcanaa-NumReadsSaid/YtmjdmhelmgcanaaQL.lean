/- Joined out of smaller texts: Pur, CoA, LiftC. -/
import Derived.Test.YtmjdmhelmgcanaaQI
import Derived.Test.YtmjdmhelmgcanaaQG
/- Purses: eight numbers, and the coins of those that aren't 0; rows of coins. -/
namespace Go.Proofs.Ytmjdmhelmgcanaa
namespace M
open Go.RowKit

structure Purse where
  f : Nat → Nat
  hm : ∀ d, 8 ≤ d → f d = 0
  hb : ∀ d, f d < TOP

theorem Purse.ext' {p q : Purse} (h : ∀ d, d < 8 → p.f d = q.f d) : p = q := by
  obtain ⟨f, hm, hb⟩ := p
  obtain ⟨g, gm, gb⟩ := q
  have : f = g := by
    funext d
    by_cases hd : d < 8
    · exact h d hd
    · rw [hm d (by omega), gm d (by omega)]
  subst this
  rfl

/-- eight numbers out of any -/
def Purse.mk' (f : Nat → Nat) : Purse := ⟨fun d => if d < 8 then f d % TOP else 0, fun d hd => if_neg (by omega), fun d => by
  have := top_eq
  split
  · exact Nat.mod_lt _ (by omega)
  · omega⟩
theorem Purse.mk'_f {f : Nat → Nat} {d : Nat} (hd : d < 8) (h : f d < TOP) : (Purse.mk' f).f d = f d := by
  show (if d < 8 then f d % TOP else 0) = f d
  rw [if_pos hd, Nat.mod_eq_of_lt h]

def getc (l : List (Nat × Nat)) (i : Nat) : Nat × Nat := (l[i]?).getD (0, 0)
theorem getc_lt {l : List (Nat × Nat)} {i : Nat} (h : i < l.length) : getc l i = l[i] := by unfold getc; rw [List.getElem?_eq_getElem h]; rfl
theorem getc_mem {l : List (Nat × Nat)} {i : Nat} (h : i < l.length) : getc l i ∈ l := by rw [getc_lt h]; exact List.getElem_mem h

/-- those of the first k that aren't 0 -/
def nz (f : Nat → Nat) : Nat → List (Nat × Nat)
  | 0 => []
  | k + 1 => nz f k ++ (if f k = 0 then [] else [(k, f k)])

def amt : List (Nat × Nat) → Nat → Nat
  | [], _ => 0
  | c :: r, d => if c.1 = d then c.2 else amt r d

theorem amt_none {l : List (Nat × Nat)} {d : Nat} (h : ∀ c ∈ l, c.1 ≠ d) : amt l d = 0 := by
  induction l with
  | nil => rfl
  | cons c r ih => rw [amt, if_neg (h c List.mem_cons_self), ih fun c hc => h c (List.mem_cons_of_mem _ hc)]
theorem amt_new {l m : List (Nat × Nat)} {d : Nat} (h : ∀ c ∈ l, c.1 ≠ d) : amt (l ++ m) d = amt m d := by
  induction l with
  | nil => rfl
  | cons c r ih => rw [List.cons_append, amt, if_neg (h c List.mem_cons_self), ih fun c hc => h c (List.mem_cons_of_mem _ hc)]
theorem amt_old {l m : List (Nat × Nat)} {d : Nat} (h : ∀ c ∈ m, c.1 ≠ d) : amt (l ++ m) d = amt l d := by
  induction l with
  | nil => exact amt_none h
  | cons c r ih => rw [List.cons_append, amt, amt, ih]
theorem amt_drop {l : List (Nat × Nat)} {i d : Nat} (hi : i < l.length) : amt (l.drop i) d = if (getc l i).1 = d then (getc l i).2 else amt (l.drop (i + 1)) d := by
  rw [List.drop_eq_getElem_cons hi, amt, getc_lt hi]

theorem nz_lt {f : Nat → Nat} {k : Nat} : ∀ c ∈ nz f k, c.1 < k ∧ c.2 = f c.1 ∧ c.2 ≠ 0 := by
  induction k with
  | zero => intro c hc; cases hc
  | succ k ih =>
    intro c hc
    rw [nz] at hc
    rcases List.mem_append.1 hc with hc | hc
    · have := ih c hc; exact ⟨by omega, this.2⟩
    · split at hc
      · cases hc
      · simp only [List.mem_singleton] at hc
        subst hc
        exact ⟨by show k < k + 1; omega, rfl, by assumption⟩
theorem amt_nz (f : Nat → Nat) (k d : Nat) : amt (nz f k) d = if d < k then f d else 0 := by
  induction k with
  | zero => rfl
  | succ k ih =>
    rw [nz]
    by_cases hd : d = k
    · subst hd
      rw [amt_new fun c hc => by have := nz_lt c hc; omega, if_pos (Nat.lt_succ_self d)]
      by_cases h0 : f d = 0
      · rw [if_pos h0, h0]; rfl
      · rw [if_neg h0, amt, if_pos rfl]
    · rw [amt_old fun c hc => ?_, ih]
      · by_cases h : d < k
        · rw [if_pos h, if_pos (by omega)]
        · rw [if_neg h, if_neg (by omega)]
      · split at hc
        · cases hc
        · simp only [List.mem_singleton] at hc; subst hc; exact fun e => hd e.symm
theorem nz_length (f : Nat → Nat) (k : Nat) : (nz f k).length ≤ k := by
  induction k with
  | zero => exact Nat.le_refl _
  | succ k ih =>
    rw [nz, List.length_append]
    split
    · simp; omega
    · simp; omega
theorem nz_congr {f g : Nat → Nat} {k : Nat} (h : ∀ d, d < k → f d = g d) : nz f k = nz g k := by
  induction k with
  | zero => rfl
  | succ k ih => rw [nz, nz, ih fun d hd => h d (by omega), h k (by omega)]
theorem nz_mono {f : Nat → Nat} {k : Nat} (m : Nat) : (nz f k).length ≤ (nz f (k + m)).length := by
  induction m with
  | zero => exact Nat.le_refl _
  | succ m ih => rw [Nat.add_succ, nz, List.length_append]; omega

/-! ## Rows of coins -/

def cel (c : Nat × Nat) : List Av := [.int .u8 (c.1 : Nat), .big 4 c.2]
def rowL (l : List (Nat × Nat)) : Nat → List Av := fun i => cel (getc l i)
def cd1 : List Av → Nat × Nat
  | [.int .u8 d, .big 4 x] => (d.toNat, x)
  | [.lit .u8 d, .big 4 x] => (d.toNat, x)
  | _ => (0, 0)
def lst (f : Nat → List Av) (n : Nat) : List (Nat × Nat) := (List.range n).map fun i => cd1 (f i)
theorem cd1_cel (c : Nat × Nat) : cd1 (cel c) = c := by simp [cd1, cel]
theorem lst_rowL (l : List (Nat × Nat)) : lst (rowL l) l.length = l := by
  apply List.ext_getElem?
  intro i
  simp only [lst, List.getElem?_map]
  by_cases h : i < l.length
  · simp [rowL, getc, cd1_cel, h]
  · simp [h]
theorem lst_length (f : Nat → List Av) (n : Nat) : (lst f n).length = n := by simp [lst]

theorem rowL_OK {l : List (Nat × Nat)} (h : ∀ c ∈ l, c.2 < TOP) : RowOK 5 l.length (rowL l) := by
  refine ⟨by omega, fun i hi => ⟨rfl, fun a ha => ?_⟩⟩
  simp only [rowL, cel, List.mem_cons, List.not_mem_nil, or_false] at ha
  rcases ha with rfl | rfl
  · trivial
  · have := h _ (getc_mem hi)
    show (getc l i).2 < pow64 4
    rw [pow64_4]; exact this

/-- is it a row of coins? -/
def Coi (f : Nat → List Av) (n : Nat) : Prop := rowC f n = rowC (rowL (lst f n)) n ∧ ∀ c ∈ lst f n, c.1 < 256 ∧ c.2 < TOP
theorem Coi_rowL {l : List (Nat × Nat)} (h : ∀ c ∈ l, c.1 < 256 ∧ c.2 < TOP) : Coi (rowL l) l.length := by
  unfold Coi
  rw [lst_rowL]
  exact ⟨rfl, h⟩

def Purse.lst (p : Purse) : List (Nat × Nat) := nz p.f 8
def Purse.len (p : Purse) : Nat := p.lst.length
def Purse.row (p : Purse) : Nat → List Av := rowL p.lst
theorem Purse.len_le (p : Purse) : p.len ≤ 8 := nz_length _ _
theorem Purse.lst_ok (p : Purse) : ∀ c ∈ p.lst, c.1 < 256 ∧ c.2 < TOP := fun c hc => by
  have := nz_lt c hc
  exact ⟨by omega, by rw [this.2.1]; exact p.hb _⟩
theorem Purse.row_OK (p : Purse) : RowOK 5 p.len p.row := rowL_OK fun c hc => (p.lst_ok c hc).2
/-- the purse that a row of coins is -/
def puL (l : List (Nat × Nat)) : Purse := Purse.mk' (amt l)
def pu (f : Nat → List Av) (n : Nat) : Purse := puL (M.lst f n)
theorem puL_lst (p : Purse) : puL p.lst = p := Purse.ext' fun d hd => by
  have h : amt p.lst d = p.f d := by unfold Purse.lst; rw [amt_nz, if_pos hd]
  unfold puL
  rw [Purse.mk'_f hd (by rw [h]; exact p.hb d), h]
/-- is it a row of a purse's coins? -/
def Pu (f : Nat → List Av) (n : Nat) : Prop := n = (pu f n).len ∧ rowC f n = rowC (pu f n).row n
theorem pu_row (p : Purse) : pu p.row p.len = p := by
  unfold pu Purse.row Purse.len
  rw [lst_rowL, puL_lst]
theorem Pu_row (p : Purse) : Pu p.row p.len := by
  unfold Pu
  rw [pu_row]
  exact ⟨rfl, rfl⟩
theorem Purse.lst_inj {p q : Purse} (h : p.lst = q.lst) : p = q := by rw [← puL_lst p, ← puL_lst q, h]
theorem amt_lst (p : Purse) (d : Nat) : amt p.lst d = p.f d := by
  unfold Purse.lst
  rw [amt_nz]
  split
  · rfl
  · rw [p.hm d (by omega)]

theorem Purse.len0 {p : Purse} : p.len = 0 ↔ ∀ d, p.f d = 0 := by
  constructor
  · intro h d
    have : p.lst = [] := List.length_eq_zero_iff.1 h
    rw [← amt_lst, this]; rfl
  · intro h
    have : ∀ k, nz p.f k = [] := fun k => by
      induction k with
      | zero => rfl
      | succ k ih => rw [nz, ih, if_pos (h k)]; rfl
    unfold Purse.len Purse.lst
    rw [this]; rfl

/-! ## Sums and the like -/

def Purse.nil : Purse := ⟨fun _ => 0, fun _ _ => rfl, fun _ => top_pos⟩
def Purse.one (d x : Nat) : Purse := Purse.mk' fun k => if k = d then x else 0
def Purse.add (p q : Purse) : Purse := Purse.mk' fun d => p.f d + q.f d
def Purse.sub (p q : Purse) : Purse := ⟨fun d => p.f d - q.f d, fun d hd => by rw [p.hm d hd]; omega, fun d => by have := p.hb d; omega⟩
def Purse.min (p q : Purse) : Purse := ⟨fun d => Nat.min (p.f d) (q.f d), fun d hd => by rw [p.hm d hd]; exact Nat.zero_min _, fun d => Nat.lt_of_le_of_lt (Nat.min_le_left _ _) (p.hb d)⟩
/-- of none more than there is -/
def Purse.le (p q : Purse) : Prop := ∀ d, p.f d ≤ q.f d
/-- both together are not too much -/
def Purse.fits (p q : Purse) : Prop := ∀ d, p.f d + q.f d < TOP

theorem Purse.add_f {p q : Purse} (h : p.fits q) (d : Nat) : (p.add q).f d = p.f d + q.f d := by
  by_cases hd : d < 8
  · exact Purse.mk'_f (f := fun d => p.f d + q.f d) hd (h d)
  · rw [(p.add q).hm d (by omega), p.hm d (by omega), q.hm d (by omega)]
theorem Purse.ext {p q : Purse} (h : ∀ d, p.f d = q.f d) : p = q := Purse.ext' fun d _ => h d
theorem Purse.sub_f (p q : Purse) (d : Nat) : (p.sub q).f d = p.f d - q.f d := rfl
theorem Purse.min_f (p q : Purse) (d : Nat) : (p.min q).f d = Nat.min (p.f d) (q.f d) := rfl
theorem Purse.nil_f (d : Nat) : Purse.nil.f d = 0 := rfl

end M
end Go.Proofs.Ytmjdmhelmgcanaa

/- Contracts of calls that take coins. -/
namespace Go.Proofs.Ytmjdmhelmgcanaa
namespace M
open Go.RowKit

abbrev Cs := List (Nat × Nat)
/-- the coins of an argument -/
def coA (t : TypeId) : RArg → Option (Prop × Cs)
  | [(.nil, _)] => some (True, [])
  | [(.sl _ 5 0 n, some (.row _ e 5 n1 f))] => some (e = t ∧ n1 = n ∧ n < 4096 ∧ Coi f n, lst f n)
  | _ => none

/-- coins handed in, at a name: none at all, or a row -/
def inS (b : Bool) (id : Nat) (l : Cs) : Sv := bif b then .one [.nil] else .one [.sl id 5 0 l.length]
def inH (t : TypeId) (b : Bool) (id : Nat) (l : Cs) (r : List (Nat × Bk)) : List (Nat × Bk) := bif b then r else (id, .row false t 5 l.length (rowL l)) :: r
def insS : Nat → List (Bool × Cs) → List Sv
  | _, [] => []
  | id, p :: r => inS p.1 id p.2 :: insS (id + 1) r
def insH (t : TypeId) : Nat → List (Bool × Cs) → List (Nat × Bk)
  | _, [] => []
  | id, p :: r => inH t p.1 id p.2 (insH t (id + 1) r)

def okC (l : Cs) : Prop := l.length < 4096 ∧ ∀ c ∈ l, c.1 < 256 ∧ c.2 < TOP
theorem coA_ok {t : TypeId} {A : RArg} {c : Prop} {l : Cs} (h : coA t A = some (c, l)) (hc : c) : okC l := by
  unfold coA at h
  split at h
  · cases h; exact ⟨by decide, fun c hc => by cases hc⟩
  · cases h; exact ⟨by rw [lst_length]; exact hc.2.2.1, hc.2.2.2.2⟩
  · cases h

theorem coA_open {t : TypeId} {ρ : Env} {w : World} {B : Nat → Prop} {A : RArg} {c : Prop} {l : Cs} (h : coA t A = some (c, l)) (hc : c) (hA : ∀ q ∈ A, ArgOK ρ w B q) :
    (l = [] ∧ argV ρ A = .slice none 0 0) ∨ ∃ i0, (∃ o e n f, BkOK ρ w B i0 (.row o e 5 n f)) ∧ (∀ (ρ' : Env) i, ρ'.b i = ρ.b i0 → ρ'.o i = ρ.o i0 → ρ'.c i = ρ.c i0 → (inS false i l).den ρ' = argV ρ A ∧ BkOK ρ' w (fun b => w.heap.size ≤ b) i (.row false t 5 l.length (rowL l))) := by
  unfold coA at h
  split at h
  · cases h; exact .inl ⟨rfl, rfl⟩
  · rename_i a n o e n1 f
    cases h
    obtain ⟨rfl, rfl, _, h2⟩ := hc
    obtain ⟨ida, ha1, ha2, _⟩ := (hA _ List.mem_cons_self).2 _ rfl
    cases ha1
    refine .inr ⟨a, ⟨_, _, _, _, ha2⟩, fun ρ' i hb ho hcc => ⟨?_, ?_⟩⟩
    · show (Av.sl i 5 0 (lst f n1).length).val ρ' = (Av.sl a 5 0 n1).val ρ
      simp only [Av.val, hb, ho, hcc, lst_length]
    · rw [lst_length]
      have h3 := rowL_OK (l := lst f n1) fun c hc => (h2.2 c hc).2
      rw [lst_length] at h3
      exact BSim.ok (.inr ⟨_, _, _, _, _, _, rfl, rfl, h3, h2.1⟩) (read_bk ha2 hb ho hcc)
  · cases h

/-- these arguments are these coins -/
inductive CoArgs (t : TypeId) : List RArg → List Cs → Prop
  | nil : CoArgs t [] []
  | cons {A : RArg} {l : Cs} {c : Prop} {r : List RArg} {ls : List Cs} : coA t A = some (c, l) → c → CoArgs t r ls → CoArgs t (A :: r) (l :: ls)

def okBs : List (Bool × Cs) → Prop
  | [] => True
  | p :: r => (p.1 = true → p.2 = []) ∧ okC p.2 ∧ okBs r

theorem ins_open {t : TypeId} {ρ : Env} {w : World} {B : Nat → Prop} : ∀ {As : List RArg} {ls : List Cs}, CoArgs t As ls → (∀ A ∈ As, ∀ q ∈ A, ArgOK ρ w B q) → ∀ id, ∃ ps : List (Bool × Cs), ps.map (·.2) = ls ∧ okBs ps ∧
    ∃ ρ2 : Env, ∀ ρ' : Env, (∀ i, id ≤ i → i < id + As.length → ρ'.b i = ρ2.b i ∧ ρ'.o i = ρ2.o i ∧ ρ'.c i = ρ2.c i) → (insS id ps).map (Sv.den ρ') = As.map (argV ρ) ∧
      (∀ p ∈ insH t id ps, id ≤ p.1 ∧ p.1 < id + ps.length ∧ p.2.own = false ∧ p.2.named (fun _ => False) ∧ BkOK ρ' w (fun b => w.heap.size ≤ b) p.1 p.2 ∧ ∃ i0 o e n f, ρ'.b p.1 = ρ.b i0 ∧ BkOK ρ w B i0 (.row o e 5 n f)) ∧
      (∀ s ∈ insS id ps, s.all fun a => a.plain ∨ ∃ i k, a.name = some i ∧ lookH (insH t id ps) i = some k)
  | _, _, .nil, _, id => ⟨[], rfl, trivial, ρ0, fun _ _ => ⟨rfl, fun _ h => (by cases h), fun _ h => (by cases h)⟩⟩
  | _, _, .cons (A := A) (l := l) (r := r) (ls := ls) hA hc hr, hall, id => by
    obtain ⟨ps, h1, h2, ρ2, h3⟩ := ins_open hr (fun A hA => hall A (List.mem_cons_of_mem _ hA)) (id + 1)
    have hok := coA_ok hA hc
    rcases coA_open hA hc (hall A List.mem_cons_self) with ⟨rfl, hv⟩ | ⟨i0, ⟨oo, oe, on, of', hbk⟩, hv⟩
    · refine ⟨(true, []) :: ps, by simp [h1], ⟨fun _ => rfl, hok, h2⟩, ρ2, fun ρ' hρ => ?_⟩
      obtain ⟨g1, g2, g3⟩ := h3 ρ' fun i hi hi2 => hρ i (by omega) (by simp only [List.length_cons]; omega)
      refine ⟨?_, fun p hp => ?_, fun s hs => ?_⟩
      · show (Sv.one [.nil]).den ρ' :: (insS (id + 1) ps).map (Sv.den ρ') = _
        rw [g1, List.map_cons, hv]; rfl
      · obtain ⟨k1, k2, k3⟩ := g2 p hp
        exact ⟨by omega, by simp only [List.length_cons]; omega, k3⟩
      · have hs' : s ∈ Sv.one [.nil] :: insS (id + 1) ps := hs
        rcases List.mem_cons.1 hs' with rfl | hs'
        · exact one1 (.inl trivial)
        · exact g3 s hs'
    · refine ⟨(false, l) :: ps, by simp [h1], ⟨(fun h => by cases h), hok, h2⟩, ⟨fun i => if i = id then ρ.b i0 else ρ2.b i, fun i => if i = id then ρ.o i0 else ρ2.o i, fun i => if i = id then ρ.c i0 else ρ2.c i⟩, fun ρ' hρ => ?_⟩
      obtain ⟨g1, g2, g3⟩ := h3 ρ' fun i hi hi2 => by
        have := hρ i (by omega) (by simp only [List.length_cons]; omega)
        simp only [if_neg (show i ≠ id by omega)] at this
        exact this
      obtain ⟨e1, e2, e3⟩ := hρ id (Nat.le_refl _) (by simp only [List.length_cons]; omega)
      simp only [if_true] at e1 e2 e3
      obtain ⟨v1, v2⟩ := hv ρ' id e1 e2 e3
      have hH : insH t id ((false, l) :: ps) = (id, .row false t 5 l.length (rowL l)) :: insH t (id + 1) ps := rfl
      refine ⟨?_, fun p hp => ?_, fun s hs => ?_⟩
      · show (inS false id l).den ρ' :: (insS (id + 1) ps).map (Sv.den ρ') = _
        rw [g1, List.map_cons, v1]
      · rw [hH] at hp
        rcases List.mem_cons.1 hp with rfl | hp
        · exact ⟨Nat.le_refl _, by simp only [List.length_cons]; omega, rfl, trivial, v2, i0, oo, oe, on, of', e1, hbk⟩
        · obtain ⟨k1, k2, k3⟩ := g2 p hp
          exact ⟨by omega, by simp only [List.length_cons]; omega, k3⟩
      · have hs' : s ∈ inS false id l :: insS (id + 1) ps := hs
        rw [hH]
        rcases List.mem_cons.1 hs' with rfl | hs'
        · exact one1 (.inr ⟨id, _, rfl, by rw [lookH, show Nat.beq id id = true from Nat.beq_refl id]; rfl⟩)
        · refine Sv.all_mono ?_ (g3 s hs')
          rintro a (h | ⟨i, k, hi, hk⟩)
          · exact .inl h
          · have := (g2 _ (lookH_mem hk)).1
            have hne : Nat.beq id i = false := by
              cases hb : Nat.beq id i with
              | false => rfl
              | true => have := Nat.eq_of_beq_eq_true hb; omega
            exact .inr ⟨i, k, hi, by
              rw [lookH]
              first
                | (rw [hne]; exact hk)
                | (have hne' : Nat.beq i id = false := by
                     cases hb : Nat.beq i id with
                     | false => rfl
                     | true => have := Nat.eq_of_beq_eq_true hb; omega
                   rw [hne']; exact hk)⟩

/-- coins, then what has no names -/
def CoIn (t : TypeId) (args : List RArg) (ls : List Cs) (pl : List (List Av)) : Prop := ∃ As Ps, args = As ++ Ps ∧ CoArgs t As ls ∧ pl = Ps.map (fun A => A.map (·.1)) ∧ ∀ l ∈ pl, ∀ a ∈ l, a.name = none

theorem in_coins {t : TypeId} {ρ : Env} {w : World} {B : Nat → Prop} {args : List RArg} {ls : List Cs} {pl : List (List Av)} (h : CoIn t args ls pl) (hA : ∀ A ∈ args, ∀ q ∈ A, ArgOK ρ w B q) :
    ∃ ps ρ2, ps.map (·.2) = ls ∧ okBs ps ∧ (∀ l ∈ pl, ∀ a ∈ l, a.plain) ∧ (insS 1000 ps ++ pl.map Sv.one).map (Sv.den ρ2) = args.map (argV ρ) ∧ InOK (base w ρ2) (insS 1000 ps ++ pl.map Sv.one) (insH t 1000 ps) := by
  obtain ⟨As, Ps, rfl, hc, rfl, hn⟩ := h
  obtain ⟨ps, h1, h2, ρ2, h3⟩ := ins_open hc (fun A hA' => hA A (List.mem_append_left _ hA')) 1000
  obtain ⟨g1, g2, g3⟩ := h3 ρ2 fun _ _ _ => ⟨rfl, rfl, rfl⟩
  have hpl : ∀ l ∈ Ps.map (fun A => A.map (·.1)), ∀ a ∈ l, a.plain := by
    intro l hl a ha
    obtain ⟨A, hA', rfl⟩ := List.mem_map.1 hl
    obtain ⟨q, hq, rfl⟩ := List.mem_map.1 ha
    exact (hA A (List.mem_append_right _ hA') q hq).1 (hn _ hl _ ha)
  refine ⟨ps, ρ2, h1, h2, hpl, ?_, ?_⟩
  · rw [List.map_append, List.map_append, g1, List.map_map]
    congr 1
    rw [List.map_map]
    refine List.map_congr_left fun A hA' => ?_
    show denL ρ2 (A.map (·.1)) = denL ρ (A.map (·.1))
    exact denL_congr (dom := fun _ => false) (fun _ h => by cases h) fun a ha => Av.plain_inD (hpl _ (List.mem_map_of_mem hA') a ha) _
  · refine in_reads (fun p hp => ⟨(g2 p hp).2.2.1, (g2 p hp).2.2.2.1, (g2 p hp).2.2.2.2.1⟩) fun s hs => ?_
    rcases List.mem_append.1 hs with hs | hs
    · exact g3 s hs
    · obtain ⟨l, hl, rfl⟩ := List.mem_map.1 hs
      exact fun a ha => .inl (hpl l hl a ha)

/-- a call that takes coins and gives plain values -/
theorem co_dcon {f : FuncId} {fn : Func} {c : Code} (hf : Try.prog.funcs[f]? = some fn) (hb : fn.body = some c) (hcall : ∀ args w, (callFunc f args).run Try.prog w = .ok (.enter f args) w) {tab : List Entry} (ht : TabOK tab) {t : TypeId} {k : DCon} {cls : Nat}
    (h : ∀ args l, k args = some l → ∀ p ∈ l, p.1 → ∃ ls pl, CoIn t args ls pl ∧ ls.length + pl.length ≤ fn.ntmps ∧ ((∀ l ∈ ls, okC l) → (∀ l ∈ pl, ∀ a ∈ l, a.plain) → p.2.all Av.plain ∧ ∀ ps : List (Bool × Cs), ps.map (·.2) = ls → okBs ps →
      ∀ w0, Goes Try.prog fn.ntmps w0 [.code c] .norm (kn (argS 0 (insS 1000 ps ++ pl.map Sv.one)) (insH t 1000 ps)) (Fin (ctx tab fn.ntmps) fn.results.toList fun v _ => v = p.2))) : EOK ⟨f, cls, dcon k⟩ := by
  have okls : ∀ {As : List RArg} {ls : List Cs}, CoArgs t As ls → ∀ l ∈ ls, okC l := by
    intro As ls hh
    induction hh with
    | nil => intro l hl; cases hl
    | cons h1 h2 _ ih =>
      intro l hl
      rcases List.mem_cons.1 hl with rfl | hl
      · exact coA_ok h1 h2
      · exact ih l hl
  have slen : ∀ (ps : List (Bool × Cs)) id, (insS id ps).length = ps.length := by
    intro ps
    induction ps with
    | nil => intro _; rfl
    | cons p r ih => intro id; simp [insS, ih]
  constructor
  · intro args outs ho hargs i oc hi hc d
    obtain ⟨l, hl, rfl⟩ := Option.map_eq_some_iff.1 ho
    rw [List.getElem?_map] at hi
    obtain ⟨p, hp, rfl⟩ := Option.map_eq_some_iff.1 hi
    obtain ⟨ls, pl, hin, _, h2⟩ := h _ l hl p (List.mem_of_getElem? hp) hc
    obtain ⟨As, Ps, rfl, hca, rfl, hn⟩ := hin
    have hpl : ∀ l ∈ Ps.map (fun A => A.map (·.1)), ∀ a ∈ l, a.plain := by
      intro l hl a ha
      obtain ⟨A, hA', rfl⟩ := List.mem_map.1 hl
      obtain ⟨q, hq, rfl⟩ := List.mem_map.1 ha
      exact (hargs A (List.mem_append_right _ hA') q hq).1 (hn _ hl _ ha)
    have h3 := (h2 (okls hca) hpl).1
    exact ⟨(fun _ h => by cases h), (fun _ h => by cases h), (fun _ _ h => by cases h), Sv.all_mono (fun _ h => .inl h) h3⟩
  · intro args outs ho i oc hi hc ρ w B d hB hargs hd _
    obtain ⟨l, hl, rfl⟩ := Option.map_eq_some_iff.1 ho
    rw [List.getElem?_map] at hi
    obtain ⟨p, hp, rfl⟩ := Option.map_eq_some_iff.1 hi
    obtain ⟨ls, pl, hin, hlen, h2⟩ := h _ l hl p (List.mem_of_getElem? hp) hc
    obtain ⟨ps, ρ2, e1, e2, hpl, e3, e4⟩ := in_coins hin hargs
    have hls : ∀ l ∈ ls, okC l := by
      obtain ⟨As, Ps, _, hca, _⟩ := hin
      exact okls hca
    obtain ⟨hplain, hg⟩ := h2 hls hpl
    refine ⟨hcall _ _, ?_⟩
    have hps : ps.length = ls.length := by rw [← e1]; simp
    have hc2 := calls_of (ctx_ok ht fn.ntmps) hf hb rfl (by rw [List.length_append, slen, List.length_map, hps]; exact hlen) e4 (hg ps e1 e2 _)
    have e3' : (insS 1000 ps ++ pl.map Sv.one).map (Sv.den (base w ρ2).ρ) = args.map (argV ρ) := e3
    rw [e3'] at hc2
    refine hc2.mono ?_
    rintro e w' ⟨v, σ', ρ', a', rfl, rfl, hr, _⟩
    exact ⟨ρ, postBelow (kept_below hr.below), congrArg _ (den_plain hplain ρ ρ')⟩

/-! ## Calls that give coins -/

/-- coins alone, or with something plain behind -/
def mkS (o : Option (List Av)) (v : List Av) : Sv := match o with
  | none => .one v
  | some e => .tup [v, e]

abbrev LCon := List RArg → Option (List (Prop × Cs × Option (List Av)))
def lout (p : Prop × Cs × Option (List Av)) : List Outc :=
  [⟨p.1 ∧ p.2.1.length = 0, fun _ => mkS p.2.2 [.nil], fun _ => .nop⟩, ⟨p.1 ∧ 0 < p.2.1.length, fun d => mkS p.2.2 [.sl d 5 0 p.2.1.length], fun d => .new d (.row true 60 5 p.2.1.length (rowL p.2.1))⟩]
def louts : List (Prop × Cs × Option (List Av)) → List Outc
  | [] => []
  | p :: r => lout p ++ louts r
def lcon (k : LCon) : Con := fun args => (k args).map louts

/-- what a run that gives coins comes to -/
def LFin (l : Cs) (o : Option (List Av)) (v : Sv) (σ : Ms) : Prop := (l.length = 0 ∧ v = mkS o [.nil]) ∨ (0 < l.length ∧ ∃ s g, v = mkS o [.sl s 5 0 l.length] ∧ σ.heap s = some (.row true 60 5 l.length g) ∧ rowC g l.length = rowC (rowL l) l.length)

theorem mkS_plain {o : Option (List Av)} (ho : ∀ e, o = some e → ∀ a ∈ e, a.plain) {v : List Av} {p : Av → Prop} (hp : ∀ a, a.plain → p a) (hv : ∀ a ∈ v, p a) : (mkS o v).all p := by
  cases o with
  | none => exact hv
  | some e =>
    intro m hm
    simp only [List.mem_cons, List.not_mem_nil, or_false] at hm
    rcases hm with rfl | rfl
    · exact hv
    · exact fun a ha => hp a (ho _ rfl a ha)
theorem mkS_den {o : Option (List Av)} (ho : ∀ e, o = some e → ∀ a ∈ e, a.plain) {v v' : List Av} {ρ ρ' : Env} (h : denL ρ v = denL ρ' v') : (mkS o v).den ρ = (mkS o v').den ρ' := by
  cases o with
  | none => exact h
  | some e =>
    have he : denL ρ e = denL ρ' e := denL_congr (dom := fun _ => false) (fun _ h => by cases h) fun a ha => Av.plain_inD (ho e rfl a ha) _
    simp only [mkS, Sv.den, List.map_cons, List.map_nil, h, he]

theorem lcon_ok {f : Nat} (hcall : ∀ args w, (callFunc f args).run Try.prog w = .ok (.enter f args) w) {k : LCon} {cls : Nat}
    (h : ∀ args ls, k args = some ls → (∀ A ∈ args, ∀ p ∈ A, (p.1.name = none → p.1.plain) ∧ ∀ k, p.2 = some k → k.rowsOK ∧ k.loose) → ∀ p ∈ ls, p.1 → okC p.2.1 ∧ (∀ e, p.2.2 = some e → ∀ a ∈ e, a.plain))
    (h2 : ∀ args ls, k args = some ls → ∀ p ∈ ls, p.1 → ∀ ρ w (B : Nat → Prop), (∀ b, w.heap.size ≤ b → B b) → (∀ A ∈ args, ∀ q ∈ A, ArgOK ρ w B q) →
      (okC p.2.1 ∧ (∀ e, p.2.2 = some e → ∀ a ∈ e, a.plain)) ∧
      Calls Try.prog f (args.map (argV ρ)).toArray w fun e w' => (p.2.1.length = 0 ∧ Below w.heap.size w w' ∧ e = .returned ((mkS p.2.2 [.nil]).den ρ)) ∨
        (0 < p.2.1.length ∧ ∃ nt ρc ρ' σ' a' s g, e = .returned ((mkS p.2.2 [.sl s 5 0 p.2.1.length]).den ρ') ∧ Rep nt (base w ρc) ρ' σ' a' w' ∧ σ'.heap s = some (.row true 60 5 p.2.1.length g) ∧ rowC g p.2.1.length = rowC (rowL p.2.1) p.2.1.length)) : EOK ⟨f, cls, lcon k⟩ := by
  have key : ∀ (ls : List (Prop × Cs × Option (List Av))) (i : Nat) oc, (louts ls)[i]? = some oc → ∃ p ∈ ls, oc ∈ lout p := by
    intro ls i oc hi
    have := List.mem_of_getElem? hi
    clear hi
    induction ls with
    | nil => cases this
    | cons p r ih =>
      rcases List.mem_append.1 this with h | h
      · exact ⟨p, List.mem_cons_self, h⟩
      · obtain ⟨q, h1, h2⟩ := ih h
        exact ⟨q, List.mem_cons_of_mem _ h1, h2⟩
  constructor
  · intro args outs ho hargs i oc hi hc d
    obtain ⟨ls, hl, rfl⟩ := Option.map_eq_some_iff.1 ho
    obtain ⟨p, hp, hoc⟩ := key ls i oc hi
    simp only [lout, List.mem_cons, List.not_mem_nil, or_false] at hoc
    rcases hoc with rfl | rfl
    · obtain ⟨h3, h4⟩ := h args ls hl hargs p hp hc.1
      exact ⟨(fun _ h => by cases h), (fun _ h => by cases h), (fun _ _ h => by cases h), mkS_plain h4 (fun _ h => .inl h) fun a ha => by simp only [List.mem_singleton] at ha; subst ha; exact .inl trivial⟩
    · obtain ⟨h3, h4⟩ := h args ls hl hargs p hp hc.1
      refine ⟨(fun d' h => by cases h; rfl), (fun id' h => by cases h), (fun id' k' h => by cases h; exact ⟨rfl, trivial, rowL_OK fun c hc => (h3.2 c hc).2⟩), mkS_plain h4 (fun _ h => .inl h) fun a ha => ?_⟩
      simp only [List.mem_singleton] at ha
      subst ha
      exact .inr (.inl ⟨rfl, rfl, rfl⟩)
  · intro args outs ho i oc hi hc ρ w B d hB hargs hd _
    obtain ⟨ls, hl, rfl⟩ := Option.map_eq_some_iff.1 ho
    obtain ⟨p, hp, hoc⟩ := key ls i oc hi
    refine ⟨hcall _ _, ?_⟩
    simp only [lout, List.mem_cons, List.not_mem_nil, or_false] at hoc
    rcases hoc with rfl | rfl
    · obtain ⟨hc1, hc2⟩ := hc
      obtain ⟨⟨h3, h4⟩, h5⟩ := h2 args ls hl p hp hc1 ρ w B hB hargs
      refine h5.mono ?_
      rintro e w' (⟨_, hb, rfl⟩ | ⟨h0, _⟩)
      · exact ⟨ρ, postBelow hb, rfl⟩
      · omega
    · obtain ⟨hc1, hc2⟩ := hc
      obtain ⟨⟨h3, h4⟩, h5⟩ := h2 args ls hl p hp hc1 ρ w B hB hargs
      refine h5.mono ?_
      rintro e w' (⟨h0, _⟩ | ⟨_, nt, ρc, ρ', σ', a', s, g, rfl, hr, hs, hrow⟩)
      · omega
      · exact ⟨_, fresh_post (d := d) (ρe := ρ) hB hr hs (rowL_OK fun c hc => (h3.2 c hc).2) hrow, congrArg _ (mkS_den h4 (fresh_val (ρe := ρ) hr hs))⟩

/-- a call that takes coins and gives coins -/
theorem co_lcon {f : FuncId} {fn : Func} {c : Code} (hf : Try.prog.funcs[f]? = some fn) (hb : fn.body = some c) (hcall : ∀ args w, (callFunc f args).run Try.prog w = .ok (.enter f args) w) {tab : List Entry} (ht : TabOK tab) {t : TypeId} {k : LCon} {cls : Nat}
    (h : ∀ args l, k args = some l → ∀ p ∈ l, p.1 → ∃ ls pl, CoIn t args ls pl ∧ ls.length + pl.length ≤ fn.ntmps ∧ ((∀ l ∈ ls, okC l) → (∀ l ∈ pl, ∀ a ∈ l, a.plain) → (okC p.2.1 ∧ (∀ e, p.2.2 = some e → ∀ a ∈ e, a.plain)) ∧ ∀ ps : List (Bool × Cs), ps.map (·.2) = ls → okBs ps →
      ∀ w0, Goes Try.prog fn.ntmps w0 [.code c] .norm (kn (argS 0 (insS 1000 ps ++ pl.map Sv.one)) (insH t 1000 ps)) (Fin (ctx tab fn.ntmps) fn.results.toList (LFin p.2.1 p.2.2)))) : EOK ⟨f, cls, lcon k⟩ := by
  have okls : ∀ {As : List RArg} {ls : List Cs}, CoArgs t As ls → ∀ l ∈ ls, okC l := by
    intro As ls hh
    induction hh with
    | nil => intro l hl; cases hl
    | cons h1 h2 _ ih =>
      intro l hl
      rcases List.mem_cons.1 hl with rfl | hl
      · exact coA_ok h1 h2
      · exact ih l hl
  have slen : ∀ (ps : List (Bool × Cs)) id, (insS id ps).length = ps.length := by
    intro ps
    induction ps with
    | nil => intro _; rfl
    | cons p r ih => intro id; simp [insS, ih]
  refine lcon_ok hcall ?_ ?_
  · intro args outs ho hargs p hp hc
    obtain ⟨ls, pl, hin, _, h2⟩ := h _ _ ho p hp hc
    obtain ⟨As, Ps, rfl, hca, rfl, hn⟩ := hin
    have hpl : ∀ l ∈ Ps.map (fun A => A.map (·.1)), ∀ a ∈ l, a.plain := by
      intro l hl a ha
      obtain ⟨A, hA', rfl⟩ := List.mem_map.1 hl
      obtain ⟨q, hq, rfl⟩ := List.mem_map.1 ha
      exact (hargs A (List.mem_append_right _ hA') q hq).1 (hn _ hl _ ha)
    exact (h2 (okls hca) hpl).1
  · intro args outs ho p hp hc ρ w B hB hargs
    obtain ⟨ls, pl, hin, hlen, h2⟩ := h _ _ ho p hp hc
    obtain ⟨ps, ρ2, e1, e2, hpl, e3, e4⟩ := in_coins hin hargs
    have hls : ∀ l ∈ ls, okC l := by
      obtain ⟨As, Ps, _, hca, _⟩ := hin
      exact okls hca
    obtain ⟨hplain, hg⟩ := h2 hls hpl
    refine ⟨hplain, ?_⟩
    have hps : ps.length = ls.length := by rw [← e1]; simp
    have hc2 := calls_of (ctx_ok ht fn.ntmps) hf hb rfl (by rw [List.length_append, slen, List.length_map, hps]; exact hlen) e4 (hg ps e1 e2 _)
    have e3' : (insS 1000 ps ++ pl.map Sv.one).map (Sv.den (base w ρ2).ρ) = args.map (argV ρ) := e3
    rw [e3'] at hc2
    refine hc2.mono ?_
    rintro e w' ⟨v, σ', ρ', a', hfin, rfl, hr, _⟩
    rcases hfin with ⟨h0, rfl⟩ | ⟨h0, s, g, rfl, hs, hrow⟩
    · exact .inl ⟨h0, kept_below hr.below, congrArg _ (mkS_den hplain.2 rfl)⟩
    · exact .inr ⟨h0, _, _, ρ', σ', a', s, g, rfl, hr, hs, hrow⟩

end M
end Go.Proofs.Ytmjdmhelmgcanaa

/- The lift of laws that take coins. -/
namespace Go.Proofs.Ytmjdmhelmgcanaa
open Go.ChangeShapes Go.WideShapes Go.ChangeAt Go.RowKit

namespace M
/-- a slice of so many elements, each known -/
def OpenS (es : Nat) (W : World) (v : Value) (f : Nat → List Av) (n : Nat) : Prop := (v = .slice none 0 0 ∧ n = 0) ∨ ∃ b off cap, v = .slice (some ⟨b, off, none⟩) n cap ∧ b < W.heap.size ∧ n ≤ cap ∧ cap ≤ maxLen ∧ RowOK es n f ∧ ∀ j u, (rowC f n)[j]? = some u → W.cell? ⟨b, off + j, none⟩ = some u

theorem rowC_get {f : Nat → List Av} {es : Nat} (hes : 0 < es) : ∀ {n : Nat}, (∀ i, i < n → sizeL (f i) = es) → ∀ {j : Nat} {u : Value}, (rowC f n)[j]? = some u → ∃ i r, i < n ∧ r < es ∧ j = i * es + r ∧ (cellsL ρ0 (f i))[r]? = some u
  | 0, _, j, u, h => by simp [rowC] at h
  | n + 1, hs, j, u, h => by
    rw [rowC] at h
    have hl : (rowC f n).length = n * es := rowC_length fun i hi => hs i (by omega)
    by_cases hj : j < n * es
    · rw [List.getElem?_append_left (by omega)] at h
      obtain ⟨i, r, h1, h2, h3, h4⟩ := rowC_get hes (fun i hi => hs i (by omega)) h
      exact ⟨i, r, by omega, h2, h3, h4⟩
    · rw [List.getElem?_append_right (by omega), hl] at h
      have hlt := (List.getElem?_eq_some_iff.1 h).1
      rw [cellsL_length, hs n (by omega)] at hlt
      exact ⟨n, j - n * es, by omega, hlt, by omega, h⟩
end M

set_option maxRecDepth 100000 in
/-- a slice of a law's argument, opened: what its elements are is said by the last hypothesis -/
theorem open_slice {H : Type} {enc : TypeId × Value → H} {W : World} {base : Nat} {spare : Nat → Bool} {held : Bool} {r : Reach} {b0 : Nat} {v : Value} {d : DataW H} {ps : List MemPlace} {t e : TypeId} {es : Nat} (hes : 0 < es)
    (ht : Try.prog.underlying t = some (.slice e)) (hce : Try.prog.cellsOf e = es)
    (hval : Value.okWide Try.prog W r b0 t v) (hd : DataW.Trod enc Try.prog W base spare held t v d ps)
    (hel : ∀ n cs x, cs.length = es → DataW.trod enc Try.prog W base spare held n e cs = some x → ∃ l : List M.Av, cs = M.cellsL M.ρ0 l ∧ M.sizeL l = es ∧ ∀ a ∈ l, a.plain) :
    ∃ f n, M.OpenS es W v f n ∧ ∀ i, i < n → ∃ m cs x, cs.length = es ∧ DataW.trod enc Try.prog W base spare held m e cs = some x ∧ cs = M.cellsL M.ρ0 (f i) := by
  obtain ⟨fuel, hf⟩ := hd
  obtain ⟨a, len, cap, rfl⟩ := okWide_slice ht hval
  rcases DataW.trod_slice ht hf with ⟨hcs, _⟩ | ⟨a', len', cap', elems, rest, m, _, hcs, _, _, hle, hmax, hlen, hget, _⟩
  · simp [Value.cells] at hcs
    obtain ⟨rfl, rfl, rfl⟩ := hcs
    exact ⟨fun _ => [], 0, .inl ⟨rfl, rfl⟩, fun i hi => by omega⟩
  · simp [Value.cells] at hcs
    obtain ⟨rfl, rfl, rfl⟩ := hcs
    simp only [Value.okWide, ht, Cell.okWide, Cell.ok] at hval
    obtain ⟨_, _, _, hspot, row, cells, hsh, _⟩ := hval
    obtain ⟨b, off, spot⟩ := a'
    simp only at hspot
    subst hspot
    have hb : b < W.heap.size := by
      simp only [World.shape?] at hsh
      cases hbk : W.heap[b]? with
      | none => rw [hbk] at hsh; simp at hsh
      | some o => exact (Array.getElem?_eq_some_iff.1 hbk).1
    rw [hce] at hget
    have key : ∀ i, i < len → ∃ cs x, cs.length = es ∧ (∀ k, k < es → W.cell? ⟨b, off + i * es + k, none⟩ = cs[k]?) ∧ DataW.trod enc Try.prog W base spare held m e cs = some x := by
      intro i hi
      have h1 := hget i hi
      have h2 : ∃ x, elems[i]? = some x := ⟨_, List.getElem?_eq_getElem (by omega)⟩
      obtain ⟨x, hx⟩ := h2
      rw [hx] at h1
      obtain ⟨cs, h3, h4⟩ := Option.bind_eq_some_iff.1 h1
      obtain ⟨_, h5, h6⟩ := World.cells?_some h3
      refine ⟨cs, x, h5, fun k hk => ?_, h4⟩
      have := h6 k hk
      rw [add_plain, add_plain] at this
      exact this
    have key2 : ∀ i, ∃ l : List M.Av, i < len → M.sizeL l = es ∧ (∀ a ∈ l, a.plain) ∧ ∃ cs x, cs.length = es ∧ DataW.trod enc Try.prog W base spare held m e cs = some x ∧ cs = M.cellsL M.ρ0 l ∧ ∀ k, k < es → W.cell? ⟨b, off + i * es + k, none⟩ = cs[k]? := by
      intro i
      by_cases hi : i < len
      · obtain ⟨cs, x, h1, h2, h3⟩ := key i hi
        obtain ⟨l, h4, h5, h6⟩ := hel m cs x h1 h3
        exact ⟨l, fun _ => ⟨h5, h6, cs, x, h1, h3, h4, h2⟩⟩
      · exact ⟨[], fun h => absurd h hi⟩
    obtain ⟨f, hf2⟩ := Classical.axiomOfChoice key2
    refine ⟨f, len, .inr ⟨b, off, cap, rfl, hb, hle, hmax, ⟨hes, fun i hi => ⟨(hf2 i hi).1, (hf2 i hi).2.1⟩⟩, fun j u hj => ?_⟩, fun i hi => ?_⟩
    · obtain ⟨i, r, h1, h2, rfl, h4⟩ := M.rowC_get hes (fun i hi => (hf2 i hi).1) hj
      obtain ⟨_, _, cs, x, h5, h6, h7, h8⟩ := hf2 i h1
      have := h8 r h2
      rw [h7, h4] at this
      rw [← this, Nat.add_assoc]
    · obtain ⟨_, _, cs, x, h5, h6, h7, h8⟩ := hf2 i hi
      exact ⟨m, cs, x, h5, h6, h7⟩

set_option maxRecDepth 100000 in
/-- a coin's cells, read: or what has a denomination and a number -/
theorem coin_cells {H : Type} {enc : TypeId × Value → H} {W : World} {base : Nat} {spare : Nat → Bool} {held : Bool} {m : Nat} {cs : List Value} {x : DataW H × List MemPlace} {e : TypeId} {f0 f1 : Field}
    (ht : Try.prog.underlying e = some (.struct #[f0, f1])) (h0 : f0.type = 5) (h1 : f1.type = 28) (o0 : f0.offset = 0) (o1 : f1.offset = 1) (hl : cs.length = 5)
    (h : DataW.trod enc Try.prog W base spare held m e cs = some x) : ∃ c : Nat × Nat, (c.1 < 256 ∧ c.2 < TOP) ∧ cs = M.cellsL M.ρ0 (M.cel c) := by
  obtain ⟨y0, y1, n, -, -, g0, g1⟩ := trod_struct2 ht h
  have e5 : Try.prog.cellsOf 5 = 1 := by kernel_rfl
  have e4 : Try.prog.cellsOf 28 = 4 := by kernel_rfl
  rw [h0, o0, e5] at g0
  rw [h1, o1, e4] at g1
  match cs, hl with
  | [c0, c1, c2, c3, c4], _ =>
    simp only [List.drop_zero, List.drop_succ_cons, List.take_succ_cons, List.take_zero] at g0 g1
    obtain ⟨d, ed, -, wd⟩ := DataW.trod_int Try.underlying5 g0
    obtain ⟨n, hn, en⟩ := num_cells g1
    simp only [List.cons.injEq, and_true] at ed
    subst ed
    simp only [Lit.wf, Bool.and_eq_true, decide_eq_true_eq] at wd
    have q1 : IntKind.u8.min = 0 := rfl
    have q2 : IntKind.u8.max = 255 := rfl
    obtain ⟨k, rfl⟩ := Int.eq_ofNat_of_zero_le (by omega : 0 ≤ d)
    refine ⟨(k, n), ⟨by show k < 256; omega, hn⟩, ?_⟩
    rw [en]
    simp [M.cellsL, M.cel, M.Av.cells, M.Av.val, M.words4, limbs]

namespace M
/-- an argument that is coins -/
def OpenC (W : World) (v : Value) (l : Cs) : Prop := (∀ c ∈ l, c.1 < 256 ∧ c.2 < TOP) ∧ OpenS 5 W v (rowL l) l.length

end M

set_option maxRecDepth 100000 in
theorem open_coins {H : Type} {enc : TypeId × Value → H} {W : World} {base : Nat} {spare : Nat → Bool} {held : Bool} {r : Reach} {b0 : Nat} {v : Value} {d : DataW H} {ps : List MemPlace} {t e : TypeId} {f0 f1 : Field}
    (ht : Try.prog.underlying t = some (.slice e)) (hce : Try.prog.cellsOf e = 5) (hte : Try.prog.underlying e = some (.struct #[f0, f1])) (h0 : f0.type = 5) (h1 : f1.type = 28) (o0 : f0.offset = 0) (o1 : f1.offset = 1)
    (hval : Value.okWide Try.prog W r b0 t v) (hd : DataW.Trod enc Try.prog W base spare held t v d ps) : ∃ l : M.Cs, M.OpenC W v l := by
  obtain ⟨f, n, ho, hf⟩ := open_slice (by omega : 0 < 5) ht hce hval hd fun m cs x hl hx => by
    obtain ⟨c, hc, e⟩ := coin_cells hte h0 h1 o0 o1 hl hx
    refine ⟨M.cel c, e, rfl, fun a ha => ?_⟩
    simp only [M.cel, List.mem_cons, List.not_mem_nil, or_false] at ha
    rcases ha with rfl | rfl
    · trivial
    · show c.2 < M.pow64 4
      rw [M.pow64_4]; exact hc.2
  have key : ∀ i, ∃ c : Nat × Nat, i < n → (c.1 < 256 ∧ c.2 < TOP) ∧ M.cellsL M.ρ0 (f i) = M.cellsL M.ρ0 (M.cel c) := by
    intro i
    by_cases hi : i < n
    · obtain ⟨m, cs, x, hl, hx, e⟩ := hf i hi
      obtain ⟨c, hc, e2⟩ := coin_cells hte h0 h1 o0 o1 hl hx
      exact ⟨c, fun _ => ⟨hc, by rw [← e, e2]⟩⟩
    · exact ⟨(0, 0), fun h => absurd h hi⟩
  obtain ⟨g, hg⟩ := Classical.axiomOfChoice key
  have hlen : ((List.range n).map g).length = n := by simp
  have hget : ∀ i, i < n → M.getc ((List.range n).map g) i = g i := fun i hi => by
    rw [M.getc_lt (by rw [hlen]; exact hi)]; simp
  have hok : ∀ c ∈ (List.range n).map g, c.1 < 256 ∧ c.2 < TOP := fun c hc => by
    obtain ⟨i, hi, rfl⟩ := List.mem_map.1 hc
    exact (hg i (List.mem_range.1 hi)).1
  have hrow : M.rowC (M.rowL ((List.range n).map g)) n = M.rowC f n := by
    clear ho hlen
    have : ∀ k, k ≤ n → M.rowC (M.rowL ((List.range n).map g)) k = M.rowC f k := by
      intro k hk
      induction k with
      | zero => rfl
      | succ k ih =>
        rw [M.rowC, M.rowC, ih (by omega), (hg k (by omega)).2]
        simp only [M.rowL, hget k (by omega)]
    exact this n (Nat.le_refl _)
  refine ⟨(List.range n).map g, hok, ?_⟩
  rw [hlen]
  have hRow := M.rowL_OK (l := (List.range n).map g) fun c hc => (hok c hc).2
  rw [hlen] at hRow
  rcases ho with ⟨rfl, rfl⟩ | ⟨b, off, cap, rfl, q1, q2, q3, q4, q5⟩
  · exact .inl ⟨rfl, rfl⟩
  · exact .inr ⟨b, off, cap, rfl, q1, q2, q3, hRow, by rw [hrow]; exact q5⟩

namespace M
/-- the arguments of a law that takes coins, then what has no names -/
inductive OpenAll (W : World) : List Value → List Cs → Prop
  | nil : OpenAll W [] []
  | cons {v : Value} {l : Cs} {vs : List Value} {ls : List Cs} : OpenC W v l → OpenAll W vs ls → OpenAll W (v :: vs) (l :: ls)

def nilBs : List (Bool × Cs) → Prop
  | [] => True
  | p :: r => (p.1 = true → p.2 = []) ∧ (∀ c ∈ p.2, c.1 < 256 ∧ c.2 < TOP) ∧ nilBs r

theorem ins_law {t : TypeId} {W : World} : ∀ {vs : List Value} {ls : List Cs}, OpenAll W vs ls → ∀ id, ∃ ps : List (Bool × Cs), ps.map (·.2) = ls ∧ nilBs ps ∧
    ∃ ρ2 : Env, ∀ ρ' : Env, (∀ i, id ≤ i → ρ'.b i = ρ2.b i ∧ ρ'.o i = ρ2.o i ∧ ρ'.c i = ρ2.c i) → (insS id ps).map (Sv.den ρ') = vs ∧
      (∀ p ∈ insH t id ps, id ≤ p.1 ∧ p.2.own = false ∧ p.2.named (fun _ => False) ∧ BkOK ρ' W (fun b => W.heap.size ≤ b) p.1 p.2) ∧
      (∀ s ∈ insS id ps, s.all fun a => a.plain ∨ ∃ i k, a.name = some i ∧ lookH (insH t id ps) i = some k)
  | _, _, .nil, id => ⟨[], rfl, trivial, ρ0, fun _ _ => ⟨rfl, fun _ h => (by cases h), fun _ h => (by cases h)⟩⟩
  | _, _, .cons (v := v) (l := l) (vs := vs) (ls := ls) hv hr, id => by
    obtain ⟨ps, h1, h2, ρ2, h3⟩ := ins_law (t := t) hr (id + 1)
    obtain ⟨hok, hv⟩ := hv
    rcases hv with ⟨rfl, h0⟩ | ⟨b, off, cap, rfl, q1, q2, q3, q4, q5⟩
    · have hl : l = [] := List.length_eq_zero_iff.1 h0
      subst hl
      refine ⟨(true, []) :: ps, by simp [h1], ⟨fun _ => rfl, hok, h2⟩, ρ2, fun ρ' hρ => ?_⟩
      obtain ⟨g1, g2, g3⟩ := h3 ρ' fun i hi => hρ i (by omega)
      refine ⟨?_, fun p hp => ?_, fun s hs => ?_⟩
      · show (Sv.one [.nil]).den ρ' :: (insS (id + 1) ps).map (Sv.den ρ') = _
        rw [g1]; rfl
      · obtain ⟨k1, k3⟩ := g2 p hp
        exact ⟨by omega, k3⟩
      · have hs' : s ∈ Sv.one [.nil] :: insS (id + 1) ps := hs
        rcases List.mem_cons.1 hs' with rfl | hs'
        · exact one1 (.inl trivial)
        · exact g3 s hs'
    · refine ⟨(false, l) :: ps, by simp [h1], ⟨(fun h => by cases h), hok, h2⟩, ⟨fun i => if i = id then b else ρ2.b i, fun i => if i = id then off else ρ2.o i, fun i => if i = id then cap else ρ2.c i⟩, fun ρ' hρ => ?_⟩
      obtain ⟨g1, g2, g3⟩ := h3 ρ' fun i hi => by
        have := hρ i (by omega)
        simp only [if_neg (show i ≠ id by omega)] at this
        exact this
      obtain ⟨e1, e2, e3⟩ := hρ id (Nat.le_refl _)
      simp only [if_true] at e1 e2 e3
      have hH : insH t id ((false, l) :: ps) = (id, .row false t 5 l.length (rowL l)) :: insH t (id + 1) ps := rfl
      refine ⟨?_, fun p hp => ?_, fun s hs => ?_⟩
      · show (inS false id l).den ρ' :: (insS (id + 1) ps).map (Sv.den ρ') = _
        rw [g1]
        have : (inS false id l).den ρ' = .slice (some ⟨b, off, none⟩) l.length cap := by
          show (Av.sl id 5 0 l.length).val ρ' = _
          simp only [Av.val, e1, e2, e3, Nat.zero_mul, Nat.add_zero, Nat.sub_zero]
        rw [this]
      · rw [hH] at hp
        rcases List.mem_cons.1 hp with rfl | hp
        · exact ⟨Nat.le_refl _, rfl, trivial, q4, by rw [e3]; exact q2, by rw [e3]; exact q3, by rw [e1]; omega, by rw [e1]; exact q1, by rw [e1, e2]; exact q5⟩
        · obtain ⟨k1, k3⟩ := g2 p hp
          exact ⟨by omega, k3⟩
      · have hs' : s ∈ inS false id l :: insS (id + 1) ps := hs
        rw [hH]
        rcases List.mem_cons.1 hs' with rfl | hs'
        · exact one1 (.inr ⟨id, _, rfl, by rw [lookH, show Nat.beq id id = true from Nat.beq_refl id]; rfl⟩)
        · refine Sv.all_mono ?_ (g3 s hs')
          rintro a (h | ⟨i, k, hi, hk⟩)
          · exact .inl h
          · have := (g2 _ (lookH_mem hk)).1
            have hne : Nat.beq id i = false := by
              cases hb : Nat.beq id i with
              | false => rfl
              | true => have := Nat.eq_of_beq_eq_true hb; omega
            exact .inr ⟨i, k, hi, by
              rw [lookH]
              first
                | (rw [hne]; exact hk)
                | (have hne' : Nat.beq i id = false := by
                     cases hb : Nat.beq i id with
                     | false => rfl
                     | true => have := Nat.eq_of_beq_eq_true hb; omega
                   rw [hne']; exact hk)⟩

theorem one_law {ps : List (Bool × Cs)} {l : Cs} (h : ps.map (·.2) = [l]) (hb : nilBs ps) : ∃ b, ps = [(b, l)] ∧ (b = true → l = []) ∧ ∀ c ∈ l, c.1 < 256 ∧ c.2 < TOP := by
  match ps, h with
  | [(b, m)], h =>
    simp only [List.map_cons, List.map_nil, List.cons.injEq, and_true] at h
    subst h
    exact ⟨b, rfl, hb.1, hb.2.1⟩
theorem two_law {ps : List (Bool × Cs)} {l m : Cs} (h : ps.map (·.2) = [l, m]) (hb : nilBs ps) : ∃ b c, ps = [(b, l), (c, m)] ∧ (b = true → l = []) ∧ (c = true → m = []) ∧ (∀ c ∈ l, c.1 < 256 ∧ c.2 < TOP) ∧ ∀ c ∈ m, c.1 < 256 ∧ c.2 < TOP := by
  match ps, h with
  | [(b, l'), (c, m')], h =>
    simp only [List.map_cons, List.map_nil, List.cons.injEq, and_true] at h
    obtain ⟨rfl, rfl⟩ := h
    exact ⟨b, c, rfl, hb.1, hb.2.2.1, hb.2.1, hb.2.2.2.1⟩

set_option maxRecDepth 100000 in
/-- a law's call, out of its run -/
theorem law_calls {f : FuncId} {fn : Func} {c : Code} (hf : Try.prog.funcs[f]? = some fn) (hb : fn.body = some c) {tab : List Entry} (ht : TabOK tab) {t : TypeId} {W : World} {vs : List Value} {ls : List Cs} {pl : List (List Av)}
    (ho : OpenAll W vs ls) (hpl : ∀ l ∈ pl, ∀ a ∈ l, a.plain) (hlen : ls.length + pl.length ≤ fn.ntmps)
    (hg : ∀ ps : List (Bool × Cs), ps.map (·.2) = ls → nilBs ps → ∀ w0, Goes Try.prog fn.ntmps w0 [.code c] .norm (kn (argS 0 (insS 1000 ps ++ pl.map Sv.one)) (insH t 1000 ps)) (Fin (ctx tab fn.ntmps) fn.results.toList fun v _ => v = .one (B true))) :
    Calls Try.prog f (vs ++ pl.map (denL ρ0)).toArray W fun e w' => Below W.heap.size W w' ∧ e = .returned (.bool true) := by
  obtain ⟨ps, e1, e2, ρ2, h3⟩ := ins_law (t := t) ho 1000
  obtain ⟨g1, g2, g3⟩ := h3 ρ2 fun _ _ => ⟨rfl, rfl, rfl⟩
  have slen : ∀ (ps : List (Bool × Cs)) id, (insS id ps).length = ps.length := by
    intro ps
    induction ps with
    | nil => intro _; rfl
    | cons p r ih => intro id; simp [insS, ih]
  have hin : InOK (base W ρ2) (insS 1000 ps ++ pl.map Sv.one) (insH t 1000 ps) := by
    refine in_reads (fun p hp => (g2 p hp).2) fun s hs => ?_
    rcases List.mem_append.1 hs with hs | hs
    · exact g3 s hs
    · obtain ⟨l, hl, rfl⟩ := List.mem_map.1 hs
      exact fun a ha => .inl (hpl l hl a ha)
  have hps : ps.length = ls.length := by rw [← e1]; simp
  have hc2 := calls_of (ctx_ok ht fn.ntmps) hf hb rfl (by rw [List.length_append, slen, List.length_map, hps]; exact hlen) hin (hg ps e1 e2 _)
  have e3 : (insS 1000 ps ++ pl.map Sv.one).map (Sv.den (base W ρ2).ρ) = vs ++ pl.map (denL ρ0) := by
    show (insS 1000 ps ++ pl.map Sv.one).map (Sv.den ρ2) = _
    rw [List.map_append, g1, List.map_map]
    congr 1
    refine List.map_congr_left fun l hl => ?_
    show denL ρ2 l = denL ρ0 l
    exact denL_congr (dom := fun _ => false) (fun _ h => by cases h) fun a ha => Av.plain_inD (hpl _ hl a ha) _
  rw [e3] at hc2
  refine hc2.mono ?_
  rintro e w' ⟨v, σ', ρ', a', rfl, rfl, hr, _⟩
  exact ⟨kept_below hr.below, rfl⟩

end M

set_option maxRecDepth 100000 in
theorem open_u8 {H : Type} {enc : TypeId × Value → H} {W : World} {base : Nat} {spare : Nat → Bool} {held : Bool} {r : Reach} {b0 : Nat} {v : Value} {d : DataW H} {ps : List MemPlace}
    (hval : Value.okWide Try.prog W r b0 5 v) (hd : DataW.Trod enc Try.prog W base spare held 5 v d ps) : ∃ n : Nat, n < 256 ∧ v = .int .u8 n := by
  obtain ⟨n, rfl⟩ := okWide_int Try.underlying5 hval
  obtain ⟨fuel, hf⟩ := hd
  obtain ⟨m, e, -, w⟩ := DataW.trod_int Try.underlying5 hf
  have e' : n = m := by
    have := e
    simp [Value.cells] at this
    exact this
  subst e'
  simp only [Lit.wf, Bool.and_eq_true, decide_eq_true_eq] at w
  have h1 : IntKind.u8.min = 0 := rfl
  have h2 : IntKind.u8.max = 255 := rfl
  obtain ⟨k, rfl⟩ := Int.eq_ofNat_of_zero_le (by omega : 0 ≤ n)
  exact ⟨k, by omega, rfl⟩

end Go.Proofs.Ytmjdmhelmgcanaa
