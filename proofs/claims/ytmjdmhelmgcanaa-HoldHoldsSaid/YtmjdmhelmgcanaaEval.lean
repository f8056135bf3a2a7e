/- An evaluation of straight Go code over numbers of 256 bits, and the proof that what it comes to is what the code does (in whatever order Go leaves open): values. -/
import Derived.Test.YtmjdmhelmgcanaaBase
import Derived.Still
namespace Go.Proofs.Ytmjdmhelmgcanaa
open Go.RowKit

/-- A part of a value: a number of n parts of 64 bits, an integer, .. 'obj': a value that came in, or that a call made, of a kind. -/
inductive At (K : Type) where
  | big (n x : Nat)
  | lit (k : IntKind) (n : Int)
  | int (k : IntKind) (n : Int)
  | bool (b : Bool)
  | ptr (id off : Nat)
  | obj (id : Nat) (k : K)
  | fn (f : Nat)
  | str (s : ByteArray)

/-- A value; several results. -/
inductive SV (K : Type) where
  | one (l : List (At K))
  | tup (l : List (List (At K)))

/-- Which block an own variable is, which value an 'obj' is. -/
structure Env where
  b : Nat → Nat
  v : Nat → Value

def limbs (x : Nat) : Nat → List Value
  | 0 => []
  | n + 1 => limbs x n ++ [.int .u64 (lm x n)]

theorem limbs_length (x n : Nat) : (limbs x n).length = n := by
  induction n with
  | zero => rfl
  | succ n ih => simp [limbs, ih]

variable {K : Type}

def At.size : At K → Nat
  | .big n _ => n
  | _ => 1

def At.val (ρ : Env) : At K → Value
  | .big n x => .agg (limbs x n).toArray
  | .lit k n => .int k n
  | .int k n => .int k n
  | .bool b => .bool b
  | .ptr id off => .pointer (some ⟨ρ.b id, off, none⟩)
  | .obj id _ => ρ.v id
  | .fn f => .func (.func f) #[] #[]
  | .str s => .string s

def At.cells (ρ : Env) : At K → List Value
  | .big n x => limbs x n
  | a => [a.val ρ]

theorem At.cells_length (ρ : Env) (a : At K) : (a.cells ρ).length = a.size := by cases a <;> simp [At.cells, At.size, limbs_length]

def cellsL (ρ : Env) (l : List (At K)) : List Value := l.flatMap (At.cells ρ)
def sizeL : List (At K) → Nat
  | [] => 0
  | a :: l => a.size + sizeL l

theorem cellsL_nil (ρ : Env) : cellsL ρ ([] : List (At K)) = [] := rfl
theorem cellsL_cons (ρ : Env) (a : At K) (l : List (At K)) : cellsL ρ (a :: l) = a.cells ρ ++ cellsL ρ l := by simp [cellsL]
theorem cellsL_append (ρ : Env) (l m : List (At K)) : cellsL ρ (l ++ m) = cellsL ρ l ++ cellsL ρ m := by simp [cellsL]
theorem cellsL_length (ρ : Env) (l : List (At K)) : (cellsL ρ l).length = sizeL l := by
  induction l with
  | nil => rfl
  | cons a l ih => simp [cellsL_cons, sizeL, At.cells_length, ih]

/-- does this list stand for a struct or an array? -/
def isAggL : List (At K) → Bool
  | [.big _ _] => true
  | [_] => false
  | _ => true

def denL (ρ : Env) : List (At K) → Value
  | [.big n x] => .agg (limbs x n).toArray
  | [a] => a.val ρ
  | l => .agg (cellsL ρ l).toArray

def SV.den (ρ : Env) : SV K → Value
  | .one l => denL ρ l
  | .tup l => .tuple (l.map (denL ρ)).toArray

theorem denL_agg (ρ : Env) {l : List (At K)} (h : isAggL l = true) : denL ρ l = .agg (cellsL ρ l).toArray := by
  unfold denL
  split
  · simp [cellsL, At.cells]
  · rename_i a hb
    cases a <;> simp_all [isAggL]
  · rfl

theorem denL_one (ρ : Env) {l : List (At K)} (h : isAggL l = false) : ∃ a, l = [a] ∧ denL ρ l = a.val ρ ∧ cellsL ρ l = [a.val ρ] ∧ a.size = 1 := by
  cases l with
  | nil => simp [isAggL] at h
  | cons a m =>
    cases m with
    | nil =>
      refine ⟨a, rfl, ?_⟩
      cases a <;> simp_all [isAggL, denL, cellsL, At.cells, At.size]
    | cons b m => cases a <;> simp [isAggL] at h

/-- the first n cells, in whole parts -/
def takeC : List (At K) → Nat → Option (List (At K))
  | _, 0 => some []
  | [], _ + 1 => none
  | a :: l, n + 1 => if a.size ≤ n + 1 then (takeC l (n + 1 - a.size)).map (a :: ·) else none
/-- what is behind the first n cells -/
def dropC : List (At K) → Nat → Option (List (At K))
  | l, 0 => some l
  | [], _ + 1 => none
  | a :: l, n + 1 => if a.size ≤ n + 1 then dropC l (n + 1 - a.size) else none

theorem takeC_spec (ρ : Env) : ∀ (l : List (At K)) (n : Nat) (t : List (At K)), takeC l n = some t → ∃ r, cellsL ρ l = cellsL ρ t ++ r ∧ sizeL t = n ∧ ∀ a ∈ t, a ∈ l
  | l, 0, t, h => by
    simp only [takeC, Option.some.injEq] at h
    subst h
    exact ⟨_, rfl, rfl, by simp⟩
  | [], n + 1, t, h => by simp [takeC] at h
  | a :: l, n + 1, t, h => by
    simp only [takeC] at h
    split at h
    · rename_i hle
      obtain ⟨t', ht, rfl⟩ := Option.map_eq_some_iff.1 h
      obtain ⟨r, hr, hs, hm⟩ := takeC_spec ρ l _ t' ht
      refine ⟨r, by rw [cellsL_cons, cellsL_cons, hr, List.append_assoc], by simp only [sizeL]; omega, ?_⟩
      intro b hb
      rcases List.mem_cons.1 hb with rfl | hb
      · exact List.mem_cons_self
      · exact List.mem_cons_of_mem _ (hm b hb)
    · cases h

theorem dropC_spec (ρ : Env) : ∀ (l : List (At K)) (n : Nat) (d : List (At K)), dropC l n = some d → ∃ p, cellsL ρ l = p ++ cellsL ρ d ∧ p.length = n ∧ ∀ a ∈ d, a ∈ l
  | l, 0, d, h => by
    have : l = d := by cases l <;> simpa [dropC] using h
    subst this
    exact ⟨[], rfl, rfl, fun _ h => h⟩
  | [], n + 1, d, h => by simp [dropC] at h
  | a :: l, n + 1, d, h => by
    simp only [dropC] at h
    split at h
    · rename_i hle
      obtain ⟨p, hp, hs, hm⟩ := dropC_spec ρ l _ d h
      refine ⟨a.cells ρ ++ p, by rw [cellsL_cons, hp, List.append_assoc], by simp only [List.length_append, At.cells_length, hs]; omega, fun b hb => List.mem_cons_of_mem _ (hm b hb)⟩
    · cases h

/-- the part of n cells at a place -/
def partC (l : List (At K)) (off n : Nat) : Option (List (At K)) := (dropC l off).bind fun d => takeC d n

theorem partC_spec (ρ : Env) {l t : List (At K)} {off n : Nat} (h : partC l off n = some t) :
    ∃ p r, cellsL ρ l = p ++ (cellsL ρ t ++ r) ∧ p.length = off ∧ sizeL t = n ∧ ∀ a ∈ t, a ∈ l := by
  obtain ⟨d, hd, ht⟩ := Option.bind_eq_some_iff.1 h
  obtain ⟨p, hp, hpl, hm⟩ := dropC_spec ρ l off d hd
  obtain ⟨r, hr, hs, hm'⟩ := takeC_spec ρ d n t ht
  exact ⟨p, r, by rw [hp, hr], hpl, hs, fun a ha => hm a (hm' a ha)⟩

/-- n cells at a place written over -/
def setC (l : List (At K)) (off : Nat) (new : List (At K)) : Option (List (At K)) :=
  (takeC l off).bind fun p => (dropC l off).bind fun m => (dropC m (sizeL new)).bind fun r => some (p ++ (new ++ r))

theorem setC_spec (ρ : Env) {l new l' : List (At K)} {off : Nat} (h : setC l off new = some l') :
    ∃ p m r, cellsL ρ l = p ++ (m ++ r) ∧ cellsL ρ l' = p ++ (cellsL ρ new ++ r) ∧ p.length = off ∧ m.length = sizeL new ∧ ∀ a ∈ l', a ∈ l ∨ a ∈ new := by
  obtain ⟨p, hp, h⟩ := Option.bind_eq_some_iff.1 h
  obtain ⟨m, hm, h⟩ := Option.bind_eq_some_iff.1 h
  obtain ⟨r, hr, h⟩ := Option.bind_eq_some_iff.1 h
  simp only [Option.some.injEq] at h
  subst h
  obtain ⟨r1, h1, s1, m1⟩ := takeC_spec ρ _ _ _ hp
  obtain ⟨p2, h2, l2, m2⟩ := dropC_spec ρ _ _ _ hm
  obtain ⟨p3, h3, l3, m3⟩ := dropC_spec ρ _ _ _ hr
  have hp2 : p2 = cellsL ρ p := by
    have h4 : (cellsL ρ l).take off = cellsL ρ p := by
      rw [h1, List.take_append_of_le_length (by rw [cellsL_length]; omega), List.take_of_length_le (by rw [cellsL_length]; omega)]
    rw [← h4, h2, List.take_append_of_le_length (by omega), List.take_of_length_le (by omega)]
  refine ⟨cellsL ρ p, p3, cellsL ρ r, by rw [h2, hp2, h3], by rw [cellsL_append, cellsL_append], by rw [cellsL_length]; omega, l3, ?_⟩
  intro a ha
  rcases List.mem_append.1 ha with ha | ha
  · exact .inl (m1 a ha)
  · rcases List.mem_append.1 ha with ha | ha
    · exact .inr ha
    · exact .inl (m2 a (m3 a ha))

/-- the names of own variables and of things are among these -/
def At.inD (dom : Nat → Bool) : At K → Prop
  | .ptr id _ => dom id = true
  | .obj id _ => dom id = true
  | _ => True

theorem At.cells_congr {ρ ρ' : Env} {dom : Nat → Bool} (hb : ∀ i, dom i = true → ρ'.b i = ρ.b i) (hv : ∀ i, dom i = true → ρ'.v i = ρ.v i) {a : At K} (h : a.inD dom) :
    a.val ρ' = a.val ρ ∧ a.cells ρ' = a.cells ρ := by
  cases a <;> simp_all [At.val, At.cells, At.inD]

theorem cellsL_congr {ρ ρ' : Env} {dom : Nat → Bool} (hb : ∀ i, dom i = true → ρ'.b i = ρ.b i) (hv : ∀ i, dom i = true → ρ'.v i = ρ.v i) {l : List (At K)} (h : ∀ a ∈ l, a.inD dom) :
    cellsL ρ' l = cellsL ρ l := by
  induction l with
  | nil => rfl
  | cons a l ih => rw [cellsL_cons, cellsL_cons, (At.cells_congr hb hv (h a List.mem_cons_self)).2, ih fun b hb' => h b (List.mem_cons_of_mem _ hb')]

theorem denL_congr {ρ ρ' : Env} {dom : Nat → Bool} (hb : ∀ i, dom i = true → ρ'.b i = ρ.b i) (hv : ∀ i, dom i = true → ρ'.v i = ρ.v i) {l : List (At K)} (h : ∀ a ∈ l, a.inD dom) :
    denL ρ' l = denL ρ l := by
  cases ha : isAggL l with
  | true => rw [denL_agg _ ha, denL_agg _ ha, cellsL_congr hb hv h]
  | false =>
    obtain ⟨a, rfl, h1, _, _⟩ := denL_one ρ' ha
    obtain ⟨a', he, h2, _, _⟩ := denL_one ρ ha
    obtain rfl : a = a' := by simpa using he
    rw [h1, h2, (At.cells_congr hb hv (h a List.mem_cons_self)).1]

def SV.all (p : At K → Prop) : SV K → Prop
  | .one l => ∀ a ∈ l, p a
  | .tup l => ∀ m ∈ l, ∀ a ∈ m, p a

theorem SV.den_congr {ρ ρ' : Env} {dom : Nat → Bool} (hb : ∀ i, dom i = true → ρ'.b i = ρ.b i) (hv : ∀ i, dom i = true → ρ'.v i = ρ.v i) {s : SV K} (h : s.all (At.inD dom)) :
    s.den ρ' = s.den ρ := by
  cases s with
  | one l => exact denL_congr hb hv h
  | tup l =>
    simp only [SV.den]
    congr 2
    exact List.map_congr_left fun m hm => denL_congr hb hv (h m hm)

theorem SV.all_mono {p q : At K → Prop} (h : ∀ a, p a → q a) {s : SV K} (hs : s.all p) : s.all q := by
  cases s with
  | one l => exact fun a ha => h a (hs a ha)
  | tup l => exact fun m hm a ha => h a (hs m hm a ha)

end Go.Proofs.Ytmjdmhelmgcanaa
