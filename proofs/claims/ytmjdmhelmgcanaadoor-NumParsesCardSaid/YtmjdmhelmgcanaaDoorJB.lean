/- Joined out of smaller texts: Ma, Mb, Mc, Md, Me, Mf, Mg, Mh. -/
import Derived.Test.YtmjdmhelmgcanaaDoorJA
import Derived.Still
import Derived.Below
import Derived.Laws.AppendOwn
import Derived.Laws.MakeOwn
import Derived.Laws.Append
import Derived.Laws.Strings
import Derived.Laws.Concat
/- A machine that evaluates code over numbers, rows and variables by names, and the proof that what it comes to is what the code does: values. -/
namespace Go.Proofs.YtmjdmhelmgcanaaDoor
open Go.RowKit

def words (x : Nat) : Nat → List Value
  | 0 => []
  | n + 1 => words x n ++ [.int .u64 (lm x n)]
theorem words_length (x n : Nat) : (words x n).length = n := by
  induction n with
  | zero => rfl
  | succ n ih => simp [words, ih]
theorem words_get (x : Nat) {n i : Nat} (h : i < n) : (words x n)[i]? = some (.int .u64 (lm x i)) := by
  induction n with
  | zero => omega
  | succ n ih =>
    rcases Nat.lt_or_eq_of_le (Nat.le_of_lt_succ h) with h1 | h1
    · rw [words, List.getElem?_append_left (by rw [words_length]; exact h1), ih h1]
    · subst h1
      rw [words, List.getElem?_append_right (by rw [words_length]; exact Nat.le_refl _), words_length, Nat.sub_self]
      rfl

namespace M

/-- A part of a value. big: n words of x. vec: n numbers of m words. ptr: a cell of a variable; pw: its i-th word behind a cell; pv: the i-th number of m words behind a cell; pe: a cell of a row's element; sl: a slice of a row; as: a slice of parts. -/
inductive Av where
  | big (n x : Nat)
  | vec (m n : Nat) (f : Nat → Nat)
  | lit (k : IntKind) (n : Int)
  | int (k : IntKind) (n : Int)
  | bool (b : Bool)
  | str (s : ByteArray)
  | fn (f : Nat)
  | nilf
  | nil
  | clo (f id : Nat)
  | ptr (id off : Nat)
  | pw (id off i : Nat)
  | pv (id off m i : Nat)
  | pe (id es i k : Nat)
  | sl (id es off n : Nat)
  | as (id n : Nat)

/-- A value; several results; nothing known. -/
inductive Sv where
  | one (l : List Av)
  | tup (l : List (List Av))
  | any

/-- Which block a name is, where a row begins in it, how many elements there is room for. -/
structure Env where
  b : Nat → Nat
  o : Nat → Nat
  c : Nat → Nat

def vecs (m : Nat) (f : Nat → Nat) : Nat → List Value
  | 0 => []
  | n + 1 => vecs m f n ++ words (f n) m
theorem vecs_length (m : Nat) (f : Nat → Nat) (n : Nat) : (vecs m f n).length = m * n := by
  induction n with
  | zero => rfl
  | succ n ih => simp [vecs, ih, words_length, Nat.mul_succ]

def Av.size : Av → Nat
  | .big n _ => n
  | .vec m n _ => m * n
  | _ => 1

def Av.val (ρ : Env) : Av → Value
  | .big n x => .agg (words x n).toArray
  | .vec m n f => .agg (vecs m f n).toArray
  | .lit k n => .int k n
  | .int k n => .int k n
  | .bool b => .bool b
  | .str s => .string s
  | .fn f => .func (.func f) #[] #[]
  | .nilf => .nilFunc
  | .nil => .slice none 0 0
  | .clo f id => .func (.func f) #[] #[.pointer (some ⟨ρ.b id, 0, none⟩)]
  | .ptr id off => .pointer (some ⟨ρ.b id, off, none⟩)
  | .pw id off i => .pointer (some ⟨ρ.b id, off + i, none⟩)
  | .pv id off m i => .pointer (some ⟨ρ.b id, off + i * m, none⟩)
  | .pe id es i k => .pointer (some ⟨ρ.b id, ρ.o id + i * es + k, none⟩)
  | .sl id es off n => .slice (some ⟨ρ.b id, ρ.o id + off * es, none⟩) n (ρ.c id - off)
  | .as id n => .slice (some ⟨ρ.b id, 0, none⟩) n (ρ.c id)

def Av.cells (ρ : Env) : Av → List Value
  | .big n x => words x n
  | .vec m n f => vecs m f n
  | a => [a.val ρ]

def Av.agg : Av → Bool
  | .big _ _ => true
  | .vec _ _ _ => true
  | _ => false

theorem Av.cells_length (ρ : Env) (a : Av) : (a.cells ρ).length = a.size := by
  cases a <;> simp [Av.cells, Av.size, words_length, vecs_length]
theorem Av.size_one {a : Av} (h : a.agg = false) (ρ : Env) : a.size = 1 ∧ a.cells ρ = [a.val ρ] := by
  cases a <;> simp_all [Av.agg, Av.size, Av.cells]
theorem Av.val_agg {a : Av} (h : a.agg = true) (ρ : Env) : a.val ρ = .agg (a.cells ρ).toArray := by
  cases a <;> simp_all [Av.agg, Av.val, Av.cells]

def cellsL (ρ : Env) (l : List Av) : List Value := l.flatMap (Av.cells ρ)
def sizeL : List Av → Nat
  | [] => 0
  | a :: l => a.size + sizeL l

theorem cellsL_nil (ρ : Env) : cellsL ρ [] = [] := rfl
theorem cellsL_cons (ρ : Env) (a : Av) (l : List Av) : cellsL ρ (a :: l) = a.cells ρ ++ cellsL ρ l := by simp [cellsL]
theorem cellsL_append (ρ : Env) (l m : List Av) : cellsL ρ (l ++ m) = cellsL ρ l ++ cellsL ρ m := by simp [cellsL]
theorem cellsL_length (ρ : Env) (l : List Av) : (cellsL ρ l).length = sizeL l := by
  induction l with
  | nil => rfl
  | cons a l ih => simp [cellsL_cons, sizeL, Av.cells_length, ih]

/-- does this list stand for a struct or an array? -/
def isAggL : List Av → Bool
  | [a] => a.agg
  | _ => true

def denL (ρ : Env) : List Av → Value
  | [a] => a.val ρ
  | l => .agg (cellsL ρ l).toArray

def Sv.den (ρ : Env) : Sv → Value
  | .one l => denL ρ l
  | .tup l => .tuple (l.map (denL ρ)).toArray
  | .any => undef

theorem denL_agg (ρ : Env) {l : List Av} (h : isAggL l = true) : denL ρ l = .agg (cellsL ρ l).toArray := by
  cases l with
  | nil => rfl
  | cons a m =>
    cases m with
    | nil =>
      simp only [denL, cellsL_cons, cellsL_nil, List.append_nil]
      exact Av.val_agg h ρ
    | cons b m => rfl

theorem denL_one (ρ : Env) {l : List Av} (h : isAggL l = false) : ∃ a, l = [a] ∧ denL ρ l = a.val ρ ∧ cellsL ρ l = [a.val ρ] ∧ a.size = 1 ∧ a.agg = false := by
  cases l with
  | nil => simp [isAggL] at h
  | cons a m =>
    cases m with
    | nil =>
      have := Av.size_one (a := a) h ρ
      exact ⟨a, rfl, rfl, by simp [cellsL_cons, cellsL_nil, this.2], this.1, h⟩
    | cons b m => simp [isAggL] at h

/-- the first n cells, in whole parts -/
def takeC : List Av → Nat → Option (List Av)
  | _, 0 => some []
  | [], _ + 1 => none
  | a :: l, n + 1 => bif Nat.ble a.size (n + 1) then (takeC l (n + 1 - a.size)).map (a :: ·) else none
/-- what is behind the first n cells -/
def dropC : List Av → Nat → Option (List Av)
  | l, 0 => some l
  | [], _ + 1 => none
  | a :: l, n + 1 => bif Nat.ble a.size (n + 1) then dropC l (n + 1 - a.size) else none

theorem takeC_spec (ρ : Env) : ∀ (l : List Av) (n : Nat) (t : List Av), takeC l n = some t → ∃ r, cellsL ρ l = cellsL ρ t ++ r ∧ sizeL t = n ∧ ∀ a ∈ t, a ∈ l
  | l, 0, t, h => by
    simp only [takeC, Option.some.injEq] at h
    subst h
    exact ⟨_, rfl, rfl, by simp⟩
  | [], n + 1, t, h => by simp [takeC] at h
  | a :: l, n + 1, t, h => by
    simp only [takeC] at h
    cases hb : Nat.ble a.size (n + 1) with
    | false => rw [hb] at h; cases h
    | true =>
      have hle := Nat.le_of_ble_eq_true hb
      rw [hb] at h
      obtain ⟨t', ht, rfl⟩ := Option.map_eq_some_iff.1 ((cond_true _ _).symm.trans h)
      obtain ⟨r, hr, hs, hm⟩ := takeC_spec ρ l _ t' ht
      refine ⟨r, by rw [cellsL_cons, cellsL_cons, hr, List.append_assoc], by simp only [sizeL]; omega, ?_⟩
      intro b hb
      rcases List.mem_cons.1 hb with rfl | hb
      · exact List.mem_cons_self
      · exact List.mem_cons_of_mem _ (hm b hb)

theorem dropC_spec (ρ : Env) : ∀ (l : List Av) (n : Nat) (d : List Av), dropC l n = some d → ∃ p, cellsL ρ l = p ++ cellsL ρ d ∧ p.length = n ∧ ∀ a ∈ d, a ∈ l
  | l, 0, d, h => by
    have : l = d := by cases l <;> simpa [dropC] using h
    subst this
    exact ⟨[], rfl, rfl, fun _ h => h⟩
  | [], n + 1, d, h => by simp [dropC] at h
  | a :: l, n + 1, d, h => by
    simp only [dropC] at h
    cases hb : Nat.ble a.size (n + 1) with
    | false => rw [hb] at h; cases h
    | true =>
      have hle := Nat.le_of_ble_eq_true hb
      rw [hb] at h
      obtain ⟨p, hp, hs, hm⟩ := dropC_spec ρ l _ d ((cond_true _ _).symm.trans h)
      exact ⟨a.cells ρ ++ p, by rw [cellsL_cons, hp, List.append_assoc], by simp only [List.length_append, Av.cells_length, hs]; omega, fun b hb => List.mem_cons_of_mem _ (hm b hb)⟩

/-- the part of n cells at a place -/
def partC (l : List Av) (off n : Nat) : Option (List Av) := (dropC l off).bind fun d => takeC d n

theorem partC_spec (ρ : Env) {l t : List Av} {off n : Nat} (h : partC l off n = some t) :
    ∃ p r, cellsL ρ l = p ++ (cellsL ρ t ++ r) ∧ p.length = off ∧ sizeL t = n ∧ ∀ a ∈ t, a ∈ l := by
  obtain ⟨d, hd, ht⟩ := Option.bind_eq_some_iff.1 h
  obtain ⟨p, hp, hpl, hm⟩ := dropC_spec ρ l off d hd
  obtain ⟨r, hr, hs, hm'⟩ := takeC_spec ρ d n t ht
  exact ⟨p, r, by rw [hp, hr], hpl, hs, fun a ha => hm a (hm' a ha)⟩

/-- n cells at a place written over -/
def setC (l : List Av) (off : Nat) (new : List Av) : Option (List Av) :=
  (takeC l off).bind fun p => (dropC l off).bind fun m => (dropC m (sizeL new)).bind fun r => some (p ++ (new ++ r))

theorem setC_spec (ρ : Env) {l new l' : List Av} {off : Nat} (h : setC l off new = some l') :
    ∃ p m r, cellsL ρ l = p ++ (m ++ r) ∧ cellsL ρ l' = p ++ (cellsL ρ new ++ r) ∧ p.length = off ∧ m.length = sizeL new ∧ ∀ a ∈ l', a ∈ l ∨ a ∈ new := by
  obtain ⟨p, hp, h⟩ := Option.bind_eq_some_iff.1 h
  obtain ⟨m, hm, h⟩ := Option.bind_eq_some_iff.1 h
  obtain ⟨r, hr, h⟩ := Option.bind_eq_some_iff.1 h
  simp only [Option.some.injEq] at h
  subst h
  obtain ⟨r1, h1, s1, m1⟩ := takeC_spec ρ _ _ _ hp
  obtain ⟨p2, h2, l2, m2⟩ := dropC_spec ρ _ _ _ hm
  obtain ⟨p3, h3, l3, m3⟩ := dropC_spec ρ _ _ _ hr
  have hp2 : p2 = cellsL ρ p := by
    have h4 : (cellsL ρ l).take off = cellsL ρ p := by
      rw [h1, List.take_append_of_le_length (by rw [cellsL_length]; omega), List.take_of_length_le (by rw [cellsL_length]; omega)]
    rw [← h4, h2, List.take_append_of_le_length (by omega), List.take_of_length_le (by omega)]
  refine ⟨cellsL ρ p, p3, cellsL ρ r, by rw [h2, hp2, h3], by rw [cellsL_append, cellsL_append], by rw [cellsL_length]; omega, l3, ?_⟩
  intro a ha
  rcases List.mem_append.1 ha with ha | ha
  · exact .inl (m1 a ha)
  · rcases List.mem_append.1 ha with ha | ha
    · exact .inr ha
    · exact .inl (m2 a (m3 a ha))

/-- the name in a part -/
def Av.name : Av → Option Nat
  | .clo _ id => some id
  | .ptr id _ => some id
  | .pw id _ _ => some id
  | .pv id _ _ _ => some id
  | .pe id _ _ _ => some id
  | .sl id _ _ _ => some id
  | .as id _ => some id
  | _ => none
def Av.inD (dom : Nat → Bool) (a : Av) : Prop := ∀ id, a.name = some id → dom id = true

/-- two surroundings that agree -/
def Agree (dom : Nat → Bool) (ρ ρ' : Env) : Prop := ∀ i, dom i = true → ρ'.b i = ρ.b i ∧ ρ'.o i = ρ.o i ∧ ρ'.c i = ρ.c i

theorem Av.val_congr {ρ ρ' : Env} {dom : Nat → Bool} (h : Agree dom ρ ρ') {a : Av} (ha : a.inD dom) : a.val ρ' = a.val ρ := by
  cases a <;> simp only [Av.val]
  all_goals
    rename_i id _ <;> try (have := h _ (ha _ rfl); simp only [this])
  all_goals rename_i id _ _ <;> try (have := h _ (ha _ rfl); simp only [this])
  all_goals rename_i id _ _ _ <;> try (have := h _ (ha _ rfl); simp only [this])
theorem Av.cells_congr {ρ ρ' : Env} {dom : Nat → Bool} (h : Agree dom ρ ρ') {a : Av} (ha : a.inD dom) : a.cells ρ' = a.cells ρ := by
  cases hg : a.agg with
  | true => cases a <;> simp_all [Av.agg, Av.cells]
  | false => rw [(Av.size_one hg ρ').2, (Av.size_one hg ρ).2, Av.val_congr h ha]

theorem cellsL_congr {ρ ρ' : Env} {dom : Nat → Bool} (hb : Agree dom ρ ρ') {l : List Av} (h : ∀ a ∈ l, a.inD dom) : cellsL ρ' l = cellsL ρ l := by
  induction l with
  | nil => rfl
  | cons a l ih => rw [cellsL_cons, cellsL_cons, Av.cells_congr hb (h a List.mem_cons_self), ih fun b hb' => h b (List.mem_cons_of_mem _ hb')]

theorem denL_congr {ρ ρ' : Env} {dom : Nat → Bool} (hb : Agree dom ρ ρ') {l : List Av} (h : ∀ a ∈ l, a.inD dom) : denL ρ' l = denL ρ l := by
  cases ha : isAggL l with
  | true => rw [denL_agg _ ha, denL_agg _ ha, cellsL_congr hb h]
  | false =>
    obtain ⟨a, rfl, h1, _⟩ := denL_one ρ' ha
    obtain ⟨a', he, h2, _⟩ := denL_one ρ ha
    obtain rfl : a = a' := by simpa using he
    rw [h1, h2, Av.val_congr hb (h a List.mem_cons_self)]

def Sv.all (p : Av → Prop) : Sv → Prop
  | .one l => ∀ a ∈ l, p a
  | .tup l => ∀ m ∈ l, ∀ a ∈ m, p a
  | .any => True

theorem Sv.den_congr {ρ ρ' : Env} {dom : Nat → Bool} (hb : Agree dom ρ ρ') {s : Sv} (h : s.all (Av.inD dom)) : s.den ρ' = s.den ρ := by
  cases s with
  | one l => exact denL_congr hb h
  | tup l =>
    simp only [Sv.den]
    congr 2
    exact List.map_congr_left fun m hm => denL_congr hb (h m hm)
  | any => rfl

theorem Sv.all_mono {p q : Av → Prop} (h : ∀ a, p a → q a) {s : Sv} (hs : s.all p) : s.all q := by
  cases s with
  | one l => exact fun a ha => h a (hs a ha)
  | tup l => exact fun m hm a ha => h a (hs m hm a ha)
  | any => trivial

end M
end Go.Proofs.YtmjdmhelmgcanaaDoor

/- A machine that evaluates code: blocks, states, and how a state stands to a frame and a world. -/
namespace Go.Proofs.YtmjdmhelmgcanaaDoor
namespace M
open Go.RowKit

def upd {α : Type} (f : Nat → α) (i : Nat) (x : α) : Nat → α := fun j => bif Nat.beq j i then x else f j
theorem upd_same {α : Type} (f : Nat → α) (i : Nat) (x : α) : upd f i x i = x := by simp [upd]
theorem upd_ne {α : Type} (f : Nat → α) {i j : Nat} (x : α) (h : j ≠ i) : upd f i x j = f j := by
  have h'' : Nat.beq j i = false := by
    cases hb : Nat.beq j i with
    | false => rfl
    | true => exact absurd (Nat.eq_of_beq_eq_true hb) h
  simp only [upd, h'', cond_false]
theorem upd_comm {α : Type} (f : Nat → α) {i j : Nat} (x y : α) (h : i ≠ j) : upd (upd f i x) j y = upd (upd f j y) i x := by
  funext k
  by_cases hi : k = i
  · subst hi; rw [upd_ne _ _ h, upd_same, upd_same]
  · by_cases hj : k = j
    · subst hj; rw [upd_same, upd_ne _ _ hi, upd_same]
    · rw [upd_ne _ _ hj, upd_ne _ _ hi, upd_ne _ _ hi, upd_ne _ _ hj]

def pow64 (n : Nat) : Nat := 18446744073709551616 ^ n
theorem pow64_4 : pow64 4 = TOP := by decide

/-- What a name is: a variable; a row of n elements of so many cells (own ones may be written); nothing any more. -/
inductive Bk where
  | var (l : List Av) (t : TypeId)
  | row (own : Bool) (e : TypeId) (es n : Nat) (f : Nat → List Av)
  | arr (l : List Av) (e : TypeId)
  | sit (s : ByteArray) (p : Nat)
  | dead

def Bk.own : Bk → Bool
  | .var _ _ => true
  | .row o _ _ _ _ => o
  | .arr _ _ => true
  | .sit _ _ => true
  | .dead => false

/-- a part without names -/
def Av.plain : Av → Prop
  | .big n x => x < pow64 n
  | .vec m n f => ∀ i, i < n → f i < pow64 m
  | .lit _ _ => True
  | .int _ _ => True
  | .bool _ => True
  | .str _ => True
  | .fn _ => True
  | .nilf => True
  | .nil => True
  | _ => False

theorem Av.plain_name {a : Av} (h : a.plain) : a.name = none := by cases a <;> simp_all [Av.plain, Av.name]
theorem Av.plain_inD {a : Av} (h : a.plain) (dom : Nat → Bool) : a.inD dom := fun id hid => by rw [Av.plain_name h] at hid; cases hid

def ρ0 : Env := ⟨fun _ => 0, fun _ => 0, fun _ => 0⟩
theorem cells_plain {l : List Av} (h : ∀ a ∈ l, a.plain) (ρ ρ' : Env) : cellsL ρ' l = cellsL ρ l :=
  cellsL_congr (dom := fun _ => false) (fun _ h => by cases h) fun a ha => Av.plain_inD (h a ha) _

/-- the cells of a row -/
def rowC (f : Nat → List Av) : Nat → List Value
  | 0 => []
  | n + 1 => rowC f n ++ cellsL ρ0 (f n)

theorem rowC_length {f : Nat → List Av} {es n : Nat} (h : ∀ i, i < n → sizeL (f i) = es) : (rowC f n).length = n * es := by
  induction n with
  | zero => simp [rowC]
  | succ n ih => simp only [rowC, List.length_append, ih fun i hi => h i (by omega), cellsL_length, h n (by omega), Nat.succ_mul]
theorem rowC_congr {f g : Nat → List Av} {n : Nat} (h : ∀ i, i < n → f i = g i) : rowC f n = rowC g n := by
  induction n with
  | zero => rfl
  | succ n ih => simp only [rowC, ih fun i hi => h i (by omega), h n (by omega)]

theorem rowC_split {f : Nat → List Av} {es n i : Nat} (h : ∀ i, i < n → sizeL (f i) = es) (hi : i < n) :
    ∃ p r, rowC f n = p ++ (cellsL ρ0 (f i) ++ r) ∧ p.length = i * es := by
  induction n with
  | zero => omega
  | succ n ih =>
    rcases Nat.lt_or_eq_of_le (Nat.le_of_lt_succ hi) with h1 | h1
    · obtain ⟨p, r, h2, h3⟩ := ih (fun i hi => h i (by omega)) h1
      exact ⟨p, r ++ cellsL ρ0 (f n), by simp only [rowC, h2, List.append_assoc], h3⟩
    · subst h1
      exact ⟨rowC f i, [], by simp [rowC], rowC_length fun j hj => h j (by omega)⟩

theorem rowC_upd {f : Nat → List Av} {es n i : Nat} {l : List Av} (h : ∀ i, i < n → sizeL (f i) = es) (hi : i < n) :
    ∃ p r, rowC f n = p ++ (cellsL ρ0 (f i) ++ r) ∧ rowC (upd f i l) n = p ++ (cellsL ρ0 l ++ r) ∧ p.length = i * es := by
  induction n with
  | zero => omega
  | succ n ih =>
    rcases Nat.lt_or_eq_of_le (Nat.le_of_lt_succ hi) with h1 | h1
    · obtain ⟨p, r, h2, h3, h4⟩ := ih (fun i hi => h i (by omega)) h1
      exact ⟨p, r ++ cellsL ρ0 (f n), by simp only [rowC, h2, List.append_assoc], by simp only [rowC, h3, upd_ne f l (by omega : n ≠ i), List.append_assoc], h4⟩
    · subst h1
      exact ⟨rowC f i, [], by simp [rowC], by simp only [rowC, upd_same, List.append_nil, rowC_congr (f := upd f i l) (g := f) (n := i) fun j (hj : j < i) => upd_ne f l (by omega)], rowC_length fun j hj => h j (by omega)⟩

theorem rowC_append (f g : Nat → List Av) (n m : Nat) : rowC (fun i => bif Nat.blt i n then f i else g (i - n)) (n + m) = rowC f n ++ rowC g m := by
  have lt : ∀ i, i < n → (bif Nat.blt i n then f i else g (i - n)) = f i := fun i hi => by
    have : Nat.blt i n = true := Nat.ble_eq_true_of_le hi
    rw [this]; rfl
  have ge : ∀ i, (bif Nat.blt (n + i) n then f (n + i) else g (n + i - n)) = g i := fun i => by
    have : Nat.blt (n + i) n = false := by
      cases hb : Nat.blt (n + i) n with
      | false => rfl
      | true => have : n + i + 1 ≤ n := Nat.le_of_ble_eq_true hb; omega
    rw [this, cond_false, Nat.add_sub_cancel_left]
  induction m with
  | zero => simp only [Nat.add_zero, rowC, List.append_nil]; exact rowC_congr fun i hi => lt i hi
  | succ m ih => rw [Nat.add_succ, rowC, ih, ge, rowC, List.append_assoc]

/-- a row's elements are in order -/
def RowOK (es n : Nat) (f : Nat → List Av) : Prop := 0 < es ∧ ∀ i, i < n → sizeL (f i) = es ∧ ∀ a ∈ f i, a.plain

/-- a name stands for what is in memory -/
def BkOK (ρ : Env) (w : World) (B : Nat → Prop) (id : Nat) : Bk → Prop
  | .var l t => B (ρ.b id) ∧ w.heap[ρ.b id]? = some (.cells (cellsL ρ l).toArray t (0, 0))
  | .row true e es n f => RowOK es n f ∧ n ≤ ρ.c id ∧ ρ.c id ≤ maxLen ∧ B (ρ.b id) ∧ ρ.o id = 0 ∧ ∃ cur, w.heap[ρ.b id]? = some (.cells cur e (0, 0)) ∧ cur.size = ρ.c id * es ∧ cur.toList.take (n * es) = rowC f n
  | .row false _ es n f => RowOK es n f ∧ n ≤ ρ.c id ∧ ρ.c id ≤ maxLen ∧ ¬ B (ρ.b id) ∧ ρ.b id < w.heap.size ∧ ∀ j u, (rowC f n)[j]? = some u → w.cell? ⟨ρ.b id, ρ.o id + j, none⟩ = some u
  | .arr l t => sizeL l ≤ ρ.c id ∧ ρ.c id ≤ maxLen ∧ B (ρ.b id) ∧ ∃ cur, w.heap[ρ.b id]? = some (.cells cur t (0, 0)) ∧ cur.size = ρ.c id ∧ cur.toList.take (sizeL l) = cellsL ρ l
  | .sit s p => B (ρ.b id) ∧ w.heap[ρ.b id]? = some (.stringIter s p)
  | .dead => True

def Bk.named (p : Av → Prop) : Bk → Prop
  | .var l _ => ∀ a ∈ l, p a
  | .arr l _ => ∀ a ∈ l, p a
  | _ => True

theorem BkOK.lt {ρ : Env} {w : World} {B : Nat → Prop} {id : Nat} {k : Bk} (h : BkOK ρ w B id k) (ho : k.own = true) : B (ρ.b id) ∧ ρ.b id < w.heap.size := by
  cases k with
  | var l t => exact ⟨h.1, (Array.getElem?_eq_some_iff.1 h.2).1⟩
  | row o e es n f =>
    cases o with
    | false => cases ho
    | true =>
      obtain ⟨_, _, _, h1, _, cur, h2, _⟩ := h
      exact ⟨h1, (Array.getElem?_eq_some_iff.1 h2).1⟩
  | arr l t =>
    obtain ⟨_, _, h1, cur, h2, _⟩ := h
    exact ⟨h1, (Array.getElem?_eq_some_iff.1 h2).1⟩
  | sit s p => exact ⟨h.1, (Array.getElem?_eq_some_iff.1 h.2).1⟩
  | dead => cases ho

theorem BkOK.congr {ρ ρ' : Env} {w w' : World} {B : Nat → Prop} {id : Nat} {k : Bk} {dom : Nat → Bool} (h : BkOK ρ w B id k) (hA : Agree dom ρ ρ') (hd : dom id = true) (hn : k.named (Av.inD dom))
    (hb : k = .dead ∨ w'.heap[ρ.b id]? = w.heap[ρ.b id]?) (hs : w.heap.size ≤ w'.heap.size) : BkOK ρ' w' B id k := by
  rcases hb with rfl | hb
  · trivial
  obtain ⟨e1, e2, e3⟩ := hA id hd
  cases k with
  | var l t => exact ⟨by rw [e1]; exact h.1, by rw [e1, hb, cellsL_congr hA hn]; exact h.2⟩
  | row o e es n f =>
    cases o with
    | true =>
      obtain ⟨h0, hc, hm, h1, h2, cur, h3, h4, h5⟩ := h
      exact ⟨h0, by rw [e3]; exact hc, by rw [e3]; exact hm, by rw [e1]; exact h1, by rw [e2]; exact h2, cur, by rw [e1, hb]; exact h3, by rw [e3]; exact h4, h5⟩
    | false =>
      obtain ⟨h0, hc, hm, h1, h1', h2⟩ := h
      refine ⟨h0, by rw [e3]; exact hc, by rw [e3]; exact hm, by rw [e1]; exact h1, by rw [e1]; omega, fun j u hu => ?_⟩
      rw [e1, e2, World.cell?_of_block (w := w) (a := ⟨ρ.b id, ρ.o id + j, none⟩) hb]
      exact h2 j u hu
  | arr l t =>
    obtain ⟨h0, hm, h1, cur, h2, h3, h4⟩ := h
    exact ⟨by rw [e3]; exact h0, by rw [e3]; exact hm, by rw [e1]; exact h1, cur, by rw [e1, hb]; exact h2, by rw [e3]; exact h3, by rw [cellsL_congr hA hn]; exact h4⟩
  | sit s p => exact ⟨by rw [e1]; exact h.1, by rw [e1, hb]; exact h.2⟩
  | dead => trivial

structure Ms where
  slots : Nat → Sv
  heap : Nat → Option Bk
  dom : Nat → Bool

/-- what is known of a part -/
def AvOK (σ : Ms) (a : Av) : Prop :=
  match a.name with
  | some id => σ.dom id = true ∧ (σ.heap id).isSome = true
  | none => a.plain

theorem AvOK.inD {σ : Ms} {a : Av} (h : AvOK σ a) : a.inD σ.dom := by
  intro id hid
  unfold AvOK at h
  rw [hid] at h
  exact h.1
theorem AvOK.of_plain {σ : Ms} {a : Av} (h : a.plain) : AvOK σ a := by unfold AvOK; rw [Av.plain_name h]; exact h
theorem AvOK.mono {σ σ' : Ms} {a : Av} (h : AvOK σ a) (hd : ∀ i, σ.dom i = true → σ'.dom i = true) (hh : ∀ i, (σ.heap i).isSome = true → (σ'.heap i).isSome = true) : AvOK σ' a := by
  unfold AvOK at *
  cases hn : a.name with
  | none => rw [hn] at h; exact h
  | some id => rw [hn] at h; exact ⟨hd _ h.1, hh _ h.2⟩
theorem AvOK.congr {σ σ' : Ms} {a : Av} (h : AvOK σ a) (hd : σ'.dom = σ.dom) (hh : σ'.heap = σ.heap) : AvOK σ' a := by
  refine h.mono ?_ ?_
  · intro i hi; rw [hd]; exact hi
  · intro i hi; rw [hh]; exact hi

/-- where a call begins, and which blocks it may write -/
structure Base where
  w : World
  F : Nat → Prop
  ρ : Env
  hF : ∀ b, w.heap.size ≤ b → F b

/-- what may not be written is as it was -/
structure Kept (w0 : Base) (w : World) : Prop where
  os : w.os = w0.w.os
  tape : w.tape = w0.w.tape
  output : w.output = w0.w.output
  size : w0.w.heap.size ≤ w.heap.size
  block : ∀ k, k < w0.w.heap.size → ¬ w0.F k → w.heap[k]? = w0.w.heap[k]?

structure Rep (nt : Nat) (w0 : Base) (ρ : Env) (σ : Ms) (a : Act) (w : World) : Prop where
  size : a.tmps.size = nt
  defers : a.defers = []
  slots : ∀ i, i < nt → σ.slots i = .any ∨ a.eval (.tmp i) = (σ.slots i).den ρ
  below : Kept w0 w
  blocks : ∀ id k, σ.heap id = some k → BkOK ρ w w0.F id k
  inj : ∀ i j ki kj, σ.heap i = some ki → σ.heap j = some kj → ki.own = true → kj.own = true → ρ.b i = ρ.b j → i = j
  okS : ∀ i, (σ.slots i).all (AvOK σ)
  okH : ∀ id k, σ.heap id = some k → k.named (AvOK σ)
  hdom : ∀ id, (σ.heap id).isSome = true → σ.dom id = true
  names : ∀ i, 1000 ≤ i → σ.dom i = true ∧ ρ.b i = w0.ρ.b i ∧ ρ.o i = w0.ρ.o i ∧ ρ.c i = w0.ρ.c i

/-- what an operation does to the names -/
inductive Eff where
  | nop
  | res (d : Nat)
  | new (d : Nat) (k : Bk)
  | put (id : Nat) (k : Bk)
  | move (id d : Nat) (k : Bk)

def Eff.app (e : Eff) (σ : Ms) : Ms :=
  match e with
  | .nop => σ
  | .res d => { σ with dom := upd σ.dom d true }
  | .new d k => { σ with heap := upd σ.heap d (some k), dom := upd σ.dom d true }
  | .put id k => { σ with heap := upd σ.heap id (some k) }
  | .move id d k => { σ with heap := upd (upd σ.heap id (some .dead)) d (some k), dom := upd σ.dom d true }

def Eff.newId : Eff → Option Nat
  | .res d => some d
  | .new d _ => some d
  | .move _ d _ => some d
  | _ => none
def Eff.written : Eff → Option Nat
  | .put id _ => some id
  | .move id _ _ => some id
  | _ => none
def Eff.bk : Eff → Option (Nat × Bk)
  | .new d k => some (d, k)
  | .put id k => some (id, k)
  | .move _ d k => some (d, k)
  | _ => none

def Bk.rowsOK : Bk → Prop
  | .row _ _ es n f => RowOK es n f
  | _ => True

/-- the parts of a variable that have no names are plain -/
def Bk.loose (k : Bk) : Prop := k.named fun a => a.name = none → a.plain

/-- it fits the state -/
structure EffWf (σ : Ms) (e : Eff) : Prop where
  new : ∀ d, e.newId = some d → σ.dom d = false
  old : ∀ id, e.written = some id → ∃ k, σ.heap id = some k ∧ k.own = true
  bk : ∀ id k, e.bk = some (id, k) → k.own = true ∧ k.named (AvOK (e.app σ)) ∧ k.rowsOK

/-- it is what has become of the world -/
structure EffPost (ρ ρ' : Env) (w w' : World) (B : Nat → Prop) (e : Eff) : Prop where
  os : w'.os = w.os
  tape : w'.tape = w.tape
  output : w'.output = w.output
  size : w.heap.size ≤ w'.heap.size
  env : ∀ i, e.newId ≠ some i → ρ'.b i = ρ.b i ∧ ρ'.o i = ρ.o i ∧ ρ'.c i = ρ.c i
  same : ∀ b, b < w.heap.size → (∀ id, e.written = some id → b ≠ ρ.b id) → w'.heap[b]? = w.heap[b]?
  bk : ∀ id k, e.bk = some (id, k) → BkOK ρ' w' B id k
  fresh : ∀ d, e.newId = some d → (e.bk).isSome = true → w.heap.size ≤ ρ'.b d ∨ ∃ id, e.written = some id ∧ ρ'.b d = ρ.b id

variable {nt : Nat} {w0 : Base} {w w' : World} {ρ ρ' : Env} {σ σ' : Ms} {a : Act}

theorem Eff.app_slots (e : Eff) (σ : Ms) : (e.app σ).slots = σ.slots := by cases e <;> rfl
theorem Eff.app_dom {e : Eff} {σ : Ms} {i : Nat} (h : σ.dom i = true) : (e.app σ).dom i = true := by
  have key : ∀ d, upd σ.dom d true i = true := fun d => by
    by_cases hid : i = d
    · subst hid; exact upd_same _ _ _
    · rw [upd_ne _ _ hid]; exact h
  cases e <;> first | exact h | exact key _
theorem Eff.app_some {e : Eff} {σ : Ms} {i : Nat} (h : (σ.heap i).isSome = true) : ((e.app σ).heap i).isSome = true := by
  have key : ∀ (hp : Nat → Option Bk) d k, (hp i).isSome = true → (upd hp d (some k) i).isSome = true := fun hp d k h => by
    by_cases hid : i = d
    · subst hid; rw [upd_same]; rfl
    · rw [upd_ne _ _ hid]; exact h
  cases e with
  | nop => exact h
  | res d => exact h
  | new d k => exact key _ _ _ h
  | put id k => exact key _ _ _ h
  | move id d k => exact key _ _ _ (key _ _ _ h)
theorem AvOK.eff {e : Eff} {x : Av} (h : AvOK σ x) : AvOK (e.app σ) x := h.mono (fun _ h => Eff.app_dom h) (fun _ h => Eff.app_some h)

/-- the heap behind it -/
theorem Eff.app_heap {e : Eff} {σ : Ms} {i : Nat} {k : Bk} (h : (e.app σ).heap i = some k) :
    e.bk = some (i, k) ∨ (k = .dead ∧ e.written = some i) ∨ (σ.heap i = some k ∧ e.written ≠ some i) := by
  cases e with
  | nop => exact .inr (.inr ⟨h, by simp [Eff.written]⟩)
  | res d => exact .inr (.inr ⟨h, by simp [Eff.written]⟩)
  | new d k' =>
    have h' : upd σ.heap d (some k') i = some k := h
    by_cases hid : i = d
    · subst hid
      rw [upd_same] at h'
      cases h'
      exact .inl rfl
    · rw [upd_ne _ _ hid] at h'
      exact .inr (.inr ⟨h', by simp [Eff.written]⟩)
  | put id k' =>
    have h' : upd σ.heap id (some k') i = some k := h
    by_cases hid : i = id
    · subst hid
      rw [upd_same] at h'
      cases h'
      exact .inl rfl
    · rw [upd_ne _ _ hid] at h'
      exact .inr (.inr ⟨h', fun e => hid (by cases e; rfl)⟩)
  | move id d k' =>
    have h' : upd (upd σ.heap id (some .dead)) d (some k') i = some k := h
    by_cases hd : i = d
    · subst hd
      rw [upd_same] at h'
      cases h'
      exact .inl rfl
    · rw [upd_ne _ _ hd] at h'
      by_cases hid : i = id
      · subst hid
        rw [upd_same] at h'
        cases h'
        exact .inr (.inl ⟨rfl, rfl⟩)
      · rw [upd_ne _ _ hid] at h'
        exact .inr (.inr ⟨h', fun e => hid (by cases e; rfl)⟩)

theorem Rep.eff (h : Rep nt w0 ρ σ a w) {e : Eff} (hw : EffWf σ e) (hp : EffPost ρ ρ' w w' w0.F e) : Rep nt w0 ρ' (e.app σ) a w' := by
  have hA : Agree σ.dom ρ ρ' := fun i hi => hp.env i fun e' => by have := hw.new i e'; rw [this] at hi; cases hi
  have hlt : ∀ id k, σ.heap id = some k → k.own = true → ρ.b id < w.heap.size := fun id k hk ho => ((h.blocks id k hk).lt ho).2
  have hwB : ∀ id, e.written = some id → w0.F (ρ.b id) := fun id hid => by
    obtain ⟨k, hk, ho⟩ := hw.old id hid
    exact ((h.blocks id k hk).lt ho).1
  refine ⟨h.size, h.defers, ?_, ?_, ?_, ?_, ?_, ?_, ?_, fun i hi => ?_⟩
  rotate_right
  · obtain ⟨h1, h2, h3, h4⟩ := h.names i hi
    obtain ⟨e1, e2, e3⟩ := hA i h1
    exact ⟨Eff.app_dom h1, e1.trans h2, e2.trans h3, e3.trans h4⟩
  · intro i hi
    rw [Eff.app_slots]
    rcases h.slots i hi with h1 | h1
    · exact .inl h1
    · exact .inr (h1.trans (Sv.den_congr hA (Sv.all_mono (fun _ => AvOK.inD) (h.okS i))).symm)
  · refine ⟨hp.os.trans h.below.os, hp.tape.trans h.below.tape, hp.output.trans h.below.output, Nat.le_trans h.below.size hp.size, fun k hk hn => ?_⟩
    rw [hp.same k (Nat.lt_of_lt_of_le hk h.below.size) fun id hid e => hn (by rw [e]; exact hwB id hid)]
    exact h.below.block k hk hn
  · intro id k hk
    rcases Eff.app_heap hk with h1 | ⟨h1, _⟩ | ⟨h1, h2⟩
    · exact hp.bk id k h1
    · subst h1; trivial
    · have hb := h.blocks id k h1
      have hdm := h.hdom id (by rw [h1]; rfl)
      have hnm : k.named (Av.inD σ.dom) := by
        have := h.okH id k h1
        cases k with
        | var l t => exact fun a ha => (this a ha).inD
        | arr l t => exact fun a ha => (this a ha).inD
        | _ => trivial
      refine hb.congr hA hdm hnm ?_ hp.size
      cases k with
      | dead => exact .inl rfl
      | var l t =>
        refine .inr (hp.same _ (hlt id _ h1 rfl) fun id' hid' e' => h2 ?_)
        obtain ⟨k', hk', ho'⟩ := hw.old id' hid'
        rw [hid', h.inj id id' _ k' h1 hk' rfl ho' e']
      | arr l t =>
        refine .inr (hp.same _ (hlt id _ h1 rfl) fun id' hid' e' => h2 ?_)
        obtain ⟨k', hk', ho'⟩ := hw.old id' hid'
        rw [hid', h.inj id id' _ k' h1 hk' rfl ho' e']
      | sit s p =>
        refine .inr (hp.same _ (hlt id _ h1 rfl) fun id' hid' e' => h2 ?_)
        obtain ⟨k', hk', ho'⟩ := hw.old id' hid'
        rw [hid', h.inj id id' _ k' h1 hk' rfl ho' e']
      | row o et es n f =>
        cases o with
        | true =>
          refine .inr (hp.same _ (hlt id _ h1 rfl) fun id' hid' e' => h2 ?_)
          obtain ⟨k', hk', ho'⟩ := hw.old id' hid'
          rw [hid', h.inj id id' _ k' h1 hk' rfl ho' e']
        | false =>
          obtain ⟨_, _, _, hlo, hlo', _⟩ := hb
          exact .inr (hp.same _ hlo' fun id' hid' e' => hlo (by rw [e']; exact hwB id' hid'))
  · intro i j ki kj hi hj oi oj hij
    have old : ∀ i k, σ.heap i = some k → k.own = true → ρ'.b i = ρ.b i ∧ ρ.b i < w.heap.size := fun i k hk ho => ⟨(hA i (h.hdom i (by rw [hk]; rfl))).1, hlt i k hk ho⟩
    -- where an own name comes from
    have src : ∀ i k, (e.app σ).heap i = some k → k.own = true → (∃ k', σ.heap i = some k' ∧ k'.own = true ∧ (e.written ≠ some i ∨ e.newId = none)) ∨ (e.newId = some i ∧ (e.bk).isSome = true) := by
      intro i k hk ho
      rcases Eff.app_heap hk with h1 | ⟨h1, _⟩ | ⟨h1, h2⟩
      · cases e with
        | nop => cases h1
        | res d => cases h1
        | new d k' => simp only [Eff.bk, Option.some.injEq, Prod.mk.injEq] at h1; obtain ⟨rfl, rfl⟩ := h1; exact .inr ⟨rfl, rfl⟩
        | put id k' =>
          simp only [Eff.bk, Option.some.injEq, Prod.mk.injEq] at h1
          obtain ⟨rfl, rfl⟩ := h1
          obtain ⟨k0, hk0, ho0⟩ := hw.old id rfl
          exact .inl ⟨k0, hk0, ho0, .inr rfl⟩
        | move id d k' => simp only [Eff.bk, Option.some.injEq, Prod.mk.injEq] at h1; obtain ⟨rfl, rfl⟩ := h1; exact .inr ⟨rfl, rfl⟩
      · subst h1; cases ho
      · exact .inl ⟨k, h1, ho, .inl h2⟩
    have mix : ∀ i j k', σ.heap i = some k' → k'.own = true → (e.written ≠ some i ∨ e.newId = none) → e.newId = some j → (e.bk).isSome = true → ρ'.b i = ρ'.b j → False := by
      intro i j k' hk' ho' hwr hn hb hij
      obtain ⟨e1, e2⟩ := old i k' hk' ho'
      rcases hp.fresh j hn hb with h1 | ⟨id, h1, h2⟩
      · omega
      · obtain ⟨k0, hk0, ho0⟩ := hw.old id h1
        have : i = id := h.inj i id k' k0 hk' hk0 ho' ho0 (by rw [← e1, hij, h2])
        subst this
        rcases hwr with h3 | h3
        · exact h3 h1
        · rw [h3] at hn; cases hn
    rcases src i ki hi oi with ⟨ki', hi', oi', wi⟩ | ⟨ni, bi⟩
    · rcases src j kj hj oj with ⟨kj', hj', oj', wj⟩ | ⟨nj, bj⟩
      · rw [(old i ki' hi' oi').1, (old j kj' hj' oj').1] at hij
        exact h.inj i j ki' kj' hi' hj' oi' oj' hij
      · exact (mix i j ki' hi' oi' wi nj bj hij).elim
    · rcases src j kj hj oj with ⟨kj', hj', oj', wj⟩ | ⟨nj, bj⟩
      · exact (mix j i kj' hj' oj' wj ni bi hij.symm).elim
      · rw [ni] at nj; exact Option.some.inj nj
  · intro i
    rw [Eff.app_slots]
    exact Sv.all_mono (fun _ hx => hx.eff) (h.okS i)
  · intro id k hk
    rcases Eff.app_heap hk with h1 | ⟨h1, _⟩ | ⟨h1, h2⟩
    · exact (hw.bk id k h1).2.1
    · subst h1; trivial
    · have := h.okH id k h1
      cases k with
      | var l t => exact fun a ha => (this a ha).eff
      | arr l t => exact fun a ha => (this a ha).eff
      | _ => trivial
  · intro id hid
    obtain ⟨k, hk⟩ := Option.isSome_iff_exists.1 hid
    rcases Eff.app_heap hk with h1 | ⟨_, h1⟩ | ⟨h1, h2⟩
    · cases e with
      | nop => cases h1
      | res d => cases h1
      | new d k' => simp only [Eff.bk, Option.some.injEq, Prod.mk.injEq] at h1; obtain ⟨rfl, rfl⟩ := h1; exact upd_same _ _ _
      | put id' k' =>
        simp only [Eff.bk, Option.some.injEq, Prod.mk.injEq] at h1
        obtain ⟨rfl, rfl⟩ := h1
        obtain ⟨k0, hk0, _⟩ := hw.old _ rfl
        exact h.hdom _ (by rw [hk0]; rfl)
      | move id' d k' => simp only [Eff.bk, Option.some.injEq, Prod.mk.injEq] at h1; obtain ⟨rfl, rfl⟩ := h1; exact upd_same _ _ _
    · obtain ⟨k0, hk0, _⟩ := hw.old id h1
      exact Eff.app_dom (h.hdom id (by rw [hk0]; rfl))
    · exact Eff.app_dom (h.hdom id (by rw [h1]; rfl))

/-- all that is known without the world -/
structure Wf (σ : Ms) : Prop where
  okS : ∀ i, (σ.slots i).all (AvOK σ)
  okH : ∀ id k, σ.heap id = some k → k.named (AvOK σ) ∧ k.rowsOK
  hdom : ∀ id, (σ.heap id).isSome = true → σ.dom id = true

theorem Rep.wf (h : Rep nt w0 ρ σ a w) : Wf σ := by
  refine ⟨h.okS, fun id k hk => ⟨h.okH id k hk, ?_⟩, h.hdom⟩
  have := h.blocks id k hk
  cases k with
  | row o e es n f => cases o <;> exact this.1
  | _ => trivial

/-- a slot is written -/
def putS (d : Option Nat) (v : Sv) (σ : Ms) : Ms :=
  match d with
  | some d => { σ with slots := upd σ.slots d v }
  | none => σ

theorem putS_heap (d : Option Nat) (v : Sv) (σ : Ms) : (putS d v σ).heap = σ.heap := by cases d <;> rfl
theorem putS_dom (d : Option Nat) (v : Sv) (σ : Ms) : (putS d v σ).dom = σ.dom := by cases d <;> rfl

def dstIn (nt : Nat) : Option Nat → Prop
  | some d => d < nt
  | none => True

theorem eval_put_same {a : Act} {d : Nat} (v : Value) (h : d < a.tmps.size) : (a.put (some d) v).eval (.tmp d) = v := by
  simp [Act.eval, Act.put, h]
theorem eval_put_ne {a : Act} {d i : Nat} (v : Value) (h : i ≠ d) : (a.put (some d) v).eval (.tmp i) = a.eval (.tmp i) := by
  have h' : d ≠ i := fun e => h e.symm
  simp [Act.eval, Act.put, Array.getElem?_setIfInBounds_ne h']

theorem Rep.put (h : Rep nt w0 ρ σ a w) {d : Option Nat} (hd : dstIn nt d) {v : Sv} (hv : v.all (AvOK σ)) : Rep nt w0 ρ (putS d v σ) (a.put d (v.den ρ)) w := by
  cases d with
  | none => exact h
  | some d =>
    have hd' : d < a.tmps.size := by rw [h.size]; exact hd
    refine ⟨by simp [Act.put, h.size], h.defers, ?_, h.below, h.blocks, h.inj, ?_, ?_, h.hdom, h.names⟩
    · intro i hi
      by_cases hid : i = d
      · subst hid
        rw [eval_put_same _ hd']
        right
        simp only [putS, upd_same]
      · rw [eval_put_ne _ hid]
        simp only [putS]
        rw [upd_ne _ _ hid]
        exact h.slots i hi
    · intro i
      refine Sv.all_mono (p := AvOK σ) (fun a ha => ha.congr (putS_dom _ _ _) (putS_heap _ _ _)) ?_
      by_cases hid : i = d
      · subst hid; simp only [putS, upd_same]; exact hv
      · simp only [putS, upd_ne _ _ hid]; exact h.okS i
    · intro id k hk
      have := h.okH id k hk
      cases k with
      | var l t => exact fun x hx => (this x hx).congr (putS_dom _ _ _) (putS_heap _ _ _)
      | arr l t => exact fun x hx => (this x hx).congr (putS_dom _ _ _) (putS_heap _ _ _)
      | _ => trivial

end M
end Go.Proofs.YtmjdmhelmgcanaaDoor

/- A machine that evaluates code: what an operation comes to. -/
namespace Go.Proofs.YtmjdmhelmgcanaaDoor
namespace M
open Go.RowKit

/-- an argument, with what its name is -/
abbrev RArg := List (Av × Option Bk)

/-- one way in which a call may end: when, with what, and what has become of the names (by the slot that is written) -/
structure Outc where
  c : Prop
  r : Nat → Sv
  e : Nat → Eff

/-- What the machine knows of the program. -/
structure Ctx where
  nt : Nat
  size : TypeId → Option Nat
  agg : TypeId → Bool
  boolT : TypeId → Bool
  strT : TypeId → Bool
  b2s : TypeId → TypeId → Bool
  zero : TypeId → Option (List Av)
  fld : TypeId → Nat → Option (Nat × TypeId)
  build : TypeId → List (Nat × Sv) → Option (List Av)
  eqT : TypeId → List Av → List Av → Option Prop
  conv : TypeId → TypeId → IntKind → Option IntKind
  arr : TypeId → Option (Nat × Nat)
  slc : TypeId → Option (TypeId × Nat × Nat × List Av)
  con : FuncId → List RArg → Option (List Outc)
  cls : FuncId → Nat

/-! ## Words written one by one -/

/-- the number that parts of 64 bits are -/
def lim (f : Nat → Nat) : Nat → Nat
  | 0 => 0
  | k + 1 => lim f k + f k * 18446744073709551616 ^ k
/-- one word of a number written -/
def stw (n x i v : Nat) : Nat := lim (upd (lm x) i v) n

theorem lim_congr {f g : Nat → Nat} {k : Nat} (h : ∀ i, i < k → f i = g i) : lim f k = lim g k := by
  induction k with
  | zero => rfl
  | succ k ih => rw [lim, lim, ih fun i hi => h i (by omega), h k (by omega)]
theorem lim_lt {f : Nat → Nat} {k : Nat} (h : ∀ i, i < k → f i < 18446744073709551616) : lim f k < 18446744073709551616 ^ k := by
  induction k with
  | zero => simp [lim]
  | succ k ih =>
    have h1 := ih fun i hi => h i (by omega)
    have h2 : f k * 18446744073709551616 ^ k ≤ 18446744073709551615 * 18446744073709551616 ^ k := Nat.mul_le_mul_right _ (by have := h k (by omega); omega)
    rw [lim, Nat.pow_succ]; omega
theorem lim_lm (x k : Nat) : lim (lm x) k = x % 18446744073709551616 ^ k := by
  induction k with
  | zero => simp [lim, Nat.mod_one]
  | succ k ih => rw [lim, ih, lm, Nat.pow_succ, Nat.mod_mul, Nat.mul_comm (x / 18446744073709551616 ^ k % 18446744073709551616)]
theorem lm_lim {f : Nat → Nat} {k i : Nat} (h : ∀ i, i < k → f i < 18446744073709551616) (hi : i < k) : lm (lim f k) i = f i := by
  induction k with
  | zero => omega
  | succ k ih =>
    have hlt := lim_lt (k := k) fun j hj => h j (by omega)
    have hp : 0 < 18446744073709551616 ^ k := Nat.pow_pos (by omega)
    rcases Nat.lt_or_eq_of_le (Nat.le_of_lt_succ hi) with h1 | h1
    · rw [← ih (fun j hj => h j (by omega)) h1, lim]
      unfold lm
      obtain ⟨d, hd⟩ : ∃ d, k = i + 1 + d := ⟨k - (i + 1), by omega⟩
      have e : f k * 18446744073709551616 ^ k = 18446744073709551616 ^ i * (18446744073709551616 * (f k * 18446744073709551616 ^ d)) := by
        rw [hd, Nat.pow_add, Nat.pow_add, Nat.pow_one]; ac_rfl
      rw [e, Nat.add_mul_div_left _ _ (Nat.pow_pos (by omega)), Nat.add_mul_mod_self_left]
    · subst h1
      rw [lim]
      unfold lm
      rw [Nat.add_mul_div_right _ _ hp, Nat.div_eq_of_lt hlt, Nat.zero_add, Nat.mod_eq_of_lt (h i (by omega))]
theorem lim_upd (f : Nat → Nat) {k j u : Nat} (hj : j < k) : lim (upd f j u) k + f j * 18446744073709551616 ^ j = lim f k + u * 18446744073709551616 ^ j := by
  induction k with
  | zero => omega
  | succ k ih =>
    rw [lim, lim]
    rcases Nat.lt_or_eq_of_le (Nat.le_of_lt_succ hj) with h1 | h1
    · rw [upd_ne f _ (by omega : k ≠ j)]
      have := ih h1
      omega
    · subst h1
      rw [upd_same, lim_congr (f := upd f j u) (g := f) (k := j) fun i (hi : i < j) => upd_ne f u (by omega)]
      omega

theorem lm_stw {n x i v j : Nat} (hv : v < 18446744073709551616) (hj : j < n) : lm (stw n x i v) j = upd (lm x) i v j :=
  lm_lim (fun k _ => by by_cases h : k = i
                        · subst h; rw [upd_same]; exact hv
                        · rw [upd_ne _ _ h]; exact lm_lt _ _) hj
theorem stw_lt {n x i v : Nat} (hv : v < 18446744073709551616) : stw n x i v < pow64 n :=
  lim_lt fun k _ => by by_cases h : k = i
                       · subst h; rw [upd_same]; exact hv
                       · rw [upd_ne _ _ h]; exact lm_lt _ _
theorem stw_add {n x i v : Nat} (hx : x < pow64 n) (hi : i < n) : stw n x i v + lm x i * 18446744073709551616 ^ i = x + v * 18446744073709551616 ^ i := by
  have h := lim_upd (lm x) (u := v) hi
  have hx' : x < 18446744073709551616 ^ n := hx
  rw [lim_lm, Nat.mod_eq_of_lt hx'] at h
  exact h
theorem words_congr {x y n : Nat} (h : ∀ j, j < n → lm x j = lm y j) : words x n = words y n := by
  induction n with
  | zero => rfl
  | succ n ih => rw [words, words, ih fun j hj => h j (by omega), h n (by omega)]

/-! ## Operands -/

def valsOf (nt : Nat) (slots : Nat → Sv) : Operand → Option Sv
  | .tmp t => bif Nat.blt t nt then (match slots t with
      | .any => none
      | v => some v) else none
  | .const (.int k n) => some (.one [.lit k n])
  | .const (.bool b) => some (.one [.bool b])
  | .const (.string s) => some (.one [.str s])
  | .const (.slice none 0 0) => some (.one [.nil])
  | .const .nilFunc => some (.one [.nilf])
  | .func f => some (.one [.fn f])
  | _ => none

def allVals (nt : Nat) (slots : Nat → Sv) : List Operand → Option (List Sv)
  | [] => some []
  | x :: r => (valsOf nt slots x).bind fun v => (allVals nt slots r).map fun vs => v :: vs

def opsOf : Op → List Operand
  | .move x => [x]
  | .assign x => [x]
  | .pick c x y => [c, x, y]
  | .extract x _ => [x]
  | .binOp _ _ x y _ => [x, y]
  | .unOp _ _ x => [x]
  | .load _ x => [x]
  | .store _ x y => [x, y]
  | .alloc _ => []
  | .box _ x => [x]
  | .fieldAddr _ x _ => [x]
  | .field _ x _ => [x]
  | .indexAddr _ x i => [x, i]
  | .index _ x i => [x, i]
  | .build _ parts => parts.toList.map (·.2)
  | .buildSlice _ _ parts => parts.toList.map (·.2)
  | .makeSlice _ l c => [l, c]
  | .convert _ _ x => [x]
  | .range _ x => [x]
  | .next x _ => [x]
  | .nilCheck x => [x]
  | .makeFunc _ first captured => first.toList ++ captured.toList
  | .call { callee := .value f, args, .. } => f :: args.toList
  | .call { callee := .builtin _, args, .. } => args.toList
  | _ => []

/-! ## Numbers -/

def boolS : Sv → Option Bool
  | .one [.bool b] => some b
  | _ => none
def litS : Sv → Option (IntKind × Int)
  | .one [.lit k n] => some (k, n)
  | _ => none
def intS : Sv → Option (IntKind × Int)
  | .one [.lit k n] => some (k, n)
  | .one [.int k n] => some (k, n)
  | _ => none
def oneS : Sv → Option (List Av)
  | .one l => some l
  | _ => none

/-- in a kind's range -/
def rng : IntKind → Int → Prop
  | .i8, n => -128 ≤ n ∧ n < 128
  | .i16, n => -32768 ≤ n ∧ n < 32768
  | .i32, n => -2147483648 ≤ n ∧ n < 2147483648
  | .i64, n => -9223372036854775808 ≤ n ∧ n < 9223372036854775808
  | .u8, n => 0 ≤ n ∧ n < 256
  | .u16, n => 0 ≤ n ∧ n < 65536
  | .u32, n => 0 ≤ n ∧ n < 4294967296
  | .u64, n => 0 ≤ n ∧ n < 18446744073709551616
def rngB : IntKind → Int → Bool
  | .i8, n => decide (-128 ≤ n ∧ n < 128)
  | .i16, n => decide (-32768 ≤ n ∧ n < 32768)
  | .i32, n => decide (-2147483648 ≤ n ∧ n < 2147483648)
  | .i64, n => decide (-9223372036854775808 ≤ n ∧ n < 9223372036854775808)
  | .u8, n => decide (0 ≤ n ∧ n < 256)
  | .u16, n => decide (0 ≤ n ∧ n < 65536)
  | .u32, n => decide (0 ≤ n ∧ n < 4294967296)
  | .u64, n => decide (0 ≤ n ∧ n < 18446744073709551616)
def bitsB : IntKind → Int
  | .i8 => 8 | .u8 => 8 | .i16 => 16 | .u16 => 16 | .i32 => 32 | .u32 => 32 | .i64 => 64 | .u64 => 64

theorem rng_of_B {k : IntKind} {n : Int} (h : rngB k n = true) : rng k n := by cases k <;> exact of_decide_eq_true (p := _ ∧ _) h
theorem wrap_rng {k : IntKind} {n : Int} (h : rng k n) : k.wrap n = n := by
  cases k <;> simp only [rng] at h <;> simp only [IntKind.wrap, IntKind.bits, IntKind.signed, Bool.true_and, Bool.false_and, Bool.false_eq_true, if_false, ge_iff_le, decide_eq_true_eq, Nat.add_one_sub_one, Int.reducePow] <;> (try split) <;> omega

def pickP (p : Prop) : Nat → Prop × Bool
  | 0 => (p, true)
  | _ => (¬ p, false)
theorem pickP_spec {p : Prop} {k : Nat} (h : (pickP p k).1) : p ↔ (pickP p k).2 = true := by
  cases k with
  | zero => exact ⟨fun _ => rfl, fun _ => h⟩
  | succ k => exact ⟨fun hp => absurd hp h, fun e => by cases e⟩

def cmpP (op : BinOp) (a b : Int) : Option Prop :=
  match op with
  | .eql => some (a = b)
  | .neq => some (a ≠ b)
  | .lss => some (a < b)
  | .leq => some (a ≤ b)
  | .gtr => some (b < a)
  | .geq => some (b ≤ a)
  | _ => none
def litB (op : BinOp) (a b : Int) : Option Bool :=
  match op with
  | .eql => some (decide (a = b))
  | .neq => some (decide (a ≠ b))
  | .lss => some (decide (a < b))
  | .leq => some (decide (a ≤ b))
  | .gtr => some (decide (b < a))
  | .geq => some (decide (b ≤ a))
  | _ => none
def arith (op : BinOp) (a b : Int) : Option Int :=
  match op with
  | .add => some (a + b)
  | .sub => some (a - b)
  | .mul => some (a * b)
  | _ => none

def orN (a b : Nat) : Nat := a ||| b

/-- an operation on two numbers of one kind: lb: the second one, if it is a literal -/
def numR (op : BinOp) (k : IntKind) (a b : Int) (la lb : Bool) (ch : Nat) : Option (Prop × Av) :=
  match arith op a b with
  | some r => bif la && lb then (bif rngB k r then some (True, .lit k r) else none) else (match ch with
      | 0 => some (rng k r, .int k r)
      | _ => some (True, .int k (k.wrap r)))
  | none =>
  match op with
  | .quo => bif lb && decide (0 < b) then some (0 ≤ a ∧ rng k (a / b), .int k (a / b)) else none
  | .rem => bif lb && decide (0 < b) then some (0 ≤ a, .int k (a % b)) else none
  | .and => bif lb && decide (b = 1) && decide (k = .u64) then some (0 ≤ a ∧ a < 18446744073709551616, .int k (a % 2)) else bif lb && decide (b = 4294967295) && decide (k = .u64) then some (0 ≤ a ∧ a < 18446744073709551616, .int k (a % 4294967296)) else none
  | .or => bif decide (k = .u64) then some ((0 ≤ a ∧ a < 18446744073709551616) ∧ 0 ≤ b ∧ b < 18446744073709551616, .int k (orN a.toNat b.toNat : Nat)) else none
  | _ => none

def shiftR (op : BinOp) (k : IntKind) (a b : Int) (lab : Bool) (ch : Nat) : Option (Prop × Av) :=
  match op with
  | .shl => bif lab && decide (0 ≤ a ∧ 0 ≤ b ∧ b < bitsB k) && rngB k ((a.toNat * 2 ^ b.toNat : Nat) : Int) then some (True, .lit k ((a.toNat * 2 ^ b.toNat : Nat) : Int)) else (match ch with
      | 0 => some (0 ≤ a ∧ 0 ≤ b ∧ b < bitsB k ∧ rng k ((a.toNat * 2 ^ b.toNat : Nat) : Int), .int k ((a.toNat * 2 ^ b.toNat : Nat) : Int))
      | _ => some (0 ≤ a ∧ 0 ≤ b ∧ b < bitsB k, .int k (k.wrap ((a.toNat * 2 ^ b.toNat : Nat) : Int))))
  | .shr => bif lab && decide (0 ≤ a ∧ 0 ≤ b ∧ b < bitsB k) then some (True, .lit k ((a.toNat / 2 ^ b.toNat : Nat) : Int)) else (match ch with
      | 0 => some (0 ≤ a ∧ 0 ≤ b ∧ b < bitsB k, .int k ((a.toNat / 2 ^ b.toNat : Nat) : Int))
      | _ => some (0 ≤ a ∧ rng k a ∧ bitsB k ≤ b, .lit k 0))
  | _ => none

def isShift : BinOp → Bool
  | .shl => true
  | .shr => true
  | _ => false

/-- a text -/
def strS : List Av → Option ByteArray
  | [.str s] => some s
  | _ => none
/-- texts joined, and compared -/
def strR (op : BinOp) (a b : ByteArray) (ch : Nat) : Option (Prop × Av) :=
  match op with
  | .add => some (a.size + b.size ≤ 9223372036854775807, .str (a ++ b))
  | .eql => some ((pickP (a = b) ch).1, .bool (pickP (a = b) ch).2)
  | .neq => some ((pickP (a = b) ch).1, .bool (!(pickP (a = b) ch).2))
  | _ => none
/-- one byte -/
def byte1 : List Av → Option Int
  | [.int .u8 v] => some v
  | [.lit .u8 v] => some v
  | _ => none
/-- a byte of a text -/
def byteAt (s : ByteArray) (i : Nat) : Nat := (s.data.toList.getD i 0).toNat

def binR (C : Ctx) (op : BinOp) (t : TypeId) (x y : Sv) (ch : Nat) : Option (Prop × Av) :=
  match boolS x, boolS y with
  | some a, some b => bif C.boolT t then (match op with | .eql => some (True, .bool (a == b)) | .neq => some (True, .bool (!(a == b))) | _ => none) else none
  | _, _ =>
  match intS x, intS y with
  | some (k, a), some (k', b) =>
    bif isShift op then shiftR op k a b ((litS x).isSome && (litS y).isSome) ch else
    bif decide (k = k') then
      (match litB op a b, (litS x).isSome && (litS y).isSome with
      | some r, true => some (True, .bool r)
      | _, _ => match cmpP op a b with
        | some p => some ((pickP p ch).1, .bool (pickP p ch).2)
        | none => numR op k a b (litS x).isSome (litS y).isSome ch) else none
  | _, _ =>
  match oneS x, oneS y with
  | some l, some m => (match strS l, strS m with
    | some a, some b => bif C.strT t then strR op a b ch else none
    | _, _ => (C.eqT t l m).bind fun p => (match op with
      | .eql => some ((pickP p ch).1, .bool (pickP p ch).2)
      | .neq => some ((pickP p ch).1, .bool (!(pickP p ch).2))
      | _ => none))
  | _, _ => none

/-! ## Memory -/

def headBig : Option (List Av) → Option (Nat × Nat)
  | some (.big n x :: _) => some (n, x)
  | _ => none
def headVec : Option (List Av) → Option (Nat × Nat × (Nat → Nat))
  | some (.vec m n f :: _) => some (m, n, f)
  | _ => none

/-- the part of n cells behind a pointer -/
def readP (hp : Nat → Option Bk) (a : Av) (n : Nat) : Option (Prop × List Av) :=
  match a with
  | .ptr id off => (hp id).bind fun k => (match k with
      | .var l _ => (partC l off n).map fun m => (True, m)
      | .arr l _ => (partC l off n).map fun m => (True, m)
      | _ => none)
  | .pw id off i => bif Nat.beq n 1 then (hp id).bind fun k => (match k with
      | .var l _ => (headBig (dropC l off)).map fun q => (i < q.1, [.int .u64 (lm q.2 i : Nat)])
      | _ => none) else none
  | .pv id off m i => bif Nat.beq n m then (hp id).bind fun k => (match k with
      | .var l _ => (headVec (dropC l off)).bind fun q => bif Nat.beq q.1 m then some (i < q.2.1, [.big m (q.2.2 i)]) else none
      | _ => none) else none
  | .pe id es i k0 => (hp id).bind fun k => (match k with
      | .row _ _ es' cnt f => bif Nat.beq es es' then (partC (f i) k0 n).map fun m => (i < cnt, m) else none
      | _ => none)
  | _ => none

def Av.plainB : Av → Bool
  | .clo _ _ => false
  | .ptr _ _ => false
  | .pw _ _ _ => false
  | .pv _ _ _ _ => false
  | .pe _ _ _ _ => false
  | .sl _ _ _ _ => false
  | .as _ _ => false
  | _ => true

def wordS : List Av → Option Int
  | [.int .u64 v] => some v
  | [.lit .u64 v] => some v
  | _ => none
def bigS : List Av → Option (Nat × Nat)
  | [.big m x] => some (m, x)
  | _ => none

/-- a part behind a pointer written over: the name, and what it is then -/
def writeP (hp : Nat → Option Bk) (a : Av) (new : List Av) : Option (Prop × Nat × Bk) :=
  match a with
  | .ptr id off => (hp id).bind fun k => (match k with
      | .var l t => (setC l off new).map fun l' => (True, id, .var l' t)
      | _ => none)
  | .pw id off i => (hp id).bind fun k => (match k with
      | .var l t => (wordS new).bind fun v => (headBig (dropC l off)).bind fun q => (setC l off [.big q.1 (stw q.1 q.2 i v.toNat)]).map fun l' => (i < q.1 ∧ 0 ≤ v ∧ v < 18446744073709551616, id, .var l' t)
      | _ => none)
  | .pv id off m i => (hp id).bind fun k => (match k with
      | .var l t => (bigS new).bind fun v => (headVec (dropC l off)).bind fun q => bif Nat.beq v.1 m && Nat.beq q.1 m then (setC l off [.vec m q.2.1 (upd q.2.2 i v.2)]).map fun l' => (i < q.2.1, id, .var l' t) else none
      | _ => none)
  | .pe id es i k0 => (hp id).bind fun k => (match k with
      | .row true e es' cnt f => bif Nat.beq es es' && new.all Av.plainB then (setC (f i) k0 new).map fun l' => (i < cnt, id, .row true e es cnt (upd f i l')) else none
      | _ => none)
  | _ => none

/-- a sum, no sum if the first is nothing -/
def addO (a b : Nat) : Nat := bif Nat.beq a 0 then b else a + b
theorem addO_eq (a b : Nat) : addO a b = a + b := by
  unfold addO
  cases h : Nat.beq a 0 with
  | true => have := Nat.eq_of_beq_eq_true h; subst this; simp
  | false => rfl

/-- a place by an index -/
def indexP (C : Ctx) (t : TypeId) (a : Av) (i : Int) (l : Bool) : Option (Prop × Av) :=
  match a with
  | .ptr id off => (C.arr t).bind fun q => bif l then (bif decide (0 ≤ i ∧ i < q.1) then some (True, bif Nat.beq q.2 1 then .pw id off i.toNat else .pv id off q.2 i.toNat) else none)
      else some (0 ≤ i ∧ i < q.1, bif Nat.beq q.2 1 then .pw id off i.toNat else .pv id off q.2 i.toNat)
  | .sl id es off n => (C.slc t).bind fun q => bif Nat.beq q.2.1 es then some (0 ≤ i ∧ i < n, .pe id es (addO off i.toNat) 0) else none
  | .as id n => (C.slc t).bind fun q => bif l && Nat.beq q.2.1 1 then some (0 ≤ i ∧ i < n, .ptr id i.toNat) else none
  | _ => none

/-- an element of an array's value -/
def indexV (C : Ctx) (t : TypeId) (a : Av) (i : Int) : Option (Prop × Av) :=
  match a with
  | .big n x => (C.arr t).bind fun q => bif Nat.beq q.1 n && Nat.beq q.2 1 then some (0 ≤ i ∧ i < n, .int .u64 (lm x i.toNat : Nat)) else none
  | .vec m n f => (C.arr t).bind fun q => bif Nat.beq q.1 n && Nat.beq q.2 m && !Nat.beq m 1 then some (0 ≤ i ∧ i < n, .big m (f i.toNat)) else none
  | .str s => bif C.strT t then some (0 ≤ i ∧ i < (s.size : Nat), .int .u8 (byteAt s i.toNat : Nat)) else none
  | _ => none

def fieldP (k : Nat) : Av → Option Av
  | .ptr id off => some (.ptr id (off + k))
  | .pe id es i k0 => some (.pe id es i (k0 + k))
  | _ => none

def isPtr : Av → Bool
  | .ptr _ _ => true
  | .pw _ _ _ => true
  | .pv _ _ _ _ => true
  | .pe _ _ _ _ => true
  | _ => false

/-- parts that are one behind the other, each of so many cells -/
def partsL (es : Nat) : Nat → List (Nat × Operand) → List Sv → Option (List (List Av))
  | _, [], [] => some []
  | k, (i, _) :: ps, .one l :: vs => bif Nat.beq i k && Nat.beq (sizeL l) es then (partsL es (k + 1) ps vs).map fun ls => l :: ls else none
  | _, _, _ => none

def getL (ls : List (List Av)) (i : Nat) : List Av := (ls[i]?).getD []

/-- what an append comes to -/
def appendR (C : Ctx) (t : TypeId) (d : Nat) (hp : Nat → Option Bk) (a b : Av) : Option (Prop × Sv × Eff) :=
  (C.slc t).bind fun q =>
  match a, b with
  | a, .nil => (match a with
      | .nil => some (True, .one [.nil], .nop)
      | .sl id es 0 n => (hp id).bind fun k => (match k with
          | .row true _ _ n1 _ => some (n1 = n, .one [.sl id es 0 n], .nop)
          | _ => none)
      | _ => none)
  | .nil, .sl id2 es off m => bif Nat.beq es q.2.1 then (hp id2).bind fun k => (match k with
      | .row _ _ es' n2 f2 => bif Nat.beq es es' then some (0 < m ∧ off + m ≤ n2 ∧ m * q.2.2.1 ≤ 140737488355328, .one [.sl d es 0 m], .new d (.row true q.1 es m (fun i => f2 (off + i)))) else none
      | _ => none) else none
  | .sl id es 0 n, .sl id2 es2 off m => bif Nat.beq es q.2.1 && Nat.beq es2 q.2.1 && !Nat.beq id id2 then (hp id).bind fun k => (hp id2).bind fun k2 => (match k, k2 with
      | .row true e es1 n1 f, .row _ _ es' n2 f2 => bif Nat.beq e q.1 && Nat.beq es es1 && Nat.beq es2 es' then
          some (n1 = n ∧ 0 < m ∧ off + m ≤ n2 ∧ (n + m) * q.2.2.1 ≤ 140737488355328, .one [.sl d es 0 (n + m)], .move id d (.row true q.1 es (n + m) (fun i => bif Nat.blt i n then f i else f2 (off + (i - n))))) else none
      | _, _ => none) else none
  | .as id n, .as id2 m => bif Nat.beq q.2.1 1 && !Nat.beq id id2 then (hp id).bind fun k => (hp id2).bind fun k2 => (match k, k2 with
      | .arr l e, .arr l2 _ => bif Nat.beq e q.1 && Nat.beq (sizeL l) n && Nat.beq (sizeL l2) m && Nat.blt 0 m then
          some ((n + m) * q.2.2.1 ≤ 140737488355328, .one [.as d (n + m)], .move id d (.arr (l ++ l2) q.1)) else none
      | _, _ => none) else none
  | _, _ => none

def lenR : Av → Option Av
  | .sl _ _ _ n => some (.int .i64 n)
  | .as _ n => some (.int .i64 n)
  | .nil => some (.lit .i64 0)
  | _ => none

def rargs (hp : Nat → Option Bk) : List Sv → Option (List RArg)
  | [] => some []
  | .one l :: r => (rargs hp r).map fun q => (l.map fun a => (a, a.name.bind hp)) :: q
  | _ => none

/-- the callee, and what it has captured -/
def calleeS : Sv → Option (Nat × List Sv)
  | .one [.fn g] => some (g, [])
  | .one [.clo g id] => some (g, [.one [.ptr id 0]])
  | _ => none

def opV (C : Ctx) (ch : Nat) (op : Op) (dst : Option Nat) (fresh : Bool) (hp : Nat → Option Bk) (vs : List Sv) : Option (Prop × Sv × Eff) :=
  match op, vs with
  | .move _, [v] => some (True, v, .nop)
  | .assign _, [v] => some (True, v, .nop)
  | .pick _ _ _, [c, x, y] => (boolS c).map fun b => (True, bif b then x else y, .nop)
  | .extract _ i, [.tup l] => (l[i]?).map fun t => (True, .one t, .nop)
  | .binOp bop t _ _ _, [x, y] => (binR C bop t x y ch).map fun r => (r.1, .one [r.2], .nop)
  | .unOp .not _ _, [x] => (boolS x).map fun b => (True, .one [.bool (!b)], .nop)
  | .unOp .neg _ _, [x] => (intS x).bind fun q => bif (litS x).isSome && rngB q.1 (0 - q.2) then some (True, .one [.lit q.1 (0 - q.2)], .nop) else some (rng q.1 (0 - q.2), .one [.int q.1 (0 - q.2)], .nop)
  | .load t _, [.one [a]] => (C.size t).bind fun n => (readP hp a n).bind fun q => bif isAggL q.2 == C.agg t then some (q.1, .one q.2, .nop) else none
  | .store t _ _, [.one [a], .one new] => (C.size t).bind fun n => bif Nat.beq (sizeL new) n then (writeP hp a new).map fun q => (q.1, .tup [], .put q.2.1 q.2.2) else none
  | .alloc t, [] => dst.bind fun d => bif fresh then (C.zero t).map fun l => (True, .one [.ptr d 0], .new d (.var l t)) else none
  | .box t _, [.one l] => dst.bind fun d => bif fresh then some (True, .one [.ptr d 0], .new d (.var l t)) else none
  | .fieldAddr s _ f, [.one [a]] => (C.fld s f).bind fun q => (fieldP q.1 a).map fun b => (True, .one [b], .nop)
  | .field s _ f, [.one l] => (C.fld s f).bind fun q => (C.size q.2).bind fun n => (partC l q.1 n).bind fun m => bif isAggL l && (isAggL m == C.agg q.2) then some (True, .one m, .nop) else none
  | .indexAddr t _ _, [.one [a], i] => (intS i).bind fun q => (indexP C t a q.2 (litS i).isSome).map fun r => (r.1, .one [r.2], .nop)
  | .index t _ _, [.one [a], i] => (intS i).bind fun q => (indexV C t a q.2).map fun r => (r.1, .one [r.2], .nop)
  | .build t parts, vs => (C.build t ((parts.toList.map (·.1)).zip vs)).map fun l => (True, .one l, .nop)
  | .buildSlice t len parts, vs => dst.bind fun d => bif fresh then (C.slc t).bind fun q => (partsL q.2.1 0 parts.toList vs).bind fun ls => bif Nat.beq ls.length len && Nat.blt 0 len && Nat.ble (len * q.2.1) 16777216 then
      (bif ls.all (fun l => l.all Av.plainB) then some (True, .one [.sl d q.2.1 0 len], .new d (.row true q.1 q.2.1 len (getL ls))) else
        bif Nat.beq q.2.1 1 then some (True, .one [.as d len], .new d (.arr ls.flatten q.1)) else none) else none else none
  | .makeSlice t _ _, [l, c] => dst.bind fun d => bif fresh then (C.slc t).bind fun q => (intS l).bind fun x => (intS c).bind fun y =>
      some (x.2 = y.2 ∧ 0 < x.2 ∧ x.2 * q.2.2.1 ≤ 281474976710656 ∧ x.2 ≤ 9223372036854775807, .one [.sl d q.2.1 0 x.2.toNat], .new d (.row true q.1 q.2.1 x.2.toNat (fun _ => q.2.2.2))) else none
  | .convert s d _, [.one [.sl id es off n]] => bif C.b2s s d && Nat.beq es 1 && Nat.beq n 1 then (hp id).bind fun k => (match k with
      | .row _ _ es' cnt f => bif Nat.beq es' 1 then (byte1 (f off)).map fun v => (off < cnt ∧ 0 ≤ v ∧ v < 256, .one [.str ⟨#[UInt8.ofNat v.toNat]⟩], .nop) else none
      | _ => none) else none
  | .range t _, [.one [.str s]] => dst.bind fun d => bif fresh && C.strT t then some (True, .one [.ptr d 0], .new d (.sit s 0)) else none
  | .next _ true, [.one [.ptr id 0]] => (hp id).bind fun k => (match k with
      | .sit s p => (match ch with
        | 0 => some (p < s.size ∧ byteAt s p < 128, .tup [[.bool true], [.int .i64 (p : Nat)], [.int .i32 (byteAt s p : Nat)]], .put id (.sit s (p + 1)))
        | _ => some (¬ p < s.size, .tup [[.bool false]], .nop))
      | _ => none)
  | .convert s d _, [x] => (intS x).bind fun q => (C.conv s d q.1).bind fun k => bif (litS x).isSome && rngB k q.2 then some (True, .one [.lit k q.2], .nop) else (match ch with
      | 0 => some (rng k q.2, .one [.int k q.2], .nop)
      | _ => some (True, .one [.int k (k.wrap q.2)], .nop))
  | .nilCheck _, [.one [a]] => bif isPtr a then some (True, .one [a], .nop) else none
  | .makeFunc (.func f) first captured, [.one [.ptr id 0]] => bif Nat.beq first.size 0 && Nat.beq captured.size 1 then some (True, .one [.clo f id], .nop) else none
  | .call { callee := .value _, .. }, f :: vs => dst.bind fun d => bif fresh then (calleeS f).bind fun g => (rargs hp (vs ++ g.2)).bind fun ra => (C.con g.1 ra).bind fun outs => (outs[ch]?).map fun oc => (oc.c, oc.r d, oc.e d) else none
  | .call { callee := .builtin .len, argTypes, .. }, [.one [.str s]] => (argTypes[0]?).bind fun t => bif C.strT t then some (True, .one [.int .i64 (s.size : Nat)], .nop) else none
  | .call { callee := .builtin .len, argTypes, .. }, [.one [a]] => (argTypes[0]?).bind fun t => (C.slc t).bind fun _ => (lenR a).map fun v => (True, .one [v], .nop)
  | .call { callee := .builtin .append, argTypes, .. }, [.one [a], .one [b]] => dst.bind fun d => bif fresh then bif Nat.beq argTypes.size 2 then (argTypes[0]?).bind fun t => (argTypes[1]?).bind fun t' => bif Nat.beq t t' then appendR C t d hp a b else none else none else none
  | _, _ => none

/-- 2: it writes own memory; 1: it reads it; 0: neither -/
def memClass (C : Ctx) (o : Op) : Nat :=
  match o with
  | .store _ _ _ => 2
  | .load _ _ => 1
  | .call { callee := .value (.func f), .. } => C.cls f
  | .call { callee := .value _, .. } => 2
  | .call { callee := .builtin .append, .. } => 2
  | .next _ _ => 2
  | .convert s d _ => bif C.b2s s d then 1 else 0
  | _ => 0

def namesL : List Av → List Nat
  | [] => []
  | a :: l => match a.name with
    | some id => id :: namesL l
    | none => namesL l
def namesV : List Sv → List Nat
  | [] => []
  | .one l :: r => namesL l ++ namesV r
  | _ :: r => namesV r

/-- the names that an operation may look at -/
def lookN (op : Op) (vs : List Sv) : List Nat :=
  match op, vs with
  | .load _ _, v :: _ => namesV [v]
  | .store _ _ _, v :: _ => namesV [v]
  | _, vs => namesV vs

/-- what an operation sees of the names -/
def seen (c : Nat) (ns : List Nat) (heap : Nat → Option Bk) : Nat → Option Bk :=
  bif Nat.beq c 0 then fun _ => none else fun id => bif ns.contains id then heap id else none

def Eff.isWrite : Eff → Bool
  | .put _ _ => true
  | .move _ _ _ => true
  | _ => false

/-- What an operation comes to: under which condition, its value, what it does to the names. -/
def res (C : Ctx) (orc : Nat → Nat) (o : Oper) (slots : Nat → Sv) (heap : Nat → Option Bk) (dom : Nat → Bool) : Option (Prop × Sv × Eff) :=
  (allVals C.nt slots (opsOf o.op)).bind fun vs =>
    (opV C (orc (o.dst.getD 0)) o.op o.dst (match o.dst with | some d => !dom d | none => false) (seen (memClass C o.op) (lookN o.op vs) heap) vs).bind fun r =>
      bif Nat.beq (memClass C o.op) 2 || !r.2.2.isWrite then some r else none

end M
end Go.Proofs.YtmjdmhelmgcanaaDoor

/- A machine that evaluates code: what an operation comes to fits the state. -/
namespace Go.Proofs.YtmjdmhelmgcanaaDoor
namespace M
open Go.RowKit
variable {C : Ctx} {σ σ' : Ms}

/-- an argument's part is plain, or a known name -/
def inArgs (args : List RArg) (id : Nat) (k : Bk) : Prop := ∃ A ∈ args, ∃ a, (a, some k) ∈ A ∧ a.name = some id

structure CtxD (C : Ctx) : Prop where
  zero : ∀ t l, C.zero t = some l → ∀ a ∈ l, a.plain
  build : ∀ t ps l, C.build t ps = some l → ∀ a ∈ l, a.plain ∨ ∃ p ∈ ps, ∃ m, p.2 = .one m ∧ a ∈ m
  slc : ∀ t e es b z, C.slc t = some (e, es, b, z) → 0 < es ∧ sizeL z = es ∧ (∀ a ∈ z, a.plain) ∧ 0 < b
  con : ∀ f args outs, C.con f args = some outs → (∀ A ∈ args, ∀ p ∈ A, (p.1.name = none → p.1.plain) ∧ ∀ k, p.2 = some k → k.rowsOK ∧ k.loose) → ∀ (i : Nat) oc, outs[i]? = some oc → oc.c → ∀ d,
    (∀ d', (oc.e d).newId = some d' → d' = d) ∧ (∀ id, (oc.e d).written = some id → ∃ k, inArgs args id k ∧ k.own = true) ∧ (∀ id k, (oc.e d).bk = some (id, k) → k.own = true ∧ k.named Av.plain ∧ k.rowsOK) ∧
    (oc.r d).all fun a => a.plain ∨ (a.name = some d ∧ (oc.e d).newId = some d ∧ ((oc.e d).bk).isSome = true) ∨ ∃ id k, a.name = some id ∧ inArgs args id k

theorem loose_of {k : Bk} (h : k.named (AvOK σ)) : k.loose := by
  cases k with
  | var l t =>
    intro a ha hn
    have := h a ha
    unfold AvOK at this
    rw [hn] at this
    exact this
  | arr l t =>
    intro a ha hn
    have := h a ha
    unfold AvOK at this
    rw [hn] at this
    exact this
  | _ => trivial

theorem plain_of_B {a : Av} (h : a.plainB = true) (hk : AvOK σ a) : a.plain := by
  unfold AvOK at hk
  cases a <;> first
    | exact hk
    | cases h

theorem valsOf_ok (h : Wf σ) {nt : Nat} {x : Operand} {v : Sv} (hv : valsOf nt σ.slots x = some v) : v.all (AvOK σ) := by
  unfold valsOf at hv
  split at hv
  · rename_i t
    cases hb : Nat.blt t nt with
    | false => rw [hb] at hv; cases hv
    | true =>
      rw [hb] at hv
      simp only [cond_true] at hv
      split at hv
      · cases hv
      · simp only [Option.some.injEq] at hv
        subst hv
        exact h.okS t
  all_goals first
    | (simp only [Option.some.injEq] at hv; subst hv; intro a ha; simp only [List.mem_singleton] at ha; subst ha; exact AvOK.of_plain trivial)
    | cases hv

theorem allVals_ok (h : Wf σ) {nt : Nat} : ∀ (xs : List Operand) (vs : List Sv), allVals nt σ.slots xs = some vs → ∀ s ∈ vs, s.all (AvOK σ)
  | [], vs, hv => by simp only [allVals, Option.some.injEq] at hv; subst hv; simp
  | x :: r, vs, hv => by
    simp only [allVals] at hv
    obtain ⟨v, h1, hv⟩ := Option.bind_eq_some_iff.1 hv
    obtain ⟨vs', h2, rfl⟩ := Option.map_eq_some_iff.1 hv
    intro s hs
    rcases List.mem_cons.1 hs with rfl | hs
    · exact valsOf_ok h h1
    · exact allVals_ok h r vs' h2 s hs

theorem seen_some {c : Nat} {ns : List Nat} {heap : Nat → Option Bk} {id : Nat} {k : Bk} (h : seen c ns heap id = some k) : heap id = some k := by
  unfold seen at h
  cases hb : Nat.beq c 0 with
  | true => rw [hb] at h; cases h
  | false =>
    rw [hb] at h
    simp only [cond_false] at h
    cases hc : ns.contains id with
    | true => rw [hc] at h; exact h
    | false => rw [hc] at h; cases h

theorem rargs_spec {hp : Nat → Option Bk} : ∀ (vs : List Sv) (ra : List RArg), rargs hp vs = some ra → ∀ A ∈ ra, ∃ l, .one l ∈ vs ∧ A = l.map fun a => (a, a.name.bind hp)
  | [], ra, h => by simp only [rargs, Option.some.injEq] at h; subst h; simp
  | .one l :: r, ra, h => by
    simp only [rargs] at h
    obtain ⟨q, h1, rfl⟩ := Option.map_eq_some_iff.1 h
    intro A hA
    rcases List.mem_cons.1 hA with rfl | hA
    · exact ⟨l, List.mem_cons_self, rfl⟩
    · obtain ⟨m, hm, e⟩ := rargs_spec r q h1 A hA
      exact ⟨m, List.mem_cons_of_mem _ hm, e⟩
  | .tup l :: r, ra, h => by cases h
  | .any :: r, ra, h => by cases h

theorem wfN : EffWf σ .nop := ⟨fun _ h => (by cases h), fun _ h => (by cases h), fun _ _ h => (by cases h)⟩
theorem wfNew {d : Nat} {k : Bk} (hd : σ.dom d = false) (ho : k.own = true) (hn : k.named (AvOK (Eff.app (.new d k) σ))) (hr : k.rowsOK) : EffWf σ (.new d k) :=
  ⟨fun _ h => (by cases h; exact hd), fun _ h => (by cases h), fun _ _ h => (by cases h; exact ⟨ho, hn, hr⟩)⟩
theorem wfPut {id : Nat} {k k0 : Bk} (h0 : σ.heap id = some k0) (ho0 : k0.own = true) (ho : k.own = true) (hn : k.named (AvOK (Eff.app (.put id k) σ))) (hr : k.rowsOK) : EffWf σ (.put id k) :=
  ⟨fun _ h => (by cases h), fun _ h => (by cases h; exact ⟨k0, h0, ho0⟩), fun _ _ h => (by cases h; exact ⟨ho, hn, hr⟩)⟩
theorem wfMove {id d : Nat} {k k0 : Bk} (hd : σ.dom d = false) (h0 : σ.heap id = some k0) (ho0 : k0.own = true) (ho : k.own = true) (hn : k.named (AvOK (Eff.app (.move id d k) σ))) (hr : k.rowsOK) : EffWf σ (.move id d k) :=
  ⟨fun _ h => (by cases h; exact hd), fun _ h => (by cases h; exact ⟨k0, h0, ho0⟩), fun _ _ h => (by cases h; exact ⟨ho, hn, hr⟩)⟩
theorem one1 {p : Av → Prop} {a : Av} (h : p a) : (Sv.one [a]).all p := fun x hx => by simp only [List.mem_singleton] at hx; subst hx; exact h

/-- what is behind a pointer is known -/
theorem readP_ok (h : Wf σ) {hp : Nat → Option Bk} (hhp : ∀ id k, hp id = some k → σ.heap id = some k) {a : Av} {n : Nat} {c : Prop} {m : List Av} (hr : readP hp a n = some (c, m)) (hc : c) : ∀ x ∈ m, AvOK σ x := by
  unfold readP at hr
  split at hr
  · obtain ⟨k, h1, hr⟩ := Option.bind_eq_some_iff.1 hr
    split at hr
    · rename_i l t
      obtain ⟨m', h2, h3⟩ := Option.map_eq_some_iff.1 hr
      simp only [Prod.mk.injEq] at h3
      obtain ⟨rfl, rfl⟩ := h3
      obtain ⟨_, _, _, _, _, hm⟩ := partC_spec ρ0 h2
      exact fun x hx => (h.okH _ _ (hhp _ _ h1)).1 x (hm x hx)
    · rename_i l t
      obtain ⟨m', h2, h3⟩ := Option.map_eq_some_iff.1 hr
      simp only [Prod.mk.injEq] at h3
      obtain ⟨rfl, rfl⟩ := h3
      obtain ⟨_, _, _, _, _, hm⟩ := partC_spec ρ0 h2
      exact fun x hx => (h.okH _ _ (hhp _ _ h1)).1 x (hm x hx)
    · cases hr
  · rename_i id off i
    cases hb : Nat.beq n 1 with
    | false => rw [hb] at hr; cases hr
    | true =>
      rw [hb] at hr
      obtain ⟨k, h1, hr⟩ := Option.bind_eq_some_iff.1 ((cond_true _ _).symm.trans hr)
      split at hr
      · obtain ⟨q, h2, h3⟩ := Option.map_eq_some_iff.1 hr
        simp only [Prod.mk.injEq] at h3
        obtain ⟨rfl, rfl⟩ := h3
        exact fun x hx => by simp only [List.mem_singleton] at hx; subst hx; exact AvOK.of_plain trivial
      · cases hr
  · rename_i id off m' i
    cases hb : Nat.beq n m' with
    | false => rw [hb] at hr; cases hr
    | true =>
      rw [hb] at hr
      obtain ⟨k, h1, hr⟩ := Option.bind_eq_some_iff.1 ((cond_true _ _).symm.trans hr)
      split at hr
      · rename_i l t
        obtain ⟨q, h2, h3⟩ := Option.bind_eq_some_iff.1 hr
        cases hb2 : Nat.beq q.1 m' with
        | false => rw [hb2] at h3; cases h3
        | true =>
          rw [hb2] at h3
          simp only [cond_true, Option.some.injEq, Prod.mk.injEq] at h3
          obtain ⟨rfl, rfl⟩ := h3
          intro x hx
          simp only [List.mem_singleton] at hx
          subst hx
          unfold headVec at h2
          split at h2
          · rename_i m2 n2 f2 rest hd
            simp only [Option.some.injEq] at h2
            subst h2
            obtain ⟨_, _, _, hm⟩ := dropC_spec ρ0 l off _ hd
            have hv := (h.okH _ _ (hhp _ _ h1)).1 _ (hm _ List.mem_cons_self)
            have hq : m2 = m' := Nat.eq_of_beq_eq_true hb2
            subst hq
            exact AvOK.of_plain (hv i hc)
          · cases h2
      · cases hr
  · rename_i id es i k0
    obtain ⟨k, h1, hr⟩ := Option.bind_eq_some_iff.1 hr
    split at hr
    · rename_i o e es' cnt f
      cases hb : Nat.beq es es' with
      | false => rw [hb] at hr; cases hr
      | true =>
        rw [hb] at hr
        obtain ⟨m', h2, h3⟩ := Option.map_eq_some_iff.1 ((cond_true _ _).symm.trans hr)
        simp only [Prod.mk.injEq] at h3
        obtain ⟨rfl, rfl⟩ := h3
        obtain ⟨_, _, _, _, _, hm⟩ := partC_spec ρ0 h2
        exact fun x hx => AvOK.of_plain (((h.okH _ _ (hhp _ _ h1)).2.2 i hc).2 x (hm x hx))
    · cases hr
  · cases hr

theorem dropC_head {l : List Av} {off : Nat} {a : Av} {r : List Av} (h : dropC l off = some (a :: r)) : a ∈ l := by
  obtain ⟨_, _, _, hm⟩ := dropC_spec ρ0 l off _ h
  exact hm _ List.mem_cons_self
theorem headBig_some {x : Option (List Av)} {q : Nat × Nat} (h : headBig x = some q) : ∃ r, x = some (.big q.1 q.2 :: r) := by
  unfold headBig at h
  split at h
  · cases h; exact ⟨_, rfl⟩
  · cases h
theorem headVec_some {x : Option (List Av)} {q : Nat × Nat × (Nat → Nat)} (h : headVec x = some q) : ∃ r, x = some (.vec q.1 q.2.1 q.2.2 :: r) := by
  unfold headVec at h
  split at h
  · cases h; exact ⟨_, rfl⟩
  · cases h
theorem wordS_some {l : List Av} {v : Int} (h : wordS l = some v) : l = [.int .u64 v] ∨ l = [.lit .u64 v] := by
  unfold wordS at h
  split at h
  · cases h; exact .inl rfl
  · cases h; exact .inr rfl
  · cases h
theorem bigS_some {l : List Av} {q : Nat × Nat} (h : bigS l = some q) : l = [.big q.1 q.2] := by
  unfold bigS at h
  split at h
  · cases h; rfl
  · cases h

theorem setC_size {l new l' : List Av} {off : Nat} (h : setC l off new = some l') : sizeL l' = sizeL l := by
  obtain ⟨p, m, r, h1, h2, h3, h4, _⟩ := setC_spec ρ0 h
  have e1 := congrArg List.length h1
  have e2 := congrArg List.length h2
  simp only [cellsL_length, List.length_append] at e1 e2
  omega

theorem rowOK_upd {es n : Nat} {f : Nat → List Av} {i k0 : Nat} {new l' : List Av} (h : RowOK es n f) (hi : i < n) (hs : setC (f i) k0 new = some l') (hp : ∀ x ∈ l', x.plain) : RowOK es n (upd f i l') := by
  refine ⟨h.1, fun j hj => ?_⟩
  by_cases hji : j = i
  · subst hji; rw [upd_same]; exact ⟨by rw [setC_size hs]; exact (h.2 j hi).1, hp⟩
  · rw [upd_ne _ _ hji]; exact h.2 j hj

/-- what is written is known -/
theorem writeP_ok (h : Wf σ) {hp : Nat → Option Bk} (hhp : ∀ id k, hp id = some k → σ.heap id = some k) {a : Av} {new : List Av} (hn : ∀ x ∈ new, AvOK σ x) {c : Prop} {id : Nat} {k : Bk}
    (hr : writeP hp a new = some (c, id, k)) (hc : c) : (∃ k0, hp id = some k0 ∧ k0.own = true) ∧ k.own = true ∧ k.named (AvOK σ) ∧ k.rowsOK := by
  unfold writeP at hr
  split at hr
  · rename_i id' off
    obtain ⟨k0, h1, hr⟩ := Option.bind_eq_some_iff.1 hr
    split at hr
    · rename_i l t
      obtain ⟨l', h2, h3⟩ := Option.map_eq_some_iff.1 hr
      simp only [Prod.mk.injEq] at h3
      obtain ⟨rfl, rfl, rfl⟩ := h3
      obtain ⟨_, _, _, _, _, _, _, hm⟩ := setC_spec ρ0 h2
      refine ⟨⟨_, h1, rfl⟩, rfl, fun x hx => ?_, trivial⟩
      rcases hm x hx with hx | hx
      · exact (h.okH _ _ (hhp _ _ h1)).1 x hx
      · exact hn x hx
    · cases hr
  · rename_i id' off i
    obtain ⟨k0, h1, hr⟩ := Option.bind_eq_some_iff.1 hr
    split at hr
    · rename_i l t
      obtain ⟨v, h4, hr⟩ := Option.bind_eq_some_iff.1 hr
      obtain ⟨q, h5, hr⟩ := Option.bind_eq_some_iff.1 hr
      obtain ⟨l', h2, h3⟩ := Option.map_eq_some_iff.1 hr
      simp only [Prod.mk.injEq] at h3
      obtain ⟨rfl, rfl, rfl⟩ := h3
      obtain ⟨_, _, _, _, _, _, _, hm⟩ := setC_spec ρ0 h2
      refine ⟨⟨_, h1, rfl⟩, rfl, fun x hx => ?_, trivial⟩
      rcases hm x hx with hx | hx
      · exact (h.okH _ _ (hhp _ _ h1)).1 x hx
      · simp only [List.mem_singleton] at hx
        subst hx
        refine AvOK.of_plain (a := .big q.1 _) (stw_lt ?_)
        have := hc.2
        omega
    · cases hr
  · rename_i id' off m i
    obtain ⟨k0, h1, hr⟩ := Option.bind_eq_some_iff.1 hr
    split at hr
    · rename_i l t
      obtain ⟨v, h4, hr⟩ := Option.bind_eq_some_iff.1 hr
      obtain ⟨q, h5, hr⟩ := Option.bind_eq_some_iff.1 hr
      cases hb : Nat.beq v.1 m && Nat.beq q.1 m with
      | false => rw [hb] at hr; cases hr
      | true =>
        rw [hb] at hr
        obtain ⟨l', h2, h3⟩ := Option.map_eq_some_iff.1 ((cond_true _ _).symm.trans hr)
        simp only [Prod.mk.injEq] at h3
        obtain ⟨rfl, rfl, rfl⟩ := h3
        rw [Bool.and_eq_true] at hb
        have hv1 : v.1 = m := Nat.eq_of_beq_eq_true hb.1
        have hq1 : q.1 = m := Nat.eq_of_beq_eq_true hb.2
        obtain ⟨_, _, _, _, _, _, _, hm⟩ := setC_spec ρ0 h2
        refine ⟨⟨_, h1, rfl⟩, rfl, fun x hx => ?_, trivial⟩
        rcases hm x hx with hx | hx
        · exact (h.okH _ _ (hhp _ _ h1)).1 x hx
        · simp only [List.mem_singleton] at hx
          subst hx
          obtain ⟨r, hr'⟩ := headVec_some h5
          have hold : AvOK σ (.vec q.1 q.2.1 q.2.2) := (h.okH _ _ (hhp _ _ h1)).1 _ (dropC_head hr')
          have hnew : AvOK σ (.big v.1 v.2) := hn _ (by rw [bigS_some h4]; exact List.mem_cons_self)
          refine AvOK.of_plain (a := .vec m q.2.1 _) fun j hj => ?_
          by_cases hji : j = i
          · subst hji; rw [upd_same]
            have : v.2 < pow64 v.1 := hnew
            rw [hv1] at this; exact this
          · rw [upd_ne _ _ hji]
            have : ∀ i, i < q.2.1 → q.2.2 i < pow64 q.1 := hold
            rw [hq1] at this
            exact this j hj
    · cases hr
  · rename_i id' es i k0
    obtain ⟨k1, h1, hr⟩ := Option.bind_eq_some_iff.1 hr
    split at hr
    · rename_i e es' cnt f
      cases hb : Nat.beq es es' && new.all Av.plainB with
      | false => rw [hb] at hr; cases hr
      | true =>
        rw [hb] at hr
        obtain ⟨l', h2, h3⟩ := Option.map_eq_some_iff.1 ((cond_true _ _).symm.trans hr)
        simp only [Prod.mk.injEq] at h3
        obtain ⟨rfl, rfl, rfl⟩ := h3
        rw [Bool.and_eq_true] at hb
        have hes : es = es' := Nat.eq_of_beq_eq_true hb.1
        subst hes
        have hrow : RowOK es cnt f := (h.okH _ _ (hhp _ _ h1)).2
        obtain ⟨_, _, _, _, _, _, _, hm⟩ := setC_spec ρ0 h2
        refine ⟨⟨_, h1, rfl⟩, rfl, trivial, rowOK_upd hrow hc h2 fun x hx => ?_⟩
        rcases hm x hx with hx | hx
        · exact (hrow.2 i hc).2 x hx
        · exact plain_of_B (List.all_eq_true.1 hb.2 x hx) (hn x hx)
    · cases hr
  · cases hr

theorem partsL_spec : ∀ (es k : Nat) (ps : List (Nat × Operand)) (vs : List Sv) (ls : List (List Av)), partsL es k ps vs = some ls → (∀ s ∈ vs, s.all (AvOK σ)) → vs = ls.map .one ∧ (ps.map (·.1) = (List.range ls.length).map (k + ·)) ∧ ∀ l ∈ ls, sizeL l = es ∧ (∀ a ∈ l, AvOK σ a) ∧ (l.all Av.plainB = true → ∀ a ∈ l, a.plain)
  | es, k, [], [], ls, h, hv => by simp only [partsL, Option.some.injEq] at h; subst h; simp
  | es, k, (i, x) :: ps, .one l :: vs, ls, h, hv => by
    simp only [partsL] at h
    cases hb : (Nat.beq i k && Nat.beq (sizeL l) es) with
    | false => rw [hb] at h; cases h
    | true =>
      rw [hb] at h
      obtain ⟨ls', h1, rfl⟩ := Option.map_eq_some_iff.1 ((cond_true _ _).symm.trans h)
      simp only [Bool.and_eq_true] at hb
      obtain ⟨b1, b2⟩ := hb
      obtain ⟨e1, e2, e3⟩ := partsL_spec es (k + 1) ps vs ls' h1 fun s hs => hv s (List.mem_cons_of_mem _ hs)
      refine ⟨by rw [e1]; rfl, ?_, ?_⟩
      · rw [List.length_cons, List.range_succ_eq_map]
        simp only [List.map_cons, Nat.add_zero, List.map_map, e2, Nat.eq_of_beq_eq_true b1, List.cons.injEq, true_and]
        congr 1
        funext x
        simp only [Function.comp_apply]
        omega
      · intro m hm
        rcases List.mem_cons.1 hm with rfl | hm
        · exact ⟨Nat.eq_of_beq_eq_true b2, fun a ha => hv _ List.mem_cons_self a ha, fun b3 a ha => plain_of_B (List.all_eq_true.1 b3 a ha) (hv _ List.mem_cons_self a ha)⟩
        · exact e3 m hm
  | es, k, [], .one _ :: _, ls, h, hv => by cases h
  | es, k, [], .tup _ :: _, ls, h, hv => by cases h
  | es, k, [], .any :: _, ls, h, hv => by cases h
  | es, k, _ :: _, [], ls, h, hv => by cases h
  | es, k, _ :: _, .tup _ :: _, ls, h, hv => by cases h
  | es, k, _ :: _, .any :: _, ls, h, hv => by cases h

end M
end Go.Proofs.YtmjdmhelmgcanaaDoor

/- A machine that evaluates code: what an operation comes to fits the state: all operations. -/
namespace Go.Proofs.YtmjdmhelmgcanaaDoor
namespace M
open Go.RowKit
variable {C : Ctx} {σ σ' : Ms}

theorem binR_plain {op : BinOp} {t : TypeId} {x y : Sv} {ch : Nat} {c : Prop} {a : Av} (h : binR C op t x y ch = some (c, a)) : a.plain := by
  have num : ∀ {k a b la lb c r}, numR op k a b la lb ch = some (c, r) → r.plain := by
    intro k a b la lb c r h
    unfold numR at h
    split at h
    · cases hb : la && lb with
      | true =>
        rw [hb] at h
        rename_i q _
        cases hr : rngB k q with
        | true => rw [hr] at h; cases h; trivial
        | false => rw [hr] at h; cases h
      | false =>
        rw [hb] at h
        simp only [cond_false] at h
        split at h <;> (cases h; trivial)
    · split at h
      all_goals first
        | (cases h; done)
        | skip
      all_goals
        rename_i h'
        revert h
        first
          | (cases (lb && decide (0 < b)) <;> intro h <;> cases h <;> trivial)
          | (cases (lb && decide (b = 1) && decide (k = .u64)) <;> cases (lb && decide (b = 4294967295) && decide (k = .u64)) <;> intro h <;> cases h <;> trivial)
          | (cases (decide (k = .u64)) <;> intro h <;> cases h <;> trivial)
  have cnd : ∀ {q : Bool} {A B : Option (Prop × Av)}, (bif q then A else B) = some (c, a) → A = some (c, a) ∨ B = some (c, a) := fun {q A B} h => by
    cases q
    · exact .inr h
    · exact .inl h
  unfold binR at h
  split at h
  · revert h
    cases C.boolT t <;> intro h
    · cases h
    · simp only [cond_true] at h
      split at h <;> cases h <;> trivial
  · split at h
    · rename_i k a k' b _ _
      cases hs : isShift op with
      | true =>
        rw [hs] at h
        simp only [cond_true, shiftR] at h
        split at h
        · rcases cnd h with h | h
          · cases h; trivial
          · split at h <;> (cases h; trivial)
        · rcases cnd h with h | h
          · cases h; trivial
          · split at h <;> (cases h; trivial)
        · cases h
      | false =>
        rw [hs] at h
        simp only [cond_false] at h
        cases hk : decide (k = k') with
        | false => rw [hk] at h; cases h
        | true =>
          rw [hk] at h
          simp only [cond_true] at h
          split at h
          · cases h; trivial
          · split at h
            · cases h; trivial
            · exact num h
    · split at h
      · split at h
        · revert h
          cases C.strT t <;> intro h
          · cases h
          · simp only [cond_true, strR] at h
            split at h <;> cases h <;> trivial
        · obtain ⟨p, hp, h⟩ := Option.bind_eq_some_iff.1 h
          split at h <;> cases h <;> trivial
      · cases h

theorem all0 {p : Av → Prop} : (Sv.tup []).all p := fun m hm => by cases hm

theorem indexP_ok {t : TypeId} {a b : Av} {i : Int} {l : Bool} {c : Prop} (h : indexP C t a i l = some (c, b)) : b.name = a.name ∧ a.name.isSome = true := by
  unfold indexP at h
  split at h
  · obtain ⟨q, _, h⟩ := Option.bind_eq_some_iff.1 h
    revert h
    cases l <;> intro h
    · simp only [cond_false, Option.some.injEq, Prod.mk.injEq] at h
      obtain ⟨_, rfl⟩ := h
      cases Nat.beq q.2 1 <;> exact ⟨rfl, rfl⟩
    · revert h
      cases decide (0 ≤ i ∧ i < q.1) <;> intro h
      · cases h
      · simp only [cond_true, Option.some.injEq, Prod.mk.injEq] at h
        obtain ⟨_, rfl⟩ := h
        cases Nat.beq q.2 1 <;> exact ⟨rfl, rfl⟩
  · rename_i id es off n
    obtain ⟨q, _, h⟩ := Option.bind_eq_some_iff.1 h
    revert h
    cases Nat.beq q.2.1 es <;> intro h <;> cases h
    exact ⟨rfl, rfl⟩
  · obtain ⟨q, _, h⟩ := Option.bind_eq_some_iff.1 h
    revert h
    cases l && Nat.beq q.2.1 1 <;> intro h <;> cases h
    exact ⟨rfl, rfl⟩
  · cases h

theorem AvOK.same {a b : Av} (h : AvOK σ a) (hn : b.name = a.name) (hs : a.name.isSome = true) : AvOK σ b := by
  unfold AvOK at *
  rw [hn]
  cases hna : a.name with
  | none => rw [hna] at hs; cases hs
  | some id => rw [hna] at h; exact h

theorem indexV_ok {t : TypeId} {a b : Av} {i : Int} {c : Prop} (h : indexV C t a i = some (c, b)) (hc : c) (ha : AvOK σ a) : b.plain := by
  unfold indexV at h
  split at h
  · rename_i n x
    obtain ⟨q, _, h⟩ := Option.bind_eq_some_iff.1 h
    revert h
    cases Nat.beq q.1 n && Nat.beq q.2 1 <;> intro h <;> cases h
    trivial
  · rename_i m n f
    obtain ⟨q, _, h⟩ := Option.bind_eq_some_iff.1 h
    revert h
    cases Nat.beq q.1 n && Nat.beq q.2 m && !Nat.beq m 1 <;> intro h <;> cases h
    have hp : ∀ i, i < n → f i < pow64 m := ha
    have h1 := hc.1
    have h2 := hc.2
    exact hp i.toNat (by omega)
  · revert h
    cases C.strT t <;> intro h <;> cases h
    trivial
  · cases h

theorem new_ok {a : Av} {d : Nat} {k : Bk} (h : a.name = some d) : AvOK (Eff.app (.new d k) σ) a := by
  unfold AvOK; rw [h]; exact ⟨upd_same _ _ _, by show (upd σ.heap d (some k) d).isSome = true; rw [upd_same]; rfl⟩
theorem move_ok {a : Av} {id d : Nat} {k : Bk} (h : a.name = some d) : AvOK (Eff.app (.move id d k) σ) a := by
  unfold AvOK; rw [h]; exact ⟨upd_same _ _ _, by show (upd _ d (some k) d).isSome = true; rw [upd_same]; rfl⟩

theorem appendR_ok (D : CtxD C) (h : Wf σ) {hp : Nat → Option Bk} (hhp : ∀ id k, hp id = some k → σ.heap id = some k) {t : TypeId} {d : Nat} (hfr : σ.dom d = false) {a b : Av} (ha : AvOK σ a) {c : Prop} {v : Sv} {e : Eff}
    (hr : appendR C t d hp a b = some (c, v, e)) (hc : c) : EffWf σ e ∧ v.all (AvOK (e.app σ)) ∧ ∀ d', e.newId = some d' → d' = d := by
  unfold appendR at hr
  have hr0 := hr
  clear hr
  obtain ⟨q, hq, hr⟩ := Option.bind_eq_some_iff.1 hr0
  clear hr0
  obtain ⟨hes, -, -⟩ := D.slc t q.1 q.2.1 q.2.2.1 q.2.2.2 hq
  split at hr
  · split at hr
    · cases hr; exact ⟨wfN, one1 (AvOK.of_plain trivial), fun _ h => by cases h⟩
    · obtain ⟨k, _, hr⟩ := Option.bind_eq_some_iff.1 hr
      split at hr
      · cases hr; exact ⟨wfN, one1 ha, fun _ h => by cases h⟩
      · cases hr
    · cases hr
  · rename_i id2 es off m
    cases hb : Nat.beq es q.2.1 with
    | false => rw [hb] at hr; cases hr
    | true =>
      rw [hb] at hr
      obtain ⟨k, h1, hr⟩ := Option.bind_eq_some_iff.1 ((cond_true _ _).symm.trans hr)
      split at hr
      · rename_i o e2 es' n2 f2
        cases hb2 : Nat.beq es es' with
        | false => rw [hb2] at hr; cases hr
        | true =>
          rw [hb2] at hr
          simp only [cond_true, Option.some.injEq, Prod.mk.injEq] at hr
          obtain ⟨rfl, rfl, rfl⟩ := hr
          have he : es = es' := Nat.eq_of_beq_eq_true hb2
          subst he
          have hrow : RowOK es n2 f2 := (h.okH _ _ (hhp _ _ h1)).2
          exact ⟨wfNew hfr rfl trivial ⟨hrow.1, fun i hi => hrow.2 (off + i) (by have := hc.2.1; omega)⟩, one1 (new_ok rfl), fun _ h => by cases h; rfl⟩
      · cases hr
  · rename_i id es n id2 es2 off m
    cases hb : Nat.beq es q.2.1 && Nat.beq es2 q.2.1 && !Nat.beq id id2 with
    | false => rw [hb] at hr; cases hr
    | true =>
      rw [hb] at hr
      simp only [Bool.and_eq_true] at hb
      obtain ⟨⟨b1, b2⟩, -⟩ := hb
      have e1 : es = q.2.1 := Nat.eq_of_beq_eq_true b1
      have e2 : es2 = q.2.1 := Nat.eq_of_beq_eq_true b2
      obtain ⟨k, h1, hr⟩ := Option.bind_eq_some_iff.1 ((cond_true _ _).symm.trans hr)
      obtain ⟨k2, h2, hr2⟩ := Option.bind_eq_some_iff.1 hr
      clear hr
      have hr := hr2
      clear hr2
      split at hr
      · rename_i et es1 n1 f o2 et2 es' n2 f2
        cases hb2 : Nat.beq et q.1 && Nat.beq es es1 && Nat.beq es2 es' with
        | false => rw [hb2] at hr; cases hr
        | true =>
          rw [hb2] at hr
          simp only [cond_true, Option.some.injEq, Prod.mk.injEq] at hr
          obtain ⟨rfl, rfl, rfl⟩ := hr
          simp only [Bool.and_eq_true] at hb2
          obtain ⟨⟨b3, b4⟩, b5⟩ := hb2
          have e3 : es = es1 := Nat.eq_of_beq_eq_true b4
          have e4 : es2 = es' := Nat.eq_of_beq_eq_true b5
          subst e3 e4
          have hrow : RowOK es n1 f := (h.okH _ _ (hhp _ _ h1)).2
          have hrow2 : RowOK es2 n2 f2 := (h.okH _ _ (hhp _ _ h2)).2
          obtain ⟨c1, c2, c3, c4⟩ := hc
          subst c1
          refine ⟨wfMove hfr (hhp _ _ h1) rfl rfl trivial ⟨hrow.1, fun i hi => ?_⟩, one1 (move_ok rfl), fun _ h => by cases h; rfl⟩
          have hi2 : i < n1 + m := hi
          show sizeL (bif Nat.blt i n1 then f i else f2 (off + (i - n1))) = es ∧ ∀ a ∈ (bif Nat.blt i n1 then f i else f2 (off + (i - n1))), a.plain
          cases hlt : Nat.blt i n1 with
          | true => exact hrow.2 i (Nat.le_of_ble_eq_true hlt)
          | false =>
            simp only [cond_false]
            have hge : n1 ≤ i := by
              rcases Nat.lt_or_ge i n1 with h' | h'
              · have : Nat.blt i n1 = true := Nat.ble_eq_true_of_le h'
                rw [this] at hlt; cases hlt
              · exact h'
            rw [e1, ← e2]
            exact hrow2.2 (off + (i - n1)) (by omega)
      · cases hr
  · rename_i id n id2 m
    cases hb : Nat.beq q.2.1 1 && !Nat.beq id id2 with
    | false => rw [hb] at hr; cases hr
    | true =>
      rw [hb] at hr
      obtain ⟨k, h1, hr⟩ := Option.bind_eq_some_iff.1 ((cond_true _ _).symm.trans hr)
      obtain ⟨k2, h2, hr2⟩ := Option.bind_eq_some_iff.1 hr
      clear hr
      have hr := hr2
      clear hr2
      split at hr
      · rename_i l e l2 e2
        cases hb2 : Nat.beq e q.1 && Nat.beq (sizeL l) n && Nat.beq (sizeL l2) m && Nat.blt 0 m with
        | false => rw [hb2] at hr; cases hr
        | true =>
          rw [hb2] at hr
          simp only [cond_true, Option.some.injEq, Prod.mk.injEq] at hr
          obtain ⟨rfl, rfl, rfl⟩ := hr
          refine ⟨wfMove hfr (hhp _ _ h1) rfl rfl (fun x hx => ?_) trivial, one1 (move_ok rfl), fun _ h => by cases h; rfl⟩
          rcases List.mem_append.1 hx with hx | hx
          · exact ((h.okH _ _ (hhp _ _ h1)).1 x hx).eff
          · exact ((h.okH _ _ (hhp _ _ h2)).1 x hx).eff
      · cases hr
  · cases hr

theorem op_in (D : CtxD C) (h : Wf σ) {ch : Nat} {op : Op} {dst : Option Nat} {fresh : Bool} {hp : Nat → Option Bk} {vs : List Sv} (hvs : ∀ s ∈ vs, s.all (AvOK σ)) (hhp : ∀ id k, hp id = some k → σ.heap id = some k)
    (hfr : fresh = true → ∀ d, dst = some d → σ.dom d = false) {c : Prop} {v : Sv} {e : Eff} (hr : opV C ch op dst fresh hp vs = some (c, v, e)) (hc : c) :
    EffWf σ e ∧ v.all (AvOK (e.app σ)) ∧ ∀ d, e.newId = some d → dst = some d := by
  have nod : ∀ (d : Nat), Eff.newId .nop = some d → dst = some d := fun _ h => by cases h
  unfold opV at hr
  split at hr
  · cases hr; exact ⟨wfN, hvs _ (by simp), nod⟩
  · cases hr; exact ⟨wfN, hvs _ (by simp), nod⟩
  · obtain ⟨b, _, h2⟩ := Option.map_eq_some_iff.1 hr
    cases h2
    exact ⟨wfN, by cases b <;> exact hvs _ (by simp), nod⟩
  · rename_i l
    obtain ⟨t, h1, h2⟩ := Option.map_eq_some_iff.1 hr
    cases h2
    refine ⟨wfN, fun x hx => ?_, nod⟩
    exact hvs (.tup l) (by simp) t (List.mem_of_getElem? h1) x hx
  · obtain ⟨r, h1, h2⟩ := Option.map_eq_some_iff.1 hr
    cases h2
    exact ⟨wfN, one1 (AvOK.of_plain (binR_plain h1)), nod⟩
  · obtain ⟨b, _, h2⟩ := Option.map_eq_some_iff.1 hr
    cases h2
    exact ⟨wfN, one1 (AvOK.of_plain trivial), nod⟩
  · rename_i x
    obtain ⟨q, _, hr⟩ := Option.bind_eq_some_iff.1 hr
    revert hr
    cases (litS x).isSome && rngB q.1 (0 - q.2) <;> intro hr <;> cases hr <;> exact ⟨wfN, one1 (AvOK.of_plain trivial), nod⟩
  · rename_i t _ a
    obtain ⟨n, _, hr⟩ := Option.bind_eq_some_iff.1 hr
    obtain ⟨q, h2, hr⟩ := Option.bind_eq_some_iff.1 hr
    cases hg : (isAggL q.2 == C.agg t) with
    | false => rw [hg] at hr; cases hr
    | true =>
      rw [hg] at hr
      cases hr
      exact ⟨wfN, readP_ok h hhp h2 hc, nod⟩
  · rename_i t _ _ a new
    obtain ⟨n, _, hr⟩ := Option.bind_eq_some_iff.1 hr
    cases hg : Nat.beq (sizeL new) n with
    | false => rw [hg] at hr; cases hr
    | true =>
      rw [hg] at hr
      obtain ⟨q, h2, h3⟩ := Option.map_eq_some_iff.1 ((cond_true _ _).symm.trans hr)
      cases h3
      obtain ⟨⟨k0, h4, h5⟩, h6, h7, h8⟩ := writeP_ok h hhp (hvs (.one new) (by simp)) h2 hc
      refine ⟨wfPut (hhp _ _ h4) h5 h6 ?_ h8, all0, fun _ h => by cases h⟩
      obtain ⟨q1, q2, q3⟩ := q
      cases q3 with
      | var l t => exact fun x hx => (h7 x hx).eff
      | arr l t => exact fun x hx => (h7 x hx).eff
      | _ => trivial
  · obtain ⟨d, h1, hr⟩ := Option.bind_eq_some_iff.1 hr
    cases hf : fresh with
    | false => rw [hf] at hr; cases hr
    | true =>
      rw [hf] at hr
      obtain ⟨l, h2, h3⟩ := Option.map_eq_some_iff.1 ((cond_true _ _).symm.trans hr)
      cases h3
      exact ⟨wfNew (hfr hf d h1) rfl (fun x hx => AvOK.of_plain (D.zero _ _ h2 x hx)) trivial, one1 (new_ok rfl), fun _ h => by cases h; exact h1⟩
  · rename_i l
    obtain ⟨d, h1, hr⟩ := Option.bind_eq_some_iff.1 hr
    cases hf : fresh with
    | false => rw [hf] at hr; cases hr
    | true =>
      rw [hf] at hr
      cases hr
      exact ⟨wfNew (hfr hf d h1) rfl (fun x hx => (hvs (.one l) (by simp) x hx).eff) trivial, one1 (new_ok rfl), fun _ h => by cases h; exact h1⟩
  · rename_i a
    have ha := hvs (.one [a]) (by simp) a List.mem_cons_self
    obtain ⟨q, _, hr⟩ := Option.bind_eq_some_iff.1 hr
    obtain ⟨b, h2, h3⟩ := Option.map_eq_some_iff.1 hr
    cases h3
    refine ⟨wfN, one1 ?_, nod⟩
    unfold fieldP at h2
    split at h2
    · cases h2; exact ha.same rfl rfl
    · cases h2; exact ha.same rfl rfl
    · cases h2
  · rename_i l
    obtain ⟨q, _, hr⟩ := Option.bind_eq_some_iff.1 hr
    obtain ⟨n, _, hr⟩ := Option.bind_eq_some_iff.1 hr
    obtain ⟨m, h2, hr⟩ := Option.bind_eq_some_iff.1 hr
    cases hg : (isAggL l && (isAggL m == C.agg q.2)) with
    | false => rw [hg] at hr; cases hr
    | true =>
      rw [hg] at hr
      cases hr
      obtain ⟨_, _, _, _, _, hm⟩ := partC_spec ρ0 h2
      exact ⟨wfN, fun x hx => hvs (.one l) (by simp) x (hm x hx), nod⟩
  · rename_i a i
    obtain ⟨q, _, hr⟩ := Option.bind_eq_some_iff.1 hr
    obtain ⟨r, h2, h3⟩ := Option.map_eq_some_iff.1 hr
    cases h3
    obtain ⟨h4, h5⟩ := indexP_ok h2
    exact ⟨wfN, one1 ((hvs (.one [a]) (by simp) a List.mem_cons_self).same h4 h5), nod⟩
  · rename_i a i
    obtain ⟨q, _, hr⟩ := Option.bind_eq_some_iff.1 hr
    obtain ⟨r, h2, h3⟩ := Option.map_eq_some_iff.1 hr
    cases h3
    exact ⟨wfN, one1 (AvOK.of_plain (indexV_ok h2 hc (hvs (.one [a]) (by simp) a List.mem_cons_self))), nod⟩
  · obtain ⟨l, h2, h3⟩ := Option.map_eq_some_iff.1 hr
    cases h3
    refine ⟨wfN, fun x hx => ?_, nod⟩
    rcases D.build _ _ _ h2 x hx with h4 | ⟨p, hp', m, hm, hxm⟩
    · exact AvOK.of_plain h4
    · have hps := (List.of_mem_zip (a := p.1) (b := p.2) hp').2
      have := hvs _ hps
      rw [hm] at this
      exact this x hxm
  · rename_i t len parts
    obtain ⟨d, h1, hr⟩ := Option.bind_eq_some_iff.1 hr
    cases hf : fresh with
    | false => rw [hf] at hr; cases hr
    | true =>
      rw [hf] at hr
      obtain ⟨q, hq, hr⟩ := Option.bind_eq_some_iff.1 ((cond_true _ _).symm.trans hr)
      obtain ⟨ls, h2, hr⟩ := Option.bind_eq_some_iff.1 hr
      cases hb : (Nat.beq ls.length len && Nat.blt 0 len && Nat.ble (len * q.2.1) 16777216) with
      | false => rw [hb] at hr; cases hr
      | true =>
        rw [hb] at hr
        simp only [cond_true] at hr
        simp only [Bool.and_eq_true] at hb
        have hlen : ls.length = len := Nat.eq_of_beq_eq_true hb.1.1
        obtain ⟨_, _, hl⟩ := partsL_spec _ _ _ _ _ h2 hvs
        cases hpb : ls.all (fun l => l.all Av.plainB) with
        | true =>
          rw [hpb] at hr
          cases hr
          refine ⟨wfNew (hfr hf d h1) rfl trivial ⟨(D.slc _ _ _ _ _ hq).1, fun i hi => ?_⟩, one1 (new_ok rfl), fun _ h => by cases h; exact h1⟩
          have hi' : i < ls.length := by omega
          have : getL ls i = ls[i] := by simp [getL, hi']
          rw [this]
          have hm := List.getElem_mem hi'
          exact ⟨(hl _ hm).1, (hl _ hm).2.2 (List.all_eq_true.1 hpb _ hm)⟩
        | false =>
          rw [hpb] at hr
          revert hr
          cases Nat.beq q.2.1 1 <;> intro hr <;> cases hr
          refine ⟨wfNew (hfr hf d h1) rfl (fun x hx => ?_) trivial, one1 (new_ok rfl), fun _ h => by cases h; exact h1⟩
          obtain ⟨m, hm, hxm⟩ := List.mem_flatten.1 hx
          exact ((hl m hm).2.1 x hxm).eff
  · obtain ⟨d, h1, hr⟩ := Option.bind_eq_some_iff.1 hr
    cases hf : fresh with
    | false => rw [hf] at hr; cases hr
    | true =>
      rw [hf] at hr
      obtain ⟨q, hq, hr⟩ := Option.bind_eq_some_iff.1 ((cond_true _ _).symm.trans hr)
      obtain ⟨x, _, hr⟩ := Option.bind_eq_some_iff.1 hr
      obtain ⟨y, _, hr⟩ := Option.bind_eq_some_iff.1 hr
      cases hr
      have hz := D.slc _ _ _ _ _ hq
      exact ⟨wfNew (hfr hf d h1) rfl trivial ⟨hz.1, fun _ _ => ⟨hz.2.1, hz.2.2.1⟩⟩, one1 (new_ok rfl), fun _ h => by cases h; exact h1⟩
  · rename_i s d _ id es off n
    cases hb : C.b2s s d && Nat.beq es 1 && Nat.beq n 1 with
    | false => rw [hb] at hr; cases hr
    | true =>
      rw [hb] at hr
      obtain ⟨k, h1, hr⟩ := Option.bind_eq_some_iff.1 ((cond_true _ _).symm.trans hr)
      split at hr
      · rename_i es' cnt f
        revert hr
        cases Nat.beq es' 1 <;> intro hr
        · cases hr
        · obtain ⟨v', h2, h3⟩ := Option.map_eq_some_iff.1 ((cond_true _ _).symm.trans hr)
          cases h3
          exact ⟨wfN, one1 (AvOK.of_plain trivial), nod⟩
      · cases hr
  · rename_i s
    obtain ⟨d, h1, hr⟩ := Option.bind_eq_some_iff.1 hr
    cases hf : fresh with
    | false => rw [hf] at hr; cases hr
    | true =>
      rw [hf] at hr
      revert hr
      simp only [Bool.true_and]
      cases C.strT _ <;> intro hr <;> cases hr
      exact ⟨wfNew (hfr hf d h1) rfl trivial trivial, one1 (new_ok rfl), fun _ h => by cases h; exact h1⟩
  · obtain ⟨k, h1, hr⟩ := Option.bind_eq_some_iff.1 hr
    split at hr
    · split at hr
      · cases hr
        refine ⟨wfPut (hhp _ _ h1) rfl rfl trivial trivial, fun m hm x hx => ?_, fun _ h => by cases h⟩
        simp only [List.mem_cons, List.not_mem_nil, or_false] at hm
        rcases hm with rfl | rfl | rfl <;> (simp only [List.mem_singleton] at hx; subst hx; exact AvOK.of_plain trivial)
      · cases hr
        refine ⟨wfN, fun m hm x hx => ?_, nod⟩
        simp only [List.mem_cons, List.not_mem_nil, or_false] at hm
        subst hm
        simp only [List.mem_singleton] at hx
        subst hx
        exact AvOK.of_plain trivial
    · cases hr
  · rename_i x _
    obtain ⟨q, _, hr⟩ := Option.bind_eq_some_iff.1 hr
    obtain ⟨k, _, hr⟩ := Option.bind_eq_some_iff.1 hr
    revert hr
    cases (litS x).isSome && rngB k q.2 <;> intro hr
    · simp only [cond_false] at hr
      split at hr <;> (cases hr; exact ⟨wfN, one1 (AvOK.of_plain trivial), nod⟩)
    · cases hr; exact ⟨wfN, one1 (AvOK.of_plain trivial), nod⟩
  · rename_i a
    revert hr
    cases isPtr a <;> intro hr <;> cases hr
    exact ⟨wfN, hvs _ (by simp), nod⟩
  · rename_i f first captured id
    revert hr
    cases Nat.beq first.size 0 && Nat.beq captured.size 1 <;> intro hr <;> cases hr
    exact ⟨wfN, one1 ((hvs (.one [.ptr id 0]) (by simp) _ List.mem_cons_self).same rfl rfl), nod⟩
  · rename_i fv vs
    obtain ⟨d, h1, hr⟩ := Option.bind_eq_some_iff.1 hr
    cases hf : fresh with
    | false => rw [hf] at hr; cases hr
    | true =>
      rw [hf] at hr
      obtain ⟨g, hg, hr⟩ := Option.bind_eq_some_iff.1 ((cond_true _ _).symm.trans hr)
      obtain ⟨ra, hra, hr⟩ := Option.bind_eq_some_iff.1 hr
      obtain ⟨outs, ho, hr⟩ := Option.bind_eq_some_iff.1 hr
      obtain ⟨oc, hoc, h3⟩ := Option.map_eq_some_iff.1 hr
      cases h3
      have hvs' : ∀ s ∈ vs ++ g.2, s.all (AvOK σ) := by
        intro s hs
        rcases List.mem_append.1 hs with hs | hs
        · exact hvs s (List.mem_cons_of_mem _ hs)
        · unfold calleeS at hg
          split at hg
          · cases hg; cases hs
          · cases hg
            simp only [List.mem_singleton] at hs
            subst hs
            exact one1 ((hvs _ List.mem_cons_self _ List.mem_cons_self).same rfl rfl)
          · cases hg
      have hA : ∀ A ∈ ra, ∀ p ∈ A, AvOK σ p.1 ∧ ∀ k, p.2 = some k → ∃ id, p.1.name = some id ∧ σ.heap id = some k := by
        intro A hA p hp'
        obtain ⟨l, hl, rfl⟩ := rargs_spec _ _ hra A hA
        obtain ⟨x, hx, rfl⟩ := List.mem_map.1 hp'
        refine ⟨hvs' _ hl x hx, fun k hk => ?_⟩
        obtain ⟨id, hid, hk⟩ := Option.bind_eq_some_iff.1 hk
        exact ⟨id, hid, hhp id k hk⟩
      have hA2 : ∀ id k, inArgs ra id k → σ.heap id = some k ∧ σ.dom id = true := by
        rintro id k ⟨A, hAr, x, hx, hn⟩
        obtain ⟨h5, h6⟩ := hA A hAr _ hx
        obtain ⟨id', hid', hk'⟩ := h6 k rfl
        rw [hn] at hid'
        cases hid'
        exact ⟨hk', h.hdom _ (by rw [hk']; rfl)⟩
      have hargs : ∀ A ∈ ra, ∀ p ∈ A, (p.1.name = none → p.1.plain) ∧ ∀ k, p.2 = some k → k.rowsOK ∧ k.loose := by
        intro A hA' p hp'
        obtain ⟨h5, h6⟩ := hA A hA' p hp'
        refine ⟨fun hn => ?_, fun k hk => ?_⟩
        · unfold AvOK at h5
          rw [hn] at h5
          exact h5
        · obtain ⟨id, _, h7⟩ := h6 k hk
          exact ⟨(h.okH id k h7).2, loose_of (h.okH id k h7).1⟩
      obtain ⟨w1, w2, w3, w4⟩ := D.con g.1 ra outs ho hargs ch oc hoc hc d
      refine ⟨⟨fun d' h' => by rw [w1 d' h']; exact hfr hf d h1, fun id hid => ?_, fun id k hk => ?_⟩, Sv.all_mono (fun x hx => ?_) w4, fun d' h' => by rw [w1 d' h']; exact h1⟩
      · obtain ⟨k, hk, ho'⟩ := w2 id hid
        exact ⟨k, (hA2 id k hk).1, ho'⟩
      · obtain ⟨w5, w6, w7⟩ := w3 id k hk
        refine ⟨w5, ?_, w7⟩
        cases k with
        | var l t => exact fun x hx => AvOK.of_plain (w6 x hx)
        | arr l t => exact fun x hx => AvOK.of_plain (w6 x hx)
        | _ => trivial
      · rcases hx with hx | ⟨hx, hn, hb⟩ | ⟨id, k, hx, hin⟩
        · exact AvOK.of_plain hx
        · unfold AvOK
          rw [hx]
          cases he : oc.e d with
          | nop => rw [he] at hn; cases hn
          | res d' => rw [he] at hb; cases hb
          | new d' k' => rw [he] at hn; cases hn; exact ⟨upd_same _ _ _, by show (upd σ.heap d (some k') d).isSome = true; rw [upd_same]; rfl⟩
          | put id k' => rw [he] at hn; cases hn
          | move id d' k' => rw [he] at hn; cases hn; exact ⟨upd_same _ _ _, by show (upd _ d (some k') d).isSome = true; rw [upd_same]; rfl⟩
        · refine AvOK.eff ?_
          unfold AvOK
          rw [hx]
          exact ⟨(hA2 id k hin).2, by rw [(hA2 id k hin).1]; rfl⟩
  · obtain ⟨t, _, hr⟩ := Option.bind_eq_some_iff.1 hr
    revert hr
    cases C.strT t <;> intro hr <;> cases hr
    exact ⟨wfN, one1 (AvOK.of_plain trivial), nod⟩
  · obtain ⟨t, _, hr⟩ := Option.bind_eq_some_iff.1 hr
    obtain ⟨q, _, hr⟩ := Option.bind_eq_some_iff.1 hr
    obtain ⟨v', h2, h3⟩ := Option.map_eq_some_iff.1 hr
    cases h3
    unfold lenR at h2
    split at h2 <;> cases h2 <;> exact ⟨wfN, one1 (AvOK.of_plain trivial), nod⟩
  · rename_i ats a b
    obtain ⟨d, h1, hr⟩ := Option.bind_eq_some_iff.1 hr
    cases hf : fresh with
    | false => rw [hf] at hr; cases hr
    | true =>
      rw [hf] at hr
      simp only [cond_true] at hr
      cases hb : Nat.beq ats.size 2 with
      | false => rw [hb] at hr; cases hr
      | true =>
        rw [hb] at hr
        obtain ⟨t, _, hr⟩ := Option.bind_eq_some_iff.1 ((cond_true _ _).symm.trans hr)
        obtain ⟨t', _, hr⟩ := Option.bind_eq_some_iff.1 hr
        cases hb2 : Nat.beq t t' with
        | false => rw [hb2] at hr; cases hr
        | true =>
          rw [hb2] at hr
          obtain ⟨h4, h5, h6⟩ := appendR_ok D h hhp (hfr hf d h1) (hvs (.one [a]) (by simp) a List.mem_cons_self) ((cond_true _ _).symm.trans hr) hc
          exact ⟨h4, h5, fun d' h' => by rw [h6 d' h']; exact h1⟩
  · cases hr

end M
end Go.Proofs.YtmjdmhelmgcanaaDoor

/- A machine that evaluates code: memory behind pointers. -/
namespace Go.Proofs.YtmjdmhelmgcanaaDoor
namespace M
open Go.RowKit

/-- an argument is what it is said to be -/
def ArgOK (ρ : Env) (w : World) (B : Nat → Prop) (p : Av × Option Bk) : Prop := (p.1.name = none → p.1.plain) ∧ ∀ k, p.2 = some k → ∃ id, p.1.name = some id ∧ BkOK ρ w B id k ∧ k.loose

def argV (ρ : Env) (A : RArg) : Value := denL ρ (A.map (·.1))

/-- what the machine knows of the program is true -/
structure CtxOK (P : Program) (C : Ctx) (w0 : Base) : Prop extends CtxD C where
  size : ∀ t n, C.size t = some n → ∀ w, (sizeOf t).run P w = .ok n w
  agg : ∀ t n, C.size t = some n → ∀ w, (isAgg t).run P w = .ok (C.agg t) w
  boolT : ∀ t, C.boolT t = true → P.underlying t = some .bool
  strT : ∀ t, C.strT t = true → P.underlying t = some .string
  b2s : ∀ s d, C.b2s s d = true → ∀ a n c w, (convert s d (.slice a n c)).run P w = (Conv.bytesToString (.slice a n c)).run P w
  zero_run : ∀ t l, C.zero t = some l → ∀ w, (zeroValue t).run P w = .ok (denL ρ0 l) w
  fldA : ∀ s f k t, C.fld s f = some (k, t) → ∀ b off w, (Instr.fieldAt s (.pointer (some ⟨b, off, none⟩)) f).run P w = .ok (.pointer (some ⟨b, off + k, none⟩)) w
  fldV : ∀ s f k t n, C.fld s f = some (k, t) → C.size t = some n → ∀ cs w, k + n ≤ cs.size →
    (Instr.field s (.agg cs) f).run P w = .ok (if C.agg t then .agg (cs.extract k (k + n)) else cs.getD k undef) w
  build_run : ∀ t ps l, C.build t ps = some l → ∀ ρ w, (Instr.build t (ps.map fun p => (p.1, p.2.den ρ)).toArray).run P w = .ok (denL ρ l) w
  eq : ∀ t l m p, C.eqT t l m = some p → isAggL l = true ∧ isAggL m = true ∧ ∀ ρ, (∀ n x, Av.big n x ∈ l → x < pow64 n) → (∀ n x, Av.big n x ∈ m → x < pow64 n) → ∀ b, (p ↔ b = true) → ∀ w x y,
    (do eqGuard .eql t x y (denL ρ l) (denL ρ m); binOp .eql t (denL ρ l) (denL ρ m)).run P w = .ok (.bool b) w ∧
    (do eqGuard .neq t x y (denL ρ l) (denL ρ m); binOp .neq t (denL ρ l) (denL ρ m)).run P w = .ok (.bool (!b)) w
  conv : ∀ s d k k', C.conv s d k = some k' → ∀ n w, (convert s d (.int k n)).run P w = .ok (.int k' (k'.wrap n)) w
  arr : ∀ t len es, C.arr t = some (len, es) → ∃ e, P.underlying t = some (.array len e) ∧ (∀ w, (sizeOf e).run P w = .ok es w) ∧ (∀ w, (isAgg e).run P w = .ok (!Nat.beq es 1) w) ∧ 1 < len
  slc_run : ∀ t e es b z, C.slc t = some (e, es, b, z) → P.underlying t = some (.slice e) ∧ ∃ i zv, P.info? e = some i ∧ i.size = es ∧ i.bytes = b ∧ i.zero = some zv ∧ zv.cells = (cellsL ρ0 z).toArray
  con_run : ∀ f args outs, C.con f args = some outs → ∀ (i : Nat) oc, outs[i]? = some oc → oc.c → ∀ ρ w, Kept w0 w → ∀ (B : Nat → Prop) d, (∀ b, w.heap.size ≤ b → B b) → (∀ A ∈ args, ∀ p ∈ A, ArgOK ρ w B p) → (∀ A ∈ args, ∀ p ∈ A, p.1.name ≠ some d) →
    (∀ i j ki kj, inArgs args i ki → inArgs args j kj → ki.own = true → kj.own = true → ρ.b i = ρ.b j → i = j) →
    (callFunc f (args.map (argV ρ)).toArray).run P w = .ok (.enter f (args.map (argV ρ)).toArray) w ∧
    Calls P f (args.map (argV ρ)).toArray w fun e w' => ∃ ρ', EffPost ρ ρ' w w' B (oc.e d) ∧ e = .returned ((oc.r d).den ρ')

variable {P : Program} {C : Ctx} {nt : Nat} {w0 : Base} {w w' : World} {ρ ρ' : Env} {σ σ' : Ms} {a : Act}

theorem words_upd {x y n i v : Nat} (hi : i < n) (h : ∀ j, j < n → lm y j = upd (lm x) i v j) :
    ∃ p r, words x n = p ++ (.int .u64 (lm x i) :: r) ∧ words y n = p ++ (.int .u64 v :: r) ∧ p.length = i := by
  induction n with
  | zero => omega
  | succ n ih =>
    rcases Nat.lt_or_eq_of_le (Nat.le_of_lt_succ hi) with h1 | h1
    · obtain ⟨p, r, h2, h3, h4⟩ := ih h1 fun j hj => h j (by omega)
      refine ⟨p, r ++ [.int .u64 (lm x n)], by rw [words, h2]; simp, ?_, h4⟩
      rw [words, h3, h n (by omega), upd_ne _ _ (by omega : n ≠ i)]; simp
    · subst h1
      refine ⟨words x i, [], rfl, ?_, words_length _ _⟩
      rw [words, h i (by omega), upd_same, words_congr (x := y) (y := x) fun j hj => by rw [h j (by omega), upd_ne _ _ (by omega : j ≠ i)]]
theorem vecs_congr {m n : Nat} {f g : Nat → Nat} (h : ∀ j, j < n → f j = g j) : vecs m f n = vecs m g n := by
  induction n with
  | zero => rfl
  | succ n ih => rw [vecs, vecs, ih fun j hj => h j (by omega), h n (by omega)]
theorem vecs_upd {m n i v : Nat} {f : Nat → Nat} (hi : i < n) : ∃ p r, vecs m f n = p ++ (words (f i) m ++ r) ∧ vecs m (upd f i v) n = p ++ (words v m ++ r) ∧ p.length = i * m := by
  induction n with
  | zero => omega
  | succ n ih =>
    rcases Nat.lt_or_eq_of_le (Nat.le_of_lt_succ hi) with h1 | h1
    · obtain ⟨p, r, h2, h3, h4⟩ := ih h1
      refine ⟨p, r ++ words (f n) m, by rw [vecs, h2]; simp, ?_, h4⟩
      rw [vecs, h3, upd_ne _ _ (by omega : n ≠ i)]; simp
    · subst h1
      refine ⟨vecs m f i, [], by simp [vecs], ?_, by rw [vecs_length, Nat.mul_comm]⟩
      rw [vecs, upd_same, vecs_congr (f := upd f i v) (g := f) fun j (hj : j < i) => upd_ne _ _ (by omega)]; simp

theorem one_words (x n : Nat) : ∀ u ∈ words x n, u.oneCell' = true := by
  induction n with
  | zero => simp [words]
  | succ n ih =>
    intro u hu
    simp only [words, List.mem_append, List.mem_singleton] at hu
    rcases hu with hu | rfl
    · exact ih u hu
    · rfl
theorem one_vecs (m : Nat) (f : Nat → Nat) (n : Nat) : ∀ u ∈ vecs m f n, u.oneCell' = true := by
  induction n with
  | zero => simp [vecs]
  | succ n ih =>
    intro u hu
    simp only [vecs, List.mem_append] at hu
    rcases hu with hu | hu
    · exact ih u hu
    · exact one_words _ _ u hu
theorem one_cells (ρ : Env) (x : Av) : ∀ u ∈ x.cells ρ, u.oneCell' = true := by
  cases hg : x.agg with
  | true =>
    cases x with
    | big n y => exact one_words y n
    | vec m n f => exact one_vecs m f n
    | _ => cases hg
  | false =>
    rw [(Av.size_one hg ρ).2]
    intro u hu
    simp only [List.mem_singleton] at hu
    subst hu
    cases x <;> first | rfl | cases hg
theorem one_cellsL (ρ : Env) (l : List Av) : ∀ u ∈ cellsL ρ l, u.oneCell' = true := by
  intro u hu
  simp only [cellsL, List.mem_flatMap] at hu
  obtain ⟨x, _, hu⟩ := hu
  exact one_cells ρ x u hu
theorem one_rowC (f : Nat → List Av) (n : Nat) : ∀ u ∈ rowC f n, u.oneCell' = true := by
  induction n with
  | zero => simp [rowC]
  | succ n ih =>
    intro u hu
    simp only [rowC, List.mem_append] at hu
    rcases hu with hu | hu
    · exact ih u hu
    · exact one_cellsL _ _ u hu

theorem cells_denL (ρ : Env) (l : List Av) : (denL ρ l).cells = (cellsL ρ l).toArray := by
  cases hg : isAggL l with
  | true => rw [denL_agg _ hg]; rfl
  | false =>
    obtain ⟨x, rfl, h1, h2, _, h3⟩ := denL_one ρ hg
    rw [h1, h2]
    cases x <;> first | rfl | cases h3

theorem addr_add (b off j : Nat) : (⟨b, off, none⟩ : Addr).add j = ⟨b, off + j, none⟩ := by unfold Addr.add; split <;> simp_all

/-- a row reads so -/
theorem row_read {B : Nat → Prop} {id : Nat} {o : Bool} {e : TypeId} {es n : Nat} {f : Nat → List Av} (h : BkOK ρ w B id (.row o e es n f)) : ∀ j u, (rowC f n)[j]? = some u → w.cell? ⟨ρ.b id, ρ.o id + j, none⟩ = some u := by
  cases o with
  | false => exact h.2.2.2.2.2
  | true =>
    obtain ⟨hr, _, _, _, h0, cur, h1, _, h2⟩ := h
    intro j u hu
    rw [h0, Nat.zero_add, cell_of_row w _ _ _ _ _ h1]
    have hlt : j < (rowC f n).length := (List.getElem?_eq_some_iff.1 hu).1
    rw [rowC_length fun i hi => (hr.2 i hi).1] at hlt
    rw [← h2, List.getElem?_take_of_lt hlt] at hu
    simpa using hu

theorem get_mid {p m r : List Value} {off j : Nat} {u : Value} (hp : p.length = off) (hu : m[j]? = some u) : (p ++ (m ++ r))[off + j]? = some u := by
  have hj : j < m.length := (List.getElem?_eq_some_iff.1 hu).1
  rw [List.getElem?_append_right (by omega), hp, show off + j - off = j by omega, List.getElem?_append_left hj]
  exact hu

/-- what is behind a pointer is in memory -/
theorem readP_cells (h : Rep nt w0 ρ σ a w) {hp : Nat → Option Bk} (hhp : ∀ id k, hp id = some k → σ.heap id = some k) {x : Av} {n : Nat} {c : Prop} {m : List Av} (hr : readP hp x n = some (c, m)) (hc : c) :
    ∃ b off, x.val ρ = .pointer (some ⟨b, off, none⟩) ∧ sizeL m = n ∧ ∀ j u, (cellsL ρ m)[j]? = some u → w.cell? ⟨b, off + j, none⟩ = some u := by
  unfold readP at hr
  split at hr
  · rename_i id off
    obtain ⟨k, h1, hr⟩ := Option.bind_eq_some_iff.1 hr
    split at hr
    · obtain ⟨m', h2, h3⟩ := Option.map_eq_some_iff.1 hr
      cases h3
      obtain ⟨p, r, hp1, hp2, hs, _⟩ := partC_spec ρ h2
      obtain ⟨_, hb⟩ := h.blocks _ _ (hhp _ _ h1)
      refine ⟨_, _, rfl, hs, fun j u hu => ?_⟩
      rw [cell_of_row w _ _ _ _ _ hb, hp1]
      simpa using get_mid (r := r) hp2 hu
    · rename_i l t
      obtain ⟨m', h2, h3⟩ := Option.map_eq_some_iff.1 hr
      cases h3
      obtain ⟨p, r, hp1, hp2, hs, _⟩ := partC_spec ρ h2
      obtain ⟨_, _, _, cur, hb, _, htk⟩ := h.blocks _ _ (hhp _ _ h1)
      refine ⟨_, _, rfl, hs, fun j u hu => ?_⟩
      rw [cell_of_row w _ _ _ _ _ hb]
      have g := get_mid (p := p) (r := r) hp2 hu
      rw [← hp1, ← htk] at g
      have hlt := (List.getElem?_eq_some_iff.1 g).1
      rw [List.length_take] at hlt
      rw [List.getElem?_take_of_lt (by omega)] at g
      simpa using g
    · cases hr
  · rename_i id off i
    cases hb : Nat.beq n 1 with
    | false => rw [hb] at hr; cases hr
    | true =>
      rw [hb] at hr
      obtain ⟨k, h1, hr⟩ := Option.bind_eq_some_iff.1 ((cond_true _ _).symm.trans hr)
      split at hr
      · rename_i l t
        obtain ⟨q, h2, h3⟩ := Option.map_eq_some_iff.1 hr
        cases h3
        obtain ⟨rest, h2⟩ := headBig_some h2
        obtain ⟨p, hp1, hp2, _⟩ := dropC_spec ρ l off _ h2
        obtain ⟨_, hblk⟩ := h.blocks _ _ (hhp _ _ h1)
        refine ⟨_, _, rfl, ?_, fun j u hu => ?_⟩
        · have : n = 1 := Nat.eq_of_beq_eq_true hb
          rw [this]; rfl
        · have hj : j = 0 := by
            have := (List.getElem?_eq_some_iff.1 hu).1
            simp [cellsL, Av.cells] at this
            exact this
          subst hj
          have hu' : u = .int .u64 (lm q.2 i : Nat) := by simpa [cellsL, Av.cells, Av.val] using hu.symm
          subst hu'
          rw [Nat.add_zero, cell_of_row w _ _ _ _ _ hblk, hp1, cellsL_cons]
          have hw := words_get q.2 hc
          have g := get_mid (p := p) (m := words q.2 q.1) (r := cellsL ρ rest) hp2 hw
          simpa [Av.cells] using g
      · cases hr
  · rename_i id off m' i
    cases hb : Nat.beq n m' with
    | false => rw [hb] at hr; cases hr
    | true =>
      rw [hb] at hr
      obtain ⟨k, h1, hr⟩ := Option.bind_eq_some_iff.1 ((cond_true _ _).symm.trans hr)
      split at hr
      · rename_i l t
        obtain ⟨q, h2, h3⟩ := Option.bind_eq_some_iff.1 hr
        cases hb2 : Nat.beq q.1 m' with
        | false => rw [hb2] at h3; cases h3
        | true =>
          rw [hb2] at h3
          cases h3
          obtain ⟨rest, h2⟩ := headVec_some h2
          obtain ⟨p, hp1, hp2, _⟩ := dropC_spec ρ l off _ h2
          obtain ⟨_, hblk⟩ := h.blocks _ _ (hhp _ _ h1)
          have hm : q.1 = m' := Nat.eq_of_beq_eq_true hb2
          obtain ⟨pv, rv, hv1, _, hv3⟩ := vecs_upd (m := m') (v := 0) (f := q.2.2) hc
          refine ⟨_, _, rfl, ?_, fun j u hu => ?_⟩
          · have : n = m' := Nat.eq_of_beq_eq_true hb
            rw [this]; simp [sizeL, Av.size]
          · have hu' : (words (q.2.2 i) m')[j]? = some u := by simpa [cellsL, Av.cells] using hu
            rw [cell_of_row w _ _ _ _ _ hblk, hp1, cellsL_cons]
            have e : (Av.vec q.1 q.2.1 q.2.2).cells ρ = pv ++ (words (q.2.2 i) m' ++ rv) := by rw [← hv1, ← hm]; rfl
            rw [e]
            have g1 := get_mid (p := pv) (m := words (q.2.2 i) m') (r := rv) hv3 hu'
            have g2 := get_mid (p := p) (m := pv ++ (words (q.2.2 i) m' ++ rv)) (r := cellsL ρ rest) hp2 g1
            simpa [Nat.add_assoc] using g2
      · cases hr
  · rename_i id es i k0
    obtain ⟨k, h1, hr⟩ := Option.bind_eq_some_iff.1 hr
    split at hr
    · rename_i o e es' cnt f
      cases hb : Nat.beq es es' with
      | false => rw [hb] at hr; cases hr
      | true =>
        rw [hb] at hr
        obtain ⟨m', h2, h3⟩ := Option.map_eq_some_iff.1 ((cond_true _ _).symm.trans hr)
        cases h3
        have hes : es = es' := Nat.eq_of_beq_eq_true hb
        subst hes
        have hblk := h.blocks _ _ (hhp _ _ h1)
        have hrow : RowOK es cnt f := (h.wf.okH _ _ (hhp _ _ h1)).2
        obtain ⟨p, r, hp1, hp2, hs, hm⟩ := partC_spec ρ0 h2
        obtain ⟨pr, rr, hr1, hr2⟩ := rowC_split (fun i hi => (hrow.2 i hi).1) hc
        refine ⟨_, _, rfl, hs, fun j u hu => ?_⟩
        rw [cells_plain (fun x hx => (hrow.2 i hc).2 x (hm x hx)) ρ0 ρ] at hu
        have g1 := get_mid (p := p) (r := r) hp2 hu
        rw [← hp1] at g1
        have g2 := get_mid (p := pr) (r := rr) hr2 g1
        rw [← hr1] at g2
        have := row_read hblk _ _ g2
        simpa [Nat.add_assoc] using this
    · cases hr
  · cases hr

theorem run_loadVar (OK : CtxOK P C w0) {t : TypeId} {n : Nat} (hn : C.size t = some n) {b off : Nat} {m : List Av} (hs : sizeL m = n) (hg : isAggL m = C.agg t)
    (hread : ∀ j u, (cellsL ρ m)[j]? = some u → w.cell? ⟨b, off + j, none⟩ = some u) : (loadVar t ⟨b, off, none⟩).run P w = .ok (denL ρ m) w := by
  unfold loadVar
  rw [Sem.run_bind, OK.agg t n hn w, ← hg]
  cases hgm : isAggL m with
  | true =>
    have := run_loadCells_list (P := P) w ⟨b, off, none⟩ (cellsL ρ m) fun j v hv => by rw [addr_add]; exact hread j v hv
    rw [cellsL_length, hs] at this
    simp [Result.andThen, Sem.run_bind, OK.size t n hn w, this, denL_agg _ hgm]
  | false =>
    obtain ⟨y, rfl, e2, e3, _⟩ := denL_one ρ hgm
    have := hread 0 (y.val ρ) (by rw [e3]; rfl)
    rw [Nat.add_zero] at this
    simp [Result.andThen, load, Sem.run, this, e2]

theorem store_at {b off : Nat} {t : TypeId} {L p m r vs : List Value} (h : w.heap[b]? = some (.cells L.toArray t (0, 0))) (hL : L = p ++ (m ++ r)) (hp : p.length = off) (hm : m.length = vs.length) (h1 : ∀ u ∈ vs, u.oneCell' = true) :
    (storeCells ⟨b, off, none⟩ vs).run P w = .ok () (w.setRow b (p ++ (vs ++ r)).toArray) := by
  have hst := run_storeCells_at P b off t vs 0 L.toArray w h (by simp only [List.size_toArray, hL, List.length_append]; omega) h1
  have e : (L.toArray.toList.take (off + 0) ++ vs ++ L.toArray.toList.drop (off + 0 + vs.length)).toArray = (p ++ (vs ++ r)).toArray := by
    congr 1
    simp only [Nat.add_zero, hL]
    rw [List.take_append_of_le_length (by omega), List.take_of_length_le (by omega), List.drop_append, List.drop_of_length_le (by omega), List.drop_append, List.drop_of_length_le (by omega)]
    rw [show off + vs.length - p.length - m.length = 0 by omega]
    simp
  rw [e] at hst
  exact hst

/-- a block written over -/
theorem postPut {B : Nat → Prop} {id : Nat} {k : Bk} {L : Array Value} (hk : BkOK ρ (w.setRow (ρ.b id) L) B id k) : EffPost ρ ρ w (w.setRow (ρ.b id) L) B (.put id k) := by
  refine ⟨rfl, rfl, rfl, by simp, fun _ _ => ⟨rfl, rfl, rfl⟩, fun b _ hne => setRow_other w _ _ _ (hne id rfl), fun id' k' h => ?_, fun d h => by cases h⟩
  cases h
  exact hk

/-- a part behind a pointer is written -/
theorem writeP_run (h : Rep nt w0 ρ σ a w) {hp : Nat → Option Bk} (hhp : ∀ id k, hp id = some k → σ.heap id = some k) {x : Av} {new : List Av} (hn : ∀ y ∈ new, AvOK σ y) {c : Prop} {id : Nat} {k : Bk} (hr : writeP hp x new = some (c, id, k)) (hc : c) :
    ∃ b off w', x.val ρ = .pointer (some ⟨b, off, none⟩) ∧ (storeCells ⟨b, off, none⟩ (cellsL ρ new)).run P w = .ok () w' ∧ EffPost ρ ρ w w' w0.F (.put id k) := by
  have hrows := (writeP_ok h.wf hhp hn hr hc).2.2.2
  unfold writeP at hr
  split at hr
  · rename_i id' off
    obtain ⟨k0, h1, hr⟩ := Option.bind_eq_some_iff.1 hr
    split at hr
    · rename_i l t
      obtain ⟨l', h2, h3⟩ := Option.map_eq_some_iff.1 hr
      cases h3
      obtain ⟨p, m, r, e1, e2, e3, e4, _⟩ := setC_spec ρ h2
      obtain ⟨hB, hb⟩ := h.blocks _ _ (hhp _ _ h1)
      refine ⟨_, _, _, rfl, store_at hb e1 e3 (by rw [e4, cellsL_length]) (one_cellsL ρ new), postPut ⟨hB, ?_⟩⟩
      rw [setRow_heap w _ _ _ _ _ hb, e2]
    · cases hr
  · rename_i id' off i
    obtain ⟨k0, h1, hr⟩ := Option.bind_eq_some_iff.1 hr
    split at hr
    · rename_i l t
      obtain ⟨v, h4, hr⟩ := Option.bind_eq_some_iff.1 hr
      obtain ⟨q, h5, hr⟩ := Option.bind_eq_some_iff.1 hr
      obtain ⟨l', h2, h3⟩ := Option.map_eq_some_iff.1 hr
      cases h3
      obtain ⟨c1, c2, c3⟩ := hc
      obtain ⟨p, m, r, e1, e2, e3, e4, _⟩ := setC_spec ρ h2
      obtain ⟨hB, hb⟩ := h.blocks _ _ (hhp _ _ h1)
      obtain ⟨rest, h5⟩ := headBig_some h5
      obtain ⟨p', hp1, hp2, _⟩ := dropC_spec ρ l off _ h5
      have hpp : p' = p := by
        have := congrArg (List.take off) (hp1.symm.trans e1)
        rwa [List.take_append_of_le_length (by omega), List.take_of_length_le (by omega), List.take_append_of_le_length (by omega), List.take_of_length_le (by omega)] at this
      subst hpp
      have hmr : m ++ r = words q.2 q.1 ++ cellsL ρ rest := by
        have := hp1.symm.trans e1
        rw [cellsL_cons] at this
        exact (List.append_cancel_left this).symm
      have hml : m.length = (words q.2 q.1).length := by rw [e4, words_length]; simp [sizeL, Av.size]
      obtain ⟨rfl, rfl⟩ := List.append_inj hmr hml
      have hv : v.toNat < 18446744073709551616 := by omega
      obtain ⟨pw', rw', hw1, hw2, hw3⟩ := words_upd (x := q.2) (y := stw q.1 q.2 i v.toNat) (v := v.toNat) c1 fun j hj => lm_stw hv hj
      have hcell : cellsL ρ new = [.int .u64 v] := by rcases wordS_some h4 with e | e <;> rw [e] <;> rfl
      rw [hw1] at e1
      have e1' : cellsL ρ l = (p' ++ pw') ++ ([.int .u64 (lm q.2 i : Nat)] ++ (rw' ++ cellsL ρ rest)) := by rw [e1]; simp
      have hst := store_at (P := P) (w := w) (b := ρ.b id) (off := off + i) (vs := [.int .u64 v]) hb e1' (by rw [List.length_append]; omega) rfl (by simp [Value.oneCell'])
      refine ⟨_, _, _, rfl, by rw [hcell]; exact hst, postPut ⟨hB, ?_⟩⟩
      rw [setRow_heap w _ _ _ _ _ hb]
      have e5 : cellsL ρ [Av.big q.1 (stw q.1 q.2 i v.toNat)] = words (stw q.1 q.2 i v.toNat) q.1 := by simp [cellsL, Av.cells]
      rw [e2, e5, hw2, Int.toNat_of_nonneg c2]
      simp
    · cases hr
  · rename_i id' off m' i
    obtain ⟨k0, h1, hr⟩ := Option.bind_eq_some_iff.1 hr
    split at hr
    · rename_i l t
      obtain ⟨v, h4, hr⟩ := Option.bind_eq_some_iff.1 hr
      obtain ⟨q, h5, hr⟩ := Option.bind_eq_some_iff.1 hr
      cases hbq : Nat.beq v.1 m' && Nat.beq q.1 m' with
      | false => rw [hbq] at hr; cases hr
      | true =>
        rw [hbq] at hr
        obtain ⟨l', h2, h3⟩ := Option.map_eq_some_iff.1 ((cond_true _ _).symm.trans hr)
        cases h3
        rw [Bool.and_eq_true] at hbq
        have hv1 : v.1 = m' := Nat.eq_of_beq_eq_true hbq.1
        have hq1 : q.1 = m' := Nat.eq_of_beq_eq_true hbq.2
        obtain ⟨p, m, r, e1, e2, e3, e4, _⟩ := setC_spec ρ h2
        obtain ⟨hB, hb⟩ := h.blocks _ _ (hhp _ _ h1)
        obtain ⟨rest, h5⟩ := headVec_some h5
        obtain ⟨p', hp1, hp2, _⟩ := dropC_spec ρ l off _ h5
        have hpp : p' = p := by
          have := congrArg (List.take off) (hp1.symm.trans e1)
          rwa [List.take_append_of_le_length (by omega), List.take_of_length_le (by omega), List.take_append_of_le_length (by omega), List.take_of_length_le (by omega)] at this
        subst hpp
        have hmr : m ++ r = vecs m' q.2.2 q.2.1 ++ cellsL ρ rest := by
          have := hp1.symm.trans e1
          rw [cellsL_cons, hq1] at this
          exact (List.append_cancel_left this).symm
        have hml : m.length = (vecs m' q.2.2 q.2.1).length := by rw [e4, vecs_length]; simp [sizeL, Av.size]
        obtain ⟨rfl, rfl⟩ := List.append_inj hmr hml
        obtain ⟨pv, rv, hw1, hw2, hw3⟩ := vecs_upd (m := m') (v := v.2) (f := q.2.2) hc
        have hcell : cellsL ρ new = words v.2 m' := by rw [bigS_some h4, hv1]; simp [cellsL, Av.cells]
        rw [hw1] at e1
        have e1' : cellsL ρ l = (p' ++ pv) ++ (words (q.2.2 i) m' ++ (rv ++ cellsL ρ rest)) := by rw [e1]; simp
        have hst := store_at (P := P) (w := w) (b := ρ.b id) (off := off + i * m') (vs := words v.2 m') hb e1' (by rw [List.length_append]; omega) (by rw [words_length, words_length]) (one_words _ _)
        refine ⟨_, _, _, rfl, by rw [hcell]; exact hst, postPut ⟨hB, ?_⟩⟩
        rw [setRow_heap w _ _ _ _ _ hb]
        have e5 : cellsL ρ [Av.vec m' q.2.1 (upd q.2.2 i v.2)] = vecs m' (upd q.2.2 i v.2) q.2.1 := by simp [cellsL, Av.cells]
        rw [e2, e5, hw2]
        simp
    · cases hr
  · rename_i id' es i k0
    obtain ⟨k1, h1, hr⟩ := Option.bind_eq_some_iff.1 hr
    split at hr
    · rename_i e es' cnt f
      cases hb : Nat.beq es es' && new.all Av.plainB with
      | false => rw [hb] at hr; cases hr
      | true =>
        rw [hb] at hr
        obtain ⟨l', h2, h3⟩ := Option.map_eq_some_iff.1 ((cond_true _ _).symm.trans hr)
        cases h3
        rw [Bool.and_eq_true] at hb
        have hes : es = es' := Nat.eq_of_beq_eq_true hb.1
        subst hes
        have hpl : ∀ y ∈ new, y.plain := fun y hy => plain_of_B (List.all_eq_true.1 hb.2 y hy) (hn y hy)
        obtain ⟨hrow, hn1, hn2, hB, ho, cur, hcur, hcs, htk⟩ := h.blocks _ _ (hhp _ _ h1)
        obtain ⟨p, m, r, e1, e2, e3, e4, _⟩ := setC_spec ρ0 h2
        obtain ⟨pr, rr, hr1, hr2, hr3⟩ := rowC_upd (l := l') (fun i hi => (hrow.2 i hi).1) hc
        have hcell : cellsL ρ new = cellsL ρ0 new := cells_plain hpl ρ0 ρ
        obtain ⟨T, hT⟩ : ∃ T, T = cur.toList.drop (cnt * es) := ⟨_, rfl⟩
        have hcl : cur.toList = rowC f cnt ++ T := by rw [← htk, hT, List.take_append_drop]
        have e5 : cur.toList = (pr ++ p) ++ (m ++ (r ++ (rr ++ T))) := by
          rw [hcl, hr1, e1]
          simp
        have hcur' : w.heap[ρ.b id]? = some (.cells cur.toList.toArray e (0, 0)) := by simpa using hcur
        have hst := store_at (P := P) (w := w) (b := ρ.b id) (off := i * es + k0) (vs := cellsL ρ0 new) hcur' e5 (by rw [List.length_append]; omega) (by rw [e4, cellsL_length]) (one_cellsL ρ0 new)
        refine ⟨ρ.b id, ρ.o id + i * es + k0, _, rfl, by rw [hcell, ho, Nat.zero_add]; exact hst, ?_⟩
        have hX : rowC (upd f i l') cnt = (pr ++ p) ++ (cellsL ρ0 new ++ (r ++ rr)) := by rw [hr2, e2]; simp
        have hXl : (rowC (upd f i l') cnt).length = cnt * es := rowC_length fun j hj => (hrows.2 j hj).1
        have hall : (pr ++ p) ++ (cellsL ρ0 new ++ (r ++ (rr ++ T))) = rowC (upd f i l') cnt ++ T := by rw [hX]; simp
        refine postPut ⟨hrows, hn1, hn2, hB, ho, _, setRow_heap w _ _ _ _ _ hcur, ?_, ?_⟩
        · rw [hall, List.size_toArray, List.length_append, hXl, ← hcs]
          have := congrArg List.length hcl
          rw [List.length_append, rowC_length fun j hj => (hrow.2 j hj).1] at this
          rw [← Array.length_toList, this]
        · rw [hall]
          exact List.take_left' hXl
    · cases hr
  · cases hr

end M
end Go.Proofs.YtmjdmhelmgcanaaDoor

/- A machine that evaluates code: what numbers come to. -/
namespace Go.Proofs.YtmjdmhelmgcanaaDoor
namespace M
open Go.RowKit
variable {P : Program} {C : Ctx} {nt : Nat} {w0 : Base} {w w' : World} {ρ ρ' : Env} {σ σ' : Ms} {a : Act}

theorem run_cmp {op : BinOp} {a b : Int} {p : Prop} (h : cmpP op a b = some p) {r : Bool} (hr : p ↔ r = true) (P : Program) (k : IntKind) (t : TypeId) (w : World) :
    (binOp op t (.int k a) (.int k b)).run P w = .ok (.bool r) w := by
  cases op <;> simp only [cmpP, reduceCtorEq, Option.some.injEq] at h <;> subst h <;> cases r <;> simp_all [binOp, Op.intCmp]
theorem run_lit {op : BinOp} {a b : Int} {r : Bool} (h : litB op a b = some r) (P : Program) (k : IntKind) (t : TypeId) (w : World) :
    (binOp op t (.int k a) (.int k b)).run P w = .ok (.bool r) w := by
  cases op <;> simp only [litB, reduceCtorEq, Option.some.injEq] at h <;> subst h <;> simp [binOp, Op.intCmp] <;> by_cases e : a = b <;> simp [e]

theorem ofInt_toNat {a : Int} (h0 : 0 ≤ a) (h1 : a < 18446744073709551616) : (BitVec.ofInt 64 a).toNat = a.toNat := by
  rw [BitVec.toNat_ofInt]
  have : a % ((2 ^ 64 : Nat) : Int) = a := by
    have e : ((2 ^ 64 : Nat) : Int) = 18446744073709551616 := rfl
    rw [e]; omega
  rw [this]

theorem wrap_or {a b : Nat} (ha : a < 18446744073709551616) (hb : b < 18446744073709551616) : IntKind.u64.wrap ((a ||| b : Nat) : Int) = ((a ||| b : Nat) : Int) := by
  have h : a ||| b < 2 ^ 64 := Nat.or_lt_two_pow ha hb
  exact wrap_rng (k := .u64) ⟨by omega, by omega⟩

theorem run_numR {op : BinOp} {k : IntKind} {a b : Int} {la lb : Bool} {ch : Nat} {c : Prop} {r : Av} (h : numR op k a b la lb ch = some (c, r)) (hc : c) (hs : isShift op = false) (t : TypeId) (w : World) :
    (binOp op t (.int k a) (.int k b)).run P w = .ok (r.val ρ) w := by
  unfold numR at h
  split at h
  · rename_i q hq
    have hrun : (binOp op t (.int k a) (.int k b)).run P w = .ok (.int k (k.wrap q)) w := by
      cases op <;> simp only [arith, reduceCtorEq, Option.some.injEq] at hq <;> subst hq <;> simp [binOp, Op.intArith]
    rw [hrun]
    cases hb : la && lb with
    | true =>
      rw [hb] at h
      cases hr : rngB k q with
      | true => rw [hr] at h; cases h; rw [wrap_rng (rng_of_B hr)]; rfl
      | false => rw [hr] at h; cases h
    | false =>
      rw [hb] at h
      simp only [cond_false] at h
      split at h
      · cases h; rw [wrap_rng hc]; rfl
      · cases h; rfl
  · split at h
    · cases hb : (lb && decide (0 < b)) with
      | false => rw [hb] at h; cases h
      | true =>
        rw [hb] at h
        cases h
        simp only [Bool.and_eq_true, decide_eq_true_eq] at hb
        have h0 : b ≠ 0 := by omega
        simp [binOp, Op.intDiv, h0, Int.tdiv_eq_ediv_of_nonneg hc.1, wrap_rng hc.2, Av.val]
    · cases hb : (lb && decide (0 < b)) with
      | false => rw [hb] at h; cases h
      | true =>
        rw [hb] at h
        cases h
        simp only [Bool.and_eq_true, decide_eq_true_eq] at hb
        have h0 : b ≠ 0 := by omega
        simp [binOp, Op.intDiv, h0, Int.tmod_eq_emod_of_nonneg hc, Av.val]
    · cases hb : (lb && decide (b = 1) && decide (k = .u64)) with
      | false =>
        rw [hb] at h
        simp only [cond_false] at h
        cases hb2 : (lb && decide (b = 4294967295) && decide (k = .u64)) with
        | false => rw [hb2] at h; cases h
        | true =>
          rw [hb2] at h
          cases h
          simp only [Bool.and_eq_true, decide_eq_true_eq] at hb2
          obtain ⟨⟨_, rfl⟩, rfl⟩ := hb2
          have e : (BitVec.ofInt 64 a &&& BitVec.ofInt 64 4294967295).toNat = a.toNat % 4294967296 := by
            rw [BitVec.toNat_and, ofInt_toNat hc.1 hc.2, ofInt_toNat (by omega) (by omega)]
            exact Nat.and_two_pow_sub_one_eq_mod _ 32
          have e2 : IntKind.u64.wrap ((a.toNat % 4294967296 : Nat) : Int) = a % 4294967296 := by
            rw [wrap_rng (k := .u64) ⟨by omega, by omega⟩]
            have := hc.1
            omega
          have hrun : (binOp .and t (.int .u64 a) (.int .u64 4294967295)).run P w = .ok (.int .u64 (IntKind.u64.wrap ((BitVec.ofInt 64 a &&& BitVec.ofInt 64 4294967295).toNat))) w := rfl
          rw [hrun, e, e2]
          rfl
      | true =>
        rw [hb] at h
        cases h
        simp only [Bool.and_eq_true, decide_eq_true_eq] at hb
        obtain ⟨⟨_, rfl⟩, rfl⟩ := hb
        have e : (BitVec.ofInt 64 a &&& BitVec.ofInt 64 1).toNat = a.toNat % 2 := by
          rw [BitVec.toNat_and, ofInt_toNat hc.1 hc.2, ofInt_toNat (by omega) (by omega)]
          exact Nat.and_one_is_mod _
        have e2 : IntKind.u64.wrap ((a.toNat % 2 : Nat) : Int) = a % 2 := by
          rw [wrap_rng (k := .u64) ⟨by omega, by omega⟩]
          have := hc.1
          omega
        have hrun : (binOp .and t (.int .u64 a) (.int .u64 1)).run P w = .ok (.int .u64 (IntKind.u64.wrap ((BitVec.ofInt 64 a &&& BitVec.ofInt 64 1).toNat))) w := rfl
        rw [hrun, e, e2]
        rfl
    · cases hb : decide (k = .u64) with
      | false => rw [hb] at h; cases h
      | true =>
        rw [hb] at h
        cases h
        have := of_decide_eq_true hb
        subst this
        obtain ⟨⟨a0, a1⟩, b0, b1⟩ := hc
        have hrun : (binOp .or t (.int .u64 a) (.int .u64 b)).run P w = .ok (.int .u64 (IntKind.u64.wrap ((BitVec.ofInt 64 a ||| BitVec.ofInt 64 b).toNat))) w := rfl
        rw [hrun, BitVec.toNat_or, ofInt_toNat a0 a1, ofInt_toNat b0 b1, wrap_or (by omega) (by omega)]
        rfl
    · cases h

theorem bits_eq (k : IntKind) : (k.bits : Int) = bitsB k := by cases k <;> rfl

theorem cast_mul {a : Int} {n : Nat} (h : 0 ≤ a) : ((a.toNat * 2 ^ n : Nat) : Int) = a * 2 ^ n := by
  rw [Int.natCast_mul, Int.natCast_pow, Int.toNat_of_nonneg h]; rfl

theorem run_shiftR {op : BinOp} {k k' : IntKind} {a b : Int} {lab : Bool} {ch : Nat} {c : Prop} {r : Av} (h : shiftR op k a b lab ch = some (c, r)) (hc : c) (t : TypeId) (w : World) :
    (binOp op t (.int k a) (.int k' b)).run P w = .ok (r.val ρ) w := by
  have key : ∀ b : Int, 0 ≤ b → b < bitsB k → min b.toNat k.bits = b.toNat := fun b h0 h1 => by
    rw [← bits_eq] at h1
    omega
  have hl : ∀ x y : Int, 0 ≤ y → ¬ y < 0 := fun _ y h => by omega
  unfold shiftR at h
  split at h
  · cases hb : (lab && decide (0 ≤ a ∧ 0 ≤ b ∧ b < bitsB k) && rngB k ((a.toNat * 2 ^ b.toNat : Nat) : Int)) with
    | true =>
      rw [hb] at h
      cases h
      rw [Bool.and_eq_true, Bool.and_eq_true, decide_eq_true_eq] at hb
      obtain ⟨⟨_, c0, c1, c2⟩, c3⟩ := hb
      have c3 := rng_of_B c3
      have h0 : ¬ b < 0 := by omega
      rw [cast_mul c0] at c3 ⊢
      simp [binOp, Op.shift, h0, key b c1 c2, wrap_rng c3, Av.val]
    | false =>
      rw [hb] at h
      simp only [cond_false] at h
      split at h
      · cases h
        obtain ⟨c0, c1, c2, c3⟩ := hc
        have h0 : ¬ b < 0 := by omega
        rw [cast_mul c0] at c3 ⊢
        simp [binOp, Op.shift, h0, key b c1 c2, wrap_rng c3, Av.val]
      · cases h
        obtain ⟨c0, c1, c2⟩ := hc
        have h0 : ¬ b < 0 := by omega
        rw [cast_mul c0]
        simp [binOp, Op.shift, h0, key b c1 c2, Av.val]
  · have e : ∀ n : Nat, a.fdiv (2 ^ n) = a / 2 ^ n := fun n => Int.fdiv_eq_ediv_of_nonneg _ (Int.le_of_lt (Int.pow_pos (by omega)))
    have e2 : ∀ n : Nat, 0 ≤ a → ((a.toNat / 2 ^ n : Nat) : Int) = a / 2 ^ n := fun n c1 => by
      rw [Int.natCast_ediv, Int.natCast_pow, Int.toNat_of_nonneg c1]; rfl
    cases hb : (lab && decide (0 ≤ a ∧ 0 ≤ b ∧ b < bitsB k)) with
    | true =>
      rw [hb] at h
      cases h
      rw [Bool.and_eq_true, decide_eq_true_eq] at hb
      obtain ⟨_, c1, c2, c3⟩ := hb
      have h0 : ¬ b < 0 := by omega
      rw [e2 _ c1]
      simp [binOp, Op.shift, h0, key b c2 c3, e, Av.val]
    | false =>
      rw [hb] at h
      simp only [cond_false] at h
      split at h
      · cases h
        obtain ⟨c1, c2, c3⟩ := hc
        have h0 : ¬ b < 0 := by omega
        rw [e2 _ c1]
        simp [binOp, Op.shift, h0, key b c2 c3, e, Av.val]
      · cases h
        obtain ⟨c1, c2, c3⟩ := hc
        have hb0 : (0 : Int) ≤ bitsB k := by rw [← bits_eq]; omega
        have h0 : ¬ b < 0 := by omega
        have hm : min b.toNat k.bits = k.bits := by rw [← bits_eq] at c3; omega
        have hz : a / 2 ^ k.bits = 0 := by
          refine Int.ediv_eq_zero_of_lt c1 ?_
          cases k <;> simp only [rng] at c2 <;> simp only [IntKind.bits] <;> omega
        simp [binOp, Op.shift, h0, hm, e, hz, Av.val]
  · cases h

theorem boolS_spec {v : Sv} {b : Bool} (h : boolS v = some b) : v = .one [.bool b] := by
  unfold boolS at h; split at h <;> simp_all
theorem litS_spec {v : Sv} {k : IntKind} {n : Int} (h : litS v = some (k, n)) : v = .one [.lit k n] := by
  unfold litS at h; split at h <;> simp_all
theorem intS_spec {v : Sv} {k : IntKind} {n : Int} (h : intS v = some (k, n)) : ∀ ρ, v.den ρ = .int k n := by
  unfold intS at h; split at h <;> simp_all [Sv.den, denL, Av.val]
theorem oneS_spec {v : Sv} {l : List Av} (h : oneS v = some l) : v = .one l := by
  unfold oneS at h; split at h <;> simp_all

theorem strS_spec {l : List Av} {s : ByteArray} (h : strS l = some s) : l = [.str s] := by
  unfold strS at h
  split at h
  · cases h; rfl
  · cases h

theorem toList_eq {a b : ByteArray} : a.toList = b.toList ↔ a = b := by
  constructor
  · intro h
    rw [ByteArray.toList_eq, ByteArray.toList_eq] at h
    exact congrArg ByteArray.mk (Array.toList_inj.1 h)
  · rintro rfl; rfl

theorem run_strR {op : BinOp} {a b : ByteArray} {ch : Nat} {c : Prop} {r : Av} (h : strR op a b ch = some (c, r)) (hc : c) (t : TypeId) (ox oy : Operand) (w : World) :
    (do eqGuard op t ox oy (denL ρ [.str a]) (denL ρ [.str b]); binOp op t (denL ρ [.str a]) (denL ρ [.str b])).run P w = .ok (r.val ρ) w := by
  unfold strR at h
  split at h
  · cases h
    have hrun := run_string_add_sum (P := P) (w := w) a b hc
    have e : (eqGuard .add t ox oy (.string a) (.string b)).run P w = .ok () w := by simp [eqGuard]
    simp only [denL, Av.val, Sem.run_bind, e, Result.andThen_ok, binOp_string_add, hrun]
  · cases h
    have h1 := pickP_spec hc
    have e : (eqGuard .eql t ox oy (.string a) (.string b)).run P w = .ok () w := by simp [eqGuard]
    have e2 : (a.toList == b.toList) = (pickP (a = b) ch).2 := by rw [Bool.eq_iff_iff, beq_iff_eq, toList_eq]; exact h1
    simp only [denL, Av.val, Sem.run_bind, e, Result.andThen_ok, binOp_string_eql, e2, Sem.run_pure]
  · cases h
    have h1 := pickP_spec hc
    have e : (eqGuard .neq t ox oy (.string a) (.string b)).run P w = .ok () w := by simp [eqGuard]
    have e2 : (a.toList == b.toList) = (pickP (a = b) ch).2 := by rw [Bool.eq_iff_iff, beq_iff_eq, toList_eq]; exact h1
    simp only [denL, Av.val, Sem.run_bind, e, Result.andThen_ok, binOp_string_neq, e2, Sem.run_pure]
  · cases h

theorem run_binR (OK : CtxOK P C w0) {op : BinOp} {t : TypeId} {x y : Sv} {ch : Nat} {c : Prop} {r : Av} (h : binR C op t x y ch = some (c, r)) (hc : c)
    (hx : x.all (AvOK σ)) (hy : y.all (AvOK σ)) (ox oy : Operand) (w : World) :
    (do eqGuard op t ox oy (x.den ρ) (y.den ρ); binOp op t (x.den ρ) (y.den ρ)).run P w = .ok (r.val ρ) w := by
  unfold binR at h
  split at h
  · rename_i p q hp hq
    rw [boolS_spec hp, boolS_spec hq]
    cases hbt : C.boolT t with
    | false => rw [hbt] at h; cases h
    | true =>
    rw [hbt] at h
    simp only [cond_true] at h
    have hb := fun (u v : Bool) => run_equalIn_bool' (P := P) w 9999 t u v (OK.boolT t hbt)
    cases op <;> simp only [reduceCtorEq, Option.some.injEq, Prod.mk.injEq] at h <;> obtain ⟨-, rfl⟩ := h <;> simp [Sv.den, denL, Av.val, eqGuard, binOp, Op.equal, Op.maxDepth, hb]
  · split at h
    · rename_i k p k' q hp hq
      rw [intS_spec hp ρ, intS_spec hq ρ]
      have hgd : (eqGuard op t ox oy (.int k p) (.int k' q)).run P w = .ok () w := by cases op <;> simp [eqGuard]
      rw [Sem.run_bind, hgd, Result.andThen_ok]
      cases hs : isShift op with
      | true =>
        rw [hs] at h
        exact run_shiftR ((cond_true _ _).symm.trans h) hc t w
      | false =>
        rw [hs] at h
        simp only [cond_false] at h
        cases hk : decide (k = k') with
        | false => rw [hk] at h; cases h
        | true =>
          rw [hk] at h
          simp only [cond_true] at h
          have := of_decide_eq_true hk
          subst this
          split at h
          · rename_i r' hl _
            cases h
            exact run_lit hl P k t w
          · split at h
            · rename_i p' hp'
              cases h
              exact run_cmp hp' (pickP_spec hc) P k t w
            · exact run_numR h hc hs t w
    · split at h
      · rename_i l m hl hm
        rw [oneS_spec hl] at hx ⊢
        rw [oneS_spec hm] at hy ⊢
        split at h
        · rename_i p q hp hq
          rw [strS_spec hp, strS_spec hq]
          cases hst : C.strT t with
          | false => rw [hst] at h; cases h
          | true =>
          rw [hst] at h
          exact run_strR ((cond_true _ _).symm.trans h) hc t ox oy w
        obtain ⟨p, hp, h⟩ := Option.bind_eq_some_iff.1 h
        obtain ⟨_, _, H⟩ := OK.eq t l m p hp
        have hbx : ∀ n x, Av.big n x ∈ l → x < pow64 n := fun n x hmem => hx _ hmem
        have hby : ∀ n x, Av.big n x ∈ m → x < pow64 n := fun n x hmem => hy _ hmem
        split at h
        · cases h
          exact (H ρ hbx hby _ (pickP_spec hc) w ox oy).1
        · cases h
          exact (H ρ hbx hby _ (pickP_spec hc) w ox oy).2
        · cases h
      · cases h

end M
end Go.Proofs.YtmjdmhelmgcanaaDoor

/- A machine that evaluates code: an operation does what the machine says. -/
namespace Go.Proofs.YtmjdmhelmgcanaaDoor
namespace M
open Go.RowKit
variable {P : Program} {C : Ctx} {nt : Nat} {w0 : Base} {w w' : World} {ρ ρ' : Env} {σ σ' : Ms} {a : Act}

theorem wp_val {o : Oper} {v : Value} {K' : Act → World → Prop} {Q : Exit → Act → World → Prop} (h : (execOp a.eval o).run P w = .ok (.value v) w') (hk : K' (a.put o.dst v) w') : o.wp P a w K' Q := by
  unfold Oper.wp; rw [h]; exact hk
theorem wp_skp {o : Oper} {K' : Act → World → Prop} {Q : Exit → Act → World → Prop} (h : (execOp a.eval o).run P w = .ok .skip w') (hk : K' (a.put o.dst undef) w') : o.wp P a w K' Q := by
  unfold Oper.wp; rw [h]; exact hk

theorem postN {B : Nat → Prop} : EffPost ρ ρ w w B .nop := ⟨rfl, rfl, rfl, Nat.le_refl _, fun _ _ => ⟨rfl, rfl, rfl⟩, fun _ _ _ => rfl, (fun _ _ h => by cases h), (fun _ h => by cases h)⟩

/-- the surroundings with a new name -/
def Env.set (ρ : Env) (d b c : Nat) : Env := ⟨upd ρ.b d b, upd ρ.o d 0, upd ρ.c d c⟩
theorem Env.set_ne {ρ : Env} {d b c i : Nat} (h : i ≠ d) : (ρ.set d b c).b i = ρ.b i ∧ (ρ.set d b c).o i = ρ.o i ∧ (ρ.set d b c).c i = ρ.c i :=
  ⟨upd_ne _ _ h, upd_ne _ _ h, upd_ne _ _ h⟩

theorem postNew {B : Nat → Prop} {d cap : Nat} {k : Bk} {o : Obj} (hk : BkOK (ρ.set d w.heap.size cap) (w.alloc o) B d k) : EffPost ρ (ρ.set d w.heap.size cap) w (w.alloc o) B (.new d k) := by
  refine ⟨rfl, rfl, rfl, by simp, fun i hi => Env.set_ne fun e => hi (by rw [e]; rfl), fun b hb _ => Below.heap_alloc w o b hb, fun id' k' h => ?_, fun d' h _ => ?_⟩
  · cases h; exact hk
  · cases h; exact .inl (by simp [Env.set, upd_same])
theorem postNewDrew {B : Nat → Prop} {d cap : Nat} {k : Bk} {o : Obj} (hk : BkOK (ρ.set d w.heap.size cap) (w.drew.alloc o) B d k) : EffPost ρ (ρ.set d w.heap.size cap) w (w.drew.alloc o) B (.new d k) := by
  refine ⟨rfl, rfl, rfl, by simp, fun i hi => Env.set_ne fun e => hi (by rw [e]; rfl), fun b hb _ => Below.heap_alloc w.drew o b hb, fun id' k' h => ?_, fun d' h _ => ?_⟩
  · cases h; exact hk
  · cases h; exact .inl (by simp [Env.set, upd_same])

/-- a new variable -/
theorem new_var {d : Nat} {l : List Av} {t : TypeId} (hl : ∀ x ∈ l, x.inD σ.dom) (hfr : σ.dom d = false) {B : Nat → Prop} (hB : B w.heap.size) :
    EffPost ρ (ρ.set d w.heap.size 0) w (w.alloc (.cells (cellsL ρ l).toArray t)) B (.new d (.var l t)) := by
  refine postNew ⟨?_, ?_⟩
  · simp only [Env.set, upd_same]; exact hB
  · have hA : Agree σ.dom ρ (ρ.set d w.heap.size 0) := fun i hi => Env.set_ne fun e => by rw [e, hfr] at hi; cases hi
    have e1 : (ρ.set d w.heap.size 0).b d = w.heap.size := upd_same _ _ _
    rw [e1, cellsL_congr hA hl]
    exact heap_alloc_new w _

theorem run_part {e : TypeId} {es : Nat} {g : Bool} (h1 : ∀ w, (sizeOf e).run P w = .ok es w) (h2 : ∀ w, (isAgg e).run P w = .ok g w) {p m r : List Value} (hm : m.length = es) (hg : g = false → es = 1) (w : World) :
    (part e (p ++ (m ++ r)).toArray p.length).run P w = .ok (if g then .agg m.toArray else m.getD 0 undef) w := by
  unfold part
  rw [Sem.run_bind, h2 w]
  cases g with
  | true =>
    simp only [Result.andThen_ok, if_true, Sem.run_bind, h1 w, Sem.run_pure]
    congr 2
    rw [List.extract_toArray, List.extract_eq_take_drop]
    congr 1
    rw [show p.length + es - p.length = es by omega, List.drop_left, List.take_append_of_le_length (by omega), List.take_of_length_le (by omega)]
  | false =>
    have h1 : m.length = 1 := by rw [hm, hg rfl]
    obtain ⟨u, rfl⟩ := List.length_eq_one_iff.1 h1
    simp [Result.andThen_ok]

theorem run_indexV (OK : CtxOK P C w0) {t : TypeId} {x b : Av} {i : Int} {k : IntKind} {c : Prop} (h : indexV C t x i = some (c, b)) (hc : c) (w : World) :
    (Instr.index t (x.val ρ) (.int k i)).run P w = .ok (b.val ρ) w := by
  unfold indexV at h
  split at h
  · rename_i n y
    obtain ⟨q, hq, h⟩ := Option.bind_eq_some_iff.1 h
    cases hb : Nat.beq q.1 n && Nat.beq q.2 1 with
    | false => rw [hb] at h; cases h
    | true =>
      rw [hb] at h
      cases h
      rw [Bool.and_eq_true] at hb
      have e1 : q.1 = n := Nat.eq_of_beq_eq_true hb.1
      have e2 : q.2 = 1 := Nat.eq_of_beq_eq_true hb.2
      obtain ⟨e, hu, hs, hg, _⟩ := OK.arr t q.1 q.2 hq
      have hi : i.toNat < n := by have := hc.1; have := hc.2; omega
      obtain ⟨p, r, h1, _, h3⟩ := words_upd (x := y) (y := stw n y i.toNat 0) hi fun j hj => lm_stw (by omega) hj
      rw [e2] at hs hg
      have hp := run_part (P := P) (g := false) hs hg (p := p) (m := [Value.int .u64 (lm y i.toNat : Nat)]) (r := r) rfl (fun _ => rfl) w
      have hv : (Av.big n y).val ρ = .agg (p ++ ([Value.int .u64 (lm y i.toNat : Nat)] ++ r)).toArray := by simp only [Av.val, h1, List.singleton_append]
      rw [hv]
      have hc1 := hc.1
      have hc2 : i < (q.1 : Int) := by rw [e1]; exact hc.2
      rw [h3] at hp
      simp only [Instr.index, asIntOf, run_underlying hu, Sem.run_bind, Sem.run_pure, Result.andThen_ok, hc1, hc2, and_self, if_true, hs, Nat.mul_one, hp]
      rfl
  · rename_i m n f
    obtain ⟨q, hq, h⟩ := Option.bind_eq_some_iff.1 h
    cases hb : Nat.beq q.1 n && Nat.beq q.2 m && !Nat.beq m 1 with
    | false => rw [hb] at h; cases h
    | true =>
      rw [hb] at h
      cases h
      simp only [Bool.and_eq_true] at hb
      have e1 : q.1 = n := Nat.eq_of_beq_eq_true hb.1.1
      have e2 : q.2 = m := Nat.eq_of_beq_eq_true hb.1.2
      obtain ⟨e, hu, hs, hg, _⟩ := OK.arr t q.1 q.2 hq
      have hi : i.toNat < n := by have := hc.1; have := hc.2; omega
      obtain ⟨p, r, h1, _, h3⟩ := vecs_upd (m := m) (v := 0) (f := f) hi
      have hv : (Av.vec m n f).val ρ = .agg (p ++ (words (f i.toNat) m ++ r)).toArray := by simp only [Av.val, h1]
      rw [hv]
      have hc1 := hc.1
      have hc2 : i < (q.1 : Int) := by rw [e1]; exact hc.2
      rw [e2] at hs hg
      have hp := run_part (P := P) (g := true) hs (fun w => by rw [hg w, hb.2]) (p := p) (m := words (f i.toNat) m) (r := r) (words_length _ _) (fun h => by cases h) w
      rw [h3] at hp
      simp only [Instr.index, asIntOf, run_underlying hu, Sem.run_bind, Sem.run_pure, Result.andThen_ok, hc1, hc2, and_self, if_true, hs, hp]
      rfl
  · rename_i s
    cases hst : C.strT t with
    | false => rw [hst] at h; cases h
    | true =>
      rw [hst] at h
      cases h
      have hi : i.toNat < s.size := by have := hc.1; have := hc.2; omega
      have e : byteAt s i.toNat = (s[i.toNat]'hi).toNat := by
        have hl : i.toNat < s.data.toList.length := by rw [Array.length_toList]; exact hi
        unfold byteAt
        rw [List.getD_eq_getElem?_getD, List.getElem?_eq_getElem hl]
        rfl
      have hr := run_index_string (P := P) (w := w) t s k i (OK.strT t hst)
      rw [dif_pos ⟨hc.1, hc.2⟩] at hr
      show (Instr.index t (.string s) (.int k i)).run P w = .ok (.int .u8 (byteAt s i.toNat : Nat)) w
      rw [hr, e]
  · cases h

theorem run_indexP (OK : CtxOK P C w0) {t : TypeId} {x b : Av} {i : Int} {k : IntKind} {l : Bool} {c : Prop} (h : indexP C t x i l = some (c, b)) (hc : c) (w : World) :
    (Instr.indexAt t (x.val ρ) (.int k i)).run P w = .ok (b.val ρ) w := by
  unfold indexP at h
  split at h
  · rename_i id off
    obtain ⟨q, hq, h⟩ := Option.bind_eq_some_iff.1 h
    obtain ⟨e, hu, hs, _, _⟩ := OK.arr t q.1 q.2 hq
    have run : ∀ i : Int, 0 ≤ i → i < q.1 → (Instr.indexAt t (.pointer (some ⟨ρ.b id, off, none⟩)) (.int k i)).run P w = .ok (.pointer (some ⟨ρ.b id, off + i.toNat * q.2, none⟩)) w := by
      intro i h1 h2
      simp [Instr.indexAt, asIntOf, run_underlying hu, Instr.sureAddr, h1, h2, hs, addr_add]
    have fin : 0 ≤ i → i < q.1 → (Instr.indexAt t ((Av.ptr id off).val ρ) (.int k i)).run P w = .ok ((bif Nat.beq q.2 1 then Av.pw id off i.toNat else .pv id off q.2 i.toNat).val ρ) w := by
      intro h1 h2
      rw [show (Av.ptr id off).val ρ = .pointer (some ⟨ρ.b id, off, none⟩) from rfl, run i h1 h2]
      cases hb1 : Nat.beq q.2 1 with
      | true =>
        have : q.2 = 1 := Nat.eq_of_beq_eq_true hb1
        simp [this, Av.val]
      | false => rfl
    cases l with
    | true =>
      simp only [cond_true] at h
      cases hb : decide (0 ≤ i ∧ i < q.1) with
      | false => rw [hb] at h; cases h
      | true =>
        rw [hb] at h
        simp only [cond_true, Option.some.injEq, Prod.mk.injEq] at h
        obtain ⟨_, rfl⟩ := h
        have hb' := of_decide_eq_true hb
        exact fin hb'.1 hb'.2
    | false =>
      simp only [cond_false, Option.some.injEq, Prod.mk.injEq] at h
      obtain ⟨rfl, rfl⟩ := h
      exact fin hc.1 hc.2
  · rename_i id es off n
    obtain ⟨q, hq, h⟩ := Option.bind_eq_some_iff.1 h
    cases hb : Nat.beq q.2.1 es with
    | false => rw [hb] at h; cases h
    | true =>
      rw [hb] at h
      cases h
      have e1 : q.2.1 = es := Nat.eq_of_beq_eq_true hb
      obtain ⟨hu, inf, zv, hi, hsz, _⟩ := OK.slc_run t q.1 q.2.1 q.2.2.1 q.2.2.2 hq
      have hs : (sizeOf q.1).run P w = .ok es w := by simp [sizeOf, typeInfo, hi, hsz, e1]
      have hc1 := hc.1
      have hc2 := hc.2
      simp only [Av.val, addO_eq]
      simp [Instr.indexAt, asIntOf, run_underlying hu, hc1, hc2, hs, addr_add, Nat.add_mul, Nat.add_assoc]
  · rename_i id n
    obtain ⟨q, hq, h⟩ := Option.bind_eq_some_iff.1 h
    cases hb : l && Nat.beq q.2.1 1 with
    | false => rw [hb] at h; cases h
    | true =>
      rw [hb] at h
      cases h
      rw [Bool.and_eq_true] at hb
      have e1 : q.2.1 = 1 := Nat.eq_of_beq_eq_true hb.2
      obtain ⟨hu, inf, zv, hi, hsz, _⟩ := OK.slc_run t q.1 q.2.1 q.2.2.1 q.2.2.2 hq
      have hs : (sizeOf q.1).run P w = .ok 1 w := by simp [sizeOf, typeInfo, hi, hsz, e1]
      have hc1 := hc.1
      have hc2 := hc.2
      simp only [Av.val]
      simp [Instr.indexAt, asIntOf, run_underlying hu, hc1, hc2, hs, addr_add]
  · cases h

/-! ## Rows that are made -/

theorem rowC_add (f : Nat → List Av) (n m : Nat) : rowC f (n + m) = rowC f n ++ rowC (fun i => f (n + i)) m := by
  induction m with
  | zero => simp [rowC]
  | succ m ih => rw [Nat.add_succ, rowC, ih, rowC, List.append_assoc]

theorem rowC_getL (ls : List (List Av)) : rowC (getL ls) ls.length = ls.flatMap (cellsL ρ0) := by
  have key : ∀ n, n ≤ ls.length → rowC (getL ls) n = (ls.take n).flatMap (cellsL ρ0) := by
    intro n
    induction n with
    | zero => intro _; simp [rowC]
    | succ n ih =>
      intro hn
      have hlt : n < ls.length := by omega
      rw [rowC, ih (by omega), List.take_succ_eq_append_getElem hlt, List.flatMap_append]
      congr 1
      simp [getL, hlt]
  have := key ls.length (Nat.le_refl _)
  rwa [List.take_length] at this

theorem set_run : ∀ (vs : List Value) (off k : Nat) (p m r : List Value), p.length = off + k → m.length = vs.length →
    (vs.zipIdx k).foldl (fun (cs : Array Value) x => cs.setIfInBounds (off + x.2) x.1) (p ++ (m ++ r)).toArray = (p ++ (vs ++ r)).toArray
  | [], off, k, p, m, r, _, hm => by
    have : m = [] := List.eq_nil_of_length_eq_zero (by simpa using hm)
    subst this
    rfl
  | v :: vs, off, k, p, [], r, _, hm => by simp at hm
  | v :: vs, off, k, p, x :: m, r, hp, hm => by
    rw [List.zipIdx_cons, List.foldl_cons]
    have e : (p ++ (x :: m ++ r)).toArray.setIfInBounds (off + k) v = ((p ++ [v]) ++ (m ++ r)).toArray := by
      rw [← hp]
      simp
    rw [e, set_run vs off (k + 1) (p ++ [v]) m r (by simp; omega) (by simpa using hm)]
    simp

theorem fill_parts (es : Nat) : ∀ (ps : List (Nat × Operand)) (k : Nat) (vs : List Sv) (ls : List (List Av)) (p z : List Value), partsL es k ps vs = some ls → ps.map (fun q => a.eval q.2) = vs.map (Sv.den ρ) →
    p.length = k * es → z.length = ls.length * es → Instr.fill (fun i => some (i * es, es)) (p ++ z).toArray (ps.map fun q => (q.1, a.eval q.2)) = some (p ++ ls.flatMap (cellsL ρ)).toArray
  | [], k, [], ls, p, z, h, _, _, hz => by
    simp only [partsL, Option.some.injEq] at h
    subst h
    have : z = [] := List.eq_nil_of_length_eq_zero (by simpa using hz)
    subst this
    rfl
  | (i, x) :: ps, k, .one l :: vs, ls, p, z, h, hv, hp, hz => by
    simp only [partsL] at h
    cases hb : (Nat.beq i k && Nat.beq (sizeL l) es) with
    | false => rw [hb] at h; cases h
    | true =>
      rw [hb] at h
      obtain ⟨ls', h1, rfl⟩ := Option.map_eq_some_iff.1 ((cond_true _ _).symm.trans h)
      simp only [Bool.and_eq_true] at hb
      have hi : i = k := Nat.eq_of_beq_eq_true hb.1
      have hl : sizeL l = es := Nat.eq_of_beq_eq_true hb.2
      subst hi
      simp only [List.map_cons, List.cons.injEq] at hv
      obtain ⟨v1, v2⟩ := hv
      have v1' : a.eval x = denL ρ l := v1
      have hcs : (a.eval x).cells = (cellsL ρ l).toArray := by rw [v1', cells_denL]
      have hzl : es ≤ z.length := by rw [hz, List.length_cons, Nat.succ_mul]; omega
      have hlen : (cellsL ρ l).length = es := by rw [cellsL_length, hl]
      have e1 : (cellsL ρ l).toArray.zipIdx.foldl (fun (cs : Array Value) (x : Value × Nat) => cs.setIfInBounds (i * es + x.2) x.1) (p ++ z).toArray = ((p ++ cellsL ρ l) ++ z.drop es).toArray := by
        have := set_run (cellsL ρ l) (i * es) 0 p (z.take es) (z.drop es) (by omega) (by rw [List.length_take, hlen]; omega)
        rw [List.take_append_drop] at this
        simpa using this
      simp only [List.map_cons, Instr.fill]
      rw [if_neg (by simp only [hcs, List.size_toArray, hlen, List.length_append]; simp; omega), hcs]
      have := fill_parts es ps (i + 1) vs ls' (p ++ cellsL ρ l) (z.drop es) h1 v2 (by rw [List.length_append, hlen, hp, Nat.succ_mul]) (by rw [List.length_drop, hz, List.length_cons, Nat.succ_mul]; omega)
      rw [List.flatMap_cons, ← List.append_assoc, ← this, ← e1]
  | [], k, .one _ :: _, ls, p, z, h, _, _, _ => by cases h
  | [], k, .tup _ :: _, ls, p, z, h, _, _, _ => by cases h
  | [], k, .any :: _, ls, p, z, h, _, _, _ => by cases h
  | _ :: _, k, [], ls, p, z, h, _, _, _ => by cases h
  | _ :: _, k, .tup _ :: _, ls, p, z, h, _, _, _ => by cases h
  | _ :: _, k, .any :: _, ls, p, z, h, _, _, _ => by cases h

theorem made_row {z : List Av} {es n : Nat} (hz : sizeL z = es) : (madeCells (cellsL ρ0 z).toArray (n * es)).toList = rowC (fun _ => z) n := by
  have hl : (cellsL ρ0 z).length = es := by rw [cellsL_length, hz]
  induction n with
  | zero => simp [madeCells, rowC]
  | succ n ih =>
    rw [rowC, ← ih]
    unfold madeCells
    rw [Nat.succ_mul]
    simp only [Array.toList_map, Array.toList_range, List.range_add, List.map_append, List.map_map]
    congr 1
    apply List.ext_getElem
    · simp [hl]
    · intro i h1 h2
      simp only [List.length_map, List.length_range] at h1
      have : (n * es + i) % es = i := by rw [Nat.add_comm, Nat.add_mul_mod_self_right, Nat.mod_eq_of_lt h1]
      simp [hl, this, List.getElem?_eq_getElem h2]

end M
end Go.Proofs.YtmjdmhelmgcanaaDoor
