/- Joined out of smaller texts: Drw, Wd, Ls, RO, RC, RB, RBb, RBc, RM, Nam. -/
import Derived.Test.YtmjdmhelmgcanaaQG
import Derived.Test.YtmjdmhelmgcanaaQH
/- Rows of digits for the machine: exchanged for rows of the same cells, read by calls, made by calls. -/
namespace Go.Proofs.Ytmjdmhelmgcanaa
namespace M
open Go.RowKit
variable {P : Program} {w w' : World} {ρ ρ' : Env} {σ σ' : Ms} {a : Act}

/-- the same blocks, but for rows whose cells are the same -/
inductive HSim : List (Nat × Bk) → List (Nat × Bk) → Prop
  | nil : HSim [] []
  | same {H H' : List (Nat × Bk)} (p : Nat × Bk) : HSim H H' → HSim (p :: H) (p :: H')
  | row {H H' : List (Nat × Bk)} {id : Nat} {o : Bool} {e : TypeId} {es n : Nat} {f g : Nat → List Av} : RowOK es n g → rowC f n = rowC g n → HSim H H' → HSim ((id, .row o e es n f) :: H) ((id, .row o e es n g) :: H')

theorem HSim.refl : ∀ H, HSim H H
  | [] => .nil
  | p :: H => .same p (HSim.refl H)

/-- a block and its like -/
def BSim (k k' : Bk) : Prop := k = k' ∨ ∃ o e es n f g, k = .row o e es n f ∧ k' = .row o e es n g ∧ RowOK es n g ∧ rowC f n = rowC g n

theorem HSim.look {H H' : List (Nat × Bk)} (h : HSim H H') (i : Nat) : (lookH H i).isSome = (lookH H' i).isSome ∧ ∀ k', lookH H' i = some k' → ∃ k, lookH H i = some k ∧ BSim k k' := by
  induction h with
  | nil => exact ⟨rfl, fun _ h => by cases h⟩
  | same p h ih =>
    obtain ⟨j, k⟩ := p
    simp only [lookH]
    cases hb : Nat.beq j i with
    | true => exact ⟨rfl, fun k' h => ⟨k', h, .inl rfl⟩⟩
    | false => exact ih
  | @row H H' id o e es n f g hg hc h ih =>
    simp only [lookH]
    cases hb : Nat.beq id i with
    | true =>
      refine ⟨rfl, fun k' h => ⟨_, rfl, ?_⟩⟩
      cases h
      exact .inr ⟨o, e, es, n, f, g, rfl, rfl, hg, hc⟩
    | false => exact ih

theorem BSim.ok {k k' : Bk} (h : BSim k k') {B : Nat → Prop} {id : Nat} (hk : BkOK ρ w B id k) : BkOK ρ w B id k' := by
  rcases h with rfl | ⟨o, e, es, n, f, g, rfl, rfl, hg, hc⟩
  · exact hk
  · cases o with
    | true =>
      obtain ⟨h1, h2, h3, h4, h5, cur, h6, h7, h8⟩ := hk
      exact ⟨hg, h2, h3, h4, h5, cur, h6, h7, by rw [← hc]; exact h8⟩
    | false =>
      obtain ⟨h1, h2, h3, h4, h5, h6⟩ := hk
      exact ⟨hg, h2, h3, h4, h5, by rw [← hc]; exact h6⟩
theorem BSim.own {k k' : Bk} (h : BSim k k') : k'.own = k.own := by
  rcases h with rfl | ⟨o, e, es, n, f, g, rfl, rfl, hg, hc⟩ <;> rfl
theorem BSim.named {k k' : Bk} (h : BSim k k') {p : Av → Prop} (hk : k.named p) : k'.named p := by
  rcases h with rfl | ⟨o, e, es, n, f, g, rfl, rfl, hg, hc⟩
  · exact hk
  · trivial

theorem goes_sim {nt : Nat} {w0 : Base} {k : List Fr} {o : Out} {S : List (Nat × Sv)} {H H' : List (Nat × Bk)} {Z : List Fr → Out → Ms → Prop} (h : HSim H H') (g : Goes P nt w0 k o (kn S H') Z) : Goes P nt w0 k o (kn S H) Z := by
  intro Q hQ ρ a w hr
  have hsome : ∀ i, (lookH H i).isSome = (lookH H' i).isSome := fun i => (h.look i).1
  have hdom : (kn S H').dom = (kn S H).dom := by
    funext i
    show (Nat.ble 1000 i || (lookH H' i).isSome) = (Nat.ble 1000 i || (lookH H i).isSome)
    rw [hsome i]
  have hav : ∀ {x : Av}, AvOK (kn S H) x → AvOK (kn S H') x := fun hx => hx.mono (fun i hi => by rw [hdom]; exact hi) (fun i hi => by
    show (lookH H' i).isSome = true
    rw [← hsome i]; exact hi)
  refine g Q hQ ρ a w ⟨hr.size, hr.defers, hr.slots, hr.below, fun id k hk => ?_, fun i j ki kj hi hj h1 h2 he => ?_, fun i => Sv.all_mono (fun _ hx => hav hx) (hr.okS i), fun id k hk => ?_, fun id hid => ?_, fun i hi => ?_⟩
  · obtain ⟨k0, h0, hs⟩ := (h.look id).2 k hk
    exact hs.ok (hr.blocks id k0 h0)
  · obtain ⟨ki0, hi0, hsi⟩ := (h.look i).2 ki hi
    obtain ⟨kj0, hj0, hsj⟩ := (h.look j).2 kj hj
    exact hr.inj i j ki0 kj0 hi0 hj0 (by rw [← hsi.own]; exact h1) (by rw [← hsj.own]; exact h2) he
  · obtain ⟨k0, h0, hs⟩ := (h.look id).2 k hk
    have h3 := hr.okH id k0 h0
    refine hs.named (?_ : k0.named (AvOK (kn S H')))
    cases k0 with
    | var l t => exact fun x hx => hav (h3 x hx)
    | row _ _ _ _ _ => trivial
    | dead => trivial
  · rw [hdom]
    refine hr.hdom id ?_
    show (lookH H id).isSome = true
    rw [hsome id]; exact hid
  · rw [hdom]; exact hr.names i hi

/-! ## Digits -/

def rd1 : List Av → Nat
  | [.int .u64 v] => v.toNat
  | [.lit .u64 v] => v.toNat
  | _ => 0
def rd (f : Nat → List Av) (i : Nat) : Nat := rd1 (f i)
/-- n digits, below b -/
def digs (f : Nat → List Av) (n b : Nat) : Prop := ∀ i, i < n → f i = [.int .u64 (rd f i : Nat)] ∧ rd f i < b

theorem rd_rowN (F : Nat → Nat) : rd (rowN F) = F := by funext i; simp [rd, rowN, rd1]
theorem digs_rowN {F : Nat → Nat} {n b : Nat} (h : ∀ i, i < n → F i < b) : digs (rowN F) n b := fun i hi => ⟨by rw [rd_rowN]; rfl, by rw [rd_rowN]; exact h i hi⟩
theorem digs_row {f : Nat → List Av} {n b : Nat} (h : digs f n b) : rowC f n = rowC (rowN (rd f)) n := rowC_congr fun i hi => (h i hi).1
theorem rowN_congr {F G : Nat → Nat} {n : Nat} (h : ∀ i, i < n → F i = G i) : rowC (rowN F) n = rowC (rowN G) n := rowC_congr fun i hi => by simp only [rowN, h i hi]

theorem num_upd (F : Nat → Nat) {j u k : Nat} (h : j < k) : num (upd F j u) k + F j * 65536 ^ j = num F k + u * 65536 ^ j := by
  induction k with
  | zero => omega
  | succ k ih =>
    rcases Nat.lt_or_eq_of_le (Nat.le_of_lt_succ h) with h1 | rfl
    · have := ih h1
      simp only [num, upd_ne F u (by omega : k ≠ j)]
      omega
    · have e : num (upd F j u) j = num F j := num_congr fun i hi => upd_ne F u (by omega)
      simp only [num, upd_same, e]
      omega
theorem num_zero (n : Nat) : num (fun _ => 0) n = 0 := by
  induction n with
  | zero => rfl
  | succ n ih => rw [num, ih]; simp
theorem dg_num {F : Nat → Nat} {n : Nat} (h : ∀ i, i < n → F i < 65536) : ∀ i, i < n → dg (num F n) i = F i := by
  have key : ∀ k i, k + i ≤ n → ∃ q, num F (k + i) = num F k + q * 65536 ^ k := by
    intro k i
    induction i with
    | zero => intro _; exact ⟨0, by simp⟩
    | succ i ih =>
      intro hk
      obtain ⟨q, hq⟩ := ih (by omega)
      refine ⟨q + F (k + i) * 65536 ^ i, ?_⟩
      show num F (k + i) + F (k + i) * 65536 ^ (k + i) = _
      rw [hq, Nat.pow_add, Nat.add_mul, Nat.mul_assoc, Nat.mul_comm (65536 ^ k) (65536 ^ i)]
      omega
  intro i hi
  obtain ⟨q, hq⟩ := key (i + 1) (n - (i + 1)) (by omega)
  rw [show i + 1 + (n - (i + 1)) = n by omega] at hq
  have hl := num_lt (f := F) (k := i) fun j hj => h j (by omega)
  have h0 := h i hi
  have hp : 0 < 65536 ^ i := Nat.pow_pos (by omega)
  unfold dg
  rw [hq, num, Nat.pow_succ, show q * (65536 ^ i * 65536) = q * 65536 * 65536 ^ i by ac_rfl, Nat.add_assoc, ← Nat.add_mul, Nat.add_mul_div_right _ _ hp, Nat.div_eq_of_lt hl]
  omega
theorem num_top {F G : Nat → Nat} {k n : Nat} (hF : ∀ i, i < n → F i < 65536) (hk : k < n) (he : ∀ i, k < i → i < n → F i = G i) (hl : F k < G k) : num F n < num G n := by
  have key : ∀ m, k + 1 + m ≤ n → num F (k + 1 + m) < num G (k + 1 + m) := by
    intro m
    induction m with
    | zero =>
      intro _
      have h1 := num_lt (f := F) (k := k) fun i hi => hF i (by omega)
      show num F k + F k * 65536 ^ k < num G k + G k * 65536 ^ k
      have h2 : (F k + 1) * 65536 ^ k ≤ G k * 65536 ^ k := Nat.mul_le_mul_right _ hl
      rw [Nat.add_mul, Nat.one_mul] at h2
      omega
    | succ m ih =>
      intro hm
      have h1 := ih (by omega)
      have h2 := he (k + 1 + m) (by omega) (by omega)
      show num F (k + 1 + m) + F (k + 1 + m) * 65536 ^ (k + 1 + m) < num G (k + 1 + m) + G (k + 1 + m) * 65536 ^ (k + 1 + m)
      rw [h2]; omega
  have := key (n - (k + 1)) (by omega)
  rwa [show k + 1 + (n - (k + 1)) = n by omega] at this

/-! ## Calls that read rows -/

/-- a row as it may be read -/
theorem rd_only {B : Nat → Prop} {id : Nat} {o : Bool} {e : TypeId} {es n : Nat} {f : Nat → List Av} (h : BkOK ρ w B id (.row o e es n f)) :
    RowOK es n f ∧ n ≤ ρ.c id ∧ ρ.c id ≤ maxLen ∧ ρ.b id < w.heap.size ∧ ∀ j u, (rowC f n)[j]? = some u → w.cell? ⟨ρ.b id, ρ.o id + j, none⟩ = some u := by
  cases o with
  | false => obtain ⟨h1, h2, h3, h4, h5, h6⟩ := h; exact ⟨h1, h2, h3, h5, h6⟩
  | true =>
    obtain ⟨h1, h2, h3, h4, h5, cur, h6, h7, h8⟩ := h
    refine ⟨h1, h2, h3, (Array.getElem?_eq_some_iff.1 h6).1, fun j u hj => ?_⟩
    have h9 := cell_of_row w (ρ.b id) j cur e (0, 0) h6
    rw [h5, Nat.zero_add, h9, ← Array.getElem?_toList]
    rw [← h8, List.getElem?_take] at hj
    split at hj
    · exact hj
    · cases hj

theorem read_bk {B : Nat → Prop} {id i : Nat} {o : Bool} {e : TypeId} {es n : Nat} {f : Nat → List Av} (h : BkOK ρ w B id (.row o e es n f)) (hb : ρ'.b i = ρ.b id) (ho : ρ'.o i = ρ.o id) (hc : ρ'.c i = ρ.c id) :
    BkOK ρ' w (fun b => w.heap.size ≤ b) i (.row false e es n f) := by
  obtain ⟨h1, h2, h3, h4, h5⟩ := rd_only h
  exact ⟨h1, by rw [hc]; exact h2, by rw [hc]; exact h3, by rw [hb]; exact Nat.not_le.2 h4, by rw [hb]; exact h4, by rw [hb, ho]; exact h5⟩

/-- one's own row, newly made, as a call leaves it -/
theorem fresh_post {nt s d : Nat} {ρc ρe : Env} {B : Nat → Prop} {e : TypeId} {es n : Nat} {f g : Nat → List Av} (hB : ∀ b, w.heap.size ≤ b → B b) (hr : Rep nt (base w ρc) ρ' σ' a w') (hs : σ'.heap s = some (.row true e es n f)) (hg : RowOK es n g) (hc : rowC f n = rowC g n) :
    EffPost ρe (ρe.set d (ρ'.b s) (ρ'.c s)) w w' B (.new d (.row true e es n g)) := by
  obtain ⟨h1, h2, h3, h4, h5, cur, h6, h7, h8⟩ := hr.blocks s _ hs
  have hk := kept_below hr.below
  refine ⟨hk.os, hk.tape, hk.output, hk.size, fun i hi => Env.set_ne fun e => hi (by rw [e]; rfl), fun b hb _ => hk.block b hb, fun id k h => ?_, fun d' h _ => ?_⟩
  · cases h
    exact own_block hg h2 h3 (hB _ h4) h6 h7 (by rw [← hc]; exact h8)
  · cases h
    exact .inl (by simp [Env.set, upd_same]; exact h4)
theorem fresh_val {nt s d : Nat} {ρc ρe : Env} {e : TypeId} {es n : Nat} {f : Nat → List Av} (hr : Rep nt (base w ρc) ρ' σ' a w') (hs : σ'.heap s = some (.row true e es n f)) :
    (Av.sl s es 0 n).val ρ' = (Av.sl d es 0 n).val (ρe.set d (ρ'.b s) (ρ'.c s)) := by
  obtain ⟨h1, h2, h3, h4, h5, cur, h6, h7, h8⟩ := hr.blocks s _ hs
  rw [sl_val]
  simp [Av.val, h5]

/-- what is handed in, plain -/
theorem plain_in (w0 : Base) (args : List (List Av)) (h : ∀ l ∈ args, ∀ a ∈ l, a.plain) : InOK w0 (args.map .one) [] :=
  ⟨fun s hs => by
    obtain ⟨l, hl, rfl⟩ := List.mem_map.1 hs
    exact fun a ha => AvOK.of_plain (h l hl a ha), (fun _ _ h => by cases h), (fun _ _ h => by cases h), (fun _ _ _ _ h => by cases h)⟩

/-- a contract of a call that makes a row, out of a run of the machine -/
theorem row_ok' {f : Nat} (hcall : ∀ args w, (callFunc f args).run Try.prog w = .ok (.enter f args) w) {cls : Nat} {k : RCon}
    (h : ∀ args e es n g, k args = some (e, es, n, g) → (∀ A ∈ args, ∀ a ∈ A, a.name = none → a.plain) → RowOK es n g ∧
      ∀ ρ w, Calls Try.prog f (args.map (denL ρ)).toArray w fun e' w' => ∃ nt ρc ρ' σ' a' s f, e' = .returned ((Sv.one [.sl s es 0 n]).den ρ') ∧ Rep nt (base w ρc) ρ' σ' a' w' ∧ σ'.heap s = some (.row true e es n f) ∧ rowC f n = rowC g n) :
    EOK ⟨f, cls, rcon k⟩ := by
  have pl : ∀ (args : List RArg), (∀ A ∈ args, ∀ p ∈ A, (p.1.name = none → p.1.plain)) → ∀ A ∈ args.map fun A => A.map (·.1), ∀ a ∈ A, a.name = none → a.plain := by
    intro args hargs A hA a ha
    obtain ⟨A', hA', rfl⟩ := List.mem_map.1 hA
    obtain ⟨q, hq, rfl⟩ := List.mem_map.1 ha
    exact hargs A' hA' q hq
  constructor
  · intro args outs ho hargs i oc hi hc d
    obtain ⟨⟨e, es, n, g⟩, hk, rfl⟩ := Option.map_eq_some_iff.1 ho
    have hi' := List.mem_of_getElem? hi
    simp only [List.mem_singleton] at hi'
    subst hi'
    obtain ⟨h2, _⟩ := h _ e es n g hk (pl args fun A hA p hp => (hargs A hA p hp).1)
    exact ⟨(fun _ h => by cases h; rfl), (fun _ h => by cases h), (fun _ _ h => by cases h; exact ⟨rfl, trivial, h2⟩), one1 (.inr (.inl ⟨rfl, rfl, rfl⟩))⟩
  · intro args outs ho i oc hi hc ρ w B d hB hargs hd _
    obtain ⟨⟨e, es, n, g⟩, hk, rfl⟩ := Option.map_eq_some_iff.1 ho
    have hi' := List.mem_of_getElem? hi
    simp only [List.mem_singleton] at hi'
    subst hi'
    obtain ⟨h2, h3⟩ := h _ e es n g hk (pl args fun A hA p hp => (hargs A hA p hp).1)
    refine ⟨hcall _ _, ?_⟩
    have e1 : args.map (argV ρ) = (args.map fun A => A.map (·.1)).map (denL ρ) := by
      rw [List.map_map]; rfl
    rw [e1]
    refine (h3 ρ w).mono ?_
    rintro e' w' ⟨nt, ρc, ρ', σ', a', s, f, rfl, hr, hs, hc'⟩
    exact ⟨_, fresh_post (d := d) (ρe := ρ) hB hr hs h2 hc', congrArg _ (fresh_val (ρe := ρ) hr hs)⟩

/-! ## Calls that read rows and give plain values -/

abbrev DCon := List RArg → Option (List (Prop × Sv))
def dcon (k : DCon) : Con := fun args => (k args).map fun l => l.map fun p => ⟨p.1, fun _ => p.2, fun _ => .nop⟩

theorem dcon_ok {f : Nat} (hcall : ∀ args w, (callFunc f args).run Try.prog w = .ok (.enter f args) w) {k : DCon} {cls : Nat}
    (h : ∀ args l, k args = some l → ∀ p ∈ l, p.1 → p.2.all Av.plain ∧
      ∀ ρ w (B : Nat → Prop), (∀ A ∈ args, ∀ q ∈ A, ArgOK ρ w B q) → Calls Try.prog f (args.map (argV ρ)).toArray w fun e w' => Below w.heap.size w w' ∧ e = .returned (p.2.den ρ)) : EOK ⟨f, cls, dcon k⟩ := by
  have key : ∀ args outs, dcon k args = some outs → ∀ (i : Nat) oc, outs[i]? = some oc → ∃ l p, k args = some l ∧ p ∈ l ∧ oc = ⟨p.1, fun _ => p.2, fun _ => .nop⟩ := by
    intro args outs ho i oc hi
    obtain ⟨l, hl, rfl⟩ := Option.map_eq_some_iff.1 ho
    rw [List.getElem?_map] at hi
    obtain ⟨p, hp, rfl⟩ := Option.map_eq_some_iff.1 hi
    exact ⟨l, p, hl, List.mem_of_getElem? hp, rfl⟩
  constructor
  · intro args outs ho hargs i oc hi hc d
    obtain ⟨l, p, hl, hp, rfl⟩ := key args outs ho i oc hi
    have h1 := (h _ l hl p hp hc).1
    exact ⟨(fun _ h => by cases h), (fun _ h => by cases h), (fun _ _ h => by cases h), Sv.all_mono (fun _ h => .inl h) h1⟩
  · intro args outs ho i oc hi hc ρ w B d hB hargs hd _
    obtain ⟨l, p, hl, hp, rfl⟩ := key args outs ho i oc hi
    have h2 := (h _ l hl p hp hc).2 ρ w B hargs
    refine ⟨hcall _ _, h2.mono ?_⟩
    rintro e' w' ⟨hb, rfl⟩
    exact ⟨ρ, postBelow hb, rfl⟩

/-- rows that may be read, handed in -/
theorem in_reads {w0 : Base} {args : List Sv} {H : List (Nat × Bk)} (hrows : ∀ p ∈ H, p.2.own = false ∧ p.2.named (fun _ => False) ∧ BkOK w0.ρ w0.w w0.F p.1 p.2)
    (hargs : ∀ s ∈ args, s.all fun a => a.plain ∨ ∃ id k, a.name = some id ∧ lookH H id = some k) : InOK w0 args H := by
  refine ⟨fun s hs => Sv.all_mono ?_ (hargs s hs), fun id k hk => (hrows _ (lookH_mem hk)).2.2, fun id k hk => ?_, fun i j ki kj hi hj h1 _ _ => ?_⟩
  · rintro x (hx | ⟨id, k, hx, hk⟩)
    · exact AvOK.of_plain hx
    · unfold AvOK
      rw [hx]
      refine ⟨?_, ?_⟩
      · show (Nat.ble 1000 id || (lookH H id).isSome) = true
        rw [hk]; simp
      · show (lookH H id).isSome = true
        rw [hk]; rfl
  · have h2 := (hrows _ (lookH_mem hk)).2.1
    cases k with
    | var l t => exact fun a ha => (h2 a ha).elim
    | row _ _ _ _ _ => trivial
    | dead => trivial
  · have := (hrows _ (lookH_mem hi)).1
    simp only at this
    rw [this] at h1; cases h1

/-- the numbers of a row that is read -/
theorem read_num {B : Nat → Prop} {id i : Nat} {o : Bool} {n b : Nat} {f : Nat → List Av} (h : BkOK ρ w B id (.row o 26 1 n f)) (hd : digs f n b) (hb : ρ'.b i = ρ.b id) (ho : ρ'.o i = ρ.o id) (hc : ρ'.c i = ρ.c id) :
    BkOK ρ' w (fun b => w.heap.size ≤ b) i (.row false 26 1 n (rowN (rd f))) :=
  BSim.ok (.inr ⟨_, _, _, _, _, _, rfl, rfl, rowOK_N _ _, digs_row hd⟩) (read_bk h hb ho hc)

end M
end Go.Proofs.Ytmjdmhelmgcanaa

/- r01.Wide: the product's digits. -/
namespace Go.Proofs.Ytmjdmhelmgcanaa
namespace M
open Go.RowKit
set_option linter.unusedSimpArgs false

def wdS (i : Int) : List (Nat × Sv) := [(5, .one [.sl 13 1 0 16]), (6, .one [.sl 15 1 0 16]), (7, .one [.sl 16 1 0 32]), (8, .one [.int .i64 i])]
def wdS2 (i v j : Nat) : List (Nat × Sv) := [(5, .one [.sl 13 1 0 16]), (6, .one [.sl 15 1 0 16]), (7, .one [.sl 16 1 0 32]), (8, .one [.int .i64 (i : Nat)]), (9, .one [.int .u64 (v : Nat)]), (10, .one [.int .i64 (j : Nat)])]
def wdH (x y : Nat) (F : Nat → Nat) : List (Nat × Bk) := [(13, .row true 26 1 16 (rowN (dg x))), (15, .row true 26 1 16 (rowN (dg y))), (16, .row true 26 1 32 (rowN F))]

theorem wd_start {w0 : Base} {x y : Nat} : Goes Try.prog Try.f103.ntmps w0 [.code (bodyOf Try.f103)] .norm (kn (argS 0 [.one (N x), .one (N y)]) []) fun k o σ => k = kOf 0 (bodyOf Try.f103) ∧ o = .norm ∧ σ = kn (wdS 0) (wdH x y fun _ => 0) :=
  goes (ctx_ok tabM_ok 61) mixed rfl (gs := [8]) (gh := []) (orc := way []) (stops := [0]) (f := 3000) (k := [.code (bodyOf Try.f103)]) (o := .norm) (σ := (kn (argS 0 [.one (N x), .one (N y)]) [])) (cs := [True, True, True, True, True, True, True, True, True, (32 : Int) = (32 : Int) ∧ (0 : Int) < (32 : Int) ∧ (32 : Int) * (↑(8 : Nat) : Int) ≤ (281474976710656 : Int) ∧ (32 : Int) ≤ (9223372036854775807 : Int), True, True]) (k' := (kOf 0 (bodyOf Try.f103))) (o' := .norm) (S := (wdS 0)) (H := (wdH x y fun _ => 0)) (by kernel_rfl) (by kernel_rfl) (by simp [conj])

/-- a round within a round -/
def wdN (x y i j v : Nat) (F : Nat → Nat) : Nat := F (i + j) + dg x i * dg y j + v

theorem wd_in {w0 : Base} {x y i j v : Nat} {F : Nat → Nat} (hi : i < 16) (hj : j < 16) (hv : v < 65536) (hF : F (i + j) < 65536) :
    Goes Try.prog Try.f103.ntmps w0 [.code (roundOf 2 (roundOf 0 (bodyOf Try.f103)))] .norm (kn (wdS2 i v j) (wdH x y F)) fun k o σ => k = [] ∧ o = .norm ∧ σ = kn (wdS2 i (wdN x y i j v F / 65536) (j + 1)) (wdH x y (upd F (i + j) (wdN x y i j v F % 65536))) := by
  have h1 := dg_lt x i
  have h2 := dg_lt y j
  have h3 : dg x i * dg y j ≤ 65535 * 65535 := Nat.mul_le_mul (by omega) (by omega)
  have h4 : (0 : Int) ≤ ((dg x i * dg y j : Nat) : Int) := Int.natCast_nonneg _
  have h5 : ((dg x i * dg y j : Nat) : Int) = (dg x i : Int) * (dg y j : Int) := Int.natCast_mul _ _
  have e6 : ((i : Int) + (j : Int)).toNat = i + j := by omega
  refine Goes.mono (goes (ctx_ok tabM_ok 61) mixed rfl (gs := []) (gh := []) (orc := way []) (stops := []) (f := 3000) (k := [.code (roundOf 2 (roundOf 0 (bodyOf Try.f103)))]) (o := .norm) (σ := (kn (wdS2 i v j) (wdH x y F))) (cs := [True, (↑j : Int) < (16 : Int), True, True, True, (-9223372036854775808 : Int) ≤ (↑i : Int) + (↑j : Int) ∧ (↑i : Int) + (↑j : Int) < (9223372036854775808 : Int), (0 : Int) ≤ (↑i : Int) + (↑j : Int) ∧ (↑i : Int) + (↑j : Int) < (↑(32 : Nat) : Int), addO (0 : Nat) (i + j) < (32 : Nat), True, True, (0 : Int) ≤ (↑i : Int) ∧ (↑i : Int) < (↑(16 : Nat) : Int), addO (0 : Nat) i < (16 : Nat), True, True, (0 : Int) ≤ (↑j : Int) ∧ (↑j : Int) < (↑(16 : Nat) : Int), addO (0 : Nat) j < (16 : Nat), (0 : Int) ≤ (↑(dg x (addO (0 : Nat) i)) : Int) * (↑(dg y (addO (0 : Nat) j)) : Int) ∧ (↑(dg x (addO (0 : Nat) i)) : Int) * (↑(dg y (addO (0 : Nat) j)) : Int) < (18446744073709551616 : Int), (0 : Int) ≤ (↑(F (addO (0 : Nat) (Int.toNat (Prod.snd (IntKind.i64, (↑i : Int) + (↑j : Int)))))) : Int) + (↑(dg x (addO (0 : Nat) i)) : Int) * (↑(dg y (addO (0 : Nat) j)) : Int) ∧ (↑(F (addO (0 : Nat) (Int.toNat (Prod.snd (IntKind.i64, (↑i : Int) + (↑j : Int)))))) : Int) + (↑(dg x (addO (0 : Nat) i)) : Int) * (↑(dg y (addO (0 : Nat) j)) : Int) < (18446744073709551616 : Int), True, (0 : Int) ≤ (↑(F (addO (0 : Nat) (Int.toNat (Prod.snd (IntKind.i64, (↑i : Int) + (↑j : Int)))))) : Int) + (↑(dg x (addO (0 : Nat) i)) : Int) * (↑(dg y (addO (0 : Nat) j)) : Int) + (↑v : Int) ∧ (↑(F (addO (0 : Nat) (Int.toNat (Prod.snd (IntKind.i64, (↑i : Int) + (↑j : Int)))))) : Int) + (↑(dg x (addO (0 : Nat) i)) : Int) * (↑(dg y (addO (0 : Nat) j)) : Int) + (↑v : Int) < (18446744073709551616 : Int), True, True, True, True, (-9223372036854775808 : Int) ≤ (↑i : Int) + (↑j : Int) ∧ (↑i : Int) + (↑j : Int) < (9223372036854775808 : Int), True, (0 : Int) ≤ (↑(F (addO (0 : Nat) (Int.toNat (Prod.snd (IntKind.i64, (↑i : Int) + (↑j : Int)))))) : Int) + (↑(dg x (addO (0 : Nat) i)) : Int) * (↑(dg y (addO (0 : Nat) j)) : Int) + (↑v : Int), (0 : Int) ≤ (↑i : Int) + (↑j : Int) ∧ (↑i : Int) + (↑j : Int) < (↑(32 : Nat) : Int), addO (0 : Nat) (i + j) < (32 : Nat), True, (0 : Int) ≤ (↑(F (addO (0 : Nat) (Int.toNat (Prod.snd (IntKind.i64, (↑i : Int) + (↑j : Int)))))) : Int) + (↑(dg x (addO (0 : Nat) i)) : Int) * (↑(dg y (addO (0 : Nat) j)) : Int) + (↑v : Int) ∧ (0 : Int) ≤ ((↑(F (addO (0 : Nat) (Int.toNat (Prod.snd (IntKind.i64, (↑i : Int) + (↑j : Int)))))) : Int) + (↑(dg x (addO (0 : Nat) i)) : Int) * (↑(dg y (addO (0 : Nat) j)) : Int) + (↑v : Int)) / (65536 : Int) ∧ ((↑(F (addO (0 : Nat) (Int.toNat (Prod.snd (IntKind.i64, (↑i : Int) + (↑j : Int)))))) : Int) + (↑(dg x (addO (0 : Nat) i)) : Int) * (↑(dg y (addO (0 : Nat) j)) : Int) + (↑v : Int)) / (65536 : Int) < (18446744073709551616 : Int), True, True, (-9223372036854775808 : Int) ≤ (↑j : Int) + (1 : Int) ∧ (↑j : Int) + (1 : Int) < (9223372036854775808 : Int), True]) (k' := []) (o' := .norm) (S := (wdS2 i (wdN x y i j v F / 65536) (j + 1))) (H := [(13, .row true 26 1 16 (rowN (dg x))), (15, .row true 26 1 16 (rowN (dg y))), (16, .row true 26 1 32 (upd (rowN F) (i + j) [.int .u64 ((wdN x y i j v F % 65536 : Nat) : Int)]))]) (by kernel_rfl) (by kernel_rfl) (by simp only [conj, and_true, true_and, addO_eq, Nat.zero_add, e6]; omega)) ?_
  rintro k o σ ⟨rfl, rfl, rfl⟩
  exact ⟨rfl, rfl, by rw [upd_rowN]; rfl⟩

theorem wd_in_end {w0 : Base} {x y i v : Nat} {F : Nat → Nat} :
    Goes Try.prog Try.f103.ntmps w0 [.code (roundOf 2 (roundOf 0 (bodyOf Try.f103)))] .norm (kn (wdS2 i v 16) (wdH x y F)) fun k o σ => k = [] ∧ o = .exit 2 ∧ σ = kn (wdS2 i v 16) (wdH x y F) :=
  goes (ctx_ok tabM_ok 61) mixed rfl (gs := []) (gh := []) (orc := way [(22, 1)]) (stops := []) (f := 3000) (k := [.code (roundOf 2 (roundOf 0 (bodyOf Try.f103)))]) (o := .norm) (σ := (kn (wdS2 i v 16) (wdH x y F))) (cs := [True, ¬(↑(16 : Nat) : Int) < (16 : Int)]) (k' := []) (o' := (.exit 2)) (S := (wdS2 i v 16)) (H := (wdH x y F)) (by kernel_rfl) (by kernel_rfl) (by simp [conj])

theorem wd_out1 {w0 : Base} {x y i : Nat} {F : Nat → Nat} (hi : i < 16) :
    Goes Try.prog Try.f103.ntmps w0 [.code (roundOf 0 (bodyOf Try.f103))] .norm (kn (wdS (i : Nat)) (wdH x y F)) fun k o σ => k = kOf 2 (roundOf 0 (bodyOf Try.f103)) ∧ o = .norm ∧ σ = kn (wdS2 i 0 0) (wdH x y F) :=
  goes (ctx_ok tabM_ok 61) mixed rfl (gs := [9, 10]) (gh := []) (orc := way []) (stops := [2]) (f := 3000) (k := [.code (roundOf 0 (bodyOf Try.f103))]) (o := .norm) (σ := (kn (wdS (i : Nat)) (wdH x y F))) (cs := [True, (↑i : Int) < (16 : Int), True, True]) (k' := (kOf 2 (roundOf 0 (bodyOf Try.f103)))) (o' := .norm) (S := (wdS2 i 0 0)) (H := (wdH x y F)) (by kernel_rfl) (by kernel_rfl) (by simp only [conj, and_true, true_and, addO_eq, Nat.zero_add]; omega)

theorem wd_out2 {w0 : Base} {x y i v : Nat} {F : Nat → Nat} (hi : i < 16) (hv : v < 65536) (hF : F (i + 16) < 65536) :
    Goes Try.prog Try.f103.ntmps w0 (restOf 2 (roundOf 0 (bodyOf Try.f103))) .norm (kn (wdS2 i v 16) (wdH x y F)) fun k o σ => k = [] ∧ o = .norm ∧ σ = kn (wdS ((i + 1 : Nat) : Int)) (wdH x y (upd F (i + 16) (F (i + 16) + v))) := by
  have e6 : ((i : Int) + 16).toNat = i + 16 := by omega
  refine Goes.mono (goes (ctx_ok tabM_ok 61) mixed rfl (gs := []) (gh := []) (orc := way []) (stops := []) (f := 3000) (k := (restOf 2 (roundOf 0 (bodyOf Try.f103)))) (o := .norm) (σ := (kn (wdS2 i v 16) (wdH x y F))) (cs := [True, True, (-9223372036854775808 : Int) ≤ (↑i : Int) + (16 : Int) ∧ (↑i : Int) + (16 : Int) < (9223372036854775808 : Int), (0 : Int) ≤ (↑i : Int) + (16 : Int) ∧ (↑i : Int) + (16 : Int) < (↑(32 : Nat) : Int), addO (0 : Nat) (i + 16) < (32 : Nat), True, (0 : Int) ≤ (↑(F (addO (0 : Nat) (Int.toNat (Prod.snd (IntKind.i64, (↑i : Int) + (16 : Int)))))) : Int) + (↑v : Int) ∧ (↑(F (addO (0 : Nat) (Int.toNat (Prod.snd (IntKind.i64, (↑i : Int) + (16 : Int)))))) : Int) + (↑v : Int) < (18446744073709551616 : Int), (0 : Int) ≤ (↑i : Int) + (16 : Int) ∧ (↑i : Int) + (16 : Int) < (↑(32 : Nat) : Int), addO (0 : Nat) (i + 16) < (32 : Nat), True, (-9223372036854775808 : Int) ≤ (↑i : Int) + (1 : Int) ∧ (↑i : Int) + (1 : Int) < (9223372036854775808 : Int), True]) (k' := []) (o' := .norm) (S := (wdS ((i + 1 : Nat) : Int))) (H := [(13, .row true 26 1 16 (rowN (dg x))), (15, .row true 26 1 16 (rowN (dg y))), (16, .row true 26 1 32 (upd (rowN F) (i + 16) [.int .u64 ((F (i + 16) + v : Nat) : Int)]))]) (by kernel_rfl) (by kernel_rfl) (by simp only [conj, and_true, true_and, addO_eq, Nat.zero_add, e6]; omega)) ?_
  rintro k o σ ⟨rfl, rfl, rfl⟩
  exact ⟨rfl, rfl, by rw [upd_rowN]; rfl⟩

/-- what holds within a round -/
def wdI (x y i : Nat) (F0 : Nat → Nat) (p : Nat × Nat × (Nat → Nat)) : Prop :=
  p.1 < 65536 ∧ p.2.1 ≤ 16 ∧ (∀ k, p.2.2 k < 65536) ∧ (∀ k, i + p.2.1 ≤ k → p.2.2 k = F0 k) ∧ num p.2.2 32 + p.1 * 65536 ^ (i + p.2.1) = num F0 32 + dg x i * num (dg y) p.2.1 * 65536 ^ i

theorem wdI_step {x y i j v : Nat} {F F0 : Nat → Nat} (hi : i < 16) (hj : j < 16) (h : wdI x y i F0 (v, j, F)) : wdI x y i F0 (wdN x y i j v F / 65536, j + 1, upd F (i + j) (wdN x y i j v F % 65536)) := by
  obtain ⟨h1, h2, h3, h4, h5⟩ := h
  simp only at h1 h2 h3 h4 h5
  have g1 := dg_lt x i
  have g2 := dg_lt y j
  have g3 : dg x i * dg y j ≤ 65535 * 65535 := Nat.mul_le_mul (by omega) (by omega)
  have g4 := h3 (i + j)
  have hn : wdN x y i j v F = F (i + j) + dg x i * dg y j + v := rfl
  refine ⟨by show wdN x y i j v F / 65536 < 65536; omega, by show j + 1 ≤ 16; omega, fun k => ?_, fun k hk => ?_, ?_⟩
  · show upd F (i + j) (wdN x y i j v F % 65536) k < 65536
    by_cases e : k = i + j
    · subst e; rw [upd_same]; exact Nat.mod_lt _ (by omega)
    · rw [upd_ne F _ e]; exact h3 k
  · have hk' : i + (j + 1) ≤ k := hk
    show upd F (i + j) (wdN x y i j v F % 65536) k = F0 k
    rw [upd_ne F _ (by omega)]; exact h4 k (by omega)
  · show num (upd F (i + j) (wdN x y i j v F % 65536)) 32 + wdN x y i j v F / 65536 * 65536 ^ (i + (j + 1)) = num F0 32 + dg x i * num (dg y) (j + 1) * 65536 ^ i
    have e1 := num_upd F (j := i + j) (u := wdN x y i j v F % 65536) (k := 32) (by omega)
    have e2 : wdN x y i j v F / 65536 * 65536 ^ (i + (j + 1)) = 65536 * (wdN x y i j v F / 65536) * 65536 ^ (i + j) := by rw [← Nat.add_assoc, Nat.pow_succ]; ac_rfl
    have e3 := Nat.div_add_mod (wdN x y i j v F) 65536
    have e4 : (65536 * (wdN x y i j v F / 65536)) * 65536 ^ (i + j) + (wdN x y i j v F % 65536) * 65536 ^ (i + j) = F (i + j) * 65536 ^ (i + j) + (dg x i * dg y j) * 65536 ^ (i + j) + v * 65536 ^ (i + j) := by
      rw [← Nat.add_mul, e3, hn, Nat.add_mul, Nat.add_mul]
    have e5 : dg x i * num (dg y) (j + 1) * 65536 ^ i = dg x i * num (dg y) j * 65536 ^ i + (dg x i * dg y j) * 65536 ^ (i + j) := by
      rw [num, Nat.mul_add, Nat.add_mul, Nat.pow_add]; ac_rfl
    rw [e2, e5]
    omega

/-- what holds at a round's head -/
def wdO (x y : Nat) (p : Nat × (Nat → Nat)) : Prop :=
  p.1 ≤ 16 ∧ (∀ k, p.2 k < 65536) ∧ (∀ k, p.1 + 16 ≤ k → p.2 k = 0) ∧ num p.2 32 = num (dg x) p.1 * num (dg y) 16

theorem wd_round {w0 : Base} {x y i : Nat} {F0 : Nat → Nat} (hi : i < 16) (h : wdO x y (i, F0)) :
    Goes Try.prog Try.f103.ntmps w0 [.code (roundOf 0 (bodyOf Try.f103))] .norm (kn (wdS (i : Nat)) (wdH x y F0)) fun k o σ => k = [] ∧ o = .norm ∧ ∃ F, wdO x y (i + 1, F) ∧ σ = kn (wdS ((i + 1 : Nat) : Int)) (wdH x y F) := by
  obtain ⟨h1, h2, h3, h4⟩ := h
  simp only at h1 h2 h3 h4
  refine (wd_out1 hi).bind ?_
  rintro k o σ ⟨rfl, rfl, rfl⟩
  have hk : kOf 2 (roundOf 0 (bodyOf Try.f103)) = .code (.block 2 (.loop (roundOf 2 (roundOf 0 (bodyOf Try.f103))))) :: restOf 2 (roundOf 0 (bodyOf Try.f103)) := by kernel_rfl
  rw [hk]
  refine (goes_loop (fun p : Nat × Nat × (Nat → Nat) => kn (wdS2 i p.1 p.2.1) (wdH x y p.2.2)) (wdI x y i F0) (fun p => 16 - p.2.1) (fun o σ => o = .norm ∧ ∃ v F, wdI x y i F0 (v, 16, F) ∧ σ = kn (wdS2 i v 16) (wdH x y F)) ?_ (p := (0, 0, F0)) ⟨by show 0 < 65536; omega, Nat.zero_le _, h2, fun _ _ => rfl, by show _ + 0 * _ = _ + _ * 0 * _; rw [Nat.zero_mul, Nat.mul_zero, Nat.zero_mul]⟩).bind ?_
  · rintro ⟨v, j, F⟩ hI
    by_cases hj : j < 16
    · refine (wd_in hi hj hI.1 (hI.2.2.1 _)).mono ?_
      rintro k o σ ⟨rfl, rfl, rfl⟩
      exact ⟨rfl, .inl ⟨rfl, _, wdI_step hi hj hI, by show 16 - (j + 1) < 16 - j; omega, rfl⟩⟩
    · have hle : j ≤ 16 := hI.2.1
      obtain rfl : j = 16 := by omega
      refine wd_in_end.mono ?_
      rintro k o σ ⟨rfl, rfl, rfl⟩
      exact ⟨rfl, .inr ⟨by simp, rfl, v, F, hI, rfl⟩⟩
  · rintro k o σ ⟨rfl, rfl, v, F, ⟨g1, _, g3, g4, g5⟩, rfl⟩
    simp only at g1 g3 g4 g5
    have hz : F (i + 16) = 0 := by rw [g4 _ (by omega), h3 _ (by omega)]
    refine (wd_out2 hi g1 (g3 _)).mono ?_
    rintro k o σ ⟨rfl, rfl, rfl⟩
    refine ⟨rfl, rfl, _, ⟨by show i + 1 ≤ 16; omega, fun k => ?_, fun k hk => ?_, ?_⟩, rfl⟩
    · show upd F (i + 16) (F (i + 16) + v) k < 65536
      by_cases e : k = i + 16
      · subst e; rw [upd_same, hz]; omega
      · rw [upd_ne F _ e]; exact g3 k
    · have hk' : i + 1 + 16 ≤ k := hk
      show upd F (i + 16) (F (i + 16) + v) k = 0
      rw [upd_ne F _ (by omega), g4 k (by omega), h3 k (by omega)]
    · show num (upd F (i + 16) (F (i + 16) + v)) 32 = num (dg x) (i + 1) * num (dg y) 16
      have e1 := num_upd F (j := i + 16) (u := F (i + 16) + v) (k := 32) (by omega)
      rw [hz, Nat.zero_mul, Nat.add_zero, Nat.zero_add] at e1
      rw [hz, Nat.zero_add, e1, g5, h4, show num (dg x) (i + 1) = num (dg x) i + dg x i * 65536 ^ i from rfl, Nat.add_mul, Nat.mul_right_comm (dg x i)]

theorem wide_goes {w0 : Base} {x y : Nat} (hx : x < TOP) (hy : y < TOP) : Goes Try.prog Try.f103.ntmps w0 [.code (bodyOf Try.f103)] .norm (kn (argS 0 [.one (N x), .one (N y)]) [])
    (Fin (ctx tabM 61) Try.f103.results.toList fun v σ => v = .one [.sl 16 1 0 32] ∧ ∃ F, (∀ k, F k < 65536) ∧ num F 32 = x * y ∧ σ.heap 16 = some (.row true 26 1 32 (rowN F))) := by
  refine wd_start.bind ?_
  rintro k o σ ⟨rfl, rfl, rfl⟩
  have hk : kOf 0 (bodyOf Try.f103) = .code (.block 0 (.loop (roundOf 0 (bodyOf Try.f103)))) :: restOf 0 (bodyOf Try.f103) := by kernel_rfl
  rw [hk]
  refine (goes_loop (fun p : Nat × (Nat → Nat) => kn (wdS (p.1 : Nat)) (wdH x y p.2)) (wdO x y) (fun p => 16 - p.1) (fun o σ => o = .norm ∧ ∃ F, wdO x y (16, F) ∧ σ = kn (wdS (16 : Nat)) (wdH x y F)) ?_ (p := (0, fun _ => 0)) ⟨Nat.zero_le _, fun _ => (by show 0 < 65536; omega), fun _ _ => rfl, by show num (fun _ => 0) 32 = 0 * _; rw [Nat.zero_mul, num_zero]⟩).bind ?_
  · rintro ⟨i, F⟩ hI
    by_cases hi : i < 16
    · refine (wd_round hi hI).mono ?_
      rintro k o σ ⟨rfl, rfl, F', h, rfl⟩
      exact ⟨rfl, .inl ⟨rfl, _, h, by show 16 - (i + 1) < 16 - i; omega, rfl⟩⟩
    · have hle : i ≤ 16 := hI.1
      obtain rfl : i = 16 := by omega
      refine (goes (ctx_ok tabM_ok 61) mixed rfl (gs := []) (gh := []) (orc := way [(18, 1)]) (stops := []) (f := 3000) (k := [.code (roundOf 0 (bodyOf Try.f103))]) (o := .norm) (σ := (kn (wdS (16 : Nat)) (wdH x y F))) (cs := [True, ¬(↑(16 : Nat) : Int) < (16 : Int)]) (k' := []) (o' := (.exit 0)) (S := (wdS (16 : Nat))) (H := (wdH x y F)) (by kernel_rfl) (by kernel_rfl) (by simp [conj])).mono ?_
      rintro k o σ ⟨rfl, rfl, rfl⟩
      exact ⟨rfl, .inr ⟨by simp, rfl, F, hI, rfl⟩⟩
  · rintro k o σ ⟨rfl, rfl, F, ⟨_, h2, _, h4⟩, rfl⟩
    simp only at h2 h4
    rw [num_dg16 hx, num_dg16 hy] at h4
    exact goes_ret (ctx_ok tabM_ok 61) mixed rfl (orc := way []) (stops := []) (f := 3000) (k := (restOf 0 (bodyOf Try.f103))) (o := .norm) (σ := (kn (wdS (16 : Nat)) (wdH x y F))) (cs := [True, True]) (o' := .ret) (rs := Try.f103.results.toList) (v := (.one [.sl 16 1 0 32])) (H := [(16, .row true 26 1 32 (rowN F))]) (by kernel_rfl) (.inr rfl) (by simp [conj]) fun σ hσ => ⟨rfl, F, h2, h4, hσ (16, _) List.mem_cons_self⟩

def wideK : RCon
  | [[.big 4 x], [.big 4 y]] => some (26, 1, 32, rowN (dg (x * y)))
  | _ => none
def eWide : Entry := ⟨103, 0, rcon wideK⟩

/-- the digits are the number's -/
theorem row_num {F : Nat → Nat} {n z : Nat} (h : ∀ k, F k < 65536) (hn : num F n = z) : rowC (rowN F) n = rowC (rowN (dg z)) n :=
  rowN_congr fun i hi => by rw [← hn, dg_num (fun i _ => h i) i hi]

theorem wide_e : EOK eWide := by
  refine row_ok' (fun a w => Try.call103 a w) fun args e es n g hk ha => ?_
  unfold wideK at hk
  split at hk
  · rename_i x y
    cases hk
    have hx := big_lt ha (x := x) (by simp)
    have hy := big_lt ha (x := y) (by simp)
    refine ⟨rowOK_N _ _, fun ρ w => ?_⟩
    refine (calls_of (w0 := base w ρ) (ctx_ok tabM_ok 61) Try.func103 (c := bodyOf Try.f103) rfl rfl (args := [.one (N x), .one (N y)]) (Nat.le_of_ble_eq_true (by kernel_rfl)) (plain_in (base w ρ) [N x, N y] (by ((repeat' (first | exact argsP_nil | refine argsP_cons ?_ ?_)) <;> (first | exact E_plain _ | exact B_plain _ | exact lit_plain _ _ | exact int_plain _ _ | exact N_plain (by omega) | exact N_plain2 (by omega) (by omega) | assumption)))) (wide_goes hx hy)).mono ?_
    rintro e w' ⟨v, σ', ρ', a', ⟨rfl, F, h1, h2, h3⟩, rfl, hr, _⟩
    exact ⟨61, ρ, ρ', σ', a', 16, _, rfl, hr, h3, row_num h1 h2⟩
  · cases hk

end M
end Go.Proofs.Ytmjdmhelmgcanaa

/- r01.less: rows compared. -/
namespace Go.Proofs.Ytmjdmhelmgcanaa
namespace M
open Go.RowKit
set_option linter.unusedSimpArgs false

def lsA : List (Nat × Sv) := argS 0 [.one [.sl 1000 1 0 17], .one [.sl 1001 1 0 17]]
def lsS (i : Int) : List (Nat × Sv) := [(0, .one [.sl 1000 1 0 17]), (1, .one [.sl 1001 1 0 17]), (5, .one [.int .i64 i])]
def lsH (F G : Nat → Nat) : List (Nat × Bk) := [(1000, .row false 26 1 17 (rowN F)), (1001, .row false 26 1 17 (rowN G))]

theorem less_goes {w0 : Base} {F G : Nat → Nat} (hF : ∀ i, i < 17 → F i < 65536) (hG : ∀ i, i < 17 → G i < 65536) : Goes Try.prog Try.f116.ntmps w0 [.code (bodyOf Try.f116)] .norm (kn lsA (lsH F G))
    (Fin (ctx tabM 31) Try.f116.results.toList fun v _ => v = .one (B (decide (num F 17 < num G 17)))) := by
  refine (goes (ctx_ok tabM_ok 31) mixed rfl (gs := []) (gh := []) (orc := way []) (stops := [0]) (f := 3000) (k := [.code (bodyOf Try.f116)]) (o := .norm) (σ := (kn lsA (lsH F G))) (cs := [True, True, True, (-9223372036854775808 : Int) ≤ (↑(17 : Nat) : Int) - (1 : Int) ∧ (↑(17 : Nat) : Int) - (1 : Int) < (9223372036854775808 : Int), True]) (k' := (kOf 0 (bodyOf Try.f116))) (o' := .norm) (S := (lsS 16)) (H := (lsH F G)) (by kernel_rfl) (by kernel_rfl) (by simp [conj])).bind ?_
  rintro k o σ ⟨rfl, rfl, rfl⟩
  have hk : kOf 0 (bodyOf Try.f116) = .code (.block 0 (.loop (roundOf 0 (bodyOf Try.f116)))) :: restOf 0 (bodyOf Try.f116) := by kernel_rfl
  rw [hk]
  refine (goes_loop (fun i : Int => kn (lsS i) (lsH F G)) (fun i => -1 ≤ i ∧ i ≤ 16 ∧ ∀ k : Nat, i < k → k < 17 → F k = G k) (fun i => (i + 1).toNat)
    (fun o σ => (o = .norm ∧ σ = kn (lsS (-1)) (lsH F G) ∧ num F 17 = num G 17) ∨ (o = .ret ∧ ∃ l, σ = kn [(4, .one (B l))] (lsH F G) ∧ l = decide (num F 17 < num G 17))) ?_ (p := 16) ⟨by omega, by omega, fun k h1 h2 => by omega⟩).bind ?_
  · rintro i ⟨h1, h2, h3⟩
    by_cases hi : i < 0
    · obtain rfl : i = -1 := by omega
      refine (goes (ctx_ok tabM_ok 31) mixed rfl (gs := []) (gh := []) (orc := way [(10, 1)]) (stops := []) (f := 3000) (k := [.code (roundOf 0 (bodyOf Try.f116))]) (o := .norm) (σ := (kn (lsS (-1)) (lsH F G))) (cs := [True, ¬(0 : Int) ≤ (-1 : Int)]) (k' := []) (o' := (.exit 0)) (S := (lsS (-1))) (H := (lsH F G)) (by kernel_rfl) (by kernel_rfl) (by simp [conj])).mono ?_
      rintro k o σ ⟨rfl, rfl, rfl⟩
      exact ⟨rfl, .inr ⟨by simp, .inl ⟨rfl, rfl, num_congr fun k hk => h3 k (by omega) hk⟩⟩⟩
    · obtain ⟨m, rfl⟩ := Int.eq_ofNat_of_zero_le (Int.not_lt.1 hi)
      have f1 := hF m (by omega)
      have g1 := hG m (by omega)
      by_cases he : F m = G m
      · refine (goes (ctx_ok tabM_ok 31) mixed rfl (gs := []) (gh := []) (orc := way [(21, 1)]) (stops := []) (f := 3000) (k := [.code (roundOf 0 (bodyOf Try.f116))]) (o := .norm) (σ := (kn (lsS (m : Int)) (lsH F G))) (cs := [True, (0 : Int) ≤ (↑m : Int), True, True, (0 : Int) ≤ (↑m : Int) ∧ (↑m : Int) < (↑(17 : Nat) : Int), addO (0 : Nat) m < (17 : Nat), True, True, (0 : Int) ≤ (↑m : Int) ∧ (↑m : Int) < (↑(17 : Nat) : Int), addO (0 : Nat) m < (17 : Nat), ¬(↑(F (addO (0 : Nat) (Int.toNat (Prod.snd (IntKind.i64, (↑m : Int)))))) : Int) ≠ (↑(G (addO (0 : Nat) (Int.toNat (Prod.snd (IntKind.i64, (↑m : Int)))))) : Int), True, (-9223372036854775808 : Int) ≤ (↑m : Int) - (1 : Int) ∧ (↑m : Int) - (1 : Int) < (9223372036854775808 : Int), True]) (k' := []) (o' := .norm) (S := (lsS ((m : Int) - 1))) (H := (lsH F G)) (by kernel_rfl) (by kernel_rfl) (by simp only [conj, and_true, true_and, addO_eq, Nat.zero_add, Int.toNat_natCast, he]; omega)).mono ?_
        rintro k o σ ⟨rfl, rfl, rfl⟩
        refine ⟨rfl, .inl ⟨rfl, (m : Int) - 1, ⟨by omega, by omega, fun k hk hk2 => ?_⟩, by omega, rfl⟩⟩
        by_cases e : k = m
        · subst e; exact he
        · exact h3 k (by omega) hk2
      · rcases Nat.lt_or_ge (F m) (G m) with hl | hl
        · refine (goes (ctx_ok tabM_ok 31) mixed rfl (gs := []) (gh := []) (orc := way []) (stops := []) (f := 3000) (k := [.code (roundOf 0 (bodyOf Try.f116))]) (o := .norm) (σ := (kn (lsS (m : Int)) (lsH F G))) (cs := [True, (0 : Int) ≤ (↑m : Int), True, True, (0 : Int) ≤ (↑m : Int) ∧ (↑m : Int) < (↑(17 : Nat) : Int), addO (0 : Nat) m < (17 : Nat), True, True, (0 : Int) ≤ (↑m : Int) ∧ (↑m : Int) < (↑(17 : Nat) : Int), addO (0 : Nat) m < (17 : Nat), (↑(F (addO (0 : Nat) (Int.toNat (Prod.snd (IntKind.i64, (↑m : Int)))))) : Int) ≠ (↑(G (addO (0 : Nat) (Int.toNat (Prod.snd (IntKind.i64, (↑m : Int)))))) : Int), True, True, (0 : Int) ≤ (↑m : Int) ∧ (↑m : Int) < (↑(17 : Nat) : Int), addO (0 : Nat) m < (17 : Nat), True, True, (0 : Int) ≤ (↑m : Int) ∧ (↑m : Int) < (↑(17 : Nat) : Int), addO (0 : Nat) m < (17 : Nat), (↑(F (addO (0 : Nat) (Int.toNat (Prod.snd (IntKind.i64, (↑m : Int)))))) : Int) < (↑(G (addO (0 : Nat) (Int.toNat (Prod.snd (IntKind.i64, (↑m : Int)))))) : Int), True]) (k' := []) (o' := .ret) (S := [(4, .one (B true))]) (H := (lsH F G)) (by kernel_rfl) (by kernel_rfl) (by simp only [conj, and_true, true_and, addO_eq, Nat.zero_add, Int.toNat_natCast]; omega)).mono ?_
          rintro k o σ ⟨rfl, rfl, rfl⟩
          refine ⟨rfl, .inr ⟨by simp, .inr ⟨rfl, true, rfl, ?_⟩⟩⟩
          have := num_top hF (by omega : m < 17) (fun k hk hk2 => h3 k (by omega) hk2) hl
          simp [this]
        · refine (goes (ctx_ok tabM_ok 31) mixed rfl (gs := []) (gh := []) (orc := way [(30, 1)]) (stops := []) (f := 3000) (k := [.code (roundOf 0 (bodyOf Try.f116))]) (o := .norm) (σ := (kn (lsS (m : Int)) (lsH F G))) (cs := [True, (0 : Int) ≤ (↑m : Int), True, True, (0 : Int) ≤ (↑m : Int) ∧ (↑m : Int) < (↑(17 : Nat) : Int), addO (0 : Nat) m < (17 : Nat), True, True, (0 : Int) ≤ (↑m : Int) ∧ (↑m : Int) < (↑(17 : Nat) : Int), addO (0 : Nat) m < (17 : Nat), (↑(F (addO (0 : Nat) (Int.toNat (Prod.snd (IntKind.i64, (↑m : Int)))))) : Int) ≠ (↑(G (addO (0 : Nat) (Int.toNat (Prod.snd (IntKind.i64, (↑m : Int)))))) : Int), True, True, (0 : Int) ≤ (↑m : Int) ∧ (↑m : Int) < (↑(17 : Nat) : Int), addO (0 : Nat) m < (17 : Nat), True, True, (0 : Int) ≤ (↑m : Int) ∧ (↑m : Int) < (↑(17 : Nat) : Int), addO (0 : Nat) m < (17 : Nat), ¬(↑(F (addO (0 : Nat) (Int.toNat (Prod.snd (IntKind.i64, (↑m : Int)))))) : Int) < (↑(G (addO (0 : Nat) (Int.toNat (Prod.snd (IntKind.i64, (↑m : Int)))))) : Int), True]) (k' := []) (o' := .ret) (S := [(4, .one (B false))]) (H := (lsH F G)) (by kernel_rfl) (by kernel_rfl) (by simp only [conj, and_true, true_and, addO_eq, Nat.zero_add, Int.toNat_natCast]; omega)).mono ?_
          rintro k o σ ⟨rfl, rfl, rfl⟩
          refine ⟨rfl, .inr ⟨by simp, .inr ⟨rfl, false, rfl, ?_⟩⟩⟩
          have := num_top hG (by omega : m < 17) (fun k hk hk2 => (h3 k (by omega) hk2).symm) (by omega)
          simp only [Bool.false_eq, decide_eq_false_iff_not]; omega
  · rintro k o σ ⟨rfl, ⟨rfl, rfl, he⟩ | ⟨rfl, l, rfl, hl⟩⟩
    · have : decide (num F 17 < num G 17) = false := by rw [he]; simp
      rw [this]
      exact goes_ret (ctx_ok tabM_ok 31) mixed rfl (orc := way []) (stops := []) (f := 3000) (k := (restOf 0 (bodyOf Try.f116))) (o := .norm) (σ := (kn (lsS (-1)) (lsH F G))) (cs := [True]) (o' := .ret) (rs := Try.f116.results.toList) (v := (.one (B false))) (H := ([] : List (Nat × Bk))) (by kernel_rfl) (.inr rfl) (by simp [conj]) fun _ _ => rfl
    · rw [← hl]
      exact goes_ret (ctx_ok tabM_ok 31) mixed rfl (orc := way []) (stops := []) (f := 3000) (k := (restOf 0 (bodyOf Try.f116))) (o := .ret) (σ := (kn [(4, .one (B l))] (lsH F G))) (cs := []) (o' := .ret) (rs := Try.f116.results.toList) (v := (.one (B l))) (H := ([] : List (Nat × Bk))) (by kernel_rfl) (.inr rfl) (by simp [conj]) fun _ _ => rfl

def lessK : DCon
  | [[(.sl _ 1 0 n, some (.row _ 26 1 n1 f))], [(.sl _ 1 0 m, some (.row _ 26 1 m1 g))]] =>
    some [(n = 17 ∧ m = 17 ∧ n1 = 17 ∧ m1 = 17 ∧ digs f 17 65536 ∧ digs g 17 65536 ∧ num (rd f) 17 < num (rd g) 17, .one (B true)),
      (n = 17 ∧ m = 17 ∧ n1 = 17 ∧ m1 = 17 ∧ digs f 17 65536 ∧ digs g 17 65536 ∧ num (rd g) 17 ≤ num (rd f) 17, .one (B false))]
  | _ => none
def eLess : Entry := ⟨116, 1, dcon lessK⟩

theorem less_e : EOK eLess := by
  refine dcon_ok (fun a w => Try.call116 a w) fun args l hl p hp hc => ?_
  unfold lessK at hl
  split at hl
  · rename_i a n o n1 f b m o2 m1 g
    cases hl
    have key : (n = 17 ∧ m = 17 ∧ n1 = 17 ∧ m1 = 17 ∧ digs f 17 65536 ∧ digs g 17 65536) ∧ p.2 = .one (B (decide (num (rd f) 17 < num (rd g) 17))) := by
      simp only [List.mem_cons, List.not_mem_nil, or_false] at hp
      rcases hp with rfl | rfl
      · obtain ⟨h1, h2, h3, h4, h5, h6, h7⟩ := hc
        exact ⟨⟨h1, h2, h3, h4, h5, h6⟩, by simp [h7]⟩
      · obtain ⟨h1, h2, h3, h4, h5, h6, h7⟩ := hc
        exact ⟨⟨h1, h2, h3, h4, h5, h6⟩, by simp [Nat.not_lt.2 h7]⟩
    obtain ⟨⟨rfl, rfl, rfl, rfl, h5, h6⟩, hv⟩ := key
    rw [hv]
    refine ⟨B_plain _, fun ρ w B hargs => ?_⟩
    obtain ⟨ida, ha1, ha2, _⟩ := (hargs _ List.mem_cons_self _ List.mem_cons_self).2 _ rfl
    cases ha1
    obtain ⟨idb, hb1, hb2, _⟩ := (hargs _ (List.mem_cons_of_mem _ List.mem_cons_self) _ List.mem_cons_self).2 _ rfl
    cases hb1
    let ρ2 : Env := ⟨fun i => ρ.b (bif Nat.beq i 1000 then a else b), fun i => ρ.o (bif Nat.beq i 1000 then a else b), fun i => ρ.c (bif Nat.beq i 1000 then a else b)⟩
    have hin : InOK (base w ρ2) [.one [.sl 1000 1 0 17], .one [.sl 1001 1 0 17]] (lsH (rd f) (rd g)) := by
      refine in_reads ?_ ?_
      · intro p hp
        simp only [lsH, List.mem_cons, List.not_mem_nil, or_false] at hp
        rcases hp with rfl | rfl
        · exact ⟨rfl, trivial, read_num ha2 h5 rfl rfl rfl⟩
        · exact ⟨rfl, trivial, read_num hb2 h6 rfl rfl rfl⟩
      · intro s hs
        simp only [List.mem_cons, List.not_mem_nil, or_false] at hs
        rcases hs with rfl | rfl
        · exact one1 (.inr ⟨1000, _, rfl, rfl⟩)
        · exact one1 (.inr ⟨1001, _, rfl, rfl⟩)
    refine (calls_of (ctx_ok tabM_ok 31) Try.func116 (c := bodyOf Try.f116) rfl rfl (Nat.le_of_ble_eq_true (by kernel_rfl)) hin (less_goes (fun i hi => (h5 i hi).2) (fun i hi => (h6 i hi).2))).mono ?_
    rintro e w' ⟨v, σ', ρ', a', rfl, rfl, hr, _⟩
    exact ⟨kept_below hr.below, rfl⟩
  · cases hl

end M
end Go.Proofs.Ytmjdmhelmgcanaa

/- r01.Of for rows of any length: the number of digits. -/
namespace Go.Proofs.Ytmjdmhelmgcanaa
namespace M
open Go.RowKit
set_option linter.unusedSimpArgs false

def ofA (n : Nat) : List (Nat × Sv) := argS 0 [.one [.sl 1000 1 0 n]]
def ofS (n : Nat) (i : Nat) : List (Nat × Sv) := [(0, .one [.sl 1000 1 0 n]), (2, .one [.ptr 2 0]), (4, .one [.ptr 4 0]), (5, .one [.int .i64 (i : Nat)])]
def ofH (n : Nat) (F : Nat → Nat) (A : Nat) : List (Nat × Bk) := [(1000, .row false 26 1 n (rowN F)), (2, .var [.big 4 0] 28), (4, .var [.big 4 A] 28)]
def ofV (F : Nat → Nat) (A i : Nat) : Nat := stw 4 A (i / 4) (lm A (i / 4) + F i * 2 ^ (16 * (i % 4)))

theorem of_step {F : Nat → Nat} {i : Nat} (h16 : i < 16) (hF : ∀ k, k ≤ i → F k < 65536) :
    ofV F (num F i) i = num F (i + 1) ∧ lm (num F i) (i / 4) + F i * 2 ^ (16 * (i % 4)) < 18446744073709551616 := by
  have h0 := num_lt (f := F) (k := i) fun k hk => hF k (by omega)
  have hp : 65536 ^ i = 18446744073709551616 ^ (i / 4) * 2 ^ (16 * (i % 4)) := by
    rw [word_pow, show (65536 : Nat) = 2 ^ 16 from rfl, ← Nat.pow_mul]
    congr 1; omega
  have h1 : lm (num F i) (i / 4) < 2 ^ (16 * (i % 4)) := by
    rw [hp] at h0
    exact Nat.lt_of_le_of_lt (Nat.mod_le _ _) (Nat.div_lt_of_lt_mul h0)
  have h2 : F i * 2 ^ (16 * (i % 4)) ≤ 65535 * 2 ^ (16 * (i % 4)) := Nat.mul_le_mul_right _ (by have := hF i (Nat.le_refl _); omega)
  have h3 : 2 ^ (16 * (i % 4)) ≤ 281474976710656 := Nat.pow_le_pow_right (n := 2) (i := 16 * (i % 4)) (j := 48) (by omega) (by omega)
  have h4 : lm (num F i) (i / 4) + F i * 2 ^ (16 * (i % 4)) < 18446744073709551616 := by omega
  refine ⟨?_, h4⟩
  have h5 : num F i < pow64 4 := by
    have e : pow64 4 = 65536 ^ 16 := rfl
    rw [e]
    exact Nat.lt_of_lt_of_le h0 (Nat.pow_le_pow_right (by omega) (by omega))
  have h6 := stw_add (v := lm (num F i) (i / 4) + F i * 2 ^ (16 * (i % 4))) h5 (by omega : i / 4 < 4)
  rw [Nat.add_mul, Nat.mul_assoc, Nat.mul_comm (2 ^ (16 * (i % 4))), ← hp] at h6
  show stw 4 _ _ _ = num F i + F i * 65536 ^ i
  omega

theorem of_round {w0 : Base} {F : Nat → Nat} {n A i : Nat} (hi : i < n) (_ : n < 64) (h16 : i < 16) (hb : lm A (i / 4) + F i * 2 ^ (16 * (i % 4)) < 18446744073709551616) :
    Goes Try.prog Try.f94.ntmps w0 [.code (roundOf 0 (bodyOf Try.f94))] .norm (kn (ofS n i) (ofH n F A)) fun k o σ => k = [] ∧ o = .norm ∧ σ = kn (ofS n (i + 1)) (ofH n F (ofV F A i)) := by
  have hnn : (0 : Int) ≤ ((F i * 2 ^ (16 * (i % 4)) : Nat) : Int) := Int.natCast_nonneg _
  exact goes (ctx_ok tabM_ok 39) mixed rfl (gs := []) (gh := []) (orc := way [(13, 1)]) (stops := []) (f := 3000) (k := [.code (roundOf 0 (bodyOf Try.f94))]) (o := .norm) (σ := (kn (ofS n i) (ofH n F A))) (cs := [True, True, True, (↑i : Int) < (↑n : Int), True, ¬(16 : Int) ≤ (↑i : Int), True, True, True, True, True, True, True, True, (↑i : Int) < (16 : Int), True, (0 : Int) ≤ (↑i : Int) ∧ (-9223372036854775808 : Int) ≤ (↑i : Int) / (4 : Int) ∧ (↑i : Int) / (4 : Int) < (9223372036854775808 : Int), (0 : Int) ≤ (↑i : Int) / (4 : Int) ∧ (↑i : Int) / (4 : Int) < (↑(4 : Nat) : Int), i / 4 < (4 : Nat), True, True, (0 : Int) ≤ (↑i : Int) ∧ (↑i : Int) < (↑n : Int), addO (0 : Nat) i < n, True, (0 : Int) ≤ (↑i : Int), (-9223372036854775808 : Int) ≤ (16 : Int) * ((↑i : Int) % (4 : Int)) ∧ (16 : Int) * ((↑i : Int) % (4 : Int)) < (9223372036854775808 : Int), (0 : Int) ≤ (↑(F (addO (0 : Nat) (Int.toNat (Prod.snd (IntKind.i64, (↑i : Int)))))) : Int) ∧ (0 : Int) ≤ (16 : Int) * ((↑i : Int) % (4 : Int)) ∧ (16 : Int) * ((↑i : Int) % (4 : Int)) < (64 : Int) ∧ (0 : Int) ≤ (↑(F (addO (0 : Nat) (Int.toNat (Prod.snd (IntKind.i64, (↑i : Int))))) * (2 : Nat) ^ (16 * (i % 4))) : Int) ∧ (↑(F (addO (0 : Nat) (Int.toNat (Prod.snd (IntKind.i64, (↑i : Int))))) * (2 : Nat) ^ (16 * (i % 4))) : Int) < (18446744073709551616 : Int), (0 : Int) ≤ (↑(lm A (i / 4)) : Int) + (↑(F (addO (0 : Nat) (Int.toNat (Prod.snd (IntKind.i64, (↑i : Int))))) * (2 : Nat) ^ (16 * (i % 4))) : Int) ∧ (↑(lm A (i / 4)) : Int) + (↑(F (addO (0 : Nat) (Int.toNat (Prod.snd (IntKind.i64, (↑i : Int))))) * (2 : Nat) ^ (16 * (i % 4))) : Int) < (18446744073709551616 : Int), (0 : Int) ≤ (↑i : Int) / (4 : Int) ∧ (↑i : Int) / (4 : Int) < (↑(4 : Nat) : Int), i / 4 < (4 : Nat) ∧ (0 : Int) ≤ (↑(lm A (i / 4)) : Int) + (↑(F (addO (0 : Nat) (Int.toNat (Prod.snd (IntKind.i64, (↑i : Int))))) * (2 : Nat) ^ (16 * (i % 4))) : Int) ∧ (↑(lm A (i / 4)) : Int) + (↑(F (addO (0 : Nat) (Int.toNat (Prod.snd (IntKind.i64, (↑i : Int))))) * (2 : Nat) ^ (16 * (i % 4))) : Int) < (18446744073709551616 : Int), True, (-9223372036854775808 : Int) ≤ (↑i : Int) + (1 : Int) ∧ (↑i : Int) + (1 : Int) < (9223372036854775808 : Int), True]) (k' := []) (o' := .norm) (S := (ofS n (i + 1))) (H := (ofH n F (ofV F A i))) (by kernel_rfl) (by kernel_rfl) (by simp only [conj, and_true, true_and, addO_eq, Nat.zero_add, Int.toNat_natCast]; omega)

theorem of_round2 {w0 : Base} {F : Nat → Nat} {n A i : Nat} (hi : i < n) (_ : n < 64) (h16 : 16 ≤ i) (hz : F i = 0) :
    Goes Try.prog Try.f94.ntmps w0 [.code (roundOf 0 (bodyOf Try.f94))] .norm (kn (ofS n i) (ofH n F A)) fun k o σ => k = [] ∧ o = .norm ∧ σ = kn (ofS n (i + 1)) (ofH n F A) :=
  goes (ctx_ok tabM_ok 39) mixed rfl (gs := []) (gh := []) (orc := way [(19, 1), (23, 1)]) (stops := []) (f := 3000) (k := [.code (roundOf 0 (bodyOf Try.f94))]) (o := .norm) (σ := (kn (ofS n i) (ofH n F A))) (cs := [True, True, True, (↑i : Int) < (↑n : Int), True, (16 : Int) ≤ (↑i : Int), True, True, True, (0 : Int) ≤ (↑i : Int) ∧ (↑i : Int) < (↑n : Int), addO (0 : Nat) i < n, ¬(0 : Int) < (↑(F (addO (0 : Nat) (Int.toNat (Prod.snd (IntKind.i64, (↑i : Int)))))) : Int), True, True, ¬(↑i : Int) < (16 : Int), True, (-9223372036854775808 : Int) ≤ (↑i : Int) + (1 : Int) ∧ (↑i : Int) + (1 : Int) < (9223372036854775808 : Int), True]) (k' := []) (o' := .norm) (S := (ofS n (i + 1))) (H := (ofH n F A)) (by kernel_rfl) (by kernel_rfl) (by simp only [conj, and_true, true_and, addO_eq, Nat.zero_add, Int.toNat_natCast, hz]; omega)

theorem of_round3 {w0 : Base} {F : Nat → Nat} {n A i : Nat} (hi : i < n) (_ : n < 64) (h16 : 16 ≤ i) (hz : 0 < F i) :
    Goes Try.prog Try.f94.ntmps w0 [.code (roundOf 0 (bodyOf Try.f94))] .norm (kn (ofS n i) (ofH n F A)) fun k o σ => k = [] ∧ o = .ret ∧ σ = kn [(2, .one [.ptr 2 0]), (3, .one (B false))] (ofH n F A) :=
  goes (ctx_ok tabM_ok 39) mixed rfl (gs := []) (gh := []) (orc := way []) (stops := []) (f := 3000) (k := [.code (roundOf 0 (bodyOf Try.f94))]) (o := .norm) (σ := (kn (ofS n i) (ofH n F A))) (cs := [True, True, True, (↑i : Int) < (↑n : Int), True, (16 : Int) ≤ (↑i : Int), True, True, True, (0 : Int) ≤ (↑i : Int) ∧ (↑i : Int) < (↑n : Int), addO (0 : Nat) i < n, (0 : Int) < (↑(F (addO (0 : Nat) (Int.toNat (Prod.snd (IntKind.i64, (↑i : Int)))))) : Int), True, True, True, True]) (k' := []) (o' := .ret) (S := [(2, .one [.ptr 2 0]), (3, .one (B false))]) (H := (ofH n F A)) (by kernel_rfl) (by kernel_rfl) (by simp only [conj, and_true, true_and, addO_eq, Nat.zero_add, Int.toNat_natCast]; omega)

/-- no digits above the lower 16 -/
def lowD (F : Nat → Nat) (n : Nat) : Prop := ∀ k, 16 ≤ k → k < n → F k = 0

theorem of_goes {w0 : Base} {F : Nat → Nat} {n : Nat} (hn : n < 64) (h16 : 16 ≤ n) (hF : ∀ i, i < n → F i < 65536) : Goes Try.prog Try.f94.ntmps w0 [.code (bodyOf Try.f94)] .norm (kn (ofA n) [(1000, .row false 26 1 n (rowN F))])
    (Fin (ctx tabM 39) Try.f94.results.toList fun v _ => (lowD F n ∧ v = .tup [N (num F 16), B true]) ∨ ((∃ k, 16 ≤ k ∧ k < n ∧ 0 < F k) ∧ v = .tup [N 0, B false])) := by
  refine (goes (ctx_ok tabM_ok 39) mixed rfl (gs := [5]) (gh := []) (orc := way []) (stops := [0]) (f := 3000) (k := [.code (bodyOf Try.f94)]) (o := .norm) (σ := (kn (ofA n) [(1000, .row false 26 1 n (rowN F))])) (cs := [True, True, True, True]) (k' := (kOf 0 (bodyOf Try.f94))) (o' := .norm) (S := (ofS n 0)) (H := (ofH n F 0)) (by kernel_rfl) (by kernel_rfl) (by simp [conj])).bind ?_
  rintro k o σ ⟨rfl, rfl, rfl⟩
  have hk : kOf 0 (bodyOf Try.f94) = .code (.block 0 (.loop (roundOf 0 (bodyOf Try.f94)))) :: restOf 0 (bodyOf Try.f94) := by kernel_rfl
  rw [hk]
  refine (goes_loop (fun p : Nat × Nat => kn (ofS n p.1) (ofH n F p.2)) (fun p => p.1 ≤ n ∧ p.2 = num F (min p.1 16) ∧ lowD F p.1) (fun p => n - p.1)
    (fun o σ => (o = .norm ∧ lowD F n ∧ σ = kn (ofS n n) (ofH n F (num F 16))) ∨ (o = .ret ∧ (∃ k, 16 ≤ k ∧ k < n ∧ 0 < F k) ∧ ∃ A, σ = kn [(2, .one [.ptr 2 0]), (3, .one (B false))] (ofH n F A))) ?_ (p := (0, 0)) ⟨Nat.zero_le _, rfl, fun k h1 h2 => absurd h2 (by show ¬ k < 0; omega)⟩).bind ?_
  · rintro ⟨i, A⟩ ⟨h1, h2, h3⟩
    simp only at h1 h2 h3
    by_cases hi : i < n
    · by_cases hs : i < 16
      · rw [Nat.min_eq_left (by omega)] at h2
        subst h2
        obtain ⟨e1, e2⟩ := of_step hs (F := F) fun k hk => hF k (by omega)
        refine (of_round hi hn hs e2).mono ?_
        rintro k o σ ⟨rfl, rfl, rfl⟩
        refine ⟨rfl, .inl ⟨rfl, (i + 1, num F (i + 1)), ⟨hi, ?_, fun k g1 g2 => ?_⟩, by show n - (i + 1) < n - i; omega, by rw [e1]⟩⟩
        · show num F (i + 1) = num F (min (i + 1) 16); rw [Nat.min_eq_left (by omega)]
        · have g2' : k < i + 1 := g2
          omega
      · rw [Nat.min_eq_right (by omega)] at h2
        subst h2
        rcases Nat.eq_zero_or_pos (F i) with hz | hz
        · refine (of_round2 hi hn (by omega) hz).mono ?_
          rintro k o σ ⟨rfl, rfl, rfl⟩
          refine ⟨rfl, .inl ⟨rfl, (i + 1, num F 16), ⟨hi, ?_, fun k g1 g2 => ?_⟩, by show n - (i + 1) < n - i; omega, rfl⟩⟩
          · show num F 16 = num F (min (i + 1) 16); rw [Nat.min_eq_right (by omega)]
          · have g2' : k < i + 1 := g2
            by_cases e : k = i
            · subst e; exact hz
            · exact h3 k g1 (by omega)
        · refine (of_round3 hi hn (by omega) hz).mono ?_
          rintro k o σ ⟨rfl, rfl, rfl⟩
          exact ⟨rfl, .inr ⟨by simp, .inr ⟨rfl, ⟨i, by omega, hi, hz⟩, _, rfl⟩⟩⟩
    · obtain rfl : i = n := by omega
      rw [Nat.min_eq_right (by omega)] at h2
      subst h2
      refine (goes (ctx_ok tabM_ok 39) mixed rfl (gs := []) (gh := []) (orc := way [(9, 1)]) (stops := []) (f := 3000) (k := [.code (roundOf 0 (bodyOf Try.f94))]) (o := .norm) (σ := (kn (ofS i i) (ofH i F (num F 16)))) (cs := [True, True, True, ¬(↑i : Int) < (↑i : Int)]) (k' := []) (o' := (.exit 0)) (S := (ofS i i)) (H := (ofH i F (num F 16))) (by kernel_rfl) (by kernel_rfl) (by simp [conj])).mono ?_
      rintro k o σ ⟨rfl, rfl, rfl⟩
      exact ⟨rfl, .inr ⟨by simp, .inl ⟨rfl, h3, rfl⟩⟩⟩
  · rintro k o σ ⟨rfl, ⟨rfl, hl, rfl⟩ | ⟨rfl, hl, A, rfl⟩⟩
    · refine (goes_ret (ctx_ok tabM_ok 39) mixed rfl (orc := way []) (stops := []) (f := 3000) (k := (restOf 0 (bodyOf Try.f94))) (o := .norm) (σ := (kn (ofS n n) (ofH n F (num F 16)))) (cs := [True, True, True]) (o' := .ret) (rs := Try.f94.results.toList) (v := (.tup [N (num F 16), B true])) (H := ([] : List (Nat × Bk))) (by kernel_rfl) (.inr rfl) (by simp [conj]) fun _ _ => .inl ⟨hl, rfl⟩)
    · refine (goes_ret (ctx_ok tabM_ok 39) mixed rfl (orc := way []) (stops := []) (f := 3000) (k := (restOf 0 (bodyOf Try.f94))) (o := .ret) (σ := (kn [(2, .one [.ptr 2 0]), (3, .one (B false))] (ofH n F A))) (cs := []) (o' := .ret) (rs := Try.f94.results.toList) (v := (.tup [N 0, B false])) (H := ([] : List (Nat × Bk))) (by kernel_rfl) (.inr rfl) (by simp [conj]) fun _ _ => .inr ⟨hl, rfl⟩)

theorem num_low {F : Nat → Nat} {n : Nat} (h16 : 16 ≤ n) (h : lowD F n) : num F n = num F 16 := by
  have key : ∀ m, 16 + m ≤ n → num F (16 + m) = num F 16 := by
    intro m
    induction m with
    | zero => intro _; rfl
    | succ m ih =>
      intro hm
      show num F (16 + m) + F (16 + m) * 65536 ^ (16 + m) = num F 16
      rw [h (16 + m) (by omega) (by omega), Nat.zero_mul, Nat.add_zero, ih (by omega)]
  have := key (n - 16) (by omega)
  rwa [show 16 + (n - 16) = n by omega] at this
theorem num_ge {F : Nat → Nat} {n k : Nat} (h1 : 16 ≤ k) (h2 : k < n) (h : 0 < F k) : TOP ≤ num F n := by
  have key : ∀ m, k + 1 + m ≤ n → 65536 ^ k ≤ num F (k + 1 + m) := by
    intro m
    induction m with
    | zero =>
      intro _
      show 65536 ^ k ≤ num F k + F k * 65536 ^ k
      have : 1 * 65536 ^ k ≤ F k * 65536 ^ k := Nat.mul_le_mul_right _ h
      omega
    | succ m ih =>
      intro hm
      have := ih (by omega)
      show 65536 ^ k ≤ num F (k + 1 + m) + _
      omega
  have h3 := key (n - (k + 1)) (by omega)
  rw [show k + 1 + (n - (k + 1)) = n by omega] at h3
  have h4 : TOP ≤ 65536 ^ k := by
    have e : TOP = 65536 ^ 16 := rfl
    rw [e]
    exact Nat.pow_le_pow_right (by omega) h1
  omega

def ofK : DCon
  | [[(.sl _ 1 0 n, some (.row _ 26 1 n1 f))]] =>
    some [(n1 = n ∧ 16 ≤ n ∧ n < 64 ∧ digs f n 65536 ∧ num (rd f) n < TOP, .tup [N (num (rd f) n), B true]),
      (n1 = n ∧ 16 ≤ n ∧ n < 64 ∧ digs f n 65536 ∧ TOP ≤ num (rd f) n, .tup [N 0, B false])]
  | _ => none
def eROf : Entry := ⟨94, 1, dcon ofK⟩

theorem rof_e : EOK eROf := by
  refine dcon_ok (fun a w => Try.call94 a w) fun args l hl p hp hc => ?_
  unfold ofK at hl
  split at hl
  · rename_i a n o n1 f
    cases hl
    have key : (n1 = n ∧ 16 ≤ n ∧ n < 64 ∧ digs f n 65536) ∧ p.2.all Av.plain ∧ ∀ v, ((lowD (rd f) n ∧ v = .tup [N (num (rd f) 16), B true]) ∨ ((∃ k, 16 ≤ k ∧ k < n ∧ 0 < rd f k) ∧ v = .tup [N 0, B false])) → v = p.2 := by
      simp only [List.mem_cons, List.not_mem_nil, or_false] at hp
      rcases hp with rfl | rfl
      · obtain ⟨h1, h2, h3, h4, h5⟩ := hc
        refine ⟨⟨h1, h2, h3, h4⟩, plain2 h5 (B_plain _), ?_⟩
        rintro v (⟨hl, rfl⟩ | ⟨⟨k, k1, k2, k3⟩, rfl⟩)
        · simp only [num_low h2 hl]
        · have := num_ge k1 k2 k3; omega
      · obtain ⟨h1, h2, h3, h4, h5⟩ := hc
        refine ⟨⟨h1, h2, h3, h4⟩, plain2 top_pos (B_plain _), ?_⟩
        rintro v (⟨hl, rfl⟩ | ⟨_, rfl⟩)
        · have e1 := num_low h2 hl
          have e2 := num_lt (f := rd f) (k := 16) fun i hi => (h4 i (by omega)).2
          have e3 : TOP = 65536 ^ 16 := rfl
          omega
        · rfl
    obtain ⟨⟨rfl, h2, h3, h4⟩, hpl, hv⟩ := key
    refine ⟨hpl, fun ρ w B hargs => ?_⟩
    obtain ⟨ida, ha1, ha2, _⟩ := (hargs _ List.mem_cons_self _ List.mem_cons_self).2 _ rfl
    cases ha1
    let ρ2 : Env := ⟨fun _ => ρ.b a, fun _ => ρ.o a, fun _ => ρ.c a⟩
    have hin : InOK (base w ρ2) [.one [.sl 1000 1 0 n1]] [(1000, .row false 26 1 n1 (rowN (rd f)))] := by
      refine in_reads ?_ ?_
      · intro p hp
        simp only [List.mem_cons, List.not_mem_nil, or_false] at hp
        subst hp
        exact ⟨rfl, trivial, read_num ha2 h4 rfl rfl rfl⟩
      · intro s hs
        simp only [List.mem_cons, List.not_mem_nil, or_false] at hs
        subst hs
        exact one1 (.inr ⟨1000, _, rfl, rfl⟩)
    refine (calls_of (ctx_ok tabM_ok 39) Try.func94 (c := bodyOf Try.f94) rfl rfl (Nat.le_of_ble_eq_true (by kernel_rfl)) hin (of_goes h3 h2 fun i hi => (h4 i hi).2)).mono ?_
    rintro e w' ⟨v, σ', ρ', a', hR, rfl, hr, _⟩
    have hv' := hv v hR
    subst hv'
    exact ⟨kept_below hr.below, by rw [den_plain hpl ρ ρ']⟩
  · cases hl

end M
end Go.Proofs.Ytmjdmhelmgcanaa

/- r01.carry for the quotient's row: carried in place, a digit more. -/
namespace Go.Proofs.Ytmjdmhelmgcanaa
namespace M
open Go.RowKit
set_option linter.unusedSimpArgs false

def crA : List (Nat × Sv) := argS 0 [.one [.sl 1000 1 0 32]]
def crS (v i : Nat) : List (Nat × Sv) := [(0, .one [.sl 1000 1 0 32]), (3, .one [.int .u64 (v : Nat)]), (4, .one [.int .i64 (i : Nat)])]
def crH (G : Nat → Nat) : List (Nat × Bk) := [(1000, .row true 26 1 32 (rowN G))]
def crF (G : Nat → Nat) (v : Nat) : Nat → List Av := fun i => bif Nat.blt i 32 then rowN G i else getL [[.int .u64 (v : Nat)]] (0 + (i - 32))

theorem cr_round {w0 : Base} {G : Nat → Nat} {v i : Nat} (hi : i < 32) (hv : v < 2) (hG : G i < 65537) :
    Goes Try.prog Try.f95.ntmps w0 [.code (roundOf 0 (bodyOf Try.f95))] .norm (kn (crS v i) (crH G)) fun k o σ => k = [] ∧ o = .norm ∧ σ = kn (crS ((v + G i) / 65536) (i + 1)) (crH (upd G i ((v + G i) % 65536))) := by
  refine Goes.mono (goes (ctx_ok tabM_ok 28) mixed rfl (gs := []) (gh := []) (orc := way []) (stops := []) (f := 3000) (k := [.code (roundOf 0 (bodyOf Try.f95))]) (o := .norm) (σ := (kn (crS v i) (crH G))) (cs := [True, True, True, (↑i : Int) < (↑(32 : Nat) : Int), True, True, True, (0 : Int) ≤ (↑i : Int) ∧ (↑i : Int) < (↑(32 : Nat) : Int), addO (0 : Nat) i < (32 : Nat), (0 : Int) ≤ (↑v : Int) + (↑(G (addO (0 : Nat) (Int.toNat (Prod.snd (IntKind.i64, (↑i : Int)))))) : Int) ∧ (↑v : Int) + (↑(G (addO (0 : Nat) (Int.toNat (Prod.snd (IntKind.i64, (↑i : Int)))))) : Int) < (18446744073709551616 : Int), True, True, True, True, (0 : Int) ≤ (↑v : Int) + (↑(G (addO (0 : Nat) (Int.toNat (Prod.snd (IntKind.i64, (↑i : Int)))))) : Int), (0 : Int) ≤ (↑i : Int) ∧ (↑i : Int) < (↑(32 : Nat) : Int), addO (0 : Nat) i < (32 : Nat), True, (0 : Int) ≤ (↑v : Int) + (↑(G (addO (0 : Nat) (Int.toNat (Prod.snd (IntKind.i64, (↑i : Int)))))) : Int) ∧ (0 : Int) ≤ ((↑v : Int) + (↑(G (addO (0 : Nat) (Int.toNat (Prod.snd (IntKind.i64, (↑i : Int)))))) : Int)) / (65536 : Int) ∧ ((↑v : Int) + (↑(G (addO (0 : Nat) (Int.toNat (Prod.snd (IntKind.i64, (↑i : Int)))))) : Int)) / (65536 : Int) < (18446744073709551616 : Int), True, True, (-9223372036854775808 : Int) ≤ (↑i : Int) + (1 : Int) ∧ (↑i : Int) + (1 : Int) < (9223372036854775808 : Int), True]) (k' := []) (o' := .norm) (S := (crS ((v + G i) / 65536) (i + 1))) (H := [(1000, .row true 26 1 32 (upd (rowN G) i [.int .u64 (((v + G i) % 65536 : Nat) : Int)]))]) (by kernel_rfl) (by kernel_rfl) (by simp only [conj, and_true, true_and, addO_eq, Nat.zero_add, Int.toNat_natCast]; omega)) ?_
  rintro k o σ ⟨rfl, rfl, rfl⟩
  exact ⟨rfl, rfl, by rw [upd_rowN]; rfl⟩

def crI (F : Nat → Nat) (p : Nat × Nat × (Nat → Nat)) : Prop := p.1 ≤ 32 ∧ p.2.1 < 2 ∧ (∀ k, k < p.1 → p.2.2 k < 65536) ∧ (∀ k, p.1 ≤ k → p.2.2 k = F k) ∧ num p.2.2 p.1 + p.2.1 * 65536 ^ p.1 = num F p.1

theorem crI_step {F G : Nat → Nat} {v i : Nat} (hi : i < 32) (hF : F i < 65537) (h : crI F (i, v, G)) : crI F (i + 1, (v + G i) / 65536, upd G i ((v + G i) % 65536)) := by
  obtain ⟨h1, h2, h3, h4, h5⟩ := h
  simp only at h1 h2 h3 h4 h5
  have e0 := h4 i (Nat.le_refl _)
  refine ⟨hi, by show (v + G i) / 65536 < 2; omega, fun k hk => ?_, fun k hk => ?_, ?_⟩
  · have hk' : k < i + 1 := hk
    show upd G i ((v + G i) % 65536) k < 65536
    by_cases e : k = i
    · subst e; rw [upd_same]; exact Nat.mod_lt _ (by omega)
    · rw [upd_ne G _ e]; exact h3 k (by omega)
  · have hk' : i + 1 ≤ k := hk
    show upd G i ((v + G i) % 65536) k = F k
    rw [upd_ne G _ (by omega)]; exact h4 k (by omega)
  · show num (upd G i ((v + G i) % 65536)) (i + 1) + (v + G i) / 65536 * 65536 ^ (i + 1) = num F i + F i * 65536 ^ i
    have e1 := num_upd G (j := i) (u := (v + G i) % 65536) (k := i + 1) (by omega)
    have e2 : (v + G i) / 65536 * 65536 ^ (i + 1) = 65536 * ((v + G i) / 65536) * 65536 ^ i := by rw [Nat.pow_succ]; ac_rfl
    have e3 := Nat.div_add_mod (v + G i) 65536
    have e4 : 65536 * ((v + G i) / 65536) * 65536 ^ i + (v + G i) % 65536 * 65536 ^ i = v * 65536 ^ i + G i * 65536 ^ i := by rw [← Nat.add_mul, e3, Nat.add_mul]
    have e5 : num G (i + 1) = num G i + G i * 65536 ^ i := rfl
    rw [← e0]
    omega

theorem carry_goes {w0 : Base} {F : Nat → Nat} (hF : ∀ i, i < 32 → F i < 65537) : Goes Try.prog Try.f95.ntmps w0 [.code (bodyOf Try.f95)] .norm (kn crA (crH F))
    (Fin (ctx tabM 28) Try.f95.results.toList fun r σ => r = .one [.sl 27 1 0 33] ∧ ∃ v G, crI F (32, v, G) ∧ σ.heap 27 = some (.row true 26 1 33 (crF G v))) := by
  refine (goes (ctx_ok tabM_ok 28) mixed rfl (gs := [3, 4]) (gh := []) (orc := way []) (stops := [0]) (f := 3000) (k := [.code (bodyOf Try.f95)]) (o := .norm) (σ := (kn crA (crH F))) (cs := [True, True, True]) (k' := (kOf 0 (bodyOf Try.f95))) (o' := .norm) (S := (crS 0 0)) (H := (crH F)) (by kernel_rfl) (by kernel_rfl) (by simp [conj])).bind ?_
  rintro k o σ ⟨rfl, rfl, rfl⟩
  have hk : kOf 0 (bodyOf Try.f95) = .code (.block 0 (.loop (roundOf 0 (bodyOf Try.f95)))) :: restOf 0 (bodyOf Try.f95) := by kernel_rfl
  rw [hk]
  refine (goes_loop (fun p : Nat × Nat × (Nat → Nat) => kn (crS p.2.1 p.1) (crH p.2.2)) (crI F) (fun p => 32 - p.1)
    (fun o σ => o = .norm ∧ ∃ v G, crI F (32, v, G) ∧ σ = kn (crS v 32) (crH G)) ?_ (p := (0, 0, F)) ⟨Nat.zero_le _, (by show 0 < 2; omega), fun k h => absurd h (by show ¬ k < 0; omega), fun _ _ => rfl, rfl⟩).bind ?_
  · rintro ⟨i, v, G⟩ hI
    by_cases hi : i < 32
    · have e0 : G i = F i := hI.2.2.2.1 i (Nat.le_refl _)
      refine (cr_round hi hI.2.1 (by show G i < 65537; rw [e0]; exact hF i hi)).mono ?_
      rintro k o σ ⟨rfl, rfl, rfl⟩
      exact ⟨rfl, .inl ⟨rfl, _, crI_step hi (hF i hi) hI, by show 32 - (i + 1) < 32 - i; omega, rfl⟩⟩
    · have h1 : i ≤ 32 := hI.1
      obtain rfl : i = 32 := by omega
      refine (goes (ctx_ok tabM_ok 28) mixed rfl (gs := []) (gh := []) (orc := way [(8, 1)]) (stops := []) (f := 3000) (k := [.code (roundOf 0 (bodyOf Try.f95))]) (o := .norm) (σ := (kn (crS v 32) (crH G))) (cs := [True, True, True, ¬(↑(32 : Nat) : Int) < (↑(32 : Nat) : Int)]) (k' := []) (o' := (.exit 0)) (S := (crS v 32)) (H := (crH G)) (by kernel_rfl) (by kernel_rfl) (by simp [conj])).mono ?_
      rintro k o σ ⟨rfl, rfl, rfl⟩
      exact ⟨rfl, .inr ⟨by simp, rfl, v, G, hI, rfl⟩⟩
  · rintro k o σ ⟨rfl, rfl, v, G, hI, rfl⟩
    exact goes_ret (ctx_ok tabM_ok 28) mixed rfl (orc := way []) (stops := []) (f := 3000) (k := (restOf 0 (bodyOf Try.f95))) (o := .norm) (σ := (kn (crS v 32) (crH G))) (cs := [True, True, True, (32 : Nat) = (32 : Nat) ∧ (0 : Nat) < (1 : Nat) ∧ (0 : Nat) + (1 : Nat) ≤ (1 : Nat) ∧ ((32 : Nat) + (1 : Nat)) * (8 : Nat) ≤ (140737488355328 : Nat), True]) (o' := .ret) (rs := Try.f95.results.toList) (v := (.one [.sl 27 1 0 33])) (H := [(27, .row true 26 1 33 (crF G v))]) (by kernel_rfl) (.inr rfl) (by simp [conj]) fun σ hσ => ⟨rfl, v, G, hI, hσ (27, _) List.mem_cons_self⟩

theorem cr_row {F G : Nat → Nat} {v : Nat} (h : crI F (32, v, G)) : rowC (crF G v) 33 = rowC (rowN (dg (num F 32))) 33 := by
  obtain ⟨_, h2, h3, _, h5⟩ := h
  simp only at h2 h3 h5
  have hd : ∀ k, k < 33 → upd G 32 v k < 65536 := fun k hk => by
    by_cases e : k = 32
    · subst e; rw [upd_same]; omega
    · rw [upd_ne G _ e]; exact h3 k (by omega)
  have e1 : num (upd G 32 v) 33 = num F 32 := by
    have e2 : num (upd G 32 v) 32 = num G 32 := num_congr fun i hi => upd_ne G v (by omega)
    show num (upd G 32 v) 32 + upd G 32 v 32 * 65536 ^ 32 = num F 32
    rw [upd_same, e2, h5]
  refine rowC_congr fun i hi => ?_
  rw [← e1]
  simp only [rowN]
  rw [dg_num hd i hi]
  unfold crF
  by_cases e : i < 32
  · have : Nat.blt i 32 = true := Nat.ble_eq_true_of_le e
    rw [this, upd_ne G _ (by omega)]; rfl
  · obtain rfl : i = 32 := by omega
    rw [upd_same]; rfl

def carryC : Con
  | [[(.sl id 1 0 n, some (.row true 26 1 n1 f))]] =>
    some [⟨n1 = 32 ∧ n = 32 ∧ digs f 32 65537, fun d => .one [.sl d 1 0 33], fun d => .move id d (.row true 26 1 33 (rowN (dg (num (rd f) 32))))⟩]
  | _ => none
def eCarry : Entry := ⟨95, 2, carryC⟩

theorem carry_e : EOK eCarry := by
  constructor
  · intro args outs ho hargs i oc hi hc d
    have ho' : carryC args = some outs := ho
    unfold carryC at ho'
    split at ho'
    · rename_i id n n1 f
      cases ho'
      have hi' := List.mem_of_getElem? hi
      simp only [List.mem_singleton] at hi'
      subst hi'
      refine ⟨(fun d' h => by cases h; rfl), (fun id' h => ?_), (fun id' k' h => ?_), one1 (.inr (.inl ⟨rfl, rfl, rfl⟩))⟩
      · cases h
        exact ⟨_, ⟨_, List.mem_cons_self, _, List.mem_cons_self, rfl⟩, rfl⟩
      · cases h
        exact ⟨rfl, trivial, rowOK_N _ _⟩
    · cases ho'
  · intro args outs ho i oc hi hc ρ w B d hB hargs hd hinj
    have ho' : carryC args = some outs := ho
    unfold carryC at ho'
    split at ho'
    · rename_i id n n1 f
      cases ho'
      have hi' := List.mem_of_getElem? hi
      simp only [List.mem_singleton] at hi'
      subst hi'
      obtain ⟨rfl, rfl, hf⟩ := hc
      refine ⟨Try.call95 _ _, ?_⟩
      obtain ⟨id', hid', hbk, _⟩ := (hargs _ List.mem_cons_self _ List.mem_cons_self).2 _ rfl
      cases hid'
      have hBid : B (ρ.b id) := (hbk.lt rfl).1
      have hBlt : ρ.b id < w.heap.size := (hbk.lt rfl).2
      let w0 : Base := ⟨w, fun b => b = ρ.b id ∨ w.heap.size ≤ b, ⟨fun _ => ρ.b id, fun _ => ρ.o id, fun _ => ρ.c id⟩, fun _ h => .inr h⟩
      have hin : InOK w0 [.one [.sl 1000 1 0 32]] (crH (rd f)) := by
        refine ⟨?_, fun id' k hk => ?_, fun id' k hk => ?_, fun i j ki kj hi hj => ?_⟩
        · intro s hs
          simp only [List.mem_singleton] at hs
          subst hs
          exact one1 ⟨rfl, rfl⟩
        · have := lookH_mem hk
          simp only [crH, List.mem_singleton, Prod.mk.injEq] at this
          obtain ⟨rfl, rfl⟩ := this
          obtain ⟨h1, h2, h3, h4, h5, h6⟩ := hbk
          exact BSim.ok (k := .row true 26 1 32 f) (.inr ⟨_, _, _, _, _, _, rfl, rfl, rowOK_N _ _, digs_row hf⟩) ⟨h1, h2, h3, .inl rfl, h5, h6⟩
        · have := lookH_mem hk
          simp only [crH, List.mem_singleton, Prod.mk.injEq] at this
          obtain ⟨rfl, rfl⟩ := this
          trivial
        · have h1 := lookH_mem hi
          have h2 := lookH_mem hj
          simp only [crH, List.mem_singleton, Prod.mk.injEq] at h1 h2
          intro _ _ _
          rw [h1.1, h2.1]
      have hcalls := calls_of (w0 := w0) (ctx_ok tabM_ok 28) Try.func95 (c := bodyOf Try.f95) rfl rfl (Nat.le_of_ble_eq_true (by kernel_rfl)) hin (carry_goes fun i hi => (hf i hi).2)
      refine hcalls.mono ?_
      rintro e w' ⟨v, σ', ρ', a', ⟨rfl, x, G, hI, hσ⟩, rfl, hr, _⟩
      obtain ⟨h1, h2, h3, h4, h5, cur, h6, h7, h8⟩ := hr.blocks 27 _ hσ
      refine ⟨ρ.set d (ρ'.b 27) (ρ'.c 27), ⟨hr.below.os, hr.below.tape, hr.below.output, hr.below.size, fun i hi => Env.set_ne fun e => hi (by rw [e]; rfl), fun b hb hne => ?_, fun id' k' h => ?_, fun d' h _ => ?_⟩, ?_⟩
      · exact hr.below.block b hb (fun h => by
          rcases h with h | h
          · exact hne id rfl h
          · exact absurd hb (Nat.not_lt.2 h))
      · cases h
        refine own_block (rowOK_N _ _) h2 h3 ?_ h6 h7 (by rw [← cr_row hI]; exact h8)
        rcases h4 with h4 | h4
        · rw [h4]; exact hBid
        · exact hB _ h4
      · cases h
        rcases h4 with h4 | h4
        · exact .inr ⟨id, rfl, by simp [Env.set, upd_same]; exact h4⟩
        · exact .inl (by simp [Env.set, upd_same]; exact h4)
      · have e1 : (Av.sl 27 1 0 33).val ρ' = (Av.sl d 1 0 33).val (ρ.set d (ρ'.b 27) (ρ'.c 27)) := by
          rw [sl_val]; simp [Av.val, h5]
        exact congrArg _ e1
    · cases ho'

end M
end Go.Proofs.Ytmjdmhelmgcanaa

/- r01.By: the long division, digit rows. -/
namespace Go.Proofs.Ytmjdmhelmgcanaa
namespace M
open Go.RowKit
set_option linter.unusedSimpArgs false

def rbA (c : Nat) : List (Nat × Sv) := argS 0 [.one [.sl 1000 1 0 32], .one [.big 4 c]]
def rbS (i : Int) : List (Nat × Sv) := [(0, .one [.sl 1000 1 0 32]), (6, .one [.sl 19 1 0 32]), (7, .one [.sl 23 1 0 17]), (8, .one [.sl 24 1 0 17]), (9, .one [.int .i64 i])]
def rbS2 (i : Int) (v k : Nat) : List (Nat × Sv) := rbS i ++ [(10, .one [.int .u64 (v : Nat)]), (11, .one [.int .i64 (k : Nat)])]
def rbS4 (i : Int) (v k : Nat) : List (Nat × Sv) := rbS i ++ [(13, .one [.int .u64 (v : Nat)]), (14, .one [.int .i64 (k : Nat)])]
def rbH (P : Nat → Nat) (c : Nat) (Q R : Nat → Nat) : List (Nat × Bk) := [(1000, .row false 26 1 32 (rowN P)), (19, .row true 26 1 32 (rowN Q)), (23, .row true 26 1 17 (rowN (dg c))), (24, .row true 26 1 17 (rowN R))]
def rbD (c : Nat) : Nat → List Av := fun i => bif Nat.blt i 16 then rowN (dg c) i else getL [[.lit .u64 0]] (0 + (i - 16))
def rbH0 (P : Nat → Nat) (c : Nat) : List (Nat × Bk) := [(1000, .row false 26 1 32 (rowN P)), (19, .row true 26 1 32 (rowN fun _ => 0)), (23, .row true 26 1 17 (rbD c)), (24, .row true 26 1 17 (rowN fun _ => 0))]
def tabR : List Entry := eLess :: tabM

theorem tabR_ok : TabOK tabR := .cons less_e tabM_ok

theorem rb_start {w0 : Base} {P : Nat → Nat} {c : Nat} : Goes Try.prog Try.f105.ntmps w0 [.code (bodyOf Try.f105)] .norm (kn (rbA c) [(1000, .row false 26 1 32 (rowN P))]) fun k o σ => k = kOf 0 (bodyOf Try.f105) ∧ o = .norm ∧ σ = kn (rbS 511) (rbH0 P c) :=
  goes (ctx_ok tabR_ok 108) mixed rfl (gs := []) (gh := []) (orc := way []) (stops := [0]) (f := 3000) (k := [.code (bodyOf Try.f105)]) (o := .norm) (σ := (kn (rbA c) [(1000, .row false 26 1 32 (rowN P))])) (cs := [True, True, True, True, True, (↑(32 : Nat) : Int) = (↑(32 : Nat) : Int) ∧ (0 : Int) < (↑(32 : Nat) : Int) ∧ (↑(32 : Nat) : Int) * (↑(8 : Nat) : Int) ≤ (281474976710656 : Int) ∧ (↑(32 : Nat) : Int) ≤ (9223372036854775807 : Int), True, True, True, True, (16 : Nat) = (16 : Nat) ∧ (0 : Nat) < (1 : Nat) ∧ (0 : Nat) + (1 : Nat) ≤ (1 : Nat) ∧ ((16 : Nat) + (1 : Nat)) * (8 : Nat) ≤ (140737488355328 : Nat), True, (17 : Int) = (17 : Int) ∧ (0 : Int) < (17 : Int) ∧ (17 : Int) * (↑(8 : Nat) : Int) ≤ (281474976710656 : Int) ∧ (17 : Int) ≤ (9223372036854775807 : Int), True, True, True, (-9223372036854775808 : Int) ≤ (16 : Int) * (↑(32 : Nat) : Int) ∧ (16 : Int) * (↑(32 : Nat) : Int) < (9223372036854775808 : Int), (-9223372036854775808 : Int) ≤ (16 : Int) * (↑(32 : Nat) : Int) - (1 : Int) ∧ (16 : Int) * (↑(32 : Nat) : Int) - (1 : Int) < (9223372036854775808 : Int), True]) (k' := (kOf 0 (bodyOf Try.f105))) (o' := .norm) (S := (rbS 511)) (H := (rbH0 P c)) (by kernel_rfl) (by kernel_rfl) (by simp [conj])

def rbBit (P : Nat → Nat) (m : Nat) : Nat := P (m / 16) / 2 ^ (m % 16) % 2

theorem rb_A {w0 : Base} {P Q R : Nat → Nat} {c m : Nat} (hm : m < 512) (hP : ∀ k, k < 32 → P k < 65536) :
    Goes Try.prog Try.f105.ntmps w0 [.code (roundOf 0 (bodyOf Try.f105))] .norm (kn (rbS (m : Int)) (rbH P c Q R)) fun k o σ => k = kOf 2 (roundOf 0 (bodyOf Try.f105)) ∧ o = .norm ∧ σ = kn (rbS2 (m : Int) (rbBit P m) 0) (rbH P c Q R) := by
  have h1 := hP (m / 16) (by omega)
  have h2 : P (m / 16) / 2 ^ (m % 16) ≤ P (m / 16) := Nat.div_le_self _ _
  have h3 : (0 : Int) ≤ ((P (m / 16) / 2 ^ (m % 16) : Nat) : Int) := Int.natCast_nonneg _
  have e6 : ((m : Int) / 16).toNat = m / 16 := by omega
  exact goes (ctx_ok tabR_ok 108) mixed rfl (gs := [11]) (gh := []) (orc := way []) (stops := [2]) (f := 3000) (k := [.code (roundOf 0 (bodyOf Try.f105))]) (o := .norm) (σ := (kn (rbS (m : Int)) (rbH P c Q R))) (cs := [True, (0 : Int) ≤ (↑m : Int), True, True, (0 : Int) ≤ (↑m : Int) ∧ (-9223372036854775808 : Int) ≤ (↑m : Int) / (16 : Int) ∧ (↑m : Int) / (16 : Int) < (9223372036854775808 : Int), (0 : Int) ≤ (↑m : Int) / (16 : Int) ∧ (↑m : Int) / (16 : Int) < (↑(32 : Nat) : Int), addO (0 : Nat) (m / 16) < (32 : Nat), True, (0 : Int) ≤ (↑m : Int), (0 : Int) ≤ (↑(P (addO (0 : Nat) (Int.toNat (Prod.snd (IntKind.i64, (↑m : Int) / (16 : Int)))))) : Int) ∧ (0 : Int) ≤ (↑m : Int) % (16 : Int) ∧ (↑m : Int) % (16 : Int) < (64 : Int), (0 : Int) ≤ (↑(P (addO (0 : Nat) (Int.toNat (Prod.snd (IntKind.i64, (↑m : Int) / (16 : Int))))) / (2 : Nat) ^ (m % 16)) : Int), True, True]) (k' := (kOf 2 (roundOf 0 (bodyOf Try.f105)))) (o' := .norm) (S := (rbS2 (m : Int) (rbBit P m) 0)) (H := (rbH P c Q R)) (by kernel_rfl) (by kernel_rfl) (by simp only [conj, and_true, true_and, addO_eq, Nat.zero_add, Int.toNat_natCast, e6]; omega)

theorem rb_B {w0 : Base} {P Q R : Nat → Nat} {c b k : Nat} {i : Int} (hk : k < 17) (hb : b < 2) (hR : R k < 65536) :
    Goes Try.prog Try.f105.ntmps w0 [.code (roundOf 2 (roundOf 0 (bodyOf Try.f105)))] .norm (kn (rbS2 i b k) (rbH P c Q R)) fun k' o σ => k' = [] ∧ o = .norm ∧ σ = kn (rbS2 i ((R k * 2 + b) / 65536) (k + 1)) (rbH P c Q (upd R k ((R k * 2 + b) % 65536))) := by
  refine Goes.mono (goes (ctx_ok tabR_ok 108) mixed rfl (gs := []) (gh := []) (orc := way []) (stops := []) (f := 3000) (k := [.code (roundOf 2 (roundOf 0 (bodyOf Try.f105)))]) (o := .norm) (σ := (kn (rbS2 i b k) (rbH P c Q R))) (cs := [True, (↑k : Int) < (17 : Int), True, True, (0 : Int) ≤ (↑k : Int) ∧ (↑k : Int) < (↑(17 : Nat) : Int), addO (0 : Nat) k < (17 : Nat), (0 : Int) ≤ (↑(R (addO (0 : Nat) (Int.toNat (Prod.snd (IntKind.i64, (↑k : Int)))))) : Int) * (2 : Int) ∧ (↑(R (addO (0 : Nat) (Int.toNat (Prod.snd (IntKind.i64, (↑k : Int)))))) : Int) * (2 : Int) < (18446744073709551616 : Int), True, (0 : Int) ≤ (↑(R (addO (0 : Nat) (Int.toNat (Prod.snd (IntKind.i64, (↑k : Int)))))) : Int) * (2 : Int) + (↑b : Int) ∧ (↑(R (addO (0 : Nat) (Int.toNat (Prod.snd (IntKind.i64, (↑k : Int)))))) : Int) * (2 : Int) + (↑b : Int) < (18446744073709551616 : Int), True, True, True, True, (0 : Int) ≤ (↑(R (addO (0 : Nat) (Int.toNat (Prod.snd (IntKind.i64, (↑k : Int)))))) : Int) * (2 : Int) + (↑b : Int), (0 : Int) ≤ (↑k : Int) ∧ (↑k : Int) < (↑(17 : Nat) : Int), addO (0 : Nat) k < (17 : Nat), True, (0 : Int) ≤ (↑(R (addO (0 : Nat) (Int.toNat (Prod.snd (IntKind.i64, (↑k : Int)))))) : Int) * (2 : Int) + (↑b : Int) ∧ (0 : Int) ≤ ((↑(R (addO (0 : Nat) (Int.toNat (Prod.snd (IntKind.i64, (↑k : Int)))))) : Int) * (2 : Int) + (↑b : Int)) / (65536 : Int) ∧ ((↑(R (addO (0 : Nat) (Int.toNat (Prod.snd (IntKind.i64, (↑k : Int)))))) : Int) * (2 : Int) + (↑b : Int)) / (65536 : Int) < (18446744073709551616 : Int), True, True, (-9223372036854775808 : Int) ≤ (↑k : Int) + (1 : Int) ∧ (↑k : Int) + (1 : Int) < (9223372036854775808 : Int), True]) (k' := []) (o' := .norm) (S := (rbS2 i ((R k * 2 + b) / 65536) (k + 1))) (H := [(1000, .row false 26 1 32 (rowN P)), (19, .row true 26 1 32 (rowN Q)), (23, .row true 26 1 17 (rowN (dg c))), (24, .row true 26 1 17 (upd (rowN R) k [.int .u64 (((R k * 2 + b) % 65536 : Nat) : Int)]))]) (by kernel_rfl) (by kernel_rfl) (by simp only [conj, and_true, true_and, addO_eq, Nat.zero_add, Int.toNat_natCast]; omega)) ?_
  rintro k o σ ⟨rfl, rfl, rfl⟩
  exact ⟨rfl, rfl, by rw [upd_rowN]; rfl⟩

theorem rb_B' {w0 : Base} {P Q R : Nat → Nat} {c b : Nat} {i : Int} :
    Goes Try.prog Try.f105.ntmps w0 [.code (roundOf 2 (roundOf 0 (bodyOf Try.f105)))] .norm (kn (rbS2 i b 17) (rbH P c Q R)) fun k' o σ => k' = [] ∧ o = .exit 2 ∧ σ = kn (rbS2 i b 17) (rbH P c Q R) :=
  goes (ctx_ok tabR_ok 108) mixed rfl (gs := []) (gh := []) (orc := way [(43, 1)]) (stops := []) (f := 3000) (k := [.code (roundOf 2 (roundOf 0 (bodyOf Try.f105)))]) (o := .norm) (σ := (kn (rbS2 i b 17) (rbH P c Q R))) (cs := [True, ¬(↑(17 : Nat) : Int) < (17 : Int)]) (k' := []) (o' := (.exit 2)) (S := (rbS2 i b 17)) (H := (rbH P c Q R)) (by kernel_rfl) (by kernel_rfl) (by simp [conj])

theorem rb_C1 {w0 : Base} {P Q R : Nat → Nat} {c b m : Nat} (hm : m < 512) (hR : ∀ k, k < 17 → R k < 65536) (hlt : num R 17 < num (dg c) 17) :
    Goes Try.prog Try.f105.ntmps w0 (restOf 2 (roundOf 0 (bodyOf Try.f105))) .norm (kn (rbS2 (m : Int) b 17) (rbH P c Q R)) fun k' o σ => k' = [] ∧ o = .norm ∧ σ = kn (rbS ((m : Int) - 1)) (rbH P c Q R) :=
  goes (ctx_ok tabR_ok 108) mixed rfl (gs := []) (gh := []) (orc := way []) (stops := []) (f := 3000) (k := (restOf 2 (roundOf 0 (bodyOf Try.f105)))) (o := .norm) (σ := (kn (rbS2 (m : Int) b 17) (rbH P c Q R))) (cs := [True, True, (17 : Nat) = (17 : Nat) ∧ (17 : Nat) = (17 : Nat) ∧ (17 : Nat) = (17 : Nat) ∧ (17 : Nat) = (17 : Nat) ∧ digs (rowN R) (17 : Nat) (65536 : Nat) ∧ digs (rowN (dg c)) (17 : Nat) (65536 : Nat) ∧ num (rd (rowN R)) (17 : Nat) < num (rd (rowN (dg c))) (17 : Nat), True, (-9223372036854775808 : Int) ≤ (↑m : Int) - (1 : Int) ∧ (↑m : Int) - (1 : Int) < (9223372036854775808 : Int), True]) (k' := []) (o' := .norm) (S := (rbS ((m : Int) - 1))) (H := (rbH P c Q R)) (by kernel_rfl) (by kernel_rfl) (by
    have h1 := digs_rowN hR
    have h2 : digs (rowN (dg c)) 17 65536 := digs_rowN fun i _ => dg_lt c i
    simp only [conj, and_true, true_and, rd_rowN, h1, h2, hlt]; omega)

theorem rb_C2 {w0 : Base} {P Q R : Nat → Nat} {c b m : Nat} (hR : ∀ k, k < 17 → R k < 65536) (hge : num (dg c) 17 ≤ num R 17) :
    Goes Try.prog Try.f105.ntmps w0 (restOf 2 (roundOf 0 (bodyOf Try.f105))) .norm (kn (rbS2 (m : Int) b 17) (rbH P c Q R)) fun k' o σ => k' = kOf 4 (roundOf 0 (bodyOf Try.f105)) ∧ o = .norm ∧ σ = kn (rbS4 (m : Int) 0 0) (rbH P c Q R) :=
  goes (ctx_ok tabR_ok 108) mixed rfl (gs := [13, 14]) (gh := []) (orc := way [(62, 1)]) (stops := [4]) (f := 3000) (k := (restOf 2 (roundOf 0 (bodyOf Try.f105)))) (o := .norm) (σ := (kn (rbS2 (m : Int) b 17) (rbH P c Q R))) (cs := [True, True, (17 : Nat) = (17 : Nat) ∧ (17 : Nat) = (17 : Nat) ∧ (17 : Nat) = (17 : Nat) ∧ (17 : Nat) = (17 : Nat) ∧ digs (rowN R) (17 : Nat) (65536 : Nat) ∧ digs (rowN (dg c)) (17 : Nat) (65536 : Nat) ∧ num (rd (rowN (dg c))) (17 : Nat) ≤ num (rd (rowN R)) (17 : Nat), True, True]) (k' := (kOf 4 (roundOf 0 (bodyOf Try.f105)))) (o' := .norm) (S := (rbS4 (m : Int) 0 0)) (H := (rbH P c Q R)) (by kernel_rfl) (by kernel_rfl) (by
    have h1 := digs_rowN hR
    have h2 : digs (rowN (dg c)) 17 65536 := digs_rowN fun i _ => dg_lt c i
    simp only [conj, and_true, true_and, rd_rowN, h1, h2, hge])

theorem rb_D {w0 : Base} {P Q R : Nat → Nat} {c b k : Nat} {i : Int} (hk : k < 17) (hb : b < 2) (hR : R k < 65536) :
    Goes Try.prog Try.f105.ntmps w0 [.code (roundOf 4 (roundOf 0 (bodyOf Try.f105)))] .norm (kn (rbS4 i b k) (rbH P c Q R)) fun k' o σ => k' = [] ∧ o = .norm ∧
      σ = kn (rbS4 i (1 - (R k + 65536 - dg c k - b) / 65536) (k + 1)) (rbH P c Q (upd R k ((R k + 65536 - dg c k - b) % 65536))) := by
  have hd := dg_lt c k
  obtain ⟨n, hn⟩ : ∃ n : Nat, n = R k + 65536 - dg c k - b := ⟨_, rfl⟩
  have hn' : ((R k : Int) + 65536 - (dg c k : Int) - (b : Int)) = (n : Int) := by omega
  refine Goes.mono (goes (ctx_ok tabR_ok 108) mixed rfl (gs := []) (gh := []) (orc := way []) (stops := []) (f := 3000) (k := [.code (roundOf 4 (roundOf 0 (bodyOf Try.f105)))]) (o := .norm) (σ := (kn (rbS4 i b k) (rbH P c Q R))) (cs := [True, (↑k : Int) < (17 : Int), True, True, (0 : Int) ≤ (↑k : Int) ∧ (↑k : Int) < (↑(17 : Nat) : Int), addO (0 : Nat) k < (17 : Nat), (0 : Int) ≤ (↑(R (addO (0 : Nat) (Int.toNat (Prod.snd (IntKind.i64, (↑k : Int)))))) : Int) + (65536 : Int) ∧ (↑(R (addO (0 : Nat) (Int.toNat (Prod.snd (IntKind.i64, (↑k : Int)))))) : Int) + (65536 : Int) < (18446744073709551616 : Int), True, True, (0 : Int) ≤ (↑k : Int) ∧ (↑k : Int) < (↑(17 : Nat) : Int), addO (0 : Nat) k < (17 : Nat), (0 : Int) ≤ (↑(R (addO (0 : Nat) (Int.toNat (Prod.snd (IntKind.i64, (↑k : Int)))))) : Int) + (65536 : Int) - (↑(dg c (addO (0 : Nat) k)) : Int) ∧ (↑(R (addO (0 : Nat) (Int.toNat (Prod.snd (IntKind.i64, (↑k : Int)))))) : Int) + (65536 : Int) - (↑(dg c (addO (0 : Nat) k)) : Int) < (18446744073709551616 : Int), True, (0 : Int) ≤ (↑(R (addO (0 : Nat) (Int.toNat (Prod.snd (IntKind.i64, (↑k : Int)))))) : Int) + (65536 : Int) - (↑(dg c (addO (0 : Nat) k)) : Int) - (↑b : Int) ∧ (↑(R (addO (0 : Nat) (Int.toNat (Prod.snd (IntKind.i64, (↑k : Int)))))) : Int) + (65536 : Int) - (↑(dg c (addO (0 : Nat) k)) : Int) - (↑b : Int) < (18446744073709551616 : Int), True, True, True, True, (0 : Int) ≤ (↑(R (addO (0 : Nat) (Int.toNat (Prod.snd (IntKind.i64, (↑k : Int)))))) : Int) + (65536 : Int) - (↑(dg c (addO (0 : Nat) k)) : Int) - (↑b : Int), (0 : Int) ≤ (↑k : Int) ∧ (↑k : Int) < (↑(17 : Nat) : Int), addO (0 : Nat) k < (17 : Nat), True, (0 : Int) ≤ (↑(R (addO (0 : Nat) (Int.toNat (Prod.snd (IntKind.i64, (↑k : Int)))))) : Int) + (65536 : Int) - (↑(dg c (addO (0 : Nat) k)) : Int) - (↑b : Int) ∧ (0 : Int) ≤ ((↑(R (addO (0 : Nat) (Int.toNat (Prod.snd (IntKind.i64, (↑k : Int)))))) : Int) + (65536 : Int) - (↑(dg c (addO (0 : Nat) k)) : Int) - (↑b : Int)) / (65536 : Int) ∧ ((↑(R (addO (0 : Nat) (Int.toNat (Prod.snd (IntKind.i64, (↑k : Int)))))) : Int) + (65536 : Int) - (↑(dg c (addO (0 : Nat) k)) : Int) - (↑b : Int)) / (65536 : Int) < (18446744073709551616 : Int), (0 : Int) ≤ (1 : Int) - ((↑(R (addO (0 : Nat) (Int.toNat (Prod.snd (IntKind.i64, (↑k : Int)))))) : Int) + (65536 : Int) - (↑(dg c (addO (0 : Nat) k)) : Int) - (↑b : Int)) / (65536 : Int) ∧ (1 : Int) - ((↑(R (addO (0 : Nat) (Int.toNat (Prod.snd (IntKind.i64, (↑k : Int)))))) : Int) + (65536 : Int) - (↑(dg c (addO (0 : Nat) k)) : Int) - (↑b : Int)) / (65536 : Int) < (18446744073709551616 : Int), True, True, (-9223372036854775808 : Int) ≤ (↑k : Int) + (1 : Int) ∧ (↑k : Int) + (1 : Int) < (9223372036854775808 : Int), True]) (k' := []) (o' := .norm) (S := (rbS i ++ [(13, .one [.int .u64 (1 - ((R k : Int) + 65536 - (dg c k : Int) - (b : Int)) / 65536)]), (14, .one [.int .i64 ((k + 1 : Nat) : Int)])])) (H := [(1000, .row false 26 1 32 (rowN P)), (19, .row true 26 1 32 (rowN Q)), (23, .row true 26 1 17 (rowN (dg c))), (24, .row true 26 1 17 (upd (rowN R) k [.int .u64 (((R k : Int) + 65536 - (dg c k : Int) - (b : Int)) % 65536)]))]) (by kernel_rfl) (by kernel_rfl) (by simp only [conj, and_true, true_and, addO_eq, Nat.zero_add, Int.toNat_natCast]; omega)) ?_
  rintro k' o σ ⟨rfl, rfl, rfl⟩
  have e1 : (1 - ((R k : Int) + 65536 - (dg c k : Int) - (b : Int)) / 65536) = ((1 - (R k + 65536 - dg c k - b) / 65536 : Nat) : Int) := by rw [hn', ← hn]; omega
  have e2 : (((R k : Int) + 65536 - (dg c k : Int) - (b : Int)) % 65536) = (((R k + 65536 - dg c k - b) % 65536 : Nat) : Int) := by rw [hn', ← hn]; omega
  exact ⟨rfl, rfl, by rw [e1, e2, upd_rowN]; rfl⟩

theorem rb_D' {w0 : Base} {P Q R : Nat → Nat} {c b : Nat} {i : Int} :
    Goes Try.prog Try.f105.ntmps w0 [.code (roundOf 4 (roundOf 0 (bodyOf Try.f105)))] .norm (kn (rbS4 i b 17) (rbH P c Q R)) fun k' o σ => k' = [] ∧ o = .exit 4 ∧ σ = kn (rbS4 i b 17) (rbH P c Q R) :=
  goes (ctx_ok tabR_ok 108) mixed rfl (gs := []) (gh := []) (orc := way [(64, 1)]) (stops := []) (f := 3000) (k := [.code (roundOf 4 (roundOf 0 (bodyOf Try.f105)))]) (o := .norm) (σ := (kn (rbS4 i b 17) (rbH P c Q R))) (cs := [True, ¬(↑(17 : Nat) : Int) < (17 : Int)]) (k' := []) (o' := (.exit 4)) (S := (rbS4 i b 17)) (H := (rbH P c Q R)) (by kernel_rfl) (by kernel_rfl) (by simp [conj])

theorem rb_E {w0 : Base} {P Q R : Nat → Nat} {c b m : Nat} (hm : m < 512) (hQ : Q (m / 16) + 2 ^ (m % 16) < 65536) :
    Goes Try.prog Try.f105.ntmps w0 (restOf 4 (roundOf 0 (bodyOf Try.f105))) .norm (kn (rbS4 (m : Int) b 17) (rbH P c Q R)) fun k' o σ => k' = [] ∧ o = .norm ∧ σ = kn (rbS ((m : Int) - 1)) (rbH P c (upd Q (m / 16) (Q (m / 16) + 1 * 2 ^ (m % 16))) R) := by
  have h3 : (0 : Int) ≤ ((2 ^ (m % 16) : Nat) : Int) := Int.natCast_nonneg _
  have e6 : ((m : Int) / 16).toNat = m / 16 := by omega
  refine Goes.mono (goes (ctx_ok tabR_ok 108) mixed rfl (gs := []) (gh := []) (orc := way []) (stops := []) (f := 3000) (k := (restOf 4 (roundOf 0 (bodyOf Try.f105)))) (o := .norm) (σ := (kn (rbS4 (m : Int) b 17) (rbH P c Q R))) (cs := [True, True, (0 : Int) ≤ (↑m : Int) ∧ (-9223372036854775808 : Int) ≤ (↑m : Int) / (16 : Int) ∧ (↑m : Int) / (16 : Int) < (9223372036854775808 : Int), (0 : Int) ≤ (↑m : Int) / (16 : Int) ∧ (↑m : Int) / (16 : Int) < (↑(32 : Nat) : Int), addO (0 : Nat) (m / 16) < (32 : Nat), True, (0 : Int) ≤ (↑m : Int), (0 : Int) ≤ (1 : Int) ∧ (0 : Int) ≤ (↑m : Int) % (16 : Int) ∧ (↑m : Int) % (16 : Int) < (64 : Int) ∧ (0 : Int) ≤ (↑(1 * (2 : Nat) ^ (m % 16)) : Int) ∧ (↑(1 * (2 : Nat) ^ (m % 16)) : Int) < (18446744073709551616 : Int), (0 : Int) ≤ (↑(Q (addO (0 : Nat) (Int.toNat (Prod.snd (IntKind.i64, (↑m : Int) / (16 : Int)))))) : Int) + (↑(1 * (2 : Nat) ^ (m % 16)) : Int) ∧ (↑(Q (addO (0 : Nat) (Int.toNat (Prod.snd (IntKind.i64, (↑m : Int) / (16 : Int)))))) : Int) + (↑(1 * (2 : Nat) ^ (m % 16)) : Int) < (18446744073709551616 : Int), (0 : Int) ≤ (↑m : Int) / (16 : Int) ∧ (↑m : Int) / (16 : Int) < (↑(32 : Nat) : Int), addO (0 : Nat) (m / 16) < (32 : Nat), True, (-9223372036854775808 : Int) ≤ (↑m : Int) - (1 : Int) ∧ (↑m : Int) - (1 : Int) < (9223372036854775808 : Int), True]) (k' := []) (o' := .norm) (S := (rbS ((m : Int) - 1))) (H := [(1000, .row false 26 1 32 (rowN P)), (19, .row true 26 1 32 (upd (rowN Q) (m / 16) [.int .u64 ((Q (m / 16) + 1 * 2 ^ (m % 16) : Nat) : Int)])), (23, .row true 26 1 17 (rowN (dg c))), (24, .row true 26 1 17 (rowN R))]) (by kernel_rfl) (by kernel_rfl) (by simp only [conj, and_true, true_and, addO_eq, Nat.zero_add, Int.toNat_natCast, e6, Nat.one_mul]; omega)) ?_
  rintro k o σ ⟨rfl, rfl, rfl⟩
  exact ⟨rfl, rfl, by rw [upd_rowN]; rfl⟩

theorem rb_F {w0 : Base} {P Q R : Nat → Nat} {c : Nat} :
    Goes Try.prog Try.f105.ntmps w0 [.code (roundOf 0 (bodyOf Try.f105))] .norm (kn (rbS (-1)) (rbH P c Q R)) fun k' o σ => k' = [] ∧ o = .exit 0 ∧ σ = kn (rbS (-1)) (rbH P c Q R) :=
  goes (ctx_ok tabR_ok 108) mixed rfl (gs := []) (gh := []) (orc := way [(30, 1)]) (stops := []) (f := 3000) (k := [.code (roundOf 0 (bodyOf Try.f105))]) (o := .norm) (σ := (kn (rbS (-1)) (rbH P c Q R))) (cs := [True, ¬(0 : Int) ≤ (-1 : Int)]) (k' := []) (o' := (.exit 0)) (S := (rbS (-1))) (H := (rbH P c Q R)) (by kernel_rfl) (by kernel_rfl) (by simp [conj])

end M
end Go.Proofs.Ytmjdmhelmgcanaa

/- r01.By: what the rounds come to. -/
namespace Go.Proofs.Ytmjdmhelmgcanaa
namespace M
open Go.RowKit
set_option linter.unusedSimpArgs false


/-- twice, and a bit -/
def dbI (F : Nat → Nat) (b0 : Nat) (p : Nat × Nat × (Nat → Nat)) : Prop := p.1 ≤ 17 ∧ p.2.1 < 2 ∧ (∀ k, k < 17 → p.2.2 k < 65536) ∧ (∀ k, p.1 ≤ k → p.2.2 k = F k) ∧ num p.2.2 p.1 + p.2.1 * 65536 ^ p.1 = 2 * num F p.1 + b0
theorem dbI_step {F R : Nat → Nat} {b0 b k : Nat} (hk : k < 17) (h : dbI F b0 (k, b, R)) : dbI F b0 (k + 1, (R k * 2 + b) / 65536, upd R k ((R k * 2 + b) % 65536)) := by
  obtain ⟨h1, h2, h3, h4, h5⟩ := h
  simp only at h1 h2 h3 h4 h5
  have e0 := h4 k (Nat.le_refl _)
  have e6 := h3 k hk
  refine ⟨hk, by show (R k * 2 + b) / 65536 < 2; omega, fun j hj => ?_, fun j hj => ?_, ?_⟩
  · show upd R k ((R k * 2 + b) % 65536) j < 65536
    by_cases e : j = k
    · subst e; rw [upd_same]; exact Nat.mod_lt _ (by omega)
    · rw [upd_ne R _ e]; exact h3 j hj
  · have hj' : k + 1 ≤ j := hj
    show upd R k ((R k * 2 + b) % 65536) j = F j
    rw [upd_ne R _ (by omega)]; exact h4 j (by omega)
  · show num (upd R k ((R k * 2 + b) % 65536)) (k + 1) + (R k * 2 + b) / 65536 * 65536 ^ (k + 1) = 2 * (num F k + F k * 65536 ^ k) + b0
    have e1 := num_upd R (j := k) (u := (R k * 2 + b) % 65536) (k := k + 1) (by omega)
    have e2 : (R k * 2 + b) / 65536 * 65536 ^ (k + 1) = 65536 * ((R k * 2 + b) / 65536) * 65536 ^ k := by rw [Nat.pow_succ]; ac_rfl
    have e3 := Nat.div_add_mod (R k * 2 + b) 65536
    have e4 : 65536 * ((R k * 2 + b) / 65536) * 65536 ^ k + (R k * 2 + b) % 65536 * 65536 ^ k = R k * 65536 ^ k * 2 + b * 65536 ^ k := by
      rw [← Nat.add_mul, e3, Nat.add_mul, Nat.mul_right_comm]
    have e5 : num R (k + 1) = num R k + R k * 65536 ^ k := rfl
    rw [← e0]
    omega

/-- what is left -/
def sbI (F D : Nat → Nat) (p : Nat × Nat × (Nat → Nat)) : Prop := p.1 ≤ 17 ∧ p.2.1 < 2 ∧ (∀ k, k < 17 → p.2.2 k < 65536) ∧ (∀ k, p.1 ≤ k → p.2.2 k = F k) ∧ num F p.1 + p.2.1 * 65536 ^ p.1 = num p.2.2 p.1 + num D p.1
theorem sbI_step {F R D : Nat → Nat} {b k : Nat} (hk : k < 17) (hD : D k < 65536) (h : sbI F D (k, b, R)) : sbI F D (k + 1, 1 - (R k + 65536 - D k - b) / 65536, upd R k ((R k + 65536 - D k - b) % 65536)) := by
  obtain ⟨h1, h2, h3, h4, h5⟩ := h
  simp only at h1 h2 h3 h4 h5
  have e0 := h4 k (Nat.le_refl _)
  have e6 := h3 k hk
  refine ⟨hk, by show 1 - (R k + 65536 - D k - b) / 65536 < 2; omega, fun j hj => ?_, fun j hj => ?_, ?_⟩
  · show upd R k ((R k + 65536 - D k - b) % 65536) j < 65536
    by_cases e : j = k
    · subst e; rw [upd_same]; exact Nat.mod_lt _ (by omega)
    · rw [upd_ne R _ e]; exact h3 j hj
  · have hj' : k + 1 ≤ j := hj
    show upd R k ((R k + 65536 - D k - b) % 65536) j = F j
    rw [upd_ne R _ (by omega)]; exact h4 j (by omega)
  · show num F k + F k * 65536 ^ k + (1 - (R k + 65536 - D k - b) / 65536) * 65536 ^ (k + 1) = num (upd R k ((R k + 65536 - D k - b) % 65536)) (k + 1) + (num D k + D k * 65536 ^ k)
    have e1 := num_upd R (j := k) (u := (R k + 65536 - D k - b) % 65536) (k := k + 1) (by omega)
    have e2 : (1 - (R k + 65536 - D k - b) / 65536) * 65536 ^ (k + 1) = (1 - (R k + 65536 - D k - b) / 65536) * 65536 * 65536 ^ k := by rw [Nat.pow_succ]; ac_rfl
    have e4 : (1 - (R k + 65536 - D k - b) / 65536) * 65536 * 65536 ^ k + R k * 65536 ^ k = (R k + 65536 - D k - b) % 65536 * 65536 ^ k + D k * 65536 ^ k + b * 65536 ^ k := by
      rw [← Nat.add_mul, ← Nat.add_mul, ← Nat.add_mul]
      congr 1
      omega
    have e5 : num R (k + 1) = num R k + R k * 65536 ^ k := rfl
    rw [← e0]
    omega

theorem rb_db {w0 : Base} {P Q F : Nat → Nat} {c b0 : Nat} {i : Int} {k : List Fr} (hb0 : b0 < 2) (hF : ∀ k, k < 17 → F k < 65536) :
    Goes Try.prog Try.f105.ntmps w0 (.code (.block 2 (.loop (roundOf 2 (roundOf 0 (bodyOf Try.f105))))) :: k) .norm (kn (rbS2 i b0 0) (rbH P c Q F)) fun k' o σ => k' = k ∧ o = .norm ∧ ∃ b R, dbI F b0 (17, b, R) ∧ σ = kn (rbS2 i b 17) (rbH P c Q R) := by
  refine goes_loop (fun p : Nat × Nat × (Nat → Nat) => kn (rbS2 i p.2.1 p.1) (rbH P c Q p.2.2)) (dbI F b0) (fun p => 17 - p.1) (fun o σ => o = .norm ∧ ∃ b R, dbI F b0 (17, b, R) ∧ σ = kn (rbS2 i b 17) (rbH P c Q R)) ?_ (p := (0, b0, F))
    ⟨Nat.zero_le _, hb0, hF, fun _ _ => rfl, by show 0 + b0 * 65536 ^ 0 = 2 * 0 + b0; rw [Nat.pow_zero]; omega⟩
  rintro ⟨k, b, R⟩ hI
  by_cases hk : k < 17
  · refine (rb_B hk hI.2.1 (hI.2.2.1 k hk)).mono ?_
    rintro k' o σ ⟨rfl, rfl, rfl⟩
    exact ⟨rfl, .inl ⟨rfl, _, dbI_step hk hI, by show 17 - (k + 1) < 17 - k; omega, rfl⟩⟩
  · have h1 : k ≤ 17 := hI.1
    obtain rfl : k = 17 := by omega
    refine rb_B'.mono ?_
    rintro k' o σ ⟨rfl, rfl, rfl⟩
    exact ⟨rfl, .inr ⟨by simp, rfl, b, R, hI, rfl⟩⟩
theorem rb_sb {w0 : Base} {P Q F : Nat → Nat} {c : Nat} {i : Int} {k : List Fr} (hF : ∀ k, k < 17 → F k < 65536) :
    Goes Try.prog Try.f105.ntmps w0 (.code (.block 4 (.loop (roundOf 4 (roundOf 0 (bodyOf Try.f105))))) :: k) .norm (kn (rbS4 i 0 0) (rbH P c Q F)) fun k' o σ => k' = k ∧ o = .norm ∧ ∃ b R, sbI F (dg c) (17, b, R) ∧ σ = kn (rbS4 i b 17) (rbH P c Q R) := by
  refine goes_loop (fun p : Nat × Nat × (Nat → Nat) => kn (rbS4 i p.2.1 p.1) (rbH P c Q p.2.2)) (sbI F (dg c)) (fun p => 17 - p.1) (fun o σ => o = .norm ∧ ∃ b R, sbI F (dg c) (17, b, R) ∧ σ = kn (rbS4 i b 17) (rbH P c Q R)) ?_ (p := (0, 0, F))
    ⟨Nat.zero_le _, (by show 0 < 2; omega), hF, fun _ _ => rfl, by show 0 + 0 * 65536 ^ 0 = 0 + 0; omega⟩
  rintro ⟨k, b, R⟩ hI
  by_cases hk : k < 17
  · refine (rb_D hk hI.2.1 (hI.2.2.1 k hk)).mono ?_
    rintro k' o σ ⟨rfl, rfl, rfl⟩
    exact ⟨rfl, .inl ⟨rfl, _, sbI_step hk (dg_lt c k) hI, by show 17 - (k + 1) < 17 - k; omega, rfl⟩⟩
  · have h1 : k ≤ 17 := hI.1
    obtain rfl : k = 17 := by omega
    refine rb_D'.mono ?_
    rintro k' o σ ⟨rfl, rfl, rfl⟩
    exact ⟨rfl, .inr ⟨by simp, rfl, b, R, hI, rfl⟩⟩

/-- a bit, by its digit -/
theorem rb_bit {P : Nat → Nat} {m : Nat} (hm : m < 512) (hP : ∀ k, k < 32 → P k < 65536) : rbBit P m = num P 32 / 2 ^ m % 2 := by
  have e1 := dg_num hP (m / 16) (by omega)
  have e3 : (65536 : Nat) ^ (m / 16) = 2 ^ (16 * (m / 16)) := by rw [show (65536 : Nat) = 2 ^ 16 from rfl, ← Nat.pow_mul]
  unfold rbBit
  rw [← e1]
  unfold dg
  generalize num P 32 = Z
  have e2 : ∀ r, r < 16 → Z / 65536 ^ (m / 16) % 65536 / 2 ^ r % 2 = Z / 65536 ^ (m / 16) / 2 ^ r % 2 := by
    intro r hr
    generalize Z / 65536 ^ (m / 16) = y
    have e : 65536 = 2 ^ r * (2 * 2 ^ (15 - r)) := by rw [← Nat.pow_succ', ← Nat.pow_add, show r + (15 - r + 1) = 16 by omega]
    rw [e, Nat.mod_mul_right_div_self, Nat.mod_mul_right_mod]
  rw [e2 _ (Nat.mod_lt _ (by omega)), e3, Nat.div_div_eq_div_mul, ← Nat.pow_add, Nat.div_add_mod]

/-- the quotient's digit has room -/
theorem rb_room {Q : Nat → Nat} {X m : Nat} (hm : m < 512) (hQ : ∀ k, k < 32 → Q k < 65536) (h : num Q 32 = X * 2 ^ (m + 1)) : Q (m / 16) + 2 ^ (m % 16) < 65536 := by
  have e1 := dg_num hQ (m / 16) (by omega)
  have e3 : (65536 : Nat) ^ (m / 16) = 2 ^ (16 * (m / 16)) := by rw [show (65536 : Nat) = 2 ^ 16 from rfl, ← Nat.pow_mul]
  have e4 : X * 2 ^ (m + 1) = X * 2 ^ (m % 16 + 1) * 2 ^ (16 * (m / 16)) := by
    rw [Nat.mul_assoc, ← Nat.pow_add]
    congr 2
    omega
  rw [← e1]
  unfold dg
  rw [h, e3, e4, Nat.mul_div_cancel _ (Nat.pow_pos (by omega))]
  have hr : m % 16 < 16 := Nat.mod_lt _ (by omega)
  generalize m % 16 = r at hr
  obtain ⟨s, hs⟩ : ∃ s, 65536 = 2 ^ (r + 1) * s := ⟨2 ^ (15 - r), by rw [← Nat.pow_add, show r + 1 + (15 - r) = 16 by omega]⟩
  have h0 : 0 < 2 ^ r := Nat.pow_pos (by omega)
  have hp : 2 ^ (r + 1) = 2 * 2 ^ r := by rw [Nat.pow_succ, Nat.mul_comm]
  have e5 : X * 2 ^ (r + 1) % 65536 = 2 ^ (r + 1) * (X % s) := by rw [hs, Nat.mul_comm, Nat.mul_mod_mul_left]
  have hs0 : 0 < s := by
    rcases Nat.eq_zero_or_pos s with e | e
    · rw [e, Nat.mul_zero] at hs; cases hs
    · exact e
  have e6 := Nat.mod_lt X hs0
  have e7 : 2 ^ (r + 1) * (X % s + 1) ≤ 2 ^ (r + 1) * s := Nat.mul_le_mul_left _ e6
  rw [Nat.mul_add, Nat.mul_one, ← hs] at e7
  rw [e5]
  omega

/-- what holds at a round's head -/
def rbI (Z c : Nat) (p : Int × (Nat → Nat) × (Nat → Nat)) : Prop := -1 ≤ p.1 ∧ p.1 ≤ 511 ∧ (∀ k, k < 32 → p.2.1 k < 65536) ∧ (∀ k, k < 17 → p.2.2 k < 65536) ∧ num p.2.1 32 = Z / 2 ^ (p.1 + 1).toNat / c * 2 ^ (p.1 + 1).toNat ∧ num p.2.2 17 = Z / 2 ^ (p.1 + 1).toNat % c

theorem rb_round {w0 : Base} {P Q F : Nat → Nat} {c m : Nat} (hP : ∀ k, k < 32 → P k < 65536) (h0 : 0 < c) (hc : c < TOP) (hm : m < 512) (h : rbI (num P 32) c ((m : Int), Q, F)) :
    Goes Try.prog Try.f105.ntmps w0 [.code (roundOf 0 (bodyOf Try.f105))] .norm (kn (rbS (m : Int)) (rbH P c Q F)) fun k o σ => k = [] ∧ o = .norm ∧ ∃ Q' R', rbI (num P 32) c ((m : Int) - 1, Q', R') ∧ σ = kn (rbS ((m : Int) - 1)) (rbH P c Q' R') := by
  obtain ⟨h1, h2, h3, h4, h5, h6⟩ := h
  simp only at h1 h2 h3 h4 h5 h6
  have e1 : ((m : Int) + 1).toNat = m + 1 := by omega
  have e2 : ((m : Int) - 1 + 1).toNat = m := by omega
  rw [e1] at h5 h6
  have hb : rbBit P m < 2 := Nat.mod_lt _ (by omega)
  refine (rb_A hm hP).bind ?_
  rintro k o σ ⟨rfl, rfl, rfl⟩
  have hk : kOf 2 (roundOf 0 (bodyOf Try.f105)) = .code (.block 2 (.loop (roundOf 2 (roundOf 0 (bodyOf Try.f105))))) :: restOf 2 (roundOf 0 (bodyOf Try.f105)) := by kernel_rfl
  rw [hk]
  refine (rb_db hb h4).bind ?_
  rintro k o σ ⟨rfl, rfl, b, R, ⟨-, g2, g3, -, g5⟩, rfl⟩
  simp only at g2 g3 g5
  have ht : TOP = 65536 ^ 16 := rfl
  have ht17 : 65536 ^ 17 = TOP * 65536 := by rw [ht, ← Nat.pow_succ]
  have hcn : num (dg c) 17 = c := by rw [num_dg]; exact Nat.mod_eq_of_lt (by omega)
  have hR17 := num_lt g3
  have hlt : num F 17 < c := by rw [h6]; exact Nat.mod_lt _ h0
  have hb0 : b = 0 := by
    rcases Nat.eq_zero_or_pos b with e | e
    · exact e
    · have : 1 * 65536 ^ 17 ≤ b * 65536 ^ 17 := Nat.mul_le_mul_right _ e
      omega
  subst hb0
  rw [Nat.zero_mul, Nat.add_zero, rb_bit hm hP, h6] at g5
  rcases Nat.lt_or_ge (num R 17) c with hl | hg
  · refine (rb_C1 hm g3 (by rw [hcn]; exact hl)).mono ?_
    rintro k o σ ⟨rfl, rfl, rfl⟩
    rw [g5] at hl
    have hd := div_same h0 hl
    rw [← half] at hd
    refine ⟨rfl, rfl, Q, R, ⟨by show -1 ≤ (m : Int) - 1; omega, by show (m : Int) - 1 ≤ 511; omega, h3, g3, ?_, ?_⟩, rfl⟩
    · show num Q 32 = num P 32 / 2 ^ ((m : Int) - 1 + 1).toNat / c * 2 ^ ((m : Int) - 1 + 1).toNat
      rw [e2, h5, hd.1, Nat.pow_succ]
      ac_rfl
    · show num R 17 = num P 32 / 2 ^ ((m : Int) - 1 + 1).toNat % c
      rw [e2, hd.2, g5]
  · refine (rb_C2 g3 (by rw [hcn]; exact hg)).bind ?_
    rintro k o σ ⟨rfl, rfl, rfl⟩
    have hk4 : kOf 4 (roundOf 0 (bodyOf Try.f105)) = .code (.block 4 (.loop (roundOf 4 (roundOf 0 (bodyOf Try.f105))))) :: restOf 4 (roundOf 0 (bodyOf Try.f105)) := by kernel_rfl
    rw [hk4]
    refine (rb_sb g3).bind ?_
    rintro k o σ ⟨rfl, rfl, b, R', ⟨-, k2, k3, -, k5⟩, rfl⟩
    simp only at k2 k3 k5
    rw [hcn] at k5
    have hR' := num_lt k3
    have hb0 : b = 0 := by
      rcases Nat.eq_zero_or_pos b with e | e
      · exact e
      · have : 1 * 65536 ^ 17 ≤ b * 65536 ^ 17 := Nat.mul_le_mul_right _ e
        omega
    subst hb0
    rw [Nat.zero_mul, Nat.add_zero] at k5
    have hroom := rb_room hm h3 h5
    refine (rb_E hm hroom).mono ?_
    rintro k o σ ⟨rfl, rfl, rfl⟩
    rw [g5] at hg
    have hd := div_more h0 (Nat.mod_lt _ (by omega)) hg
    rw [← half] at hd
    rw [Nat.one_mul]
    refine ⟨rfl, rfl, _, R', ⟨by show -1 ≤ (m : Int) - 1; omega, by show (m : Int) - 1 ≤ 511; omega, fun k hk => ?_, k3, ?_, ?_⟩, rfl⟩
    · show upd Q (m / 16) (Q (m / 16) + 2 ^ (m % 16)) k < 65536
      by_cases e : k = m / 16
      · subst e; rw [upd_same]; exact hroom
      · rw [upd_ne Q _ e]; exact h3 k hk
    · show num (upd Q (m / 16) (Q (m / 16) + 2 ^ (m % 16))) 32 = num P 32 / 2 ^ ((m : Int) - 1 + 1).toNat / c * 2 ^ ((m : Int) - 1 + 1).toNat
      have e5 := num_upd Q (j := m / 16) (u := Q (m / 16) + 2 ^ (m % 16)) (k := 32) (by omega)
      have e6 : 2 ^ (m % 16) * 65536 ^ (m / 16) = 2 ^ m := by
        rw [show (65536 : Nat) = 2 ^ 16 from rfl, ← Nat.pow_mul, ← Nat.pow_add]
        congr 1; omega
      rw [Nat.add_mul, e6] at e5
      rw [e2, hd.1, Nat.add_mul, Nat.one_mul]
      have e7 : num Q 32 = 2 * (num P 32 / 2 ^ (m + 1) / c) * 2 ^ m := by rw [h5, Nat.pow_succ]; ac_rfl
      omega
    · show num R' 17 = num P 32 / 2 ^ ((m : Int) - 1 + 1).toNat % c
      rw [e2, hd.2]
      omega

end M
end Go.Proofs.Ytmjdmhelmgcanaa

/- r01.By: its contract; r01.Mul, r01.MulDiv. -/
namespace Go.Proofs.Ytmjdmhelmgcanaa
namespace M
open Go.RowKit
set_option linter.unusedSimpArgs false

def rbK (k : Nat) : List (Nat × Sv) := [(6, .one [.sl 19 1 0 32]), (8, .one [.sl 24 1 0 17]), (16, .one [.int .i64 (k : Nat)])]
def rbE (b : Bool) : List (Nat × Sv) := [(4, .one [.sl 19 1 0 32]), (5, .one (B b))]

theorem rb_row {c : Nat} (hc : c < TOP) : rowC (rbD c) 17 = rowC (rowN (dg c)) 17 := by
  have e : dg c 16 = 0 := by
    have ht : TOP = 65536 ^ 16 := rfl
    unfold dg
    rw [Nat.div_eq_of_lt (by omega)]
  refine (congr (congrArg _ (rowC_congr (n := 16) fun i hi => ?_)) ?_ : rowC (rbD c) 16 ++ cellsL ρ0 (rbD c 16) = rowC (rowN (dg c)) 16 ++ cellsL ρ0 (rowN (dg c) 16))
  · have : Nat.blt i 16 = true := Nat.ble_eq_true_of_le hi
    unfold rbD
    rw [this]; rfl
  · simp only [rowN, e]; rfl

theorem rb_last {w0 : Base} {P Q R : Nat → Nat} {c : Nat} {k : List Fr} : Goes Try.prog Try.f105.ntmps w0 (.code (.block 6 (.loop (roundOf 6 (bodyOf Try.f105)))) :: k) .norm (kn (rbK 0) (rbH P c Q R))
    fun k' o σ => k' = k ∧ ((o = .norm ∧ (∀ j, j < 17 → R j = 0) ∧ σ = kn (rbK 17) (rbH P c Q R)) ∨ (o = .ret ∧ (∃ j, j < 17 ∧ 0 < R j) ∧ σ = kn (rbE true) (rbH P c Q R))) := by
  refine goes_loop (fun k : Nat => kn (rbK k) (rbH P c Q R)) (fun k => k ≤ 17 ∧ ∀ j, j < k → R j = 0) (fun k => 17 - k)
    (fun o σ => (o = .norm ∧ (∀ j, j < 17 → R j = 0) ∧ σ = kn (rbK 17) (rbH P c Q R)) ∨ (o = .ret ∧ (∃ j, j < 17 ∧ 0 < R j) ∧ σ = kn (rbE true) (rbH P c Q R))) ?_ (p := 0) ⟨by omega, fun j h => by omega⟩
  rintro k ⟨h1, h2⟩
  by_cases hk : k < 17
  · rcases Nat.eq_zero_or_pos (R k) with hz | hz
    · refine (goes (ctx_ok tabR_ok 108) mixed rfl (gs := []) (gh := []) (orc := way [(105, 1)]) (stops := []) (f := 3000) (k := [.code (roundOf 6 (bodyOf Try.f105))]) (o := .norm) (σ := (kn (rbK k) (rbH P c Q R))) (cs := [True, (↑k : Int) < (17 : Int), True, True, (0 : Int) ≤ (↑k : Int) ∧ (↑k : Int) < (↑(17 : Nat) : Int), addO (0 : Nat) k < (17 : Nat), ¬(0 : Int) < (↑(R (addO (0 : Nat) (Int.toNat (Prod.snd (IntKind.i64, (↑k : Int)))))) : Int), True, (-9223372036854775808 : Int) ≤ (↑k : Int) + (1 : Int) ∧ (↑k : Int) + (1 : Int) < (9223372036854775808 : Int), True]) (k' := []) (o' := .norm) (S := (rbK (k + 1))) (H := (rbH P c Q R)) (by kernel_rfl) (by kernel_rfl) (by simp only [conj, and_true, true_and, addO_eq, Nat.zero_add, Int.toNat_natCast]; omega)).mono ?_
      rintro k' o σ ⟨rfl, rfl, rfl⟩
      refine ⟨rfl, .inl ⟨rfl, k + 1, ⟨hk, fun j hj => ?_⟩, by omega, rfl⟩⟩
      by_cases e : j = k
      · subst e; exact hz
      · exact h2 j (by omega)
    · refine (goes (ctx_ok tabR_ok 108) mixed rfl (gs := []) (gh := []) (orc := way []) (stops := []) (f := 3000) (k := [.code (roundOf 6 (bodyOf Try.f105))]) (o := .norm) (σ := (kn (rbK k) (rbH P c Q R))) (cs := [True, (↑k : Int) < (17 : Int), True, True, (0 : Int) ≤ (↑k : Int) ∧ (↑k : Int) < (↑(17 : Nat) : Int), addO (0 : Nat) k < (17 : Nat), (0 : Int) < (↑(R (addO (0 : Nat) (Int.toNat (Prod.snd (IntKind.i64, (↑k : Int)))))) : Int), True, True, True]) (k' := []) (o' := .ret) (S := (rbE true)) (H := (rbH P c Q R)) (by kernel_rfl) (by kernel_rfl) (by simp only [conj, and_true, true_and, addO_eq, Nat.zero_add, Int.toNat_natCast]; omega)).mono ?_
      rintro k' o σ ⟨rfl, rfl, rfl⟩
      exact ⟨rfl, .inr ⟨by simp, .inr ⟨rfl, ⟨k, hk, hz⟩, rfl⟩⟩⟩
  · obtain rfl : k = 17 := by omega
    refine (goes (ctx_ok tabR_ok 108) mixed rfl (gs := []) (gh := []) (orc := way [(98, 1)]) (stops := []) (f := 3000) (k := [.code (roundOf 6 (bodyOf Try.f105))]) (o := .norm) (σ := (kn (rbK 17) (rbH P c Q R))) (cs := [True, ¬(↑(17 : Nat) : Int) < (17 : Int)]) (k' := []) (o' := (.exit 6)) (S := (rbK 17)) (H := (rbH P c Q R)) (by kernel_rfl) (by kernel_rfl) (by simp [conj])).mono ?_
    rintro k' o σ ⟨rfl, rfl, rfl⟩
    exact ⟨rfl, .inr ⟨by simp, .inl ⟨rfl, h2, rfl⟩⟩⟩

theorem num_all {F : Nat → Nat} {n : Nat} (h : ∀ j, j < n → F j = 0) : num F n = 0 := by
  rw [num_congr (g := fun _ => 0) h, num_zero]
theorem num_pos {F : Nat → Nat} {n j : Nat} (hj : j < n) (h : 0 < F j) : 0 < num F n := by
  induction n with
  | zero => omega
  | succ n ih =>
    show 0 < num F n + F n * 65536 ^ n
    by_cases e : j = n
    · subst e
      have : 1 * 1 ≤ F j * 65536 ^ j := Nat.mul_le_mul h (Nat.pow_pos (by omega))
      omega
    · have := ih (by omega)
      omega

theorem rby_goes {w0 : Base} {P : Nat → Nat} {c : Nat} (hP : ∀ k, k < 32 → P k < 65536) (h0 : 0 < c) (hc : c < TOP) : Goes Try.prog Try.f105.ntmps w0 [.code (bodyOf Try.f105)] .norm (kn (rbA c) [(1000, .row false 26 1 32 (rowN P))])
    (Fin (ctx tabR 108) Try.f105.results.toList fun v σ => ∃ b, v = .tup [[.sl 19 1 0 32], B b] ∧ (b = true ↔ num P 32 % c ≠ 0) ∧ ∃ Q, (∀ k, k < 32 → Q k < 65536) ∧ num Q 32 = num P 32 / c ∧ σ.heap 19 = some (.row true 26 1 32 (rowN Q))) := by
  refine rb_start.bind ?_
  rintro k o σ ⟨rfl, rfl, rfl⟩
  refine goes_sim (H' := rbH P c (fun _ => 0) (fun _ => 0)) (.same _ (.same _ (.row (rowOK_N _ _) (rb_row hc) (.same _ .nil)))) ?_
  have hk : kOf 0 (bodyOf Try.f105) = .code (.block 0 (.loop (roundOf 0 (bodyOf Try.f105)))) :: restOf 0 (bodyOf Try.f105) := by kernel_rfl
  rw [hk]
  have hstart : rbI (num P 32) c (511, fun _ => 0, fun _ => 0) := by
    have hz : ∀ a n, a = 512 → n = 32 → num P n / 2 ^ a = 0 := by
      intro a n ha hn
      have h := num_lt (f := P) (k := n) fun k hk => hP k (by omega)
      rw [show (65536 : Nat) = 2 ^ 16 from rfl, ← Nat.pow_mul, show 16 * n = a by omega] at h
      exact Nat.div_eq_of_lt h
    obtain ⟨a, e⟩ : ∃ a, ((511 : Int) + 1).toNat = a := ⟨_, rfl⟩
    have ha : a = 512 := by rw [← e]; rfl
    refine ⟨by show -1 ≤ (511 : Int); omega, by show (511 : Int) ≤ 511; omega, fun k _ => (by show 0 < 65536; omega), fun k _ => (by show 0 < 65536; omega), ?_, ?_⟩
    · simp only [e, hz a 32 ha rfl, Nat.zero_div, Nat.zero_mul, num_zero]
    · simp only [e, hz a 32 ha rfl, Nat.zero_mod, num_zero]
  refine (goes_loop (fun p : Int × (Nat → Nat) × (Nat → Nat) => kn (rbS p.1) (rbH P c p.2.1 p.2.2)) (rbI (num P 32) c) (fun p => (p.1 + 1).toNat) (fun o σ => o = .norm ∧ ∃ Q R, rbI (num P 32) c (-1, Q, R) ∧ σ = kn (rbS (-1)) (rbH P c Q R)) ?_ (p := (511, fun _ => 0, fun _ => 0)) hstart).bind ?_
  · rintro ⟨i, Q, R⟩ hI
    have h1 : -1 ≤ i := hI.1
    have h2 : i ≤ 511 := hI.2.1
    by_cases hi : i < 0
    · obtain rfl : i = -1 := by omega
      refine rb_F.mono ?_
      rintro k o σ ⟨rfl, rfl, rfl⟩
      exact ⟨rfl, .inr ⟨by simp, rfl, Q, R, hI, rfl⟩⟩
    · obtain ⟨m, rfl⟩ := Int.eq_ofNat_of_zero_le (Int.not_lt.1 hi)
      refine (rb_round hP h0 hc (by omega) hI).mono ?_
      rintro k o σ ⟨rfl, rfl, Q', R', h, rfl⟩
      exact ⟨rfl, .inl ⟨rfl, _, h, by show ((m : Int) - 1 + 1).toNat < ((m : Int) + 1).toNat; omega, rfl⟩⟩
  · rintro k o σ ⟨rfl, rfl, Q, R, ⟨_, _, h3, h4, h5, h6⟩, rfl⟩
    have e0 : ((-1 : Int) + 1).toNat = 0 := rfl
    simp only [e0, Nat.pow_zero, Nat.div_one, Nat.mul_one] at h3 h4 h5 h6
    refine (goes (ctx_ok tabR_ok 108) mixed rfl (gs := [16]) (gh := []) (orc := way []) (stops := [6]) (f := 3000) (k := (restOf 0 (bodyOf Try.f105))) (o := .norm) (σ := (kn (rbS (-1)) (rbH P c Q R))) (cs := [True]) (k' := (kOf 6 (bodyOf Try.f105))) (o' := .norm) (S := (rbK 0)) (H := (rbH P c Q R)) (by kernel_rfl) (by kernel_rfl) (by simp [conj])).bind ?_
    rintro k o σ ⟨rfl, rfl, rfl⟩
    have hk6 : kOf 6 (bodyOf Try.f105) = .code (.block 6 (.loop (roundOf 6 (bodyOf Try.f105)))) :: restOf 6 (bodyOf Try.f105) := by kernel_rfl
    rw [hk6]
    refine rb_last.bind ?_
    rintro k o σ ⟨rfl, ⟨rfl, hz, rfl⟩ | ⟨rfl, ⟨j, hj, hz⟩, rfl⟩⟩
    · have e := num_all hz
      rw [h6] at e
      exact goes_ret (ctx_ok tabR_ok 108) mixed rfl (orc := way []) (stops := []) (f := 3000) (k := (restOf 6 (bodyOf Try.f105))) (o := .norm) (σ := (kn (rbK 17) (rbH P c Q R))) (cs := [True, True, True]) (o' := .ret) (rs := Try.f105.results.toList) (v := (.tup [[.sl 19 1 0 32], B false])) (H := [(19, .row true 26 1 32 (rowN Q))]) (by kernel_rfl) (.inr rfl) (by simp [conj]) fun σ hσ => ⟨false, rfl, by simp [e], Q, h3, h5, hσ (19, _) List.mem_cons_self⟩
    · have e := num_pos hj hz
      rw [h6] at e
      have e' : num P 32 % c ≠ 0 := by omega
      exact goes_ret (ctx_ok tabR_ok 108) mixed rfl (orc := way []) (stops := []) (f := 3000) (k := (restOf 6 (bodyOf Try.f105))) (o := .ret) (σ := (kn (rbE true) (rbH P c Q R))) (cs := []) (o' := .ret) (rs := Try.f105.results.toList) (v := (.tup [[.sl 19 1 0 32], B true])) (H := [(19, .row true 26 1 32 (rowN Q))]) (by kernel_rfl) (.inr rfl) (by simp [conj]) fun σ hσ => ⟨true, rfl, by simp [e'], Q, h3, h5, hσ (19, _) List.mem_cons_self⟩

def rbyC : Con
  | [[(.sl _ 1 0 n, some (.row _ 26 1 n1 f))], [(.big 4 c, none)]] =>
    some [⟨n = 32 ∧ n1 = 32 ∧ digs f 32 65536 ∧ 0 < c ∧ num (rd f) 32 % c ≠ 0, fun d => .tup [[.sl d 1 0 32], B true], fun d => .new d (.row true 26 1 32 (rowN (dg (num (rd f) 32 / c))))⟩,
      ⟨n = 32 ∧ n1 = 32 ∧ digs f 32 65536 ∧ 0 < c ∧ num (rd f) 32 % c = 0, fun d => .tup [[.sl d 1 0 32], B false], fun d => .new d (.row true 26 1 32 (rowN (dg (num (rd f) 32 / c))))⟩]
  | _ => none
def eRBy : Entry := ⟨105, 1, rbyC⟩

theorem rby_e : EOK eRBy := by
  constructor
  · intro args outs ho hargs i oc hi hc d
    have ho' : rbyC args = some outs := ho
    unfold rbyC at ho'
    split at ho'
    · rename_i id n o n1 f c
      cases ho'
      have hi' := List.mem_of_getElem? hi
      simp only [List.mem_cons, List.not_mem_nil, or_false] at hi'
      rcases hi' with rfl | rfl
      all_goals
        refine ⟨(fun d' h => by cases h; rfl), (fun id' h => by cases h), (fun id' k' h => by cases h; exact ⟨rfl, trivial, rowOK_N _ _⟩), ?_⟩
        intro m hm
        simp only [List.mem_cons, List.not_mem_nil, or_false] at hm
        rcases hm with rfl | rfl
        · intro a ha
          simp only [List.mem_singleton] at ha
          subst ha
          exact .inr (.inl ⟨rfl, rfl, rfl⟩)
        · exact fun a ha => .inl (B_plain _ a ha)
    · cases ho'
  · intro args outs ho i oc hi hc ρ w B' d hB hargs hd hinj
    have ho' : rbyC args = some outs := ho
    unfold rbyC at ho'
    split at ho'
    · rename_i id n o n1 f c
      cases ho'
      have hi' := List.mem_of_getElem? hi
      have key : (n = 32 ∧ n1 = 32 ∧ digs f 32 65536 ∧ 0 < c) ∧ ∃ b : Bool, (b = true ↔ num (rd f) 32 % c ≠ 0) ∧ (oc.r d) = .tup [[.sl d 1 0 32], B b] ∧ oc.e d = .new d (.row true 26 1 32 (rowN (dg (num (rd f) 32 / c)))) := by
        simp only [List.mem_cons, List.not_mem_nil, or_false] at hi'
        rcases hi' with rfl | rfl
        · obtain ⟨h1, h2, h3, h4, h5⟩ := hc
          exact ⟨⟨h1, h2, h3, h4⟩, true, by simp [h5], rfl, rfl⟩
        · obtain ⟨h1, h2, h3, h4, h5⟩ := hc
          exact ⟨⟨h1, h2, h3, h4⟩, false, by simp [h5], rfl, rfl⟩
      obtain ⟨⟨rfl, rfl, hf, h0⟩, b, hb, hr1, he⟩ := key
      refine ⟨Try.call105 _ _, ?_⟩
      obtain ⟨id', hid', hbk, _⟩ := (hargs _ List.mem_cons_self _ List.mem_cons_self).2 _ rfl
      cases hid'
      have hct : c < TOP := by rw [← pow64_4]; exact (hargs _ (List.mem_cons_of_mem _ List.mem_cons_self) _ List.mem_cons_self).1 rfl
      let ρ2 : Env := ⟨fun _ => ρ.b id, fun _ => ρ.o id, fun _ => ρ.c id⟩
      have hin : InOK (base w ρ2) [.one [.sl 1000 1 0 32], .one [.big 4 c]] [(1000, .row false 26 1 32 (rowN (rd f)))] := by
        refine in_reads ?_ ?_
        · intro p hp
          simp only [List.mem_cons, List.not_mem_nil, or_false] at hp
          subst hp
          exact ⟨rfl, trivial, read_num hbk hf rfl rfl rfl⟩
        · intro s hs
          simp only [List.mem_cons, List.not_mem_nil, or_false] at hs
          rcases hs with rfl | rfl
          · exact one1 (.inr ⟨1000, _, rfl, rfl⟩)
          · exact fun a ha => .inl (N_plain hct a ha)
      refine (calls_of (ctx_ok tabR_ok 108) Try.func105 (c := bodyOf Try.f105) rfl rfl (Nat.le_of_ble_eq_true (by kernel_rfl)) hin (rby_goes (fun i hi => (hf i hi).2) h0 hct)).mono ?_
      rintro e w' ⟨v, σ', ρ', a', ⟨b', rfl, hb', Q, q1, q2, q3⟩, rfl, hr, _⟩
      have hbb : b' = b := by
        rw [Bool.eq_iff_iff, hb', hb]
      subst hbb
      rw [he, hr1]
      have hrow : rowC (rowN Q) 32 = rowC (rowN (dg (num (rd f) 32 / c))) 32 := rowN_congr fun i hi => by rw [← q2, dg_num q1 i hi]
      refine ⟨_, fresh_post (d := d) (ρe := ρ) hB hr q3 (rowOK_N _ _) hrow, ?_⟩
      have e1 := fresh_val (d := d) (ρe := ρ) hr q3
      show Ending.returned (.tuple #[(Av.sl 19 1 0 32).val ρ', .bool b']) = Ending.returned (.tuple #[(Av.sl d 1 0 32).val _, .bool b'])
      rw [e1]
    · cases ho'

end M
end Go.Proofs.Ytmjdmhelmgcanaa

/- r01.Mul, r01.MulDiv. -/
namespace Go.Proofs.Ytmjdmhelmgcanaa
namespace M
open Go.RowKit
set_option linter.unusedSimpArgs false

def tabS : List Entry := eWide :: eRBy :: eROf :: eCarry :: eLess :: tabM
def tabU : List Entry := ⟨74, 0, pcon (k2 fun x y => [(x * y < TOP, .tup [N (x * y), B true]), (TOP ≤ x * y, .tup [N 0, B false])])⟩ :: ⟨76, 0, pcon mdK⟩ :: tabS
def qv (x y z : Nat) : Nat := num (rd (rowN (dg (num (rd (rowN (dg (x * y)))) 32 / z)))) 32
def qv1 (x y z : Nat) : Nat := num (rd (rowN (dg (num (rd (upd (rowN (dg (num (rd (rowN (dg (x * y)))) 32 / z))) 0 [.int .u64 ((dg (num (rd (rowN (dg (x * y)))) 32 / z) 0 : Int) + 1)])) 32)))) 33

theorem tabS_ok : TabOK tabS := .cons wide_e (.cons rby_e (.cons rof_e (.cons carry_e (.cons less_e tabM_ok))))

theorem dg_fold {n z : Nat} (h : z < 65536 ^ n) : num (dg z) n = z := by rw [num_dg]; exact Nat.mod_eq_of_lt h
theorem dg_ok (z n : Nat) : digs (rowN (dg z)) n 65536 := digs_rowN fun i _ => dg_lt z i
theorem prod_lt {x y : Nat} (hx : x < TOP) (hy : y < TOP) : x * y < 65536 ^ 32 := by
  have e : (65536 : Nat) ^ 32 = TOP * TOP := rfl
  rw [e]
  exact Nat.mul_lt_mul_of_lt_of_lt hx hy
theorem quo_lt {x y z : Nat} (hx : x < TOP) (hy : y < TOP) : x * y / z < 65536 ^ 32 := Nat.lt_of_le_of_lt (Nat.div_le_self _ _) (prod_lt hx hy)

theorem rmul_owes {x y : Nat} (hx : x < TOP) (hy : y < TOP) :
    Owes 74 [N x, N y] [(x * y < TOP, .tup [N (x * y), B true]), (TOP ≤ x * y, .tup [N 0, B false])] := by
  have ht := top_eq
  have hp := dg_fold (prod_lt hx hy)
  intro p0 hp0 hc
  simp only [List.mem_cons, List.not_mem_nil, or_false] at hp0
  rcases hp0 with rfl | rfl
  · have hc' : x * y < TOP := hc
    have hpl : (.tup [N (x * y), B true] : Sv).all Av.plain := by ((first | refine tupP ?_ | refine oneP ?_) <;> first | (first | exact E_plain _ | exact B_plain _ | exact lit_plain _ _ | exact int_plain _ _ | exact N_plain (by omega) | exact N_plain2 (by omega) (by omega) | assumption) | ((repeat' (first | exact argsP_nil | refine argsP_cons ?_ ?_)) <;> (first | exact E_plain _ | exact B_plain _ | exact lit_plain _ _ | exact int_plain _ _ | exact N_plain (by omega) | exact N_plain2 (by omega) (by omega) | assumption)))
    refine ⟨hpl, pure_calls' (ctx_ok tabS_ok 12) Try.func74 (c := bodyOf Try.f74) rfl rfl (args := [N x, N y]) (Nat.le_of_ble_eq_true (by kernel_rfl)) (by ((repeat' (first | exact argsP_nil | refine argsP_cons ?_ ?_)) <;> (first | exact E_plain _ | exact B_plain _ | exact lit_plain _ _ | exact int_plain _ _ | exact N_plain (by omega) | exact N_plain2 (by omega) (by omega) | assumption))) hpl (fun w0 => ?_)⟩
    rw [show (Sv.tup [N (x * y), B true]) = .tup [N (num (rd (rowN (dg (x * y)))) 32), B true] by rw [rd_rowN, hp]]
    exact goes_ret (ctx_ok tabS_ok 12) mixed rfl (orc := way []) (stops := []) (f := 3000) (k := [.code (bodyOf Try.f74)]) (o := .norm) (σ := (kn (argS 0 ([N x, N y].map .one)) [])) (cs := [True, True, True, True, True, True, True, (32 : Nat) = (32 : Nat) ∧ (16 : Nat) ≤ (32 : Nat) ∧ (32 : Nat) < (64 : Nat) ∧ digs (Prod.snd (Prod.snd (Prod.snd ((26 : TypeId), (1 : Nat), (32 : Nat), rowN (dg (x * y)))))) (32 : Nat) (65536 : Nat) ∧ num (rd (Prod.snd (Prod.snd (Prod.snd ((26 : TypeId), (1 : Nat), (32 : Nat), rowN (dg (x * y))))))) (32 : Nat) < TOP, True, True, True, True]) (o' := .ret) (rs := Try.f74.results.toList) (v := (.tup [N (num (rd (rowN (dg (x * y)))) 32), B true])) (H := ([] : List (Nat × Bk))) (by kernel_rfl) (.inr rfl) (by simp only [conj, and_true, true_and, rd_rowN, hp, dg_ok]; omega) fun _ _ => rfl
  · have hc' : TOP ≤ x * y := hc
    have hpl : (.tup [N 0, B false] : Sv).all Av.plain := by ((first | refine tupP ?_ | refine oneP ?_) <;> first | (first | exact E_plain _ | exact B_plain _ | exact lit_plain _ _ | exact int_plain _ _ | exact N_plain (by omega) | exact N_plain2 (by omega) (by omega) | assumption) | ((repeat' (first | exact argsP_nil | refine argsP_cons ?_ ?_)) <;> (first | exact E_plain _ | exact B_plain _ | exact lit_plain _ _ | exact int_plain _ _ | exact N_plain (by omega) | exact N_plain2 (by omega) (by omega) | assumption)))
    refine ⟨hpl, pure_calls' (ctx_ok tabS_ok 12) Try.func74 (c := bodyOf Try.f74) rfl rfl (args := [N x, N y]) (Nat.le_of_ble_eq_true (by kernel_rfl)) (by ((repeat' (first | exact argsP_nil | refine argsP_cons ?_ ?_)) <;> (first | exact E_plain _ | exact B_plain _ | exact lit_plain _ _ | exact int_plain _ _ | exact N_plain (by omega) | exact N_plain2 (by omega) (by omega) | assumption))) hpl (fun w0 => ?_)⟩
    exact goes_ret (ctx_ok tabS_ok 12) mixed rfl (orc := way [(9, 1)]) (stops := []) (f := 3000) (k := [.code (bodyOf Try.f74)]) (o := .norm) (σ := (kn (argS 0 ([N x, N y].map .one)) [])) (cs := [True, True, True, True, True, True, True, (32 : Nat) = (32 : Nat) ∧ (16 : Nat) ≤ (32 : Nat) ∧ (32 : Nat) < (64 : Nat) ∧ digs (Prod.snd (Prod.snd (Prod.snd ((26 : TypeId), (1 : Nat), (32 : Nat), rowN (dg (x * y)))))) (32 : Nat) (65536 : Nat) ∧ TOP ≤ num (rd (Prod.snd (Prod.snd (Prod.snd ((26 : TypeId), (1 : Nat), (32 : Nat), rowN (dg (x * y))))))) (32 : Nat), True, True, True, True]) (o' := .ret) (rs := Try.f74.results.toList) (v := (.tup [N 0, B false])) (H := ([] : List (Nat × Bk))) (by kernel_rfl) (.inr rfl) (by simp only [conj, and_true, true_and, rd_rowN, hp, dg_ok]; omega) fun _ _ => rfl

theorem inc_eq (q : Nat) : upd (rowN (dg q)) 0 [.int .u64 ((dg q 0 : Int) + 1)] = rowN (upd (dg q) 0 (dg q 0 + 1)) := by
  rw [← upd_rowN]; rfl
theorem inc_digs (q n : Nat) : digs (rowN (upd (dg q) 0 (dg q 0 + 1))) n 65537 := digs_rowN fun i _ => by
  have := dg_lt q
  by_cases e : i = 0
  · subst e; rw [upd_same]; have := this 0; omega
  · rw [upd_ne _ _ e]; have := this i; omega
theorem inc_num {q : Nat} (h : num (dg q) 32 = q) : num (upd (dg q) 0 (dg q 0 + 1)) 32 = q + 1 := by
  have e := num_upd (dg q) (j := 0) (u := dg q 0 + 1) (k := 32) (by omega)
  rw [Nat.pow_zero, Nat.mul_one, Nat.mul_one] at e
  omega
theorem inc_fold {q : Nat} (h : q < 65536 ^ 32) : num (dg (q + 1)) 33 = q + 1 := dg_fold (by
  have e : (65536 : Nat) ^ 33 = 65536 ^ 32 * 65536 := Nat.pow_succ ..
  omega)

theorem qv_eq {x y z : Nat} (hx : x < TOP) (hy : y < TOP) : qv x y z = x * y / z := by
  unfold qv
  rw [rd_rowN, rd_rowN, dg_fold (prod_lt hx hy), dg_fold (quo_lt hx hy)]
theorem qv1_eq {x y z : Nat} (hx : x < TOP) (hy : y < TOP) : qv1 x y z = x * y / z + 1 := by
  unfold qv1
  rw [rd_rowN, rd_rowN, dg_fold (prod_lt hx hy), inc_eq, rd_rowN, inc_num (dg_fold (quo_lt hx hy)), inc_fold (quo_lt hx hy)]

theorem rmdF_owes {x y z : Nat} (hx : x < TOP) (hy : y < TOP) (hz : z < TOP) :
    Owes 76 [N x, N y, N z, B false] [(0 < z ∧ x * y / z < TOP, .tup [N (x * y / z), E 0]), (0 < z ∧ TOP ≤ x * y / z, .tup [N 0, E 2]), (z = 0, .tup [N 0, E 1])] := by
  have ht := top_eq
  have hp := dg_fold (prod_lt hx hy)
  intro p0 hp0 hc
  simp only [List.mem_cons, List.not_mem_nil, or_false] at hp0
  rcases hp0 with rfl | rfl | rfl
  · have hc' : 0 < z ∧ x * y / z < TOP := hc
    have hpl : (.tup [N (x * y / z), E 0] : Sv).all Av.plain := by ((first | refine tupP ?_ | refine oneP ?_) <;> first | (first | exact E_plain _ | exact B_plain _ | exact lit_plain _ _ | exact int_plain _ _ | exact N_plain (by omega) | exact N_plain2 (by omega) (by omega) | assumption) | ((repeat' (first | exact argsP_nil | refine argsP_cons ?_ ?_)) <;> (first | exact E_plain _ | exact B_plain _ | exact lit_plain _ _ | exact int_plain _ _ | exact N_plain (by omega) | exact N_plain2 (by omega) (by omega) | assumption)))
    refine ⟨hpl, pure_calls' (ctx_ok tabS_ok 45) Try.func76 (c := bodyOf Try.f76) rfl rfl (args := [N x, N y, N z, B false]) (Nat.le_of_ble_eq_true (by kernel_rfl)) (by ((repeat' (first | exact argsP_nil | refine argsP_cons ?_ ?_)) <;> (first | exact E_plain _ | exact B_plain _ | exact lit_plain _ _ | exact int_plain _ _ | exact N_plain (by omega) | exact N_plain2 (by omega) (by omega) | assumption))) hpl (fun w0 => ?_)⟩
    have hq := dg_fold (quo_lt (z := z) hx hy)
    by_cases h : x * y % z = 0
    · skip
      rw [← qv_eq hx hy] at hpl ⊢
      exact goes_ret (ctx_ok tabS_ok 45) mixed rfl (orc := way [(15, 1), (22, 1)]) (stops := []) (f := 3000) (k := [.code (bodyOf Try.f76)]) (o := .norm) (σ := (kn (argS 0 ([N x, N y, N z, B false].map .one)) [])) (cs := [True, True, True, True, True, True, (0 : Nat) < z, True, True, True, True, (32 : Nat) = (32 : Nat) ∧ (32 : Nat) = (32 : Nat) ∧ digs (Prod.snd (Prod.snd (Prod.snd ((26 : TypeId), (1 : Nat), (32 : Nat), rowN (dg (x * y)))))) (32 : Nat) (65536 : Nat) ∧ (0 : Nat) < z ∧ num (rd (Prod.snd (Prod.snd (Prod.snd ((26 : TypeId), (1 : Nat), (32 : Nat), rowN (dg (x * y))))))) (32 : Nat) % z = (0 : Nat), True, True, True, True, True, True, True, True, True, True, (32 : Nat) = (32 : Nat) ∧ (16 : Nat) ≤ (32 : Nat) ∧ (32 : Nat) < (64 : Nat) ∧ digs (rowN (dg (num (rd (Prod.snd (Prod.snd (Prod.snd ((26 : TypeId), (1 : Nat), (32 : Nat), rowN (dg (x * y))))))) (32 : Nat) / z))) (32 : Nat) (65536 : Nat) ∧ num (rd (rowN (dg (num (rd (Prod.snd (Prod.snd (Prod.snd ((26 : TypeId), (1 : Nat), (32 : Nat), rowN (dg (x * y))))))) (32 : Nat) / z)))) (32 : Nat) < TOP, True, True, True, True, True, True, True, True, True, True, True]) (o' := .ret) (rs := Try.f76.results.toList) (v := (.tup [N (qv x y z), E 0])) (H := ([] : List (Nat × Bk))) (by kernel_rfl) (.inr rfl) (by simp only [conj, and_true, true_and, rd_rowN, hp, hq, dg_ok, List.nil_append, List.append_nil, addO_eq, Nat.zero_add, Int.toNat_zero, inc_eq, inc_digs, inc_num hq, inc_fold (quo_lt hx hy)]; omega) fun _ _ => rfl
    · skip
      rw [← qv_eq hx hy] at hpl ⊢
      exact goes_ret (ctx_ok tabS_ok 45) mixed rfl (orc := way [(15, 1)]) (stops := []) (f := 3000) (k := [.code (bodyOf Try.f76)]) (o := .norm) (σ := (kn (argS 0 ([N x, N y, N z, B false].map .one)) [])) (cs := [True, True, True, True, True, True, (0 : Nat) < z, True, True, True, True, (32 : Nat) = (32 : Nat) ∧ (32 : Nat) = (32 : Nat) ∧ digs (Prod.snd (Prod.snd (Prod.snd ((26 : TypeId), (1 : Nat), (32 : Nat), rowN (dg (x * y)))))) (32 : Nat) (65536 : Nat) ∧ (0 : Nat) < z ∧ num (rd (Prod.snd (Prod.snd (Prod.snd ((26 : TypeId), (1 : Nat), (32 : Nat), rowN (dg (x * y))))))) (32 : Nat) % z ≠ (0 : Nat), True, True, True, True, True, True, True, True, True, True, (32 : Nat) = (32 : Nat) ∧ (16 : Nat) ≤ (32 : Nat) ∧ (32 : Nat) < (64 : Nat) ∧ digs (rowN (dg (num (rd (Prod.snd (Prod.snd (Prod.snd ((26 : TypeId), (1 : Nat), (32 : Nat), rowN (dg (x * y))))))) (32 : Nat) / z))) (32 : Nat) (65536 : Nat) ∧ num (rd (rowN (dg (num (rd (Prod.snd (Prod.snd (Prod.snd ((26 : TypeId), (1 : Nat), (32 : Nat), rowN (dg (x * y))))))) (32 : Nat) / z)))) (32 : Nat) < TOP, True, True, True, True, True, True, True, True, True, True, True]) (o' := .ret) (rs := Try.f76.results.toList) (v := (.tup [N (qv x y z), E 0])) (H := ([] : List (Nat × Bk))) (by kernel_rfl) (.inr rfl) (by simp only [conj, and_true, true_and, rd_rowN, hp, hq, dg_ok, List.nil_append, List.append_nil, addO_eq, Nat.zero_add, Int.toNat_zero, inc_eq, inc_digs, inc_num hq, inc_fold (quo_lt hx hy)]; omega) fun _ _ => rfl
  · have hc' : 0 < z ∧ TOP ≤ x * y / z := hc
    have hpl : (.tup [N 0, E 2] : Sv).all Av.plain := by ((first | refine tupP ?_ | refine oneP ?_) <;> first | (first | exact E_plain _ | exact B_plain _ | exact lit_plain _ _ | exact int_plain _ _ | exact N_plain (by omega) | exact N_plain2 (by omega) (by omega) | assumption) | ((repeat' (first | exact argsP_nil | refine argsP_cons ?_ ?_)) <;> (first | exact E_plain _ | exact B_plain _ | exact lit_plain _ _ | exact int_plain _ _ | exact N_plain (by omega) | exact N_plain2 (by omega) (by omega) | assumption)))
    refine ⟨hpl, pure_calls' (ctx_ok tabS_ok 45) Try.func76 (c := bodyOf Try.f76) rfl rfl (args := [N x, N y, N z, B false]) (Nat.le_of_ble_eq_true (by kernel_rfl)) (by ((repeat' (first | exact argsP_nil | refine argsP_cons ?_ ?_)) <;> (first | exact E_plain _ | exact B_plain _ | exact lit_plain _ _ | exact int_plain _ _ | exact N_plain (by omega) | exact N_plain2 (by omega) (by omega) | assumption))) hpl (fun w0 => ?_)⟩
    have hq := dg_fold (quo_lt (z := z) hx hy)
    by_cases h : x * y % z = 0
    · skip
      exact goes_ret (ctx_ok tabS_ok 45) mixed rfl (orc := way [(15, 1), (22, 1), (38, 1)]) (stops := []) (f := 3000) (k := [.code (bodyOf Try.f76)]) (o := .norm) (σ := (kn (argS 0 ([N x, N y, N z, B false].map .one)) [])) (cs := [True, True, True, True, True, True, (0 : Nat) < z, True, True, True, True, (32 : Nat) = (32 : Nat) ∧ (32 : Nat) = (32 : Nat) ∧ digs (Prod.snd (Prod.snd (Prod.snd ((26 : TypeId), (1 : Nat), (32 : Nat), rowN (dg (x * y)))))) (32 : Nat) (65536 : Nat) ∧ (0 : Nat) < z ∧ num (rd (Prod.snd (Prod.snd (Prod.snd ((26 : TypeId), (1 : Nat), (32 : Nat), rowN (dg (x * y))))))) (32 : Nat) % z = (0 : Nat), True, True, True, True, True, True, True, True, True, True, (32 : Nat) = (32 : Nat) ∧ (16 : Nat) ≤ (32 : Nat) ∧ (32 : Nat) < (64 : Nat) ∧ digs (rowN (dg (num (rd (Prod.snd (Prod.snd (Prod.snd ((26 : TypeId), (1 : Nat), (32 : Nat), rowN (dg (x * y))))))) (32 : Nat) / z))) (32 : Nat) (65536 : Nat) ∧ TOP ≤ num (rd (rowN (dg (num (rd (Prod.snd (Prod.snd (Prod.snd ((26 : TypeId), (1 : Nat), (32 : Nat), rowN (dg (x * y))))))) (32 : Nat) / z)))) (32 : Nat), True, True, True, True, True, True, True, True, True, True, True]) (o' := .ret) (rs := Try.f76.results.toList) (v := (.tup [N 0, E 2])) (H := ([] : List (Nat × Bk))) (by kernel_rfl) (.inr rfl) (by simp only [conj, and_true, true_and, rd_rowN, hp, hq, dg_ok, List.nil_append, List.append_nil, addO_eq, Nat.zero_add, Int.toNat_zero, inc_eq, inc_digs, inc_num hq, inc_fold (quo_lt hx hy)]; omega) fun _ _ => rfl
    · skip
      exact goes_ret (ctx_ok tabS_ok 45) mixed rfl (orc := way [(15, 1), (38, 1)]) (stops := []) (f := 3000) (k := [.code (bodyOf Try.f76)]) (o := .norm) (σ := (kn (argS 0 ([N x, N y, N z, B false].map .one)) [])) (cs := [True, True, True, True, True, True, (0 : Nat) < z, True, True, True, True, (32 : Nat) = (32 : Nat) ∧ (32 : Nat) = (32 : Nat) ∧ digs (Prod.snd (Prod.snd (Prod.snd ((26 : TypeId), (1 : Nat), (32 : Nat), rowN (dg (x * y)))))) (32 : Nat) (65536 : Nat) ∧ (0 : Nat) < z ∧ num (rd (Prod.snd (Prod.snd (Prod.snd ((26 : TypeId), (1 : Nat), (32 : Nat), rowN (dg (x * y))))))) (32 : Nat) % z ≠ (0 : Nat), True, True, True, True, True, True, True, True, True, True, (32 : Nat) = (32 : Nat) ∧ (16 : Nat) ≤ (32 : Nat) ∧ (32 : Nat) < (64 : Nat) ∧ digs (rowN (dg (num (rd (Prod.snd (Prod.snd (Prod.snd ((26 : TypeId), (1 : Nat), (32 : Nat), rowN (dg (x * y))))))) (32 : Nat) / z))) (32 : Nat) (65536 : Nat) ∧ TOP ≤ num (rd (rowN (dg (num (rd (Prod.snd (Prod.snd (Prod.snd ((26 : TypeId), (1 : Nat), (32 : Nat), rowN (dg (x * y))))))) (32 : Nat) / z)))) (32 : Nat), True, True, True, True, True, True, True, True, True, True, True]) (o' := .ret) (rs := Try.f76.results.toList) (v := (.tup [N 0, E 2])) (H := ([] : List (Nat × Bk))) (by kernel_rfl) (.inr rfl) (by simp only [conj, and_true, true_and, rd_rowN, hp, hq, dg_ok, List.nil_append, List.append_nil, addO_eq, Nat.zero_add, Int.toNat_zero, inc_eq, inc_digs, inc_num hq, inc_fold (quo_lt hx hy)]; omega) fun _ _ => rfl
  · have hc' : z = 0 := hc
    have hpl : (.tup [N 0, E 1] : Sv).all Av.plain := by ((first | refine tupP ?_ | refine oneP ?_) <;> first | (first | exact E_plain _ | exact B_plain _ | exact lit_plain _ _ | exact int_plain _ _ | exact N_plain (by omega) | exact N_plain2 (by omega) (by omega) | assumption) | ((repeat' (first | exact argsP_nil | refine argsP_cons ?_ ?_)) <;> (first | exact E_plain _ | exact B_plain _ | exact lit_plain _ _ | exact int_plain _ _ | exact N_plain (by omega) | exact N_plain2 (by omega) (by omega) | assumption)))
    refine ⟨hpl, pure_calls' (ctx_ok tabS_ok 45) Try.func76 (c := bodyOf Try.f76) rfl rfl (args := [N x, N y, N z, B false]) (Nat.le_of_ble_eq_true (by kernel_rfl)) (by ((repeat' (first | exact argsP_nil | refine argsP_cons ?_ ?_)) <;> (first | exact E_plain _ | exact B_plain _ | exact lit_plain _ _ | exact int_plain _ _ | exact N_plain (by omega) | exact N_plain2 (by omega) (by omega) | assumption))) hpl (fun w0 => ?_)⟩
    exact goes_ret (ctx_ok tabS_ok 45) mixed rfl (orc := way []) (stops := []) (f := 3000) (k := [.code (bodyOf Try.f76)]) (o := .norm) (σ := (kn (argS 0 ([N x, N y, N z, B false].map .one)) [])) (cs := [True, True, True, True, True, True, z = (0 : Nat), True, True, True]) (o' := .ret) (rs := Try.f76.results.toList) (v := (.tup [N 0, E 1])) (H := ([] : List (Nat × Bk))) (by kernel_rfl) (.inr rfl) (by ((simp only [conj, and_true, true_and, and_self, cmp_lt0, cmp_le0, cmp_ge0, cmp_gt0, reduceCtorEq, not_false_eq_true]) <;> first | omega | (simp_all; done) | (simp_all; omega))) fun _ _ => rfl

theorem rmdT_owes {x y z : Nat} (hx : x < TOP) (hy : y < TOP) (hz : z < TOP) :
    Owes 76 [N x, N y, N z, B true] [(0 < z ∧ up (x * y) z < TOP, .tup [N (up (x * y) z), E 0]), (0 < z ∧ TOP ≤ up (x * y) z, .tup [N 0, E 2]), (z = 0, .tup [N 0, E 1])] := by
  have ht := top_eq
  have hp := dg_fold (prod_lt hx hy)
  intro p0 hp0 hc
  simp only [List.mem_cons, List.not_mem_nil, or_false] at hp0
  rcases hp0 with rfl | rfl | rfl
  · have hc' : 0 < z ∧ up (x * y) z < TOP := hc
    have hpl : (.tup [N (up (x * y) z), E 0] : Sv).all Av.plain := by ((first | refine tupP ?_ | refine oneP ?_) <;> first | (first | exact E_plain _ | exact B_plain _ | exact lit_plain _ _ | exact int_plain _ _ | exact N_plain (by omega) | exact N_plain2 (by omega) (by omega) | assumption) | ((repeat' (first | exact argsP_nil | refine argsP_cons ?_ ?_)) <;> (first | exact E_plain _ | exact B_plain _ | exact lit_plain _ _ | exact int_plain _ _ | exact N_plain (by omega) | exact N_plain2 (by omega) (by omega) | assumption)))
    refine ⟨hpl, pure_calls' (ctx_ok tabS_ok 45) Try.func76 (c := bodyOf Try.f76) rfl rfl (args := [N x, N y, N z, B true]) (Nat.le_of_ble_eq_true (by kernel_rfl)) (by ((repeat' (first | exact argsP_nil | refine argsP_cons ?_ ?_)) <;> (first | exact E_plain _ | exact B_plain _ | exact lit_plain _ _ | exact int_plain _ _ | exact N_plain (by omega) | exact N_plain2 (by omega) (by omega) | assumption))) hpl (fun w0 => ?_)⟩
    have hq := dg_fold (quo_lt (z := z) hx hy)
    have hd0 := dg_lt (x * y / z) 0
    by_cases h : x * y % z = 0
    · skip
      rw [up_zero hc'.1 h] at hc' ⊢
      rw [← qv_eq hx hy]
      exact goes_ret (ctx_ok tabS_ok 45) mixed rfl (orc := way [(15, 1), (22, 1)]) (stops := []) (f := 3000) (k := [.code (bodyOf Try.f76)]) (o := .norm) (σ := (kn (argS 0 ([N x, N y, N z, B true].map .one)) [])) (cs := [True, True, True, True, True, True, (0 : Nat) < z, True, True, True, True, (32 : Nat) = (32 : Nat) ∧ (32 : Nat) = (32 : Nat) ∧ digs (Prod.snd (Prod.snd (Prod.snd ((26 : TypeId), (1 : Nat), (32 : Nat), rowN (dg (x * y)))))) (32 : Nat) (65536 : Nat) ∧ (0 : Nat) < z ∧ num (rd (Prod.snd (Prod.snd (Prod.snd ((26 : TypeId), (1 : Nat), (32 : Nat), rowN (dg (x * y))))))) (32 : Nat) % z = (0 : Nat), True, True, True, True, True, True, True, True, True, True, (32 : Nat) = (32 : Nat) ∧ (16 : Nat) ≤ (32 : Nat) ∧ (32 : Nat) < (64 : Nat) ∧ digs (rowN (dg (num (rd (Prod.snd (Prod.snd (Prod.snd ((26 : TypeId), (1 : Nat), (32 : Nat), rowN (dg (x * y))))))) (32 : Nat) / z))) (32 : Nat) (65536 : Nat) ∧ num (rd (rowN (dg (num (rd (Prod.snd (Prod.snd (Prod.snd ((26 : TypeId), (1 : Nat), (32 : Nat), rowN (dg (x * y))))))) (32 : Nat) / z)))) (32 : Nat) < TOP, True, True, True, True, True, True, True, True, True, True, True]) (o' := .ret) (rs := Try.f76.results.toList) (v := (.tup [N (qv x y z), E 0])) (H := ([] : List (Nat × Bk))) (by kernel_rfl) (.inr rfl) (by simp only [conj, and_true, true_and, rd_rowN, hp, hq, dg_ok, List.nil_append, List.append_nil, addO_eq, Nat.zero_add, Int.toNat_zero, inc_eq, inc_digs, inc_num hq, inc_fold (quo_lt hx hy)]; omega) fun _ _ => rfl
    · skip
      rw [up_more hc'.1 h] at hc' ⊢
      rw [← qv1_eq hx hy]
      exact goes_ret (ctx_ok tabS_ok 45) mixed rfl (orc := way [(15, 1)]) (stops := []) (f := 3000) (k := [.code (bodyOf Try.f76)]) (o := .norm) (σ := (kn (argS 0 ([N x, N y, N z, B true].map .one)) [])) (cs := [True, True, True, True, True, True, (0 : Nat) < z, True, True, True, True, (32 : Nat) = (32 : Nat) ∧ (32 : Nat) = (32 : Nat) ∧ digs (Prod.snd (Prod.snd (Prod.snd ((26 : TypeId), (1 : Nat), (32 : Nat), rowN (dg (x * y)))))) (32 : Nat) (65536 : Nat) ∧ (0 : Nat) < z ∧ num (rd (Prod.snd (Prod.snd (Prod.snd ((26 : TypeId), (1 : Nat), (32 : Nat), rowN (dg (x * y))))))) (32 : Nat) % z ≠ (0 : Nat), True, True, True, True, True, True, True, True, True, True, (0 : Int) ≤ (0 : Int) ∧ (0 : Int) < (↑(32 : Nat) : Int), addO (0 : Nat) (0) < (32 : Nat), (0 : Int) ≤ (↑(dg (num (rd (Prod.snd (Prod.snd (Prod.snd ((26 : TypeId), (1 : Nat), (32 : Nat), rowN (dg (x * y))))))) (32 : Nat) / z) (addO (0 : Nat) (0))) : Int) + (1 : Int) ∧ (↑(dg (num (rd (Prod.snd (Prod.snd (Prod.snd ((26 : TypeId), (1 : Nat), (32 : Nat), rowN (dg (x * y))))))) (32 : Nat) / z) (addO (0 : Nat) (0))) : Int) + (1 : Int) < (18446744073709551616 : Int), (0 : Int) ≤ (0 : Int) ∧ (0 : Int) < (↑(32 : Nat) : Int), addO (0 : Nat) (0) < (32 : Nat), True, (32 : Nat) = (32 : Nat) ∧ (32 : Nat) = (32 : Nat) ∧ digs (upd (rowN (dg (num (rd (Prod.snd (Prod.snd (Prod.snd ((26 : TypeId), (1 : Nat), (32 : Nat), rowN (dg (x * y))))))) (32 : Nat) / z))) (addO (0 : Nat) (Int.toNat (Prod.snd (IntKind.i64, (0 : Int))))) ([] ++ ([Prod.snd (rng IntKind.u64 ((↑(dg (num (rd (Prod.snd (Prod.snd (Prod.snd ((26 : TypeId), (1 : Nat), (32 : Nat), rowN (dg (x * y))))))) (32 : Nat) / z) (addO (0 : Nat) (Int.toNat (Prod.snd (IntKind.i64, (0 : Int)))))) : Int) + (1 : Int)), Av.int IntKind.u64 ((↑(dg (num (rd (Prod.snd (Prod.snd (Prod.snd ((26 : TypeId), (1 : Nat), (32 : Nat), rowN (dg (x * y))))))) (32 : Nat) / z) (addO (0 : Nat) (Int.toNat (Prod.snd (IntKind.i64, (0 : Int)))))) : Int) + (1 : Int)))] ++ []))) (32 : Nat) (65537 : Nat), True, True, (33 : Nat) = (33 : Nat) ∧ (16 : Nat) ≤ (33 : Nat) ∧ (33 : Nat) < (64 : Nat) ∧ digs (rowN (dg (num (rd (upd (rowN (dg (num (rd (Prod.snd (Prod.snd (Prod.snd ((26 : TypeId), (1 : Nat), (32 : Nat), rowN (dg (x * y))))))) (32 : Nat) / z))) (addO (0 : Nat) (Int.toNat (Prod.snd (IntKind.i64, (0 : Int))))) ([] ++ ([Prod.snd (rng IntKind.u64 ((↑(dg (num (rd (Prod.snd (Prod.snd (Prod.snd ((26 : TypeId), (1 : Nat), (32 : Nat), rowN (dg (x * y))))))) (32 : Nat) / z) (addO (0 : Nat) (Int.toNat (Prod.snd (IntKind.i64, (0 : Int)))))) : Int) + (1 : Int)), Av.int IntKind.u64 ((↑(dg (num (rd (Prod.snd (Prod.snd (Prod.snd ((26 : TypeId), (1 : Nat), (32 : Nat), rowN (dg (x * y))))))) (32 : Nat) / z) (addO (0 : Nat) (Int.toNat (Prod.snd (IntKind.i64, (0 : Int)))))) : Int) + (1 : Int)))] ++ [])))) (32 : Nat)))) (33 : Nat) (65536 : Nat) ∧ num (rd (rowN (dg (num (rd (upd (rowN (dg (num (rd (Prod.snd (Prod.snd (Prod.snd ((26 : TypeId), (1 : Nat), (32 : Nat), rowN (dg (x * y))))))) (32 : Nat) / z))) (addO (0 : Nat) (Int.toNat (Prod.snd (IntKind.i64, (0 : Int))))) ([] ++ ([Prod.snd (rng IntKind.u64 ((↑(dg (num (rd (Prod.snd (Prod.snd (Prod.snd ((26 : TypeId), (1 : Nat), (32 : Nat), rowN (dg (x * y))))))) (32 : Nat) / z) (addO (0 : Nat) (Int.toNat (Prod.snd (IntKind.i64, (0 : Int)))))) : Int) + (1 : Int)), Av.int IntKind.u64 ((↑(dg (num (rd (Prod.snd (Prod.snd (Prod.snd ((26 : TypeId), (1 : Nat), (32 : Nat), rowN (dg (x * y))))))) (32 : Nat) / z) (addO (0 : Nat) (Int.toNat (Prod.snd (IntKind.i64, (0 : Int)))))) : Int) + (1 : Int)))] ++ [])))) (32 : Nat))))) (33 : Nat) < TOP, True, True, True, True, True, True, True, True, True, True, True]) (o' := .ret) (rs := Try.f76.results.toList) (v := (.tup [N (qv1 x y z), E 0])) (H := ([] : List (Nat × Bk))) (by kernel_rfl) (.inr rfl) (by simp only [conj, and_true, true_and, rd_rowN, hp, hq, dg_ok, List.nil_append, List.append_nil, addO_eq, Nat.zero_add, Int.toNat_zero, inc_eq, inc_digs, inc_num hq, inc_fold (quo_lt hx hy)]; omega) fun _ _ => rfl
  · have hc' : 0 < z ∧ TOP ≤ up (x * y) z := hc
    have hpl : (.tup [N 0, E 2] : Sv).all Av.plain := by ((first | refine tupP ?_ | refine oneP ?_) <;> first | (first | exact E_plain _ | exact B_plain _ | exact lit_plain _ _ | exact int_plain _ _ | exact N_plain (by omega) | exact N_plain2 (by omega) (by omega) | assumption) | ((repeat' (first | exact argsP_nil | refine argsP_cons ?_ ?_)) <;> (first | exact E_plain _ | exact B_plain _ | exact lit_plain _ _ | exact int_plain _ _ | exact N_plain (by omega) | exact N_plain2 (by omega) (by omega) | assumption)))
    refine ⟨hpl, pure_calls' (ctx_ok tabS_ok 45) Try.func76 (c := bodyOf Try.f76) rfl rfl (args := [N x, N y, N z, B true]) (Nat.le_of_ble_eq_true (by kernel_rfl)) (by ((repeat' (first | exact argsP_nil | refine argsP_cons ?_ ?_)) <;> (first | exact E_plain _ | exact B_plain _ | exact lit_plain _ _ | exact int_plain _ _ | exact N_plain (by omega) | exact N_plain2 (by omega) (by omega) | assumption))) hpl (fun w0 => ?_)⟩
    have hq := dg_fold (quo_lt (z := z) hx hy)
    have hd0 := dg_lt (x * y / z) 0
    by_cases h : x * y % z = 0
    · skip
      rw [up_zero hc'.1 h] at hc'
      exact goes_ret (ctx_ok tabS_ok 45) mixed rfl (orc := way [(15, 1), (22, 1), (38, 1)]) (stops := []) (f := 3000) (k := [.code (bodyOf Try.f76)]) (o := .norm) (σ := (kn (argS 0 ([N x, N y, N z, B true].map .one)) [])) (cs := [True, True, True, True, True, True, (0 : Nat) < z, True, True, True, True, (32 : Nat) = (32 : Nat) ∧ (32 : Nat) = (32 : Nat) ∧ digs (Prod.snd (Prod.snd (Prod.snd ((26 : TypeId), (1 : Nat), (32 : Nat), rowN (dg (x * y)))))) (32 : Nat) (65536 : Nat) ∧ (0 : Nat) < z ∧ num (rd (Prod.snd (Prod.snd (Prod.snd ((26 : TypeId), (1 : Nat), (32 : Nat), rowN (dg (x * y))))))) (32 : Nat) % z = (0 : Nat), True, True, True, True, True, True, True, True, True, True, (32 : Nat) = (32 : Nat) ∧ (16 : Nat) ≤ (32 : Nat) ∧ (32 : Nat) < (64 : Nat) ∧ digs (rowN (dg (num (rd (Prod.snd (Prod.snd (Prod.snd ((26 : TypeId), (1 : Nat), (32 : Nat), rowN (dg (x * y))))))) (32 : Nat) / z))) (32 : Nat) (65536 : Nat) ∧ TOP ≤ num (rd (rowN (dg (num (rd (Prod.snd (Prod.snd (Prod.snd ((26 : TypeId), (1 : Nat), (32 : Nat), rowN (dg (x * y))))))) (32 : Nat) / z)))) (32 : Nat), True, True, True, True, True, True, True, True, True, True, True]) (o' := .ret) (rs := Try.f76.results.toList) (v := (.tup [N 0, E 2])) (H := ([] : List (Nat × Bk))) (by kernel_rfl) (.inr rfl) (by simp only [conj, and_true, true_and, rd_rowN, hp, hq, dg_ok, List.nil_append, List.append_nil, addO_eq, Nat.zero_add, Int.toNat_zero, inc_eq, inc_digs, inc_num hq, inc_fold (quo_lt hx hy)]; omega) fun _ _ => rfl
    · skip
      rw [up_more hc'.1 h] at hc'
      exact goes_ret (ctx_ok tabS_ok 45) mixed rfl (orc := way [(15, 1), (38, 1)]) (stops := []) (f := 3000) (k := [.code (bodyOf Try.f76)]) (o := .norm) (σ := (kn (argS 0 ([N x, N y, N z, B true].map .one)) [])) (cs := [True, True, True, True, True, True, (0 : Nat) < z, True, True, True, True, (32 : Nat) = (32 : Nat) ∧ (32 : Nat) = (32 : Nat) ∧ digs (Prod.snd (Prod.snd (Prod.snd ((26 : TypeId), (1 : Nat), (32 : Nat), rowN (dg (x * y)))))) (32 : Nat) (65536 : Nat) ∧ (0 : Nat) < z ∧ num (rd (Prod.snd (Prod.snd (Prod.snd ((26 : TypeId), (1 : Nat), (32 : Nat), rowN (dg (x * y))))))) (32 : Nat) % z ≠ (0 : Nat), True, True, True, True, True, True, True, True, True, True, (0 : Int) ≤ (0 : Int) ∧ (0 : Int) < (↑(32 : Nat) : Int), addO (0 : Nat) (0) < (32 : Nat), (0 : Int) ≤ (↑(dg (num (rd (Prod.snd (Prod.snd (Prod.snd ((26 : TypeId), (1 : Nat), (32 : Nat), rowN (dg (x * y))))))) (32 : Nat) / z) (addO (0 : Nat) (0))) : Int) + (1 : Int) ∧ (↑(dg (num (rd (Prod.snd (Prod.snd (Prod.snd ((26 : TypeId), (1 : Nat), (32 : Nat), rowN (dg (x * y))))))) (32 : Nat) / z) (addO (0 : Nat) (0))) : Int) + (1 : Int) < (18446744073709551616 : Int), (0 : Int) ≤ (0 : Int) ∧ (0 : Int) < (↑(32 : Nat) : Int), addO (0 : Nat) (0) < (32 : Nat), True, (32 : Nat) = (32 : Nat) ∧ (32 : Nat) = (32 : Nat) ∧ digs (upd (rowN (dg (num (rd (Prod.snd (Prod.snd (Prod.snd ((26 : TypeId), (1 : Nat), (32 : Nat), rowN (dg (x * y))))))) (32 : Nat) / z))) (addO (0 : Nat) (Int.toNat (Prod.snd (IntKind.i64, (0 : Int))))) ([] ++ ([Prod.snd (rng IntKind.u64 ((↑(dg (num (rd (Prod.snd (Prod.snd (Prod.snd ((26 : TypeId), (1 : Nat), (32 : Nat), rowN (dg (x * y))))))) (32 : Nat) / z) (addO (0 : Nat) (Int.toNat (Prod.snd (IntKind.i64, (0 : Int)))))) : Int) + (1 : Int)), Av.int IntKind.u64 ((↑(dg (num (rd (Prod.snd (Prod.snd (Prod.snd ((26 : TypeId), (1 : Nat), (32 : Nat), rowN (dg (x * y))))))) (32 : Nat) / z) (addO (0 : Nat) (Int.toNat (Prod.snd (IntKind.i64, (0 : Int)))))) : Int) + (1 : Int)))] ++ []))) (32 : Nat) (65537 : Nat), True, True, (33 : Nat) = (33 : Nat) ∧ (16 : Nat) ≤ (33 : Nat) ∧ (33 : Nat) < (64 : Nat) ∧ digs (rowN (dg (num (rd (upd (rowN (dg (num (rd (Prod.snd (Prod.snd (Prod.snd ((26 : TypeId), (1 : Nat), (32 : Nat), rowN (dg (x * y))))))) (32 : Nat) / z))) (addO (0 : Nat) (Int.toNat (Prod.snd (IntKind.i64, (0 : Int))))) ([] ++ ([Prod.snd (rng IntKind.u64 ((↑(dg (num (rd (Prod.snd (Prod.snd (Prod.snd ((26 : TypeId), (1 : Nat), (32 : Nat), rowN (dg (x * y))))))) (32 : Nat) / z) (addO (0 : Nat) (Int.toNat (Prod.snd (IntKind.i64, (0 : Int)))))) : Int) + (1 : Int)), Av.int IntKind.u64 ((↑(dg (num (rd (Prod.snd (Prod.snd (Prod.snd ((26 : TypeId), (1 : Nat), (32 : Nat), rowN (dg (x * y))))))) (32 : Nat) / z) (addO (0 : Nat) (Int.toNat (Prod.snd (IntKind.i64, (0 : Int)))))) : Int) + (1 : Int)))] ++ [])))) (32 : Nat)))) (33 : Nat) (65536 : Nat) ∧ TOP ≤ num (rd (rowN (dg (num (rd (upd (rowN (dg (num (rd (Prod.snd (Prod.snd (Prod.snd ((26 : TypeId), (1 : Nat), (32 : Nat), rowN (dg (x * y))))))) (32 : Nat) / z))) (addO (0 : Nat) (Int.toNat (Prod.snd (IntKind.i64, (0 : Int))))) ([] ++ ([Prod.snd (rng IntKind.u64 ((↑(dg (num (rd (Prod.snd (Prod.snd (Prod.snd ((26 : TypeId), (1 : Nat), (32 : Nat), rowN (dg (x * y))))))) (32 : Nat) / z) (addO (0 : Nat) (Int.toNat (Prod.snd (IntKind.i64, (0 : Int)))))) : Int) + (1 : Int)), Av.int IntKind.u64 ((↑(dg (num (rd (Prod.snd (Prod.snd (Prod.snd ((26 : TypeId), (1 : Nat), (32 : Nat), rowN (dg (x * y))))))) (32 : Nat) / z) (addO (0 : Nat) (Int.toNat (Prod.snd (IntKind.i64, (0 : Int)))))) : Int) + (1 : Int)))] ++ [])))) (32 : Nat))))) (33 : Nat), True, True, True, True, True, True, True, True, True, True, True]) (o' := .ret) (rs := Try.f76.results.toList) (v := (.tup [N 0, E 2])) (H := ([] : List (Nat × Bk))) (by kernel_rfl) (.inr rfl) (by simp only [conj, and_true, true_and, rd_rowN, hp, hq, dg_ok, List.nil_append, List.append_nil, addO_eq, Nat.zero_add, Int.toNat_zero, inc_eq, inc_digs, inc_num hq, inc_fold (quo_lt hx hy)]; omega) fun _ _ => rfl
  · have hc' : z = 0 := hc
    have hpl : (.tup [N 0, E 1] : Sv).all Av.plain := by ((first | refine tupP ?_ | refine oneP ?_) <;> first | (first | exact E_plain _ | exact B_plain _ | exact lit_plain _ _ | exact int_plain _ _ | exact N_plain (by omega) | exact N_plain2 (by omega) (by omega) | assumption) | ((repeat' (first | exact argsP_nil | refine argsP_cons ?_ ?_)) <;> (first | exact E_plain _ | exact B_plain _ | exact lit_plain _ _ | exact int_plain _ _ | exact N_plain (by omega) | exact N_plain2 (by omega) (by omega) | assumption)))
    refine ⟨hpl, pure_calls' (ctx_ok tabS_ok 45) Try.func76 (c := bodyOf Try.f76) rfl rfl (args := [N x, N y, N z, B true]) (Nat.le_of_ble_eq_true (by kernel_rfl)) (by ((repeat' (first | exact argsP_nil | refine argsP_cons ?_ ?_)) <;> (first | exact E_plain _ | exact B_plain _ | exact lit_plain _ _ | exact int_plain _ _ | exact N_plain (by omega) | exact N_plain2 (by omega) (by omega) | assumption))) hpl (fun w0 => ?_)⟩
    exact goes_ret (ctx_ok tabS_ok 45) mixed rfl (orc := way []) (stops := []) (f := 3000) (k := [.code (bodyOf Try.f76)]) (o := .norm) (σ := (kn (argS 0 ([N x, N y, N z, B true].map .one)) [])) (cs := [True, True, True, True, True, True, z = (0 : Nat), True, True, True]) (o' := .ret) (rs := Try.f76.results.toList) (v := (.tup [N 0, E 1])) (H := ([] : List (Nat × Bk))) (by kernel_rfl) (.inr rfl) (by ((simp only [conj, and_true, true_and, and_self, cmp_lt0, cmp_le0, cmp_ge0, cmp_gt0, reduceCtorEq, not_false_eq_true]) <;> first | omega | (simp_all; done) | (simp_all; omega))) fun _ _ => rfl

theorem rmul_e : EOK ⟨74, 0, pcon (k2 fun x y => [(x * y < TOP, .tup [N (x * y), B true]), (TOP ≤ x * y, .tup [N 0, B false])])⟩ := k2_ok (fun a w => Try.call74 a w) fun _ _ hx hy => rmul_owes hx hy
theorem rmuldiv_e : EOK ⟨76, 0, pcon mdK⟩ := by
  refine pcon_ok (fun a w => Try.call76 a w) fun args l hl ha p hp => ?_
  unfold mdK at hl
  split at hl
  · rename_i x y z
    cases hl; exact rmdT_owes (big_lt ha (by simp)) (big_lt ha (by simp)) (big_lt ha (by simp)) p hp
  · rename_i x y z
    cases hl; exact rmdF_owes (big_lt ha (by simp)) (big_lt ha (by simp)) (big_lt ha (by simp)) p hp
  · cases hl
theorem tabU_ok : TabOK tabU := .cons rmul_e (.cons rmuldiv_e tabS_ok)

end M
end Go.Proofs.Ytmjdmhelmgcanaa

/- A name, changed for another one: so that a slot can name a new block again. -/
namespace Go.Proofs.Ytmjdmhelmgcanaa
namespace M
open Go.RowKit
variable {P : Program} {w w' : World} {ρ ρ' : Env} {σ σ' : Ms}

def sw (a b i : Nat) : Nat := bif Nat.beq i a then b else i
theorem sw_inj {a b i j : Nat} (hi : i ≠ b) (hj : j ≠ b) (h : sw a b i = sw a b j) : i = j := by
  unfold sw at h
  cases h1 : Nat.beq i a with
  | true =>
    have e1 := Nat.eq_of_beq_eq_true h1
    cases h2 : Nat.beq j a with
    | true => rw [e1, Nat.eq_of_beq_eq_true h2]
    | false => rw [h1, h2] at h; exact absurd h.symm hj
  | false =>
    cases h2 : Nat.beq j a with
    | true => rw [h1, h2] at h; exact absurd h hi
    | false => rw [h1, h2] at h; exact h

def Av.ren (a b : Nat) : Av → Av
  | .clo f id => .clo f (sw a b id)
  | .ptr id off => .ptr (sw a b id) off
  | .pw id off i => .pw (sw a b id) off i
  | .pv id off m i => .pv (sw a b id) off m i
  | .pe id es i k => .pe (sw a b id) es i k
  | .sl id es off n => .sl (sw a b id) es off n
  | x => x
def renL (a b : Nat) (l : List Av) : List Av := l.map (Av.ren a b)
def Sv.ren (a b : Nat) : Sv → Sv
  | .one l => .one (renL a b l)
  | .tup l => .tup (l.map (renL a b))
  | .any => .any
def Bk.ren (a b : Nat) : Bk → Bk
  | .var l t => .var (renL a b l) t
  | .row o e es n f => .row o e es n f
  | .dead => .dead
def renS (a b : Nat) (S : List (Nat × Sv)) : List (Nat × Sv) := S.map fun p => (p.1, p.2.ren a b)
def renH (a b : Nat) (H : List (Nat × Bk)) : List (Nat × Bk) := H.map fun p => (sw a b p.1, p.2.ren a b)

theorem ren_name (a b : Nat) (x : Av) : (x.ren a b).name = x.name.map (sw a b) := by cases x <;> rfl
theorem ren_plain {a b : Nat} {x : Av} (h : x.plain) : x.ren a b = x := by cases x <;> first | rfl | exact absurd h (by simp [Av.plain])

/-- what is named so stands where the other one stood -/
def Moved (a b : Nat) (ρ ρ' : Env) : Prop := ∀ id, id ≠ b → ρ'.b (sw a b id) = ρ.b id ∧ ρ'.o (sw a b id) = ρ.o id ∧ ρ'.c (sw a b id) = ρ.c id

theorem ren_val {a b : Nat} (hm : Moved a b ρ ρ') {x : Av} (hx : ∀ id, x.name = some id → id ≠ b) : (x.ren a b).val ρ' = x.val ρ ∧ (x.ren a b).cells ρ' = x.cells ρ := by
  cases x <;> first
    | exact ⟨rfl, rfl⟩
    | (have h := hm _ (hx _ rfl); simp only [Av.ren, Av.val, Av.cells, h.1, h.2.1, h.2.2, and_self])
theorem ren_cells {a b : Nat} (hm : Moved a b ρ ρ') : ∀ {l : List Av}, (∀ x ∈ l, ∀ id, x.name = some id → id ≠ b) → cellsL ρ' (renL a b l) = cellsL ρ l
  | [], _ => rfl
  | x :: l, h => by
    show cellsL ρ' (x.ren a b :: renL a b l) = _
    rw [cellsL_cons, cellsL_cons, (ren_val hm (h x List.mem_cons_self)).2, ren_cells hm fun y hy => h y (List.mem_cons_of_mem _ hy)]
theorem ren_denL {a b : Nat} (hm : Moved a b ρ ρ') {l : List Av} (h : ∀ x ∈ l, ∀ id, x.name = some id → id ≠ b) : denL ρ' (renL a b l) = denL ρ l := by
  match l, h with
  | [], _ => rfl
  | [x], h => exact (ren_val hm (h x List.mem_cons_self)).1
  | x :: y :: r, h =>
    show Value.agg (cellsL ρ' (renL a b (x :: y :: r))).toArray = Value.agg (cellsL ρ (x :: y :: r)).toArray
    rw [ren_cells hm h]
theorem ren_den {a b : Nat} (hm : Moved a b ρ ρ') {v : Sv} (h : v.all fun x => ∀ id, x.name = some id → id ≠ b) : (v.ren a b).den ρ' = v.den ρ := by
  cases v with
  | one l => exact ren_denL hm h
  | tup l =>
    show Value.tuple ((l.map (renL a b)).map (denL ρ')).toArray = Value.tuple (l.map (denL ρ)).toArray
    rw [List.map_map]
    congr 2
    exact List.map_congr_left fun m hm' => ren_denL hm (h m hm')
  | any => rfl
theorem ren_all {a b : Nat} {p q : Av → Prop} {v : Sv} (h : v.all p) (hpq : ∀ x, p x → q (x.ren a b)) : (v.ren a b).all q := by
  cases v with
  | one l =>
    intro y hy
    obtain ⟨x, hx, rfl⟩ := List.mem_map.1 hy
    exact hpq x (h x hx)
  | tup l =>
    intro m hm y hy
    obtain ⟨m0, hm0, rfl⟩ := List.mem_map.1 hm
    obtain ⟨x, hx, rfl⟩ := List.mem_map.1 hy
    exact hpq x (h m0 hm0 x hx)
  | any => trivial

theorem lookS_ren (a b : Nat) : ∀ (S : List (Nat × Sv)) (i : Nat), lookS (renS a b S) i = (lookS S i).ren a b
  | [], _ => rfl
  | (j, v) :: S, i => by
    show (bif Nat.beq j i then v.ren a b else lookS (renS a b S) i) = (bif Nat.beq j i then v else lookS S i).ren a b
    rw [lookS_ren a b S i]
    cases Nat.beq j i <;> rfl
theorem lookH_ren {a b : Nat} : ∀ {H : List (Nat × Bk)}, (∀ p ∈ H, p.1 ≠ b) → ∀ {i : Nat}, i ≠ b → lookH (renH a b H) (sw a b i) = (lookH H i).map (Bk.ren a b)
  | [], _, _, _ => rfl
  | (j, k) :: H, h, i, hi => by
    show (bif Nat.beq (sw a b j) (sw a b i) then some (k.ren a b) else lookH (renH a b H) (sw a b i)) = (bif Nat.beq j i then some k else lookH H i).map (Bk.ren a b)
    have hj : j ≠ b := h _ List.mem_cons_self
    rw [lookH_ren (fun p hp => h p (List.mem_cons_of_mem _ hp)) hi]
    cases h1 : Nat.beq j i with
    | true =>
      have e := Nat.eq_of_beq_eq_true h1
      subst e
      rw [Nat.beq_refl]; rfl
    | false =>
      have : Nat.beq (sw a b j) (sw a b i) = false := by
        cases h2 : Nat.beq (sw a b j) (sw a b i) with
        | false => rfl
        | true =>
          have e := sw_inj hj hi (Nat.eq_of_beq_eq_true h2)
          subst e
          rw [Nat.beq_refl] at h1; cases h1
      rw [this]; rfl
theorem lookH_ren' {a b : Nat} {H : List (Nat × Bk)} (h : ∀ p ∈ H, p.1 ≠ b) {j : Nat} {k' : Bk} (hk : lookH (renH a b H) j = some k') : ∃ i k, i ≠ b ∧ j = sw a b i ∧ lookH H i = some k ∧ k' = k.ren a b := by
  have hmem := lookH_mem hk
  obtain ⟨p, hp, he⟩ := List.mem_map.1 hmem
  simp only [Prod.mk.injEq] at he
  have hpb := h p hp
  obtain ⟨rfl, -⟩ := he
  rw [lookH_ren h hpb] at hk
  obtain ⟨k, h1, h2⟩ := Option.map_eq_some_iff.1 hk
  exact ⟨p.1, k, hpb, rfl, h1, h2.symm⟩

theorem goes_name {nt : Nat} {w0 : Base} {k : List Fr} {o : Out} {S : List (Nat × Sv)} {H : List (Nat × Bk)} {Z : List Fr → Out → Ms → Prop} {a b : Nat} (ha : a < 1000) (hb : b < 1000) (hH : ∀ p ∈ H, p.1 ≠ b)
    (g : Goes P nt w0 k o (kn (renS a b S) (renH a b H)) Z) : Goes P nt w0 k o (kn S H) Z := by
  intro Q hQ ρ act w hr
  let ρ' : Env := ⟨upd ρ.b b (ρ.b a), upd ρ.o b (ρ.o a), upd ρ.c b (ρ.c a)⟩
  have hm : Moved a b ρ ρ' := by
    intro id hid
    unfold sw
    cases h1 : Nat.beq id a with
    | true =>
      have e := Nat.eq_of_beq_eq_true h1
      subst e
      simp only [cond_true, ρ', upd_same, and_self]
    | false =>
      simp only [cond_false, ρ', upd_ne _ _ hid, and_self]
  have hdomb : (lookH H b).isSome = false := by
    cases hx : lookH H b with
    | none => rfl
    | some k => exact absurd rfl (hH _ (lookH_mem hx))
  have hav : ∀ x, AvOK (kn S H) x → ∀ id, x.name = some id → id ≠ b := by
    intro x hx id hid e
    subst e
    unfold AvOK at hx
    rw [hid] at hx
    have h2 : (lookH H id).isSome = true := hx.2
    rw [hdomb] at h2; cases h2
  have hok : ∀ x, AvOK (kn S H) x → AvOK (kn (renS a b S) (renH a b H)) (x.ren a b) := by
    intro x hx
    have hx0 := hx
    unfold AvOK at hx ⊢
    rw [ren_name]
    cases hn : x.name with
    | none =>
      rw [hn] at hx
      show (x.ren a b).plain
      rw [ren_plain hx]; exact hx
    | some id =>
      rw [hn] at hx
      have hs : (lookH (renH a b H) (sw a b id)).isSome = true := by
        rw [lookH_ren hH (hav x hx0 id hn)]
        have h2 : (lookH H id).isSome = true := hx.2
        simpa using h2
      refine ⟨?_, hs⟩
      show (Nat.ble 1000 (sw a b id) || (lookH (renH a b H) (sw a b id)).isSome) = true
      rw [hs, Bool.or_true]
  refine g Q hQ ρ' act w ⟨hr.size, hr.defers, fun i hi => ?_, hr.below, fun j k' hk => ?_, fun i j ki kj hi hj h1 h2 he => ?_, fun i => ?_, fun j k' hk => ?_, fun j hj => ?_, fun i hi => ?_⟩
  · show lookS (renS a b S) i = .any ∨ act.eval (.tmp i) = (lookS (renS a b S) i).den ρ'
    rw [lookS_ren]
    rcases hr.slots i hi with h1 | h1
    · left
      have h1' : lookS S i = .any := h1
      rw [h1']; rfl
    · right
      rw [h1]
      exact (ren_den hm (Sv.all_mono (fun x hx => hav x hx) (hr.okS i))).symm
  · obtain ⟨i, k0, hib, rfl, h1, rfl⟩ := lookH_ren' hH hk
    have h2 := hr.blocks i k0 h1
    obtain ⟨e1, e2, e3⟩ := hm i hib
    have h3 := hr.okH i k0 h1
    cases k0 with
    | var l t => exact ⟨by rw [e1]; exact h2.1, by rw [e1, ren_cells hm fun x hx => hav x (h3 x hx)]; exact h2.2⟩
    | row ow e es n f =>
      cases ow with
      | true =>
        obtain ⟨q1, q2, q3, q4, q5, cur, q6, q7, q8⟩ := h2
        exact ⟨q1, by rw [e3]; exact q2, by rw [e3]; exact q3, by rw [e1]; exact q4, by rw [e2]; exact q5, cur, by rw [e1]; exact q6, by rw [e3]; exact q7, q8⟩
      | false =>
        obtain ⟨q1, q2, q3, q4, q5, q6⟩ := h2
        exact ⟨q1, by rw [e3]; exact q2, by rw [e3]; exact q3, by rw [e1]; exact q4, by rw [e1]; exact q5, by rw [e1, e2]; exact q6⟩
    | dead => trivial
  · obtain ⟨i0, k0, hib, rfl, g1, rfl⟩ := lookH_ren' hH hi
    obtain ⟨j0, k1, hjb, rfl, g2, rfl⟩ := lookH_ren' hH hj
    have o1 : k0.own = true := by cases k0 <;> exact h1
    have o2 : k1.own = true := by cases k1 <;> exact h2
    rw [(hm i0 hib).1, (hm j0 hjb).1] at he
    rw [hr.inj i0 j0 k0 k1 g1 g2 o1 o2 he]
  · show (lookS (renS a b S) i).all _
    rw [lookS_ren]
    exact ren_all (hr.okS i) hok
  · obtain ⟨i, k0, hib, rfl, h1, rfl⟩ := lookH_ren' hH hk
    have h3 := hr.okH i k0 h1
    cases k0 with
    | var l t =>
      intro y hy
      obtain ⟨x, hx, rfl⟩ := List.mem_map.1 hy
      exact hok x (h3 x hx)
    | row _ _ _ _ _ => trivial
    | dead => trivial
  · show (Nat.ble 1000 j || (lookH (renH a b H) j).isSome) = true
    have : (lookH (renH a b H) j).isSome = true := hj
    rw [this, Bool.or_true]
  · have hib : i ≠ b := by omega
    obtain ⟨_, h2, h3, h4⟩ := hr.names i hi
    refine ⟨?_, by simp only [ρ', upd_ne _ _ hib]; exact h2, by simp only [ρ', upd_ne _ _ hib]; exact h3, by simp only [ρ', upd_ne _ _ hib]; exact h4⟩
    show (Nat.ble 1000 i || (lookH (renH a b H) i).isSome) = true
    rw [Nat.ble_eq_true_of_le hi, Bool.true_or]

end M
end Go.Proofs.Ytmjdmhelmgcanaa
