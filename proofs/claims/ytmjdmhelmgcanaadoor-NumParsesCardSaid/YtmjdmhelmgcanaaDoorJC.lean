/- Joined out of smaller texts: Mi, Mj, Mk, Ml, Mm, Mn. -/
import Derived.Test.YtmjdmhelmgcanaaDoorJB
import Derived.Lib.OthersKept
import Derived.Laws.BytesString
/- A machine that evaluates code: every operation does what the machine says. -/
namespace Go.Proofs.YtmjdmhelmgcanaaDoor
namespace M
open Go.RowKit
variable {P : Program} {C : Ctx} {nt : Nat} {w0 : Base} {w w' : World} {ρ ρ' : Env} {σ σ' : Ms} {a : Act}

theorem own_block {cur : Array Value} {e : TypeId} {es n cap d : Nat} {B : Nat → Prop} {f : Nat → List Av} {w1 : World} {b : Nat} (hr : RowOK es n f) (h1 : n ≤ cap) (h2 : cap ≤ maxLen) (hB : B b) (h3 : w1.heap[b]? = some (.cells cur e (0, 0)))
    (h4 : cur.size = cap * es) (h5 : cur.toList.take (n * es) = rowC f n) : BkOK (ρ.set d b cap) w1 B d (.row true e es n f) := by
  refine ⟨hr, ?_, ?_, ?_, ?_, cur, ?_, ?_, h5⟩
  · simp only [Env.set, upd_same]; exact h1
  · simp only [Env.set, upd_same]; exact h2
  · simp only [Env.set, upd_same]; exact hB
  · simp only [Env.set, upd_same]
  · simp only [Env.set, upd_same]; exact h3
  · simp only [Env.set, upd_same]; exact h4

theorem sl_val {d b cap es n : Nat} : (Av.sl d es 0 n).val (ρ.set d b cap) = .slice (some ⟨b, 0, none⟩) n cap := by
  simp [Av.val, Env.set, upd_same]

theorem run_append_none {t ty e : TypeId} {i : TypeInfo} (ht : P.underlying t = some (.slice e)) (hi : P.info? e = some i) (s : Option Addr) (n cap : Nat) (h : n ≤ cap) :
    (Builtin.append_ #[t, t] ty #[.slice s n cap, .slice none 0 0]).run P w = .ok (.slice s n cap) w := by
  cases s with
  | none => simp [Builtin.append_, run_underlying ht, sizeOf, typeInfo, hi, Builtin.lenOf, Builtin.firstCells, h]
  | some ad => simp [Builtin.append_, run_underlying ht, sizeOf, typeInfo, hi, Builtin.lenOf, Builtin.firstCells, h, storeCells]

theorem own_arr {cur : Array Value} {t : TypeId} {l : List Av} {cap d : Nat} {B : Nat → Prop} {w1 : World} {b : Nat} (hl : ∀ x ∈ l, x.inD σ.dom) (hfr : σ.dom d = false) (h1 : sizeL l ≤ cap) (h2 : cap ≤ maxLen) (hB : B b)
    (h3 : w1.heap[b]? = some (.cells cur t (0, 0))) (h4 : cur.size = cap) (h5 : cur.toList.take (sizeL l) = cellsL ρ l) : BkOK (ρ.set d b cap) w1 B d (.arr l t) := by
  have hA : Agree σ.dom ρ (ρ.set d b cap) := fun i hi => Env.set_ne fun e => by rw [e, hfr] at hi; cases hi
  refine ⟨?_, ?_, ?_, cur, ?_, ?_, ?_⟩
  · simp only [Env.set, upd_same]; exact h1
  · simp only [Env.set, upd_same]; exact h2
  · simp only [Env.set, upd_same]; exact hB
  · simp only [Env.set, upd_same]; exact h3
  · simp only [Env.set, upd_same]; exact h4
  · rw [cellsL_congr hA hl]; exact h5

theorem as_val {d b cap n : Nat} : (Av.as d n).val (ρ.set d b cap) = .slice (some ⟨b, 0, none⟩) n cap := by
  simp [Av.val, Env.set, upd_same]

theorem arr_read {B : Nat → Prop} {id : Nat} {l : List Av} {t : TypeId} (h : BkOK ρ w B id (.arr l t)) : ∀ j u, (cellsL ρ l)[j]? = some u → w.cell? ⟨ρ.b id, j, none⟩ = some u := by
  obtain ⟨_, _, _, cur, hb, _, htk⟩ := h
  intro j u hu
  rw [cell_of_row w _ _ _ _ _ hb]
  rw [← htk] at hu
  have hlt := (List.getElem?_eq_some_iff.1 hu).1
  rw [List.length_take] at hlt
  rw [List.getElem?_take_of_lt (by omega)] at hu
  simpa using hu

/-- an append -/
theorem append_run (OK : CtxOK P C w0) (h : Rep nt w0 ρ σ a w) {hp : Nat → Option Bk} (hhp : ∀ id k, hp id = some k → σ.heap id = some k) {t ty : TypeId} {d : Nat} (hfr : σ.dom d = false) {x y : Av} {c : Prop} {v : Sv} {e : Eff}
    (hr : appendR C t d hp x y = some (c, v, e)) (hc : c) : ∃ ρ' w', (Builtin.append_ #[t, t] ty #[x.val ρ, y.val ρ]).run P w = .ok (v.den ρ') w' ∧ EffPost ρ ρ' w w' w0.F e := by
  have hnd : ∀ id k, σ.heap id = some k → id ≠ d := fun id k hk e => by
    subst e
    have := h.hdom id (by rw [hk]; rfl)
    rw [hfr] at this; cases this
  have hBw : w0.F w.heap.size := w0.hF _ h.below.size
  unfold appendR at hr
  have hr0 := hr
  clear hr
  obtain ⟨q, hq, hr⟩ := Option.bind_eq_some_iff.1 hr0
  clear hr0
  obtain ⟨hes, hzs, hzp, hby⟩ := OK.slc t q.1 q.2.1 q.2.2.1 q.2.2.2 hq
  obtain ⟨hu, inf, zv, hi, hsz, hbz, hz, hzc⟩ := OK.slc_run t q.1 q.2.1 q.2.2.1 q.2.2.2 hq
  have hzsz : zv.cells.size = q.2.1 := by rw [hzc, List.size_toArray, cellsL_length, hzs]
  split at hr
  · split at hr
    · cases hr
      exact ⟨ρ, w, run_append_none hu hi none 0 0 (Nat.le_refl _), postN⟩
    · rename_i id es n
      obtain ⟨k, h1, hr⟩ := Option.bind_eq_some_iff.1 hr
      split at hr
      · cases hr
        obtain ⟨_, hn, _⟩ := h.blocks _ _ (hhp _ _ h1)
        cases hc
        exact ⟨ρ, w, run_append_none hu hi _ _ _ (by simpa using hn), postN⟩
      · cases hr
    · cases hr
  · rename_i id2 es off m
    cases hb : Nat.beq es q.2.1 with
    | false => rw [hb] at hr; cases hr
    | true =>
      rw [hb] at hr
      have e0 : es = q.2.1 := Nat.eq_of_beq_eq_true hb
      obtain ⟨k, h1, hr⟩ := Option.bind_eq_some_iff.1 ((cond_true _ _).symm.trans hr)
      split at hr
      · rename_i o e2 es' n2 f2
        cases hb2 : Nat.beq es es' with
        | false => rw [hb2] at hr; cases hr
        | true =>
          rw [hb2] at hr
          simp only [cond_true, Option.some.injEq, Prod.mk.injEq] at hr
          obtain ⟨rfl, rfl, rfl⟩ := hr
          have he : es = es' := Nat.eq_of_beq_eq_true hb2
          subst he
          have hblk := h.blocks _ _ (hhp _ _ h1)
          have hrow : RowOK es n2 f2 := (h.wf.okH _ _ (hhp _ _ h1)).2
          obtain ⟨c1, c2, c3⟩ := hc
          have hr2 : RowOK es m (fun i => f2 (off + i)) := ⟨hrow.1, fun i hi => hrow.2 (off + i) (by omega)⟩
          have hnl : (rowC (fun i => f2 (off + i)) m).length = m * es := rowC_length fun i hi => (hr2.2 i hi).1
          have hpl : (rowC f2 off).length = off * es := rowC_length fun i hi => (hrow.2 i (by omega)).1
          have hsplit : ∃ r, rowC f2 n2 = rowC f2 off ++ (rowC (fun i => f2 (off + i)) m ++ r) := by
            refine ⟨rowC (fun i => f2 (off + m + i)) (n2 - (off + m)), ?_⟩
            rw [← List.append_assoc, ← rowC_add, ← rowC_add, show off + m + (n2 - (off + m)) = n2 by omega]
          obtain ⟨r, hsplit⟩ := hsplit
          have hnews : ∀ j u, (rowC (fun i => f2 (off + i)) m)[j]? = some u → w.cell? ((⟨ρ.b id2, ρ.o id2 + off * es, none⟩ : Addr).add j) = some u := fun j u hu => by
            have g := get_mid (r := r) hpl hu
            rw [← hsplit] at g
            rw [addr_add]
            have := row_read hblk _ _ g
            simpa [Nat.add_assoc] using this
          have hmb : m ≤ m * q.2.2.1 := Nat.le_mul_of_pos_right m hby
          have hrun := run_append_nil (P := P) w t ty q.1 inf zv hu hi hz ⟨ρ.b id2, ρ.o id2 + off * es, none⟩ m (ρ.c id2 - off) _ (by rw [hnl, hsz, e0]) hnews c1 (by omega) (by rw [hbz]; omega)
          refine ⟨ρ.set d w.heap.size (grownCap w m 0 q.1), w.drew.alloc (.cells ((rowC (fun i => f2 (off + i)) m).toArray ++ Builtin.zeroCells zv.cells (grownCap w m 0 q.1 - m)) q.1), ?_, postNewDrew (own_block hr2 (grownCap_ge w m 0 q.1) (grownCap_le_maxLen w m 0 q.1 (by unfold maxLen; omega)) hBw (heap_alloc_new w.drew _) ?_ ?_)⟩
          · rw [show (Sv.one [Av.sl d es 0 m]).den (ρ.set d w.heap.size (grownCap w m 0 q.1)) = _ from sl_val]
            exact hrun
          · have hge := grownCap_ge w m 0 q.1
            simp only [Array.size_append, List.size_toArray, size_zeroCells, hzsz, hnl, ← e0, ← Nat.add_mul]
            congr 1
            omega
          · simp only [Array.toList_append]
            exact List.take_left' hnl
      · cases hr
  · rename_i id es n id2 es2 off m
    cases hb : Nat.beq es q.2.1 && Nat.beq es2 q.2.1 && !Nat.beq id id2 with
    | false => rw [hb] at hr; cases hr
    | true =>
      rw [hb] at hr
      simp only [Bool.and_eq_true] at hb
      obtain ⟨⟨b1, b2⟩, -⟩ := hb
      have e1 : es = q.2.1 := Nat.eq_of_beq_eq_true b1
      have e2 : es2 = q.2.1 := Nat.eq_of_beq_eq_true b2
      obtain ⟨k, h1, hr⟩ := Option.bind_eq_some_iff.1 ((cond_true _ _).symm.trans hr)
      obtain ⟨k2, h2, hr2⟩ := Option.bind_eq_some_iff.1 hr
      clear hr
      have hr := hr2
      clear hr2
      split at hr
      · rename_i et es1 n1 f o2 et2 es' n2 f2
        cases hb2 : Nat.beq et q.1 && Nat.beq es es1 && Nat.beq es2 es' with
        | false => rw [hb2] at hr; cases hr
        | true =>
          rw [hb2] at hr
          simp only [cond_true, Option.some.injEq, Prod.mk.injEq] at hr
          obtain ⟨rfl, rfl, rfl⟩ := hr
          simp only [Bool.and_eq_true] at hb2
          obtain ⟨⟨b3, b4⟩, b5⟩ := hb2
          have e3 : es = es1 := Nat.eq_of_beq_eq_true b4
          have e4 : es2 = es' := Nat.eq_of_beq_eq_true b5
          have e5 : et = q.1 := Nat.eq_of_beq_eq_true b3
          have e6 : es2 = es := by rw [e1, e2]
          subst e3 e4 e5
          have hblk := h.blocks _ _ (hhp _ _ h1)
          have hblk2 := h.blocks _ _ (hhp _ _ h2)
          have hin := h.wf.okH _ _ (hhp _ _ h2)
          have hrow2 : RowOK es2 n2 f2 := hin.2
          obtain ⟨hrow, hnc, hcm, hB, ho, cur, hcur, hcs, htk⟩ := hblk
          obtain ⟨c1, c2, c3, c4⟩ := hc
          subst c1
          have hr2 : RowOK es m (fun i => f2 (off + i)) := ⟨hrow.1, fun i hi => by rw [← e6]; exact hrow2.2 (off + i) (by omega)⟩
          have hnl : (rowC (fun i => f2 (off + i)) m).length = m * es := rowC_length fun i hi => (hr2.2 i hi).1
          have hol : (rowC f n1).length = n1 * es := rowC_length fun i hi => (hrow.2 i hi).1
          have hpl : (rowC f2 off).length = off * es := by rw [rowC_length (es := es2) fun i hi => (hrow2.2 i (by omega)).1, e6]
          have hsplit : ∃ r, rowC f2 n2 = rowC f2 off ++ (rowC (fun i => f2 (off + i)) m ++ r) := by
            refine ⟨rowC (fun i => f2 (off + m + i)) (n2 - (off + m)), ?_⟩
            rw [← List.append_assoc, ← rowC_add, ← rowC_add, show off + m + (n2 - (off + m)) = n2 by omega]
          obtain ⟨r, hsplit⟩ := hsplit
          have hnews : ∀ j u, (rowC (fun i => f2 (off + i)) m)[j]? = some u → w.cell? ((⟨ρ.b id2, ρ.o id2 + off * es2, none⟩ : Addr).add j) = some u := fun j u hu => by
            have g := get_mid (r := r) hpl hu
            rw [← hsplit] at g
            rw [addr_add, e6]
            have := row_read hblk2 _ _ g
            simpa [Nat.add_assoc] using this
          have happ : rowC (fun i => bif Nat.blt i n1 then f i else f2 (off + (i - n1))) (n1 + m) = rowC f n1 ++ rowC (fun i => f2 (off + i)) m := rowC_append f (fun i => f2 (off + i)) n1 m
          have hall : RowOK es (n1 + m) (fun i => bif Nat.blt i n1 then f i else f2 (off + (i - n1))) := by
            refine ⟨hrow.1, fun i hi => ?_⟩
            show sizeL (bif Nat.blt i n1 then f i else f2 (off + (i - n1))) = es ∧ ∀ x ∈ (bif Nat.blt i n1 then f i else f2 (off + (i - n1))), x.plain
            cases hlt : Nat.blt i n1 with
            | true => exact hrow.2 i (Nat.le_of_ble_eq_true hlt)
            | false =>
              simp only [cond_false]
              have hge : n1 ≤ i := by
                rcases Nat.lt_or_ge i n1 with h' | h'
                · have : Nat.blt i n1 = true := Nat.ble_eq_true_of_le h'
                  rw [this] at hlt; cases hlt
                · exact h'
              exact hr2.2 (i - n1) (by omega)
          have hmb : n1 + m ≤ (n1 + m) * q.2.2.1 := Nat.le_mul_of_pos_right _ hby
          have hval : (Av.sl id es 0 n1).val ρ = .slice (some ⟨ρ.b id, 0, none⟩) n1 (ρ.c id) := by simp [Av.val, ho]
          have hne : id ≠ d := hnd _ _ (hhp _ _ h1)
          rw [hval]
          by_cases hroom : n1 + m ≤ ρ.c id
          · have hfit : n1 * inf.size + (rowC (fun i => f2 (off + i)) m).length ≤ cur.size := by rw [hnl, hcs, hsz, ← e1, ← Nat.add_mul]; exact Nat.mul_le_mul_right _ hroom
            have hrun := run_append_room (P := P) w t ty q.1 inf hu hi (ρ.b id) n1 (ρ.c id) cur hcur ⟨ρ.b id2, ρ.o id2 + off * es2, none⟩ m (ρ.c id2 - off) _ (by rw [hnl, hsz, e1]) hnews (one_rowC _ _) hroom hfit
            refine ⟨ρ.set d (ρ.b id) (ρ.c id), w.setRow (ρ.b id) (cur.toList.take (n1 * inf.size) ++ rowC (fun i => f2 (off + i)) m ++ cur.toList.drop (n1 * inf.size + (rowC (fun i => f2 (off + i)) m).length)).toArray, ?_, ?_⟩
            · rw [show (Sv.one [Av.sl d es 0 (n1 + m)]).den (ρ.set d (ρ.b id) (ρ.c id)) = _ from sl_val]
              exact hrun
            · rw [hsz, ← e1, htk]
              refine ⟨rfl, rfl, rfl, by simp, fun i hi => Env.set_ne fun e => hi (by rw [e]; rfl), fun b _ hne => setRow_other w _ _ _ (hne id rfl), fun id' k' h => ?_, fun d' h _ => ?_⟩
              · cases h
                refine own_block hall hroom hcm hB (setRow_heap w _ _ _ _ _ hcur) ?_ ?_
                · have := congrArg List.length (List.take_append_drop (n1 * es + m * es) cur.toList)
                  simp only [List.size_toArray, List.length_append, hol, hnl, List.length_drop]
                  rw [← hcs, ← Array.length_toList]
                  have : n1 * es + m * es ≤ cur.toList.length := by rw [Array.length_toList, hcs, ← Nat.add_mul]; exact Nat.mul_le_mul_right _ hroom
                  omega
                · rw [happ]
                  refine List.take_left' ?_
                  rw [List.length_append, hol, hnl, Nat.add_mul]
              · cases h
                exact .inr ⟨id, rfl, by simp [Env.set, upd_same]⟩
          · have holds : ∀ j u, (rowC f n1)[j]? = some u → w.cell? ((⟨ρ.b id, 0, none⟩ : Addr).add j) = some u := fun j u hu => by
              rw [addr_add]
              have := row_read (h.blocks _ _ (hhp _ _ h1)) j u hu
              rwa [ho] at this
            have hrun := run_append_grow (P := P) w t ty q.1 inf zv hu hi hz ⟨ρ.b id, 0, none⟩ n1 (ρ.c id) (rowC f n1) (by rw [hol, hsz, e1]) holds ⟨ρ.b id2, ρ.o id2 + off * es2, none⟩ m (ρ.c id2 - off) _ (by rw [hnl, hsz, e1]) hnews (by omega) (by omega)
              (growslice_fits (by omega) (by rw [hbz]; exact c4))
            refine ⟨ρ.set d w.heap.size (grownCap w (n1 + m) (ρ.c id) q.1), w.drew.alloc (.cells ((rowC f n1).toArray ++ (rowC (fun i => f2 (off + i)) m).toArray ++ Builtin.zeroCells zv.cells (grownCap w (n1 + m) (ρ.c id) q.1 - (n1 + m))) q.1), ?_, ?_⟩
            · rw [show (Sv.one [Av.sl d es 0 (n1 + m)]).den (ρ.set d w.heap.size (grownCap w (n1 + m) (ρ.c id) q.1)) = _ from sl_val]
              exact hrun
            · refine ⟨rfl, rfl, rfl, by simp, fun i hi => Env.set_ne fun e => hi (by rw [e]; rfl), fun b hb _ => Below.heap_alloc w.drew _ b hb, fun id' k' h => ?_, fun d' h _ => ?_⟩
              · cases h
                refine own_block hall (grownCap_ge w (n1 + m) (ρ.c id) q.1) (grownCap_le_maxLen w (n1 + m) (ρ.c id) q.1 (by unfold maxLen; omega)) hBw (heap_alloc_new w.drew _) ?_ ?_
                · have hge := grownCap_ge w (n1 + m) (ρ.c id) q.1
                  simp only [Array.size_append, List.size_toArray, size_zeroCells, hzsz, hol, hnl, ← e1, ← Nat.add_mul]
                  congr 1
                  omega
                · rw [happ]
                  simp only [Array.toList_append]
                  refine List.take_left' ?_
                  rw [List.length_append, hol, hnl, Nat.add_mul]
              · cases h
                exact .inl (by simp [Env.set, upd_same])
      · cases hr
  · rename_i id n id2 m
    cases hb : Nat.beq q.2.1 1 && !Nat.beq id id2 with
    | false => rw [hb] at hr; cases hr
    | true =>
      rw [hb] at hr
      rw [Bool.and_eq_true] at hb
      have e1 : q.2.1 = 1 := Nat.eq_of_beq_eq_true hb.1
      obtain ⟨k, h1, hr⟩ := Option.bind_eq_some_iff.1 ((cond_true _ _).symm.trans hr)
      obtain ⟨k2, h2, hr2⟩ := Option.bind_eq_some_iff.1 hr
      clear hr
      have hr := hr2
      clear hr2
      split at hr
      · rename_i l et l2 et2
        cases hb2 : Nat.beq et q.1 && Nat.beq (sizeL l) n && Nat.beq (sizeL l2) m && Nat.blt 0 m with
        | false => rw [hb2] at hr; cases hr
        | true =>
          rw [hb2] at hr
          simp only [cond_true, Option.some.injEq, Prod.mk.injEq] at hr
          obtain ⟨rfl, rfl, rfl⟩ := hr
          simp only [Bool.and_eq_true] at hb2
          obtain ⟨⟨⟨b3, b4⟩, b5⟩, b6⟩ := hb2
          have e5 : et = q.1 := Nat.eq_of_beq_eq_true b3
          have e6 : sizeL l = n := Nat.eq_of_beq_eq_true b4
          have e7 : sizeL l2 = m := Nat.eq_of_beq_eq_true b5
          have hm0 : 0 < m := Nat.le_of_ble_eq_true b6
          subst e5 e6
          have hsz1 : inf.size = 1 := by rw [hsz, e1]
          have hblk := h.blocks _ _ (hhp _ _ h1)
          have hrd := arr_read hblk
          have hrd2 := arr_read (h.blocks _ _ (hhp _ _ h2))
          obtain ⟨hnc, hcm, hB, cur, hcur, hcs, htk⟩ := hblk
          have hnl : (cellsL ρ l2).length = m := by rw [cellsL_length, e7]
          have hol : (cellsL ρ l).length = sizeL l := cellsL_length ρ l
          have hsa : sizeL (l ++ l2) = sizeL l + m := by rw [← cellsL_length ρ, cellsL, List.flatMap_append, List.length_append]; exact congr (congrArg _ hol) hnl
          have hca : cellsL ρ (l ++ l2) = cellsL ρ l ++ cellsL ρ l2 := List.flatMap_append
          have hnews : ∀ j u, (cellsL ρ l2)[j]? = some u → w.cell? ((⟨ρ.b id2, 0, none⟩ : Addr).add j) = some u := fun j u hu => by
            rw [addr_add, Nat.zero_add]; exact hrd2 j u hu
          have hD : ∀ x ∈ l ++ l2, x.inD σ.dom := fun x hx => by
            rcases List.mem_append.1 hx with hx | hx
            · exact ((h.wf.okH _ _ (hhp _ _ h1)).1 x hx).inD
            · exact ((h.wf.okH _ _ (hhp _ _ h2)).1 x hx).inD
          have hmb : sizeL l + m ≤ (sizeL l + m) * q.2.2.1 := Nat.le_mul_of_pos_right _ hby
          have hval : (Av.as id (sizeL l)).val ρ = .slice (some ⟨ρ.b id, 0, none⟩) (sizeL l) (ρ.c id) := rfl
          have hne : id ≠ d := hnd _ _ (hhp _ _ h1)
          have hc0 : (sizeL l + m) * q.2.2.1 ≤ 140737488355328 := hc
          rw [hval]
          by_cases hroom : sizeL l + m ≤ ρ.c id
          · have hfit : sizeL l * inf.size + (cellsL ρ l2).length ≤ cur.size := by rw [hnl, hcs, hsz1]; omega
            have hrun := run_append_room (P := P) w t ty q.1 inf hu hi (ρ.b id) (sizeL l) (ρ.c id) cur hcur ⟨ρ.b id2, 0, none⟩ m (ρ.c id2) _ (by rw [hnl, hsz1, Nat.mul_one]) hnews (one_cellsL _ _) hroom hfit
            refine ⟨ρ.set d (ρ.b id) (ρ.c id), w.setRow (ρ.b id) (cur.toList.take (sizeL l * inf.size) ++ cellsL ρ l2 ++ cur.toList.drop (sizeL l * inf.size + (cellsL ρ l2).length)).toArray, ?_, ?_⟩
            · rw [show (Sv.one [Av.as d (sizeL l + m)]).den (ρ.set d (ρ.b id) (ρ.c id)) = _ from as_val]
              exact hrun
            · rw [hsz1, Nat.mul_one, htk]
              refine ⟨rfl, rfl, rfl, by simp, fun i hi => Env.set_ne fun e => hi (by rw [e]; rfl), fun b _ hne => setRow_other w _ _ _ (hne id rfl), fun id' k' h => ?_, fun d' h _ => ?_⟩
              · cases h
                refine own_arr hD hfr (by rw [hsa]; exact hroom) hcm hB (setRow_heap w _ _ _ _ _ hcur) ?_ ?_
                · simp only [List.size_toArray, List.length_append, hol, hnl, List.length_drop]
                  rw [← hcs, ← Array.length_toList]
                  have : sizeL l + m ≤ cur.toList.length := by rw [Array.length_toList, hcs]; exact hroom
                  omega
                · rw [hsa, hca]
                  refine List.take_left' ?_
                  rw [List.length_append, hol, hnl]
              · cases h
                exact .inr ⟨id, rfl, by simp [Env.set, upd_same]⟩
          · have holds : ∀ j u, (cellsL ρ l)[j]? = some u → w.cell? ((⟨ρ.b id, 0, none⟩ : Addr).add j) = some u := fun j u hu => by
              rw [addr_add, Nat.zero_add]
              exact hrd j u hu
            have hrun := run_append_grow (P := P) w t ty q.1 inf zv hu hi hz ⟨ρ.b id, 0, none⟩ (sizeL l) (ρ.c id) (cellsL ρ l) (by rw [hol, hsz1, Nat.mul_one]) holds ⟨ρ.b id2, 0, none⟩ m (ρ.c id2) _ (by rw [hnl, hsz1, Nat.mul_one]) hnews (by omega) (by omega)
              (growslice_fits (by omega) (by rw [hbz]; exact hc0))
            refine ⟨ρ.set d w.heap.size (grownCap w (sizeL l + m) (ρ.c id) q.1), w.drew.alloc (.cells ((cellsL ρ l).toArray ++ (cellsL ρ l2).toArray ++ Builtin.zeroCells zv.cells (grownCap w (sizeL l + m) (ρ.c id) q.1 - (sizeL l + m))) q.1), ?_, ?_⟩
            · rw [show (Sv.one [Av.as d (sizeL l + m)]).den (ρ.set d w.heap.size (grownCap w (sizeL l + m) (ρ.c id) q.1)) = _ from as_val]
              exact hrun
            · refine ⟨rfl, rfl, rfl, by simp, fun i hi => Env.set_ne fun e => hi (by rw [e]; rfl), fun b hb _ => Below.heap_alloc w.drew _ b hb, fun id' k' h => ?_, fun d' h _ => ?_⟩
              · cases h
                have hge := grownCap_ge w (sizeL l + m) (ρ.c id) q.1
                refine own_arr hD hfr (by rw [hsa]; exact hge) (grownCap_le_maxLen w (sizeL l + m) (ρ.c id) q.1 (by unfold maxLen; omega)) hBw (heap_alloc_new w.drew _) ?_ ?_
                · simp only [Array.size_append, List.size_toArray, size_zeroCells, hzsz, hol, hnl, e1, Nat.mul_one]
                  omega
                · rw [hsa, hca]
                  simp only [Array.toList_append]
                  refine List.take_left' ?_
                  rw [List.length_append, hol, hnl]
              · cases h
                exact .inl (by simp [Env.set, upd_same])
      · cases hr
  · cases hr

end M
end Go.Proofs.YtmjdmhelmgcanaaDoor

/- A machine that evaluates code: every operation does what the machine says, all of them. -/
namespace Go.Proofs.YtmjdmhelmgcanaaDoor
namespace M
open Go.RowKit
variable {P : Program} {C : Ctx} {nt : Nat} {w0 : Base} {w w' : World} {ρ ρ' : Env} {σ σ' : Ms} {a : Act}

theorem run_buildSlice (OK : CtxOK P C w0) {t e : TypeId} {es b len : Nat} {z : List Av} (hq : C.slc t = some (e, es, b, z)) {ps : Array (Nat × Operand)} {vs : List Sv} {ls : List (List Av)} (hp : partsL es 0 ps.toList vs = some ls)
    (hv : ps.toList.map (fun q => a.eval q.2) = vs.map (Sv.den ρ)) (hlen : ls.length = len) (hlim : len * es ≤ 16777216) (h0 : 0 < len) :
    (Instr.buildSlice t len (ps.map fun q => (q.1, a.eval q.2))).run P w = .ok (.slice (some ⟨w.heap.size, 0, none⟩) len len) (w.alloc (.cells (ls.flatMap (cellsL ρ)).toArray e)) := by
  obtain ⟨hes, hzs, _, _⟩ := OK.slc t e es b z hq
  obtain ⟨hu, inf, zv, hi, hsz, _, hz, hzc⟩ := OK.slc_run t e es b z hq
  have hne : ¬ len * es = 0 := by have := Nat.mul_pos h0 hes; omega
  have hfill := fill_parts (a := a) (ρ := ρ) es ps.toList 0 vs ls [] (madeCells zv.cells (len * es)).toList hp hv (by simp) (by rw [hlen]; simp [madeCells])
  have hma : ([] ++ (madeCells zv.cells (len * es)).toList).toArray = (Array.range (len * es)).map (zv.cells[· % zv.cells.size]!) := by
    apply Array.ext'
    simp [madeCells]
  rw [hma] at hfill
  have hlim' : ¬ 16777216 < len * es := by omega
  simp [Instr.buildSlice, run_underlying hu, sizeOf, typeInfo, zeroValue, newRow, newObj, hlim', hne, hi, hsz, hz, hfill]
  rfl

theorem flat_plain {ls : List (List Av)} {len : Nat} (hpl : ∀ l ∈ ls, ∀ x ∈ l, x.plain) (hlen : ls.length = len) : ls.flatMap (cellsL ρ) = rowC (getL ls) len := by
  rw [← hlen, rowC_getL]
  clear hlen
  induction ls with
  | nil => rfl
  | cons l ls ih => rw [List.flatMap_cons, List.flatMap_cons, ih fun m hm => hpl m (List.mem_cons_of_mem _ hm), cells_plain (hpl l List.mem_cons_self) ρ0 ρ]

theorem flat_cells (ls : List (List Av)) : ls.flatMap (cellsL ρ) = cellsL ρ ls.flatten := by
  induction ls with
  | nil => rfl
  | cons l ls ih => rw [List.flatMap_cons, List.flatten_cons, ih]; exact List.flatMap_append.symm

theorem flat_size {ls : List (List Av)} (h : ∀ l ∈ ls, sizeL l = 1) : sizeL ls.flatten = ls.length := by
  induction ls with
  | nil => rfl
  | cons l ls ih =>
    rw [← cellsL_length ρ0, ← flat_cells, List.flatMap_cons, List.length_append, cellsL_length, h l List.mem_cons_self, flat_cells, cellsL_length, ih fun m hm => h m (List.mem_cons_of_mem _ hm), List.length_cons]
    omega

theorem argV_of {hp : Nat → Option Bk} : ∀ (vs : List Sv) (ra : List RArg), rargs hp vs = some ra → vs.map (Sv.den ρ) = ra.map (argV ρ)
  | [], ra, h => by simp only [rargs, Option.some.injEq] at h; subst h; rfl
  | .one l :: r, ra, h => by
    simp only [rargs] at h
    obtain ⟨q, h1, rfl⟩ := Option.map_eq_some_iff.1 h
    simp only [List.map_cons, argV_of r q h1, Sv.den, argV, List.map_map, Function.comp_def, List.map_id']
  | .tup l :: r, ra, h => by cases h
  | .any :: r, ra, h => by cases h

theorem den_ptr {d b : Nat} : (Sv.one [Av.ptr d 0]).den (ρ.set d b 0) = .pointer (some ⟨b, 0, none⟩) := by
  simp [Sv.den, denL, Av.val, Env.set, upd_same]

theorem byteAt_get {s : ByteArray} {p : Nat} (h : p < s.size) : byteAt s p = (s[p]'h).toNat := by
  have hl : p < s.data.toList.length := by rw [Array.length_toList]; exact h
  unfold byteAt
  rw [List.getD_eq_getElem?_getD, List.getElem?_eq_getElem hl]
  rfl

/-- an iterator goes on -/
theorem postIter {B : Nat → Prop} {id p q : Nat} {s : ByteArray} (hB : B (ρ.b id)) (hb : w.heap[ρ.b id]? = some (.stringIter s p)) : EffPost ρ ρ w (w.iterAt (ρ.b id) s q) B (.put id (.sit s q)) := by
  refine ⟨rfl, rfl, rfl, by simp [World.iterAt], fun _ _ => ⟨rfl, rfl, rfl⟩, fun b _ hne => ?_, fun id' k' h => ?_, fun d h => by cases h⟩
  · have hn := hne id rfl
    show (w.heap.setIfInBounds (ρ.b id) _)[b]? = _
    rw [Array.getElem?_setIfInBounds_ne (fun h => hn h.symm)]
  · cases h
    exact ⟨hB, Lib.iterAt_heap w _ s p q hb⟩

set_option maxHeartbeats 1000000 in
theorem op_run (OK : CtxOK P C w0) (h : Rep nt w0 ρ σ a w) {o : Oper} {ch : Nat} {fresh : Bool} {hp : Nat → Option Bk} {vs : List Sv} (hev : (opsOf o.op).map a.eval = vs.map (Sv.den ρ)) (hvs : ∀ s ∈ vs, s.all (AvOK σ))
    (hhp : ∀ id k, hp id = some k → σ.heap id = some k) (hfr : fresh = true → ∀ d, o.dst = some d → σ.dom d = false) {c : Prop} {v : Sv} {e : Eff} (hr : opV C ch o.op o.dst fresh hp vs = some (c, v, e)) (hc : c)
    {K' : Act → World → Prop} {Q : Exit → Act → World → Prop} (hK : ∀ ρ' w', EffPost ρ ρ' w w' w0.F e → K' (a.put o.dst (v.den ρ')) w') : o.wp P a w K' Q := by
  have hBw : w0.F w.heap.size := w0.hF _ h.below.size
  obtain ⟨dst, op, type, pos, after, guard⟩ := o
  simp only at hev hr hfr hK
  unfold opV at hr
  split at hr
  · cases hr
    simp only [opsOf, List.map_cons, List.map_nil, List.cons.injEq, and_true] at hev
    exact wp_val (by simp [execOp, hev]) (hK ρ w postN)
  · cases hr
    simp only [opsOf, List.map_cons, List.map_nil, List.cons.injEq, and_true] at hev
    exact wp_val (by simp [execOp, hev]) (hK ρ w postN)
  · obtain ⟨b, h1, h2⟩ := Option.map_eq_some_iff.1 hr
    cases h2
    simp only [opsOf, List.map_cons, List.map_nil, List.cons.injEq, and_true] at hev
    obtain ⟨e1, e2, e3⟩ := hev
    rw [boolS_spec h1] at e1
    have e1' : a.eval _ = .bool b := e1
    refine wp_val ?_ (hK ρ w postN)
    cases b <;> simp [execOp, e1', asBool, e2, e3]
  · rename_i i l
    obtain ⟨t, h1, h2⟩ := Option.map_eq_some_iff.1 hr
    cases h2
    simp only [opsOf, List.map_cons, List.map_nil, List.cons.injEq, and_true] at hev
    exact wp_val (by simp [execOp, hev, Sv.den, Instr.extract, h1]) (hK ρ w postN)
  · rename_i bop t ox oy ty x y
    obtain ⟨r, h1, h2⟩ := Option.map_eq_some_iff.1 hr
    cases h2
    simp only [opsOf, List.map_cons, List.map_nil, List.cons.injEq, and_true] at hev
    obtain ⟨e1, e2⟩ := hev
    have hrun := run_binR (ρ := ρ) OK h1 hc (hvs x (by simp)) (hvs y (by simp)) ox oy w
    rw [← e1, ← e2] at hrun
    refine wp_val ?_ (hK ρ w postN)
    simp only [execOp, Sem.run_bind, Sem.run_pure] at hrun ⊢
    rw [hrun]
    rfl
  · obtain ⟨b, h1, h2⟩ := Option.map_eq_some_iff.1 hr
    cases h2
    simp only [opsOf, List.map_cons, List.map_nil, List.cons.injEq, and_true] at hev
    rw [boolS_spec h1] at hev
    have e1 : a.eval _ = .bool b := hev
    exact wp_val (by simp [execOp, e1, Op.unary, Sv.den, denL, Av.val]) (hK ρ w postN)
  · rename_i x
    obtain ⟨⟨k, n⟩, h1, hr⟩ := Option.bind_eq_some_iff.1 hr
    simp only at hr
    simp only [opsOf, List.map_cons, List.map_nil, List.cons.injEq, and_true] at hev
    rw [intS_spec h1] at hev
    have e1 : a.eval _ = .int k n := hev
    cases hb : ((litS x).isSome && rngB k (0 - n)) with
    | false =>
      rw [hb] at hr
      cases hr
      have hw : k.wrap (-n) = -n := by
        have := wrap_rng hc
        rwa [Int.zero_sub] at this
      exact wp_val (by simp [execOp, e1, Op.unary, Sv.den, denL, Av.val, Op.intArith, hw]) (hK ρ w postN)
    | true =>
      rw [hb] at hr
      cases hr
      have hb' : rngB k (0 - n) = true := by
        rw [Bool.and_eq_true] at hb; exact hb.2
      have hw : k.wrap (-n) = -n := by
        have := wrap_rng (rng_of_B hb')
        rwa [Int.zero_sub] at this
      exact wp_val (by simp [execOp, e1, Op.unary, Sv.den, denL, Av.val, Op.intArith, hw]) (hK ρ w postN)
  · rename_i t ox x
    obtain ⟨n, hn, hr⟩ := Option.bind_eq_some_iff.1 hr
    obtain ⟨⟨q1, m⟩, h2, hr⟩ := Option.bind_eq_some_iff.1 hr
    simp only at hr
    cases hg : (isAggL m == C.agg t) with
    | false => rw [hg] at hr; cases hr
    | true =>
      rw [hg] at hr
      cases hr
      simp only [opsOf, List.map_cons, List.map_nil, List.cons.injEq, and_true] at hev
      obtain ⟨b, off, hv, hs, hread⟩ := readP_cells h hhp h2 hc
      have e1 : a.eval ox = .pointer (some ⟨b, off, none⟩) := hev.trans hv
      have hl := run_loadVar (P := P) OK hn hs (by simpa using hg) hread
      exact wp_val (by simp [execOp, e1, Instr.loadAt, Instr.sureAddr, hl, Sv.den]) (hK ρ w postN)
  · rename_i t ox oy x new
    obtain ⟨n, hn, hr⟩ := Option.bind_eq_some_iff.1 hr
    cases hg : Nat.beq (sizeL new) n with
    | false => rw [hg] at hr; cases hr
    | true =>
      rw [hg] at hr
      obtain ⟨⟨q1, q2, q3⟩, h2, h3⟩ := Option.map_eq_some_iff.1 ((cond_true _ _).symm.trans hr)
      cases h3
      simp only [opsOf, List.map_cons, List.map_nil, List.cons.injEq, and_true] at hev
      obtain ⟨e1, e2⟩ := hev
      obtain ⟨b, off, w', hv, hst, hpost⟩ := writeP_run (P := P) h hhp (hvs (.one new) (by simp)) h2 hc
      have e1' : a.eval ox = .pointer (some ⟨b, off, none⟩) := e1.trans hv
      have e2' : a.eval oy = denL ρ new := e2
      have hsz : (cellsL ρ new).length = n := by rw [cellsL_length]; exact Nat.eq_of_beq_eq_true hg
      exact wp_skp (by simp [execOp, e1', e2', Instr.storeAt, Instr.sureAddr, storeVar, cells_denL, OK.size t n hn w, hsz, hst]) (hK ρ w' hpost)
  · rename_i t
    obtain ⟨d, h1, hr⟩ := Option.bind_eq_some_iff.1 hr
    cases hf : fresh with
    | false => rw [hf] at hr; cases hr
    | true =>
      rw [hf] at hr
      obtain ⟨l, h2, h3⟩ := Option.map_eq_some_iff.1 ((cond_true _ _).symm.trans hr)
      cases h3
      have hp0 := OK.zero t l h2
      have hd := hfr hf d h1
      have hz := OK.zero_run t l h2 w
      refine wp_val ?_ (hK _ _ (new_var (ρ := ρ) (l := l) (t := t) (fun x hx => Av.plain_inD (hp0 x hx) _) hd hBw))
      have hcl : cellsL ρ0 l = cellsL ρ l := cells_plain hp0 ρ ρ0
      rw [den_ptr]
      simp [execOp, Instr.alloc, hz, newVar, newRow, newObj, Sem.run, cells_denL, hcl]
  · rename_i t ox l
    obtain ⟨d, h1, hr⟩ := Option.bind_eq_some_iff.1 hr
    cases hf : fresh with
    | false => rw [hf] at hr; cases hr
    | true =>
      rw [hf] at hr
      cases hr
      have hd := hfr hf d h1
      simp only [opsOf, List.map_cons, List.map_nil, List.cons.injEq, and_true] at hev
      have e1 : a.eval ox = denL ρ l := hev
      refine wp_val ?_ (hK _ _ (new_var (ρ := ρ) (l := l) (t := t) (fun x hx => (hvs (.one l) (by simp) x hx).inD) hd hBw))
      rw [den_ptr]
      simp [execOp, Instr.box, e1, newVar, newRow, newObj, Sem.run, cells_denL]
  · rename_i s ox f x
    obtain ⟨⟨k, t⟩, h1, hr⟩ := Option.bind_eq_some_iff.1 hr
    obtain ⟨b, h2, h3⟩ := Option.map_eq_some_iff.1 hr
    cases h3
    simp only [opsOf, List.map_cons, List.map_nil, List.cons.injEq, and_true] at hev
    refine wp_val ?_ (hK ρ w postN)
    unfold fieldP at h2
    split at h2
    · cases h2
      have e1 : a.eval ox = .pointer (some ⟨_, _, none⟩) := hev
      simp [execOp, e1, OK.fldA s f k t h1, Sv.den, denL, Av.val]
    · cases h2
      have e1 : a.eval ox = .pointer (some ⟨_, _, none⟩) := hev
      simp [execOp, e1, OK.fldA s f k t h1, Sv.den, denL, Av.val, Nat.add_assoc]
    · cases h2
  · rename_i s ox f l
    obtain ⟨⟨k, t⟩, h3, hr⟩ := Option.bind_eq_some_iff.1 hr
    obtain ⟨n, h4, hr⟩ := Option.bind_eq_some_iff.1 hr
    obtain ⟨m, h5, hr⟩ := Option.bind_eq_some_iff.1 hr
    cases hg : (isAggL l && (isAggL m == C.agg t)) with
    | false => simp only [hg, cond_false, reduceCtorEq] at hr
    | true =>
      simp only [hg, cond_true, Option.some.injEq, Prod.mk.injEq] at hr
      obtain ⟨-, rfl, rfl⟩ := hr
      simp only [Bool.and_eq_true, beq_iff_eq] at hg
      obtain ⟨hgl, hgm⟩ := hg
      simp only [opsOf, List.map_cons, List.map_nil, List.cons.injEq, and_true] at hev
      have e1' : a.eval ox = .agg (cellsL ρ l).toArray := by rw [hev]; exact denL_agg ρ hgl
      obtain ⟨p, r, hp', hpl0, hs, _⟩ := partC_spec ρ h5
      have hpl : p.length = k := hpl0
      have hlen : (cellsL ρ m).length = n := by rw [cellsL_length, hs]
      have hrun := OK.fldV s f k t n h3 h4 (cellsL ρ l).toArray w (by
        simp only [List.size_toArray]
        rw [hp']; simp only [List.length_append, hpl, hlen]; omega)
      have hv : (if C.agg t = true then Value.agg ((cellsL ρ l).toArray.extract k (k + n)) else (cellsL ρ l).toArray.getD k undef) = denL ρ m := by
        rw [← hgm]
        cases hgm' : isAggL m with
        | true =>
          simp only [if_true, denL_agg _ hgm']
          congr 1
          rw [List.extract_toArray, hp', List.extract_eq_take_drop]
          congr 1
          rw [show k + n - k = n by omega, List.drop_append, List.drop_of_length_le (by omega), hpl, Nat.sub_self]
          simp only [List.drop_zero, List.nil_append]
          rw [List.take_append_of_le_length (by omega), List.take_of_length_le (by omega)]
        | false =>
          obtain ⟨y, rfl, e2, e3, _⟩ := denL_one ρ hgm'
          simp only [Bool.false_eq_true, if_false, e2]
          rw [e3] at hp'
          rw [hp']
          simp [← hpl]
      rw [hv] at hrun
      exact wp_val (by simp [execOp, e1', hrun, Sv.den]) (hK ρ w postN)
  · rename_i t ox oi x i
    obtain ⟨⟨k, n⟩, h1, hr⟩ := Option.bind_eq_some_iff.1 hr
    obtain ⟨r, h2, h3⟩ := Option.map_eq_some_iff.1 hr
    cases h3
    simp only [opsOf, List.map_cons, List.map_nil, List.cons.injEq, and_true] at hev
    obtain ⟨e1, e2⟩ := hev
    rw [intS_spec h1 ρ] at e2
    have e1' : a.eval ox = x.val ρ := e1
    have := run_indexP (P := P) (ρ := ρ) (k := k) OK h2 hc w
    exact wp_val (by simp [execOp, e1', e2, this, Sv.den, denL]) (hK ρ w postN)
  · rename_i t ox oi x i
    obtain ⟨⟨k, n⟩, h1, hr⟩ := Option.bind_eq_some_iff.1 hr
    obtain ⟨r, h2, h3⟩ := Option.map_eq_some_iff.1 hr
    cases h3
    simp only [opsOf, List.map_cons, List.map_nil, List.cons.injEq, and_true] at hev
    obtain ⟨e1, e2⟩ := hev
    rw [intS_spec h1 ρ] at e2
    have e1' : a.eval ox = x.val ρ := e1
    have := run_indexV (P := P) (ρ := ρ) (k := k) OK h2 hc w
    exact wp_val (by simp [execOp, e1', e2, this, Sv.den, denL]) (hK ρ w postN)
  · rename_i t parts
    obtain ⟨l, h2, h3⟩ := Option.map_eq_some_iff.1 hr
    cases h3
    simp only [opsOf, List.map_map] at hev
    have hrun := OK.build_run t _ l h2 ρ w
    have hparts : (parts.map fun p => (p.1, a.eval p.2)) = (((parts.toList.map (·.1)).zip vs).map fun p => (p.1, p.2.den ρ)).toArray := by
      apply Array.ext'
      have e2 : ((parts.toList.map (·.1)).zip vs).map (fun p => (p.1, p.2.den ρ)) = (parts.toList.map (·.1)).zip (vs.map (Sv.den ρ)) := by
        rw [List.zip_map_right]
        rfl
      rw [e2, ← hev, List.zip_map']
      simp
    rw [← hparts] at hrun
    refine wp_val ?_ (hK ρ w postN)
    show (do let v ← Instr.build t (parts.map fun (i, x) => (i, a.eval x)); pure (Next.value v)).run P w = _
    rw [Sem.run_bind, hrun]
    rfl
  · rename_i t len parts
    obtain ⟨d, h1, hr⟩ := Option.bind_eq_some_iff.1 hr
    cases hf : fresh with
    | false => rw [hf] at hr; cases hr
    | true =>
      rw [hf] at hr
      obtain ⟨⟨et, es, by', z⟩, hq, hr⟩ := Option.bind_eq_some_iff.1 ((cond_true _ _).symm.trans hr)
      obtain ⟨ls, h2, hr⟩ := Option.bind_eq_some_iff.1 hr
      simp only at h2 hr
      cases hb : (Nat.beq ls.length len && Nat.blt 0 len && Nat.ble (len * es) 16777216) with
      | false => rw [hb] at hr; cases hr
      | true =>
        rw [hb] at hr
        replace hr := (cond_true _ _).symm.trans hr
        simp only [Bool.and_eq_true] at hb
        have hlen : ls.length = len := Nat.eq_of_beq_eq_true hb.1.1
        have h0 : 0 < len := Nat.le_of_ble_eq_true hb.1.2
        have hlim : len * es ≤ 16777216 := Nat.le_of_ble_eq_true hb.2
        obtain ⟨_, _, hl⟩ := partsL_spec _ _ _ _ _ h2 hvs
        simp only [opsOf, List.map_map, Function.comp_def] at hev
        have hrun := run_buildSlice (P := P) (w := w) OK hq h2 hev hlen hlim h0
        cases hpb : ls.all (fun l => l.all Av.plainB) with
        | false =>
          rw [hpb] at hr
          cases hes : Nat.beq es 1 with
          | false => rw [hes] at hr; cases hr
          | true =>
            rw [hes] at hr
            cases hr
            have es1 : es = 1 := Nat.eq_of_beq_eq_true hes
            have hsf : sizeL ls.flatten = len := by rw [← hlen]; exact flat_size fun l hl' => by rw [(hl l hl').1, es1]
            have hD : ∀ x ∈ ls.flatten, x.inD σ.dom := fun x hx => by
              obtain ⟨m, hm, hxm⟩ := List.mem_flatten.1 hx
              exact ((hl m hm).2.1 x hxm).inD
            rw [flat_cells] at hrun
            refine wp_val ?_ (hK _ _ (postNew (cap := len) (own_arr (ρ := ρ) (cur := (cellsL ρ ls.flatten).toArray) hD (hfr hf d h1) (by rw [hsf]; exact Nat.le_refl _) (by rw [es1] at hlim; unfold maxLen; omega) hBw (heap_alloc_new w _) (by rw [List.size_toArray, cellsL_length, hsf]) (List.take_of_length_le (by rw [cellsL_length]; exact Nat.le_refl _)))))
            rw [show (Sv.one [Av.as d len]).den (ρ.set d w.heap.size len) = _ from as_val]
            show (do let v ← Instr.buildSlice t len (parts.map fun (i, x) => (i, a.eval x)); pure (Next.value v)).run P w = _
            rw [Sem.run_bind, hrun]
            rfl
        | true =>
        rw [hpb] at hr
        cases hr
        have hpl := List.all_eq_true.1 hpb
        rw [flat_plain (fun l hl' => (hl l hl').2.2 (hpl l hl')) hlen] at hrun
        have hrow : RowOK es len (getL ls) := ⟨(OK.slc _ _ _ _ _ hq).1, fun i hi => by
          have hi' : i < ls.length := by omega
          have : getL ls i = ls[i] := by simp [getL, hi']
          rw [this]
          exact ⟨(hl _ (List.getElem_mem hi')).1, (hl _ (List.getElem_mem hi')).2.2 (hpl _ (List.getElem_mem hi'))⟩⟩
        have hrl : (rowC (getL ls) len).length = len * es := rowC_length fun i hi => (hrow.2 i hi).1
        have hes := (OK.slc _ _ _ _ _ hq).1
        have hmul : len ≤ len * es := Nat.le_mul_of_pos_right _ hes
        refine wp_val ?_ (hK _ _ (postNew (cap := len) (own_block hrow (Nat.le_refl _) (by unfold maxLen; omega) hBw (heap_alloc_new w _) (by rw [List.size_toArray, hrl]) (List.take_of_length_le (by rw [hrl]; exact Nat.le_refl _)))))
        rw [show (Sv.one [Av.sl d es 0 len]).den (ρ.set d w.heap.size len) = _ from sl_val]
        show (do let v ← Instr.buildSlice t len (parts.map fun (i, x) => (i, a.eval x)); pure (Next.value v)).run P w = _
        rw [Sem.run_bind, hrun]
        rfl
  · rename_i t ol oc x y
    obtain ⟨d, h1, hr⟩ := Option.bind_eq_some_iff.1 hr
    cases hf : fresh with
    | false => rw [hf] at hr; cases hr
    | true =>
      rw [hf] at hr
      obtain ⟨⟨et, es, by', z⟩, hq, hr⟩ := Option.bind_eq_some_iff.1 ((cond_true _ _).symm.trans hr)
      obtain ⟨⟨kx, nx⟩, hx, hr⟩ := Option.bind_eq_some_iff.1 hr
      obtain ⟨⟨ky, ny⟩, hy, hr⟩ := Option.bind_eq_some_iff.1 hr
      cases hr
      simp only at hc
      obtain ⟨c1, c2, c3, c4⟩ := hc
      subst c1
      simp only [opsOf, List.map_cons, List.map_nil, List.cons.injEq, and_true] at hev
      obtain ⟨e1, e2⟩ := hev
      rw [intS_spec hx ρ] at e1
      rw [intS_spec hy ρ] at e2
      obtain ⟨hes, hzs, hzp, _⟩ := OK.slc _ _ _ _ _ hq
      obtain ⟨hu, inf, zv, hi, hsz, hbz, hz, hzc⟩ := OK.slc_run _ _ _ _ _ hq
      have hrun := run_make (P := P) w t et inf zv hu hi hz kx ky nx nx (by omega) (Int.le_refl _) (by rw [hbz, Int.mul_comm]; exact c3) (by omega)
      have hrow : RowOK es nx.toNat (fun _ => z) := ⟨hes, fun _ _ => ⟨hzs, hzp⟩⟩
      have hmr : (madeCells zv.cells (nx.toNat * inf.size)).toList = rowC (fun _ => z) nx.toNat := by rw [hzc, hsz]; exact made_row hzs
      refine wp_val ?_ (hK _ _ (postNew (cap := nx.toNat) (own_block hrow (Nat.le_refl _) (by unfold maxLen; omega) hBw (heap_alloc_new w (.cells (madeCells zv.cells (nx.toNat * inf.size)) et)) (by simp [madeCells, hsz]) (by
        rw [← hmr]
        exact List.take_of_length_le (by simp [madeCells, hsz])))))
      rw [show (Sv.one [Av.sl d es 0 nx.toNat]).den (ρ.set d w.heap.size nx.toNat) = _ from sl_val]
      simp [execOp, e1, e2, hrun]
  · rename_i s d ox id es off n
    cases hb : C.b2s s d && Nat.beq es 1 && Nat.beq n 1 with
    | false => rw [hb] at hr; cases hr
    | true =>
      rw [hb] at hr
      obtain ⟨k, h1, hr⟩ := Option.bind_eq_some_iff.1 ((cond_true _ _).symm.trans hr)
      simp only [Bool.and_eq_true] at hb
      obtain ⟨⟨hb1, hb2⟩, hb3⟩ := hb
      have e1 : es = 1 := Nat.eq_of_beq_eq_true hb2
      have e2 : n = 1 := Nat.eq_of_beq_eq_true hb3
      subst e1 e2
      split at hr
      · rename_i o' et es' cnt f
        cases hes : Nat.beq es' 1 with
        | false => rw [hes] at hr; cases hr
        | true =>
          rw [hes] at hr
          obtain ⟨v', h2, h3⟩ := Option.map_eq_some_iff.1 ((cond_true _ _).symm.trans hr)
          cases h3
          have e3 : es' = 1 := Nat.eq_of_beq_eq_true hes
          subst e3
          obtain ⟨c1, c2, c3⟩ := hc
          have hblk := h.blocks _ _ (hhp _ _ h1)
          have hrow : RowOK 1 cnt f := (h.wf.okH _ _ (hhp _ _ h1)).2
          have hcell : cellsL ρ0 (f off) = [.int .u8 v'] := by
            unfold byte1 at h2
            split at h2 <;> cases h2 <;> (rename_i hf; rw [hf]; rfl)
          obtain ⟨pr, rr, hr1, hr2⟩ := rowC_split (fun i hi => (hrow.2 i hi).1) c1
          have hrd := row_read hblk off (.int .u8 v') (by
            have g := get_mid (p := pr) (m := cellsL ρ0 (f off)) (r := rr) hr2 (j := 0) (u := .int .u8 v') (by rw [hcell]; rfl)
            rw [← hr1] at g
            simpa using g)
          have hl := run_loadCells_list (P := P) w ⟨ρ.b id, ρ.o id + off, none⟩ [.int .u8 v'] fun j u hu => by
            have hj : j = 0 := by have := (List.getElem?_eq_some_iff.1 hu).1; simp at this; exact this
            subst hj
            rw [addr_add, Nat.add_zero]
            simpa using (by simpa using hu : Value.int .u8 v' = u) ▸ hrd
          have hrun := run_bytesToString (P := P) w ⟨ρ.b id, ρ.o id + off, none⟩ 1 (ρ.c id - off) [v'] hl
          simp only [opsOf, List.map_cons, List.map_nil, List.cons.injEq, and_true] at hev
          have hev' : a.eval ox = .slice (some ⟨ρ.b id, ρ.o id + off, none⟩) 1 (ρ.c id - off) := by rw [hev]; simp [Sv.den, denL, Av.val]
          refine wp_val ?_ (hK ρ w postN)
          simp only [execOp, hev']
          simp [OK.b2s s d hb1, hrun, Sv.den, denL, Av.val]
          rfl
      · cases hr
  · rename_i t ox s
    obtain ⟨d, h1, hr⟩ := Option.bind_eq_some_iff.1 hr
    cases hf : fresh with
    | false => rw [hf] at hr; cases hr
    | true =>
      rw [hf] at hr
      cases hst : C.strT t with
      | false => rw [hst] at hr; cases hr
      | true =>
        rw [hst] at hr
        cases hr
        simp only [opsOf, List.map_cons, List.map_nil, List.cons.injEq, and_true] at hev
        have hev' : a.eval ox = .string s := hev
        have hrun := run_range_string (P := P) w t s (OK.strT t hst)
        refine wp_val ?_ (hK _ _ (postNew (cap := 0) (o := .stringIter s 0) ⟨by simp only [Env.set, upd_same]; exact hBw, by simp only [Env.set, upd_same]; exact heap_alloc_new w _⟩))
        rw [den_ptr]
        simp only [execOp, hev']
        simp [hrun, World.iter]
  · rename_i ty ox id
    obtain ⟨k, h1, hr⟩ := Option.bind_eq_some_iff.1 hr
    simp only [opsOf, List.map_cons, List.map_nil, List.cons.injEq, and_true] at hev
    have hev' : a.eval _ = .pointer (some ⟨ρ.b id, 0, none⟩) := hev
    split at hr
    · rename_i s p
      obtain ⟨hB, hb⟩ := h.blocks _ _ (hhp _ _ h1)
      split at hr
      · cases hr
        obtain ⟨c1, c2⟩ := hc
        have e : byteAt s p = (s[p]'c1).toNat := byteAt_get c1
        have hrun := Lib.run_next_ascii_at (P := P) w (ρ.b id) s p type hb c1 (by rw [← e]; exact c2)
        refine wp_val ?_ (hK ρ _ (postIter hB hb))
        simp only [execOp, hev']
        simp [hrun, Sv.den, denL, Av.val, e]
      · cases hr
        have hrun := Lib.run_next_end_at (P := P) w (ρ.b id) s p type hb hc
        refine wp_val ?_ (hK ρ w postN)
        simp only [execOp, hev']
        simp [hrun, Sv.den, denL, Av.val]
    · cases hr
  · rename_i s d ox x _
    obtain ⟨⟨k, n⟩, h1, hr⟩ := Option.bind_eq_some_iff.1 hr
    obtain ⟨k', h2, hr⟩ := Option.bind_eq_some_iff.1 hr
    simp only [opsOf, List.map_cons, List.map_nil, List.cons.injEq, and_true] at hev
    rw [intS_spec h1 ρ] at hev
    have hrun := OK.conv s d k k' h2 n w
    simp only at hr
    cases hb : ((litS x).isSome && rngB k' n) with
    | true =>
      rw [hb] at hr
      cases hr
      rw [Bool.and_eq_true] at hb
      exact wp_val (by simp [execOp, hev, hrun, Sv.den, denL, Av.val, wrap_rng (rng_of_B hb.2)]) (hK ρ w postN)
    | false =>
      rw [hb] at hr
      simp only [cond_false] at hr
      split at hr
      · cases hr
        exact wp_val (by simp [execOp, hev, hrun, Sv.den, denL, Av.val, wrap_rng hc]) (hK ρ w postN)
      · cases hr
        exact wp_val (by simp [execOp, hev, hrun, Sv.den, denL, Av.val]) (hK ρ w postN)
  · rename_i ox x
    cases hb : isPtr x with
    | false => rw [hb] at hr; cases hr
    | true =>
      rw [hb] at hr
      cases hr
      simp only [opsOf, List.map_cons, List.map_nil, List.cons.injEq, and_true] at hev
      have hv : ∃ ad, x.val ρ = .pointer (some ad) := by cases x <;> first | exact ⟨_, rfl⟩ | cases hb
      obtain ⟨ad, hv⟩ := hv
      have e1 : a.eval ox = .pointer (some ad) := hev.trans hv
      have e2 : (Sv.one [x]).den ρ = .pointer (some ad) := hv
      refine wp_val ?_ (hK ρ w postN)
      rw [e2]
      simp [execOp, e1]
  · rename_i f first captured id
    cases hb : Nat.beq first.size 0 && Nat.beq captured.size 1 with
    | false => rw [hb] at hr; cases hr
    | true =>
      rw [hb] at hr
      cases hr
      rw [Bool.and_eq_true] at hb
      have hf0 : first = #[] := Array.eq_empty_of_size_eq_zero (Nat.eq_of_beq_eq_true hb.1)
      have hc1 : captured.size = 1 := Nat.eq_of_beq_eq_true hb.2
      obtain ⟨y, rfl⟩ : ∃ y, captured = #[y] := by
        obtain ⟨l⟩ := captured
        match l, hc1 with
        | [y], _ => exact ⟨y, rfl⟩
      subst hf0
      simp only [opsOf, List.nil_append, List.map_cons, List.map_nil, List.cons.injEq, and_true] at hev
      have e1 : a.eval y = .pointer (some ⟨ρ.b id, 0, none⟩) := hev
      exact wp_val (by simp [execOp, Instr.makeFunc, e1, Sv.den, denL, Av.val]) (hK ρ w postN)
  · rename_i f args ats fv vs
    obtain ⟨d, h1, hr⟩ := Option.bind_eq_some_iff.1 hr
    cases hf : fresh with
    | false => rw [hf] at hr; cases hr
    | true =>
      rw [hf] at hr
      obtain ⟨g, hg, hr⟩ := Option.bind_eq_some_iff.1 ((cond_true _ _).symm.trans hr)
      obtain ⟨ra, hra, hr⟩ := Option.bind_eq_some_iff.1 hr
      obtain ⟨outs, ho, hr⟩ := Option.bind_eq_some_iff.1 hr
      obtain ⟨oc, hoc, h3⟩ := Option.map_eq_some_iff.1 hr
      cases h3
      have hd := hfr hf d h1
      have hvs' : ∀ s ∈ vs ++ g.2, s.all (AvOK σ) := by
        intro s hs
        rcases List.mem_append.1 hs with hs | hs
        · exact hvs s (List.mem_cons_of_mem _ hs)
        · unfold calleeS at hg
          split at hg
          · cases hg; cases hs
          · cases hg
            simp only [List.mem_singleton] at hs
            subst hs
            exact one1 ((hvs _ List.mem_cons_self _ List.mem_cons_self).same rfl rfl)
          · cases hg
      have hA : ∀ A ∈ ra, ∀ p ∈ A, AvOK σ p.1 ∧ ∀ k, p.2 = some k → ∃ id, p.1.name = some id ∧ σ.heap id = some k := by
        intro A hA p hp'
        obtain ⟨l, hl, rfl⟩ := rargs_spec _ _ hra A hA
        obtain ⟨x, hx, rfl⟩ := List.mem_map.1 hp'
        refine ⟨hvs' _ hl x hx, fun k hk => ?_⟩
        obtain ⟨id, hid, hk⟩ := Option.bind_eq_some_iff.1 hk
        exact ⟨id, hid, hhp id k hk⟩
      have hA2 : ∀ id k, inArgs ra id k → σ.heap id = some k := by
        rintro id k ⟨A, hAr, x, hx, hn⟩
        obtain ⟨h5, h6⟩ := hA A hAr _ hx
        obtain ⟨id', hid', hk'⟩ := h6 k rfl
        rw [hn] at hid'
        cases hid'
        exact hk'
      obtain ⟨hent, hcalls⟩ := OK.con_run g.1 ra outs ho ch oc hoc hc ρ w h.below w0.F d (fun b hb => w0.hF b (Nat.le_trans h.below.size hb))
        (fun A hAr p hp' => by
          obtain ⟨h5, h6⟩ := hA A hAr p hp'
          refine ⟨fun hn => ?_, fun k hk => ?_⟩
          · unfold AvOK at h5; rw [hn] at h5; exact h5
          · obtain ⟨id, h7, h8⟩ := h6 k hk
            exact ⟨id, h7, h.blocks id k h8, loose_of (h.okH id k h8)⟩)
        (fun A hAr p hp' hn => by
          obtain ⟨h5, _⟩ := hA A hAr p hp'
          unfold AvOK at h5
          rw [hn] at h5
          have h9 : σ.dom d = true := h5.1
          rw [hd] at h9
          cases h9)
        (fun i j ki kj hi hj => h.inj i j ki kj (hA2 i ki hi) (hA2 j kj hj))
      simp only [opsOf, List.map_cons, List.cons.injEq] at hev
      obtain ⟨e1, e2⟩ := hev
      have hargs : (args.map a.eval).toList = vs.map (Sv.den ρ) := by simpa using e2
      have hexec : ∃ cap, a.eval f = .func (.func g.1) #[] cap ∧ cap.toList = g.2.map (Sv.den ρ) := by
        unfold calleeS at hg
        split at hg
        · cases hg; exact ⟨#[], e1, rfl⟩
        · cases hg; exact ⟨_, e1, rfl⟩
        · cases hg
      obtain ⟨cap, e3, e4⟩ := hexec
      have hall : args.map a.eval ++ cap = (ra.map (argV ρ)).toArray := by
        apply Array.ext'
        rw [Array.toList_append, hargs, e4, ← List.map_append, argV_of _ _ hra]
      have hx : execOp a.eval ⟨dst, .call { callee := .value f, args := args, argTypes := ats }, type, pos, after, guard⟩ = callFunc g.1 (ra.map (argV ρ)).toArray := by
        show (do let d ← resolve a.eval ⟨.value f, args, ats⟩ type; invoke d.target d.args) = _
        simp only [resolve, e3, Deferred.ofValue]
        rw [← hall]
        simp [invoke]
      unfold Oper.wp
      rw [hx, hent]
      refine hcalls.mono ?_
      rintro e' w' ⟨ρ', hpost, rfl⟩
      exact hK ρ' w' hpost
  · rename_i args ats x
    obtain ⟨t, ht, hr⟩ := Option.bind_eq_some_iff.1 hr
    cases hst : C.strT t with
    | false => rw [hst] at hr; cases hr
    | true =>
      rw [hst] at hr
      cases hr
      have hu := OK.strT t hst
      simp only [opsOf] at hev
      have hargs : args.map a.eval = #[.string x] := by
        apply Array.ext'
        simpa [Sv.den, denL, Av.val] using hev
      refine wp_val ?_ (hK ρ w postN)
      simp [execOp, resolve, invoke, builtin, hargs, ht, Builtin.len_, run_underlying hu, goInt, Sv.den, denL, Av.val]
  · rename_i args ats x _
    obtain ⟨t, ht, hr⟩ := Option.bind_eq_some_iff.1 hr
    obtain ⟨⟨et, es, by', z⟩, hq, hr⟩ := Option.bind_eq_some_iff.1 hr
    obtain ⟨v', h2, h3⟩ := Option.map_eq_some_iff.1 hr
    cases h3
    obtain ⟨hu, _⟩ := OK.slc_run _ _ _ _ _ hq
    simp only [opsOf] at hev
    have hargs : args.map a.eval = #[x.val ρ] := by
      apply Array.ext'
      simpa [Sv.den, denL] using hev
    refine wp_val ?_ (hK ρ w postN)
    unfold lenR at h2
    split at h2
    · cases h2
      simp only [Av.val] at hargs
      simp [execOp, resolve, invoke, builtin, hargs, ht, Builtin.len_, run_underlying hu, goInt, Sv.den, denL, Av.val]
    · cases h2
      simp only [Av.val] at hargs
      simp [execOp, resolve, invoke, builtin, hargs, ht, Builtin.len_, run_underlying hu, goInt, Sv.den, denL, Av.val]
    · cases h2
      simp only [Av.val] at hargs
      simp [execOp, resolve, invoke, builtin, hargs, ht, Builtin.len_, run_underlying hu, goInt, Sv.den, denL, Av.val]
    · cases h2
  · rename_i args ats x y
    obtain ⟨d, h1, hr⟩ := Option.bind_eq_some_iff.1 hr
    cases hf : fresh with
    | false => rw [hf] at hr; cases hr
    | true =>
      rw [hf] at hr
      simp only [cond_true] at hr
      cases hb : Nat.beq ats.size 2 with
      | false => rw [hb] at hr; cases hr
      | true =>
        rw [hb] at hr
        obtain ⟨t, ht, hr⟩ := Option.bind_eq_some_iff.1 ((cond_true _ _).symm.trans hr)
        obtain ⟨t', ht', hr⟩ := Option.bind_eq_some_iff.1 hr
        cases hb2 : Nat.beq t t' with
        | false => rw [hb2] at hr; cases hr
        | true =>
          rw [hb2] at hr
          have htt : t = t' := Nat.eq_of_beq_eq_true hb2
          subst htt
          obtain ⟨ρ', w', hrun, hpost⟩ := append_run (ty := type) OK h hhp (hfr hf d h1) ((cond_true _ _).symm.trans hr) hc
          simp only [opsOf] at hev
          have hargs : args.map a.eval = #[x.val ρ, y.val ρ] := by
            apply Array.ext'
            simpa [Sv.den, denL] using hev
          have hats : ats = #[t, t] := by
            obtain ⟨l⟩ := ats
            have : l.length = 2 := Nat.eq_of_beq_eq_true hb
            match l, this with
            | [p, q], _ =>
              simp at ht ht'
              rw [ht, ht']
          refine wp_val ?_ (hK ρ' w' hpost)
          simp [execOp, resolve, invoke, builtin, hargs, hats, hrun]
  · cases hr

end M
end Go.Proofs.YtmjdmhelmgcanaaDoor

/- A machine that evaluates code: in whatever order the operations of a statement come, they come to the same. -/
namespace Go.Proofs.YtmjdmhelmgcanaaDoor
namespace M
open Go.RowKit
variable {P : Program} {C : Ctx} {w0 : Base} {w w' : World} {ρ ρ' : Env} {σ σ' : Ms} {a : Act}

theorem res_spec {orc : Nat → Nat} {o : Oper} {s : Nat → Sv} {hp : Nat → Option Bk} {dm : Nat → Bool} {r : Prop × Sv × Eff} (h : res C orc o s hp dm = some r) :
    ∃ vs, allVals C.nt s (opsOf o.op) = some vs ∧ opV C (orc (o.dst.getD 0)) o.op o.dst (match o.dst with | some d => !dm d | none => false) (seen (memClass C o.op) (lookN o.op vs) hp) vs = some r ∧ (r.2.2.isWrite = true → memClass C o.op = 2) := by
  obtain ⟨vs, h1, h⟩ := Option.bind_eq_some_iff.1 h
  obtain ⟨r', h2, h⟩ := Option.bind_eq_some_iff.1 h
  cases hb : (Nat.beq (memClass C o.op) 2 || !r'.2.2.isWrite) with
  | false => rw [hb] at h; cases h
  | true =>
    rw [hb] at h
    cases h
    refine ⟨vs, h1, h2, fun hw => ?_⟩
    rw [hw] at hb
    simp only [Bool.not_true, Bool.or_false] at hb
    exact Nat.eq_of_beq_eq_true hb

theorem fresh_dom {o : Oper} {dm : Nat → Bool} (h : (match o.dst with | some d => !dm d | none => false) = true) : ∀ d, o.dst = some d → dm d = false := by
  intro d hd
  rw [hd] at h
  simpa using h

theorem res_in (D : CtxD C) (h : Wf σ) {orc : Nat → Nat} {o : Oper} {c : Prop} {v : Sv} {e : Eff} (hr : res C orc o σ.slots σ.heap σ.dom = some (c, v, e)) (hc : c) :
    EffWf σ e ∧ v.all (AvOK (e.app σ)) ∧ ∀ d, e.newId = some d → o.dst = some d := by
  obtain ⟨vs, h1, h2, _⟩ := res_spec hr
  exact op_in D h (allVals_ok h _ _ h1) (fun _ _ => seen_some) fresh_dom h2 hc

theorem valsOf_eval (h : Rep C.nt w0 ρ σ a w) {x : Operand} {v : Sv} (hv : valsOf C.nt σ.slots x = some v) : a.eval x = v.den ρ := by
  unfold valsOf at hv
  split at hv
  · rename_i t
    cases hb : Nat.blt t C.nt with
    | false => rw [hb] at hv; cases hv
    | true =>
      rw [hb] at hv
      simp only [cond_true] at hv
      split at hv
      · cases hv
      · rename_i v' hne
        simp only [Option.some.injEq] at hv
        rcases h.slots t (Nat.le_of_ble_eq_true hb) with h1 | h1
        · exact absurd h1 hne
        · rw [h1, hv]
  all_goals first
    | (simp only [Option.some.injEq] at hv; subst hv; rfl)
    | cases hv

theorem allVals_eval (h : Rep C.nt w0 ρ σ a w) : ∀ (xs : List Operand) (vs : List Sv), allVals C.nt σ.slots xs = some vs → xs.map a.eval = vs.map (Sv.den ρ)
  | [], vs, hv => by simp only [allVals, Option.some.injEq] at hv; subst hv; rfl
  | x :: r, vs, hv => by
    simp only [allVals] at hv
    obtain ⟨v, h1, hv⟩ := Option.bind_eq_some_iff.1 hv
    obtain ⟨vs', h2, rfl⟩ := Option.map_eq_some_iff.1 hv
    simp only [List.map_cons, valsOf_eval h h1, allVals_eval h r vs' h2]

def app (o : Oper) (r : Prop × Sv × Eff) (σ : Ms) : Ms := putS o.dst r.2.1 (r.2.2.app σ)

theorem res_sound (OK : CtxOK P C w0) (h : Rep C.nt w0 ρ σ a w) {orc : Nat → Nat} {o : Oper} {r : Prop × Sv × Eff} (hr : res C orc o σ.slots σ.heap σ.dom = some r) (hc : r.1) (hd : dstIn C.nt o.dst)
    {K' : Act → World → Prop} {Q : Exit → Act → World → Prop} (hK : ∀ ρ' a' w', Rep C.nt w0 ρ' (app o r σ) a' w' → K' a' w') : o.wp P a w K' Q := by
  obtain ⟨c, v, e⟩ := r
  obtain ⟨hw, hv, _⟩ := res_in OK.toCtxD h.wf hr hc
  obtain ⟨vs, h1, h2, _⟩ := res_spec hr
  exact op_run OK h (allVals_eval h _ _ h1) (allVals_ok h.wf _ _ h1) (fun _ _ => seen_some) fresh_dom h2 hc fun ρ' w' hpost => hK ρ' _ w' ((h.eff hw hpost).put hd hv)

/-! ## With guards -/

def wantS (nt : Nat) (ops : Array Oper) (slots : Nat → Sv) (o : Oper) : Option Bool :=
  match o.guard with
  | none => some true
  | some (j, want) => match (ops[j]?).bind (·.dst) with
    | some t => bif Nat.blt t nt then (match slots t with
        | .one [.bool b] => some (b == want)
        | .tup [] => some false
        | _ => none) else none
    | none => some false

def dstB (nt : Nat) : Option Nat → Bool
  | some d => Nat.blt d nt
  | none => true

/-- what an operation comes to, its guard looked at -/
def raw (C : Ctx) (orc : Nat → Nat) (ops : Array Oper) (o : Oper) (σ : Ms) : Option (Prop × Sv × Eff) :=
  bif dstB C.nt o.dst then (match wantS C.nt ops σ.slots o with
    | some true => res C orc o σ.slots σ.heap σ.dom
    | some false => some (True, .tup [], .nop)
    | none => none) else none

theorem raw_in (D : CtxD C) (h : Wf σ) {orc : Nat → Nat} {ops : Array Oper} {o : Oper} {r : Prop × Sv × Eff} (hr : raw C orc ops o σ = some r) (hc : r.1) :
    EffWf σ r.2.2 ∧ r.2.1.all (AvOK (r.2.2.app σ)) ∧ (∀ d, r.2.2.newId = some d → o.dst = some d) ∧ (r.2.2.isWrite = true → memClass C o.op = 2) := by
  unfold raw at hr
  cases hd : dstB C.nt o.dst with
  | false => rw [hd] at hr; cases hr
  | true =>
    rw [hd] at hr
    simp only [cond_true] at hr
    split at hr
    · obtain ⟨c, v, e⟩ := r
      obtain ⟨h1, h2, h3⟩ := res_in D h hr hc
      obtain ⟨_, _, _, h4⟩ := res_spec hr
      exact ⟨h1, h2, h3, h4⟩
    · cases hr
      exact ⟨wfN, all0, (fun _ h => by cases h), (fun h => by cases h)⟩
    · cases hr

theorem app_wf (h : Wf σ) {o : Oper} {r : Prop × Sv × Eff} (he : EffWf σ r.2.2) (hv : r.2.1.all (AvOK (r.2.2.app σ))) : Wf (app o r σ) := by
  obtain ⟨c, v, e⟩ := r
  have hbase : Wf (e.app σ) := by
    refine ⟨fun i => ?_, ?_, ?_⟩
    · rw [Eff.app_slots]; exact Sv.all_mono (fun _ hx => hx.eff) (h.okS i)
    · intro id k hk
      rcases Eff.app_heap hk with h1 | ⟨h1, _⟩ | ⟨h1, _⟩
      · exact (he.bk id k h1).2
      · subst h1; exact ⟨trivial, trivial⟩
      · obtain ⟨h2, h3⟩ := h.okH id k h1
        refine ⟨?_, h3⟩
        cases k with
        | var l t => exact fun a ha => (h2 a ha).eff
        | arr l t => exact fun a ha => (h2 a ha).eff
        | _ => trivial
    · intro id hid
      obtain ⟨k, hk⟩ := Option.isSome_iff_exists.1 hid
      rcases Eff.app_heap hk with h1 | ⟨_, h1⟩ | ⟨h1, _⟩
      · cases e with
        | nop => cases h1
        | res d => cases h1
        | new d k' => simp only [Eff.bk, Option.some.injEq, Prod.mk.injEq] at h1; obtain ⟨rfl, rfl⟩ := h1; exact upd_same _ _ _
        | put id' k' =>
          simp only [Eff.bk, Option.some.injEq, Prod.mk.injEq] at h1
          obtain ⟨rfl, rfl⟩ := h1
          obtain ⟨k0, hk0, _⟩ := he.old _ rfl
          exact h.hdom _ (by rw [hk0]; rfl)
        | move id' d k' => simp only [Eff.bk, Option.some.injEq, Prod.mk.injEq] at h1; obtain ⟨rfl, rfl⟩ := h1; exact upd_same _ _ _
      · obtain ⟨k0, hk0, _⟩ := he.old id h1
        exact Eff.app_dom (h.hdom id (by rw [hk0]; rfl))
      · exact Eff.app_dom (h.hdom id (by rw [h1]; rfl))
  have hcong : ∀ x, AvOK (e.app σ) x → AvOK (putS o.dst v (e.app σ)) x := fun x hx => hx.congr (putS_dom _ _ _) (putS_heap _ _ _)
  refine ⟨fun i => ?_, ?_, ?_⟩
  · show ((putS o.dst v (e.app σ)).slots i).all _
    cases hd : o.dst with
    | none => exact Sv.all_mono hcong (hbase.okS i)
    | some d =>
      show (upd (e.app σ).slots d v i).all _
      have hc2 : ∀ x, AvOK (e.app σ) x → AvOK (app o (c, v, e) σ) x := hcong
      by_cases hid : i = d
      · subst hid; rw [upd_same]; exact Sv.all_mono hc2 hv
      · rw [upd_ne _ _ hid]; exact Sv.all_mono hc2 (hbase.okS i)
  · show ∀ id k, (putS o.dst v (e.app σ)).heap id = some k → _
    rw [putS_heap]
    intro id k hk
    obtain ⟨h1, h2⟩ := hbase.okH id k hk
    refine ⟨?_, h2⟩
    cases k with
    | var l t => exact fun x hx => hcong x (h1 x hx)
    | arr l t => exact fun x hx => hcong x (h1 x hx)
    | _ => trivial
  · show ∀ id, ((putS o.dst v (e.app σ)).heap id).isSome = true → (putS o.dst v (e.app σ)).dom id = true
    rw [putS_dom, putS_heap]
    exact hbase.hdom

/-! ## Operations change places -/

def memOK (C : Ctx) (x y : Oper) : Bool := Nat.beq (memClass C x.op) 0 || Nat.beq (memClass C y.op) 0 || (Nat.beq (memClass C x.op) 1 && Nat.beq (memClass C y.op) 1)

/-- the name at which an operation loads or stores, where its slot stays as it is -/
def addrN (s0 : Nat → Sv) : Op → Option Nat
  | .load _ (.tmp t) => (match s0 t with
    | .one [a] => a.name
    | _ => none)
  | .store _ (.tmp t) _ => (match s0 t with
    | .one [a] => a.name
    | _ => none)
  | _ => none
/-- they load and store at different names -/
def farOK (s0 : Nat → Sv) (x y : Oper) : Bool :=
  match addrN s0 x.op, addrN s0 y.op with
  | some i, some j => !Nat.beq i j
  | _, _ => false

/-- these slots are as they are said to be -/
def Keeps (s0 : Nat → Sv) (σ : Ms) : Prop := ∀ t, s0 t = .any ∨ σ.slots t = s0 t ∨ namesV [σ.slots t] = []

theorem opsOf_sub {o : Op} {x : Operand} (h : x ∈ opsOf o) : x ∈ o.operands.toList := by
  cases o
  case call cl =>
    obtain ⟨callee, args, ats⟩ := cl
    cases callee with
    | value f =>
      simp only [opsOf, List.mem_cons] at h
      simp only [Op.operands, Call.operands, Array.toList_append, List.mem_append]
      rcases h with rfl | h
      · exact .inl (by simp)
      · exact .inr h
    | builtin b =>
      simp only [opsOf] at h
      simp only [Op.operands, Call.operands, Array.toList_append, List.mem_append]
      exact .inr h
    | invoke r m => cases h
  case build t parts => simp only [opsOf] at h; simp only [Op.operands]; exact h
  case buildSlice t n parts => simp only [opsOf] at h; simp only [Op.operands]; exact h
  case makeFunc f p q => simp only [opsOf] at h; simp only [Op.operands, Array.toList_append]; exact h
  all_goals first
    | (simp [opsOf] at h; done)
    | (simp only [opsOf, List.mem_cons, List.not_mem_nil, or_false] at h; simp only [Op.operands, List.mem_cons, List.not_mem_nil, or_false]; exact h)

theorem valsOf_frame {nt : Nat} {s s' : Nat → Sv} {x : Operand} (h : ∀ t, x = .tmp t → s' t = s t) : valsOf nt s' x = valsOf nt s x := by
  unfold valsOf
  split
  · rename_i t; rw [h t rfl]
  all_goals rfl
theorem allVals_frame {nt : Nat} {s s' : Nat → Sv} : ∀ (xs : List Operand), (∀ x ∈ xs, ∀ t, x = .tmp t → s' t = s t) → allVals nt s' xs = allVals nt s xs
  | [], _ => rfl
  | x :: r, h => by
    simp only [allVals]
    rw [valsOf_frame (h x List.mem_cons_self), allVals_frame r fun y hy => h y (List.mem_cons_of_mem _ hy)]

theorem seen_frame {c : Nat} {ns : List Nat} {hp hp' : Nat → Option Bk} (h : c ≠ 0 → ∀ id ∈ ns, hp' id = hp id) : seen c ns hp' = seen c ns hp := by
  unfold seen
  cases hb : Nat.beq c 0 with
  | true => rfl
  | false =>
    simp only [cond_false]
    funext id
    cases hc : ns.contains id with
    | false => rfl
    | true => exact h (fun e => by subst e; simp at hb) id (by simpa using hc)

theorem res_frame {orc : Nat → Nat} {o : Oper} {s s' : Nat → Sv} {hp hp' : Nat → Option Bk} {dm dm' : Nat → Bool}
    (hs : ∀ x ∈ opsOf o.op, ∀ t, x = .tmp t → s' t = s t) (hd : ∀ d, o.dst = some d → dm' d = dm d)
    (hh : memClass C o.op ≠ 0 → ∀ vs, allVals C.nt s (opsOf o.op) = some vs → ∀ id ∈ lookN o.op vs, hp' id = hp id) :
    res C orc o s' hp' dm' = res C orc o s hp dm := by
  unfold res
  rw [allVals_frame _ hs]
  cases hv : allVals C.nt s (opsOf o.op) with
  | none => rfl
  | some vs =>
    simp only [Option.bind_some]
    rw [seen_frame (hp := hp) (hp' := hp') fun hc => hh hc vs hv]
    cases hdst : o.dst with
    | none => rfl
    | some d => simp only [hd d hdst]

theorem names_dom : ∀ (vs : List Sv), (∀ s ∈ vs, s.all (AvOK σ)) → ∀ id ∈ namesV vs, σ.dom id = true
  | [], _, id, h => by cases h
  | .one l :: r, hv, id, h => by
    simp only [namesV, List.mem_append] at h
    rcases h with h | h
    · have key : ∀ l : List Av, (∀ a ∈ l, AvOK σ a) → id ∈ namesL l → σ.dom id = true := by
        intro l
        induction l with
        | nil => intro _ h; cases h
        | cons a l ih =>
          intro hl h
          simp only [namesL] at h
          cases hn : a.name with
          | none => rw [hn] at h; exact ih (fun b hb => hl b (List.mem_cons_of_mem _ hb)) h
          | some id' =>
            rw [hn] at h
            rcases List.mem_cons.1 h with rfl | h
            · have := hl a List.mem_cons_self
              unfold AvOK at this
              rw [hn] at this
              exact this.1
            · exact ih (fun b hb => hl b (List.mem_cons_of_mem _ hb)) h
      exact key l (hv _ List.mem_cons_self) h
    · exact names_dom r (fun s hs => hv s (List.mem_cons_of_mem _ hs)) id h
  | .tup l :: r, hv, id, h => names_dom r (fun s hs => hv s (List.mem_cons_of_mem _ hs)) id h
  | .any :: r, hv, id, h => names_dom r (fun s hs => hv s (List.mem_cons_of_mem _ hs)) id h

theorem wantS_frame {nt : Nat} {ops : Array Oper} {s s' : Nat → Sv} {o : Oper} (h : ∀ d, d ∈ o.looksAt ops → s' d = s d) : wantS nt ops s' o = wantS nt ops s o := by
  unfold wantS
  split
  · rfl
  · rename_i j want hg
    split
    · rename_i t ht
      rw [h t (by simp [Oper.looksAt, hg, ht])]
    · rfl

/-- may these two change places? -/
def indepB (C : Ctx) (s0 : Nat → Sv) (ops : Array Oper) (x y : Oper) : Bool := x.apart ops y && (memOK C x y || farOK s0 x y)

theorem lookN_sub {op : Op} {vs : List Sv} {id : Nat} (h : id ∈ lookN op vs) : id ∈ namesV vs := by
  have key : ∀ v r, id ∈ namesV [v] → id ∈ namesV (v :: r) := by
    intro v r h
    cases v with
    | one l => simp only [namesV, List.append_nil] at h ⊢; exact List.mem_append_left _ h
    | tup l => cases h
    | any => cases h
  unfold lookN at h
  split at h
  · exact key _ _ h
  · exact key _ _ h
  · exact h

theorem addrN_spec {s0 : Nat → Sv} {op : Op} {i : Nat} (h : addrN s0 op = some i) : ∃ t a, s0 t = .one [a] ∧ a.name = some i ∧ ((∃ ty, op = .load ty (.tmp t)) ∨ ∃ ty y, op = .store ty (.tmp t) y) := by
  unfold addrN at h
  split at h
  · rename_i ty t
    split at h
    · rename_i a ha; exact ⟨t, a, ha, h, .inl ⟨ty, rfl⟩⟩
    · cases h
  · rename_i ty t y
    split at h
    · rename_i a ha; exact ⟨t, a, ha, h, .inr ⟨ty, y, rfl⟩⟩
    · cases h
  · cases h

theorem valsOf_kept {nt : Nat} {s0 : Nat → Sv} (hk : Keeps s0 σ) {t : Nat} {a : Av} (h : s0 t = .one [a]) {v : Sv} (hv : valsOf nt σ.slots (.tmp t) = some v) : v = .one [a] ∨ namesV [v] = [] := by
  simp only [valsOf] at hv
  cases hb : Nat.blt t nt with
  | false => rw [hb] at hv; cases hv
  | true =>
    rw [hb] at hv
    simp only [cond_true] at hv
    have hv' : v = σ.slots t ∨ namesV [v] = [] := by
      cases hx : σ.slots t with
      | any => rw [hx] at hv; first | (cases hv; done) | (cases hv; exact .inl rfl)
      | one l => rw [hx] at hv; cases hv; exact .inl rfl
      | tup l => rw [hx] at hv; first | (cases hv; done) | (cases hv; exact .inl rfl)
    rcases hv' with rfl | hv'
    · rcases hk t with h1 | h1 | h1
      · rw [h] at h1; cases h1
      · exact .inl (h1.trans h)
      · exact .inr h1
    · exact .inr hv'

/-- what it looks at -/
theorem lookN_addr {nt : Nat} {s0 : Nat → Sv} (hk : Keeps s0 σ) {op : Op} {j : Nat} (h : addrN s0 op = some j) {vs : List Sv} (hv : allVals nt σ.slots (opsOf op) = some vs) {id : Nat} (hid : id ∈ lookN op vs) : id = j := by
  obtain ⟨t, a, h1, h2, h3⟩ := addrN_spec h
  have key : ∀ v, valsOf nt σ.slots (.tmp t) = some v → id ∈ namesV [v] → id = j := by
    intro v hv hid
    rcases valsOf_kept hk h1 hv with e | e
    rotate_left
    · rw [e] at hid; cases hid
    rw [e] at hid
    simp only [namesV, namesL, h2, List.append_nil, List.mem_singleton] at hid
    exact hid
  rcases h3 with ⟨ty, rfl⟩ | ⟨ty, y, rfl⟩
  · simp only [opsOf, allVals] at hv
    obtain ⟨v, h4, hv⟩ := Option.bind_eq_some_iff.1 hv
    obtain ⟨r, _, rfl⟩ := Option.map_eq_some_iff.1 hv
    exact key v h4 hid
  · simp only [opsOf, allVals] at hv
    obtain ⟨v, h4, hv⟩ := Option.bind_eq_some_iff.1 hv
    obtain ⟨r, _, rfl⟩ := Option.map_eq_some_iff.1 hv
    exact key v h4 hid

theorem writeP_name {hp : Nat → Option Bk} {a : Av} {new : List Av} {c : Prop} {id : Nat} {k : Bk} (h : writeP hp a new = some (c, id, k)) : a.name = some id := by
  unfold writeP at h
  split at h
  · obtain ⟨k0, _, h⟩ := Option.bind_eq_some_iff.1 h
    split at h
    · obtain ⟨_, _, h⟩ := Option.map_eq_some_iff.1 h
      cases h; rfl
    · cases h
  · obtain ⟨k0, _, h⟩ := Option.bind_eq_some_iff.1 h
    split at h
    · obtain ⟨_, _, h⟩ := Option.bind_eq_some_iff.1 h
      obtain ⟨_, _, h⟩ := Option.bind_eq_some_iff.1 h
      obtain ⟨_, _, h⟩ := Option.map_eq_some_iff.1 h
      cases h; rfl
    · cases h
  · rename_i id' off m i
    obtain ⟨k0, _, h⟩ := Option.bind_eq_some_iff.1 h
    split at h
    · obtain ⟨v, _, h⟩ := Option.bind_eq_some_iff.1 h
      obtain ⟨q, _, h⟩ := Option.bind_eq_some_iff.1 h
      cases hb : Nat.beq v.1 m && Nat.beq q.1 m with
      | false => rw [hb] at h; cases h
      | true =>
        rw [hb] at h
        obtain ⟨_, _, h⟩ := Option.map_eq_some_iff.1 ((cond_true _ _).symm.trans h)
        cases h; rfl
    · cases h
  · rename_i id' es i k0
    obtain ⟨k1, h1, h⟩ := Option.bind_eq_some_iff.1 h
    split at h
    · rename_i e es' cnt f
      cases hb : Nat.beq es es' && new.all Av.plainB with
      | false => rw [hb] at h; cases h
      | true =>
        rw [hb] at h
        obtain ⟨_, _, h⟩ := Option.map_eq_some_iff.1 ((cond_true _ _).symm.trans h)
        cases h; rfl
    · cases h
  · cases h

/-- what it writes -/
theorem raw_addr {s0 : Nat → Sv} (hk : Keeps s0 σ) {orc : Nat → Nat} {ops : Array Oper} {o : Oper} {i : Nat} (h : addrN s0 o.op = some i) {r : Prop × Sv × Eff} (hr : raw C orc ops o σ = some r) : r.2.2 = .nop ∨ ∃ k, r.2.2 = .put i k := by
  unfold raw at hr
  cases hd : dstB C.nt o.dst with
  | false => rw [hd] at hr; cases hr
  | true =>
    rw [hd] at hr
    simp only [cond_true] at hr
    split at hr
    · obtain ⟨vs, h1, h2, _⟩ := res_spec hr
      obtain ⟨t, a, h3, h4, h5⟩ := addrN_spec h
      obtain ⟨dst, op, type, pos, after, guard⟩ := o
      simp only at h1 h2 h5
      rcases h5 with ⟨ty, rfl⟩ | ⟨ty, y, rfl⟩
      · simp only [opsOf, allVals] at h1
        obtain ⟨v, h6, h1⟩ := Option.bind_eq_some_iff.1 h1
        obtain ⟨rr, h7, rfl⟩ := Option.map_eq_some_iff.1 h1
        cases h7
        have hv1 : ∃ a', v = .one [a'] := by
          rcases v with (_ | ⟨a', _ | ⟨_, _⟩⟩) | l | _
          · cases h2
          · exact ⟨a', rfl⟩
          · cases h2
          · cases h2
          · cases h2
        obtain ⟨a', rfl⟩ := hv1
        simp only [opV] at h2
        obtain ⟨n, _, h2⟩ := Option.bind_eq_some_iff.1 h2
        obtain ⟨q, _, h2⟩ := Option.bind_eq_some_iff.1 h2
        cases hb : (isAggL q.2 == C.agg ty) with
        | false => rw [hb] at h2; cases h2
        | true => rw [hb] at h2; cases h2; exact .inl rfl
      · simp only [opsOf, allVals] at h1
        obtain ⟨v, h6, h1⟩ := Option.bind_eq_some_iff.1 h1
        obtain ⟨rr, h7, rfl⟩ := Option.map_eq_some_iff.1 h1
        obtain ⟨v2, _, h7⟩ := Option.bind_eq_some_iff.1 h7
        obtain ⟨_, h8, rfl⟩ := Option.map_eq_some_iff.1 h7
        cases h8
        have hv1 : ∃ a', v = .one [a'] := by
          rcases v with (_ | ⟨a', _ | ⟨_, _⟩⟩) | l | _
          · cases v2 <;> cases h2
          · exact ⟨a', rfl⟩
          · cases v2 <;> cases h2
          · cases v2 <;> cases h2
          · cases v2 <;> cases h2
        obtain ⟨a', rfl⟩ := hv1
        have hna : ∀ id, a'.name = some id → id = i := by
          intro id hid
          rcases valsOf_kept hk h3 h6 with e | e
          · cases e
            rw [h4] at hid; cases hid; rfl
          · simp [namesV, namesL, hid] at e
        cases v2 with
        | one new =>
          simp only [opV] at h2
          obtain ⟨n, _, h2⟩ := Option.bind_eq_some_iff.1 h2
          cases hb : Nat.beq (sizeL new) n with
          | false => rw [hb] at h2; cases h2
          | true =>
            rw [hb] at h2
            obtain ⟨⟨q1, q2, q3⟩, h9, h2⟩ := Option.map_eq_some_iff.1 ((cond_true _ _).symm.trans h2)
            cases h2
            have := hna _ (writeP_name h9)
            subst this
            exact .inr ⟨_, rfl⟩
        | tup l => cases h2
        | any => cases h2
    · cases hr; exact .inl rfl
    · cases hr

theorem far_symm {s0 : Nat → Sv} {x y : Oper} (h : farOK s0 x y = true) : farOK s0 y x = true := by
  unfold farOK at *
  cases hx : addrN s0 x.op with
  | none => rw [hx] at h; cases h
  | some i =>
    cases hy : addrN s0 y.op with
    | none => rw [hx, hy] at h; cases h
    | some j =>
      rw [hx, hy] at h
      simp only [Bool.not_eq_true'] at h ⊢
      cases hb : Nat.beq j i with
      | false => rfl
      | true =>
        have := Nat.eq_of_beq_eq_true hb
        subst this
        simp at h
theorem far_spec {s0 : Nat → Sv} {x y : Oper} (h : farOK s0 x y = true) : ∃ i j, addrN s0 x.op = some i ∧ addrN s0 y.op = some j ∧ i ≠ j := by
  unfold farOK at h
  cases hx : addrN s0 x.op with
  | none => rw [hx] at h; cases h
  | some i =>
    cases hy : addrN s0 y.op with
    | none => rw [hx, hy] at h; cases h
    | some j =>
      rw [hx, hy] at h
      refine ⟨i, j, rfl, rfl, fun e => ?_⟩
      subst e
      simp at h

theorem apart_symm {ops : Array Oper} {x y : Oper} (h : x.apart ops y = true) : y.apart ops x = true := by
  obtain ⟨h1, h2, h3⟩ := Oper.apart_spec h
  unfold Oper.apart
  have a1 : (match y.dst with | some d => !(x.looksAt ops).contains d && x.dst != some d | none => true) = true := by
    cases hy : y.dst with
    | none => rfl
    | some d =>
      have n1 := h3 d hy
      have n2 : x.dst ≠ some d := fun e => h2 d e hy
      simp [n1, n2]
  have a2 : (match x.dst with | some d => !(y.looksAt ops).contains d | none => true) = true := by
    cases hx : x.dst with
    | none => rfl
    | some d => simp [h1 d hx]
  exact Bool.and_eq_true_iff.2 ⟨a1, a2⟩

theorem memOK_symm {x y : Oper} (h : memOK C x y = true) : memOK C y x = true := by
  unfold memOK at *
  rw [Bool.or_comm (Nat.beq (memClass C y.op) 0), Bool.and_comm (Nat.beq (memClass C y.op) 1)]
  exact h

theorem indep_symm {s0 : Nat → Sv} {ops : Array Oper} {x y : Oper} (h : indepB C s0 ops x y = true) : indepB C s0 ops y x = true := by
  unfold indepB at *
  rw [Bool.and_eq_true, Bool.or_eq_true] at *
  exact ⟨apart_symm h.1, h.2.imp memOK_symm far_symm⟩

theorem memOK_two {x y : Oper} (h : memOK C x y = true) (hx : memClass C x.op = 2) : memClass C y.op = 0 := by
  unfold memOK at h
  rw [hx] at h
  have h' : (false || Nat.beq (memClass C y.op) 0 || (false && Nat.beq (memClass C y.op) 1)) = true := h
  rw [Bool.false_and, Bool.or_false, Bool.false_or] at h'
  exact Nat.eq_of_beq_eq_true h'

theorem Eff.app_other {e : Eff} {σ : Ms} (hw : e.isWrite = false) {id : Nat} (h : ∀ d, e.newId = some d → id ≠ d) : (e.app σ).heap id = σ.heap id := by
  cases e with
  | nop => rfl
  | res d => rfl
  | new d k => exact upd_ne _ _ (h d rfl)
  | put id' k => cases hw
  | move id' d k => cases hw
theorem Eff.app_dom_other {e : Eff} {σ : Ms} {id : Nat} (h : ∀ d, e.newId = some d → id ≠ d) : (e.app σ).dom id = σ.dom id := by
  cases e with
  | nop => rfl
  | res d => exact upd_ne _ _ (h d rfl)
  | new d k => exact upd_ne _ _ (h d rfl)
  | put id' k => rfl
  | move id' d k => exact upd_ne _ _ (h d rfl)

/-- what an operation comes to is the same behind another one that it doesn't hang on -/
theorem raw_frame (D : CtxD C) (h : Wf σ) {s0 : Nat → Sv} (hk : Keeps s0 σ) {orc : Nat → Nat} {ops : Array Oper} {x y : Oper} (hi : indepB C s0 ops x y = true) {r : Prop × Sv × Eff} (hx : raw C orc ops x σ = some r) (hc : r.1) :
    raw C orc ops y (app x r σ) = raw C orc ops y σ := by
  obtain ⟨he, hv, hnew, hwr⟩ := raw_in D h hx hc
  obtain ⟨c, v, e⟩ := r
  simp only at he hv hnew hwr
  unfold indepB at hi
  rw [Bool.and_eq_true, Bool.or_eq_true] at hi
  obtain ⟨h1, h2, h3⟩ := Oper.apart_spec hi.1
  have hs : ∀ t, (∀ d, x.dst = some d → t ≠ d) → (app x (c, v, e) σ).slots t = σ.slots t := by
    intro t ht
    show (putS x.dst v (e.app σ)).slots t = _
    cases hd : x.dst with
    | none => simp only [putS, Eff.app_slots]
    | some d => simp only [putS]; rw [upd_ne _ _ (ht d hd), Eff.app_slots]
  have hdom : ∀ d, y.dst = some d → (app x (c, v, e) σ).dom d = σ.dom d := by
    intro d hd
    show (putS x.dst v (e.app σ)).dom d = _
    rw [putS_dom]
    exact Eff.app_dom_other fun d' hd' e' => by subst e'; exact h2 d (hnew d hd') hd
  unfold raw
  cases hd : dstB C.nt y.dst with
  | false => rfl
  | true =>
    simp only [cond_true]
    have hw : wantS C.nt ops (app x (c, v, e) σ).slots y = wantS C.nt ops σ.slots y := wantS_frame fun d hdl => hs d fun d' hd' e => by subst e; exact h1 _ hd' hdl
    rw [hw]
    have hres : res C orc y (app x (c, v, e) σ).slots (app x (c, v, e) σ).heap (app x (c, v, e) σ).dom = res C orc y σ.slots σ.heap σ.dom := by
      refine res_frame ?_ hdom ?_
      · intro z hz t ht
        subst ht
        exact hs t fun d' hd' e => by
          subst e
          exact h1 _ hd' (List.mem_append_left _ (List.mem_filterMap.2 ⟨.tmp t, by simpa using opsOf_sub hz, rfl⟩))
      · intro hy vs hvs id hid
        show (putS x.dst v (e.app σ)).heap id = _
        rw [putS_heap]
        have hiddom := names_dom vs (allVals_ok h _ _ hvs) id (lookN_sub hid)
        cases hwe : e.isWrite with
        | true =>
          rcases hi.2 with hi2 | hi2
          · exact absurd (memOK_two hi2 (hwr hwe)) hy
          · obtain ⟨i, j, n1, n2, hne⟩ := far_spec hi2
            have hid' : id = j := lookN_addr hk n2 hvs hid
            rcases raw_addr hk n1 hx with e1 | ⟨k, e1⟩
            · have e1' : e = .nop := e1
              rw [e1'] at hwe; cases hwe
            · have e1' : e = .put i k := e1
              rw [e1', hid']
              exact upd_ne _ _ fun e => hne e.symm
        | false =>
          refine Eff.app_other hwe fun d hd' e' => ?_
          have := he.new d hd'
          rw [← e', hiddom] at this
          cases this
    rw [hres]

theorem app_comm (D : CtxD C) (h : Wf σ) {s0 : Nat → Sv} (hk : Keeps s0 σ) {orc : Nat → Nat} {ops : Array Oper} {x y : Oper} (hi : indepB C s0 ops x y = true) {r q : Prop × Sv × Eff} (hx : raw C orc ops x σ = some r) (hy : raw C orc ops y σ = some q) (hcx : r.1) (hcy : q.1) :
    app y q (app x r σ) = app x r (app y q σ) := by
  obtain ⟨he, _, hn, hwr⟩ := raw_in D h hx hcx
  obtain ⟨he', _, hn', hwr'⟩ := raw_in D h hy hcy
  obtain ⟨c, v, e⟩ := r
  obtain ⟨c', v', e'⟩ := q
  simp only at he hn hwr he' hn' hwr'
  unfold indepB at hi
  rw [Bool.and_eq_true, Bool.or_eq_true] at hi
  obtain ⟨h1, h2, h3⟩ := Oper.apart_spec hi.1
  have hnp : e.isWrite = true → e'.isWrite = true → ∃ i j k k', e = .put i k ∧ e' = .put j k' ∧ i ≠ j := by
    intro p1 p2
    rcases hi.2 with hi2 | hi2
    · have e1 := memOK_two hi2 (hwr p1)
      rw [hwr' p2] at e1
      cases e1
    · obtain ⟨i, j, n1, n2, hne⟩ := far_spec hi2
      rcases raw_addr hk n1 hx with e1 | ⟨k, e1⟩
      · have e1' : e = .nop := e1
        rw [e1'] at p1; cases p1
      · rcases raw_addr hk n2 hy with e2 | ⟨k', e2⟩
        · have e2' : e' = .nop := e2
          rw [e2'] at p2; cases p2
        · exact ⟨i, j, k, k', e1, e2, hne⟩
  have hnn : ∀ d d', e.newId = some d → e'.newId = some d' → d ≠ d' := fun d d' p p' q => by subst q; exact h2 d (hn d p) (hn' d p')
  have hno : ∀ d id, e.newId = some d → e'.written = some id → d ≠ id := fun d id p p' q => by
    subst q
    obtain ⟨k, hk, _⟩ := he'.old d p'
    have := h.hdom d (by rw [hk]; rfl)
    rw [he.new d p] at this; cases this
  have hno' : ∀ d id, e'.newId = some d → e.written = some id → d ≠ id := fun d id p p' q => by
    subst q
    obtain ⟨k, hk, _⟩ := he.old d p'
    have := h.hdom d (by rw [hk]; rfl)
    rw [he'.new d p] at this; cases this
  have ext : ∀ s t : Ms, s.slots = t.slots → s.heap = t.heap → s.dom = t.dom → s = t := by
    intro s t a b c; cases s; cases t; simp_all
  refine ext _ _ ?_ ?_ ?_
  · show (putS y.dst v' (e'.app (putS x.dst v (e.app σ)))).slots = (putS x.dst v (e.app (putS y.dst v' (e'.app σ)))).slots
    cases hxd : x.dst with
    | none =>
      cases hyd : y.dst with
      | none => simp only [putS, Eff.app_slots]
      | some d => simp only [putS, Eff.app_slots]
    | some dx =>
      cases hyd : y.dst with
      | none => simp only [putS, Eff.app_slots]
      | some dy =>
        simp only [putS, Eff.app_slots]
        exact upd_comm _ _ _ fun e => by subst e; exact h2 _ hxd hyd
  · show (putS y.dst v' (e'.app (putS x.dst v (e.app σ)))).heap = (putS x.dst v (e.app (putS y.dst v' (e'.app σ)))).heap
    rw [putS_heap, putS_heap]
    have hp : ∀ (d : Option Nat) (v : Sv) (e : Eff) (s : Ms), (e.app (putS d v s)).heap = (e.app s).heap := by
      intro d v e s
      cases e <;> simp only [Eff.app, putS_heap]
    rw [hp, hp]
    cases e with
    | nop => rfl
    | res i => cases e' <;> rfl
    | new i k =>
      cases e' with
      | nop => rfl
      | res j => rfl
      | new j k' => exact upd_comm _ _ _ (hnn i j rfl rfl)
      | put j k' => exact upd_comm _ _ _ (hno i j rfl rfl)
      | move j d k' =>
        show upd (upd (upd σ.heap i (some k)) j (some .dead)) d (some k') = upd (upd (upd σ.heap j (some .dead)) d (some k')) i (some k)
        rw [upd_comm _ _ _ (hno i j rfl rfl), upd_comm _ _ _ (hnn i d rfl rfl)]
    | put i k =>
      cases e' with
      | nop => rfl
      | res j => rfl
      | new j k' => exact upd_comm _ _ _ fun e => hno' j i rfl rfl e.symm
      | put j k' =>
        obtain ⟨i', j', _, _, e1, e2, hne⟩ := hnp rfl rfl
        cases e1; cases e2
        exact upd_comm _ _ _ hne
      | move j d k' =>
        obtain ⟨i', j', _, _, e1, e2, hne⟩ := hnp rfl rfl
        cases e2
    | move i d k =>
      cases e' with
      | nop => rfl
      | res j => rfl
      | new j k' =>
        show upd (upd (upd σ.heap i (some .dead)) d (some k)) j (some k') = upd (upd (upd σ.heap j (some k')) i (some .dead)) d (some k)
        rw [upd_comm (i := j) (j := i) _ _ _ (hno' j i rfl rfl), upd_comm (i := j) (j := d) _ _ _ fun e => hnn d j rfl rfl e.symm]
      | put j k' =>
        obtain ⟨i', j', _, _, e1, e2, hne⟩ := hnp rfl rfl
        cases e1
      | move j d' k' =>
        obtain ⟨i', j', _, _, e1, e2, hne⟩ := hnp rfl rfl
        cases e1
  · show (putS y.dst v' (e'.app (putS x.dst v (e.app σ)))).dom = (putS x.dst v (e.app (putS y.dst v' (e'.app σ)))).dom
    rw [putS_dom, putS_dom]
    have hp : ∀ (d : Option Nat) (v : Sv) (e : Eff) (s : Ms), (e.app (putS d v s)).dom = (e.app s).dom := by
      intro d v e s
      cases e <;> simp only [Eff.app, putS_dom]
    rw [hp, hp]
    have dm : ∀ (e : Eff) (s : Ms), (e.app s).dom = match e.newId with | some d => upd s.dom d true | none => s.dom := by
      intro e s; cases e <;> rfl
    rw [dm, dm, dm, dm]
    cases hi : e.newId with
    | none => rfl
    | some i =>
      cases hj : e'.newId with
      | none => rfl
      | some j => exact upd_comm _ _ _ (hnn i j hi hj)

end M
end Go.Proofs.YtmjdmhelmgcanaaDoor

/- A machine that evaluates code: a statement. -/
namespace Go.Proofs.YtmjdmhelmgcanaaDoor
namespace M
open Go.RowKit
variable {P : Program} {C : Ctx} {w0 : Base} {w w' : World} {ρ ρ' : Env} {σ σ' : Ms} {a : Act}

theorem Rep.drew {nt : Nat} (h : Rep nt w0 ρ σ a w) : Rep nt w0 ρ σ a { w with drawn := w.drawn + 1 } := by
  refine ⟨h.size, h.defers, h.slots, ⟨h.below.os, h.below.tape, h.below.output, h.below.size, h.below.block⟩, fun id k hk => ?_, h.inj, h.okS, h.okH, h.hdom, h.names⟩
  have hn : k.named (Av.inD σ.dom) := by
    have := h.okH id k hk
    cases k with
    | var l t => exact fun a ha => (this a ha).inD
    | arr l t => exact fun a ha => (this a ha).inD
    | _ => trivial
  exact (h.blocks id k hk).congr (fun i _ => ⟨rfl, rfl, rfl⟩) (h.hdom id (by rw [hk]; rfl)) hn (.inr rfl) (Nat.le_refl _)

theorem wanted_of (h : Rep C.nt w0 ρ σ a w) {ops : Array Oper} {o : Oper} {b : Bool} (hw : wantS C.nt ops σ.slots o = some b) : Region.wanted o (yielded ops a.tmps) = b := by
  unfold wantS at hw
  unfold Region.wanted
  cases hg : o.guard with
  | none => rw [hg] at hw; simpa using hw
  | some g =>
    obtain ⟨j, want⟩ := g
    rw [hg] at hw
    simp only [] at hw ⊢
    unfold yielded
    cases ht : (ops[j]?).bind (·.dst) with
    | none => rw [ht] at hw; simp only [Option.some.injEq] at hw; subst hw; rfl
    | some t =>
      rw [ht] at hw
      simp only [] at hw
      cases hb : Nat.blt t C.nt with
      | false => rw [hb] at hw; cases hw
      | true =>
        rw [hb] at hw
        simp only [cond_true] at hw
        have hlt : t < C.nt := Nat.le_of_ble_eq_true hb
        have hget : a.tmps[t]? = some (a.eval (.tmp t)) := by
          have hlt' : t < a.tmps.size := by rw [h.size]; exact hlt
          simp [Act.eval, hlt']
        rcases h.slots t hlt with hs | hs
        · rw [hs] at hw; cases hw
        simp only [Option.bind_some, hget, hs]
        split at hw
        · rename_i b' hsl
          simp only [Option.some.injEq] at hw
          subst hw
          rw [hsl]
          simp only [Sv.den, denL, Av.val]
          cases b' <;> cases want <;> rfl
        · rename_i hsl
          simp only [Option.some.injEq] at hw
          subst hw
          rw [hsl]
          rfl
        · cases hw

theorem raw_sound (OK : CtxOK P C w0) (h : Rep C.nt w0 ρ σ a w) {orc : Nat → Nat} {ops : Array Oper} {i : Nat} {o : Oper} (hi : ops[i]? = some o) {r : Prop × Sv × Eff} (hr : raw C orc ops o σ = some r) (hc : r.1)
    {K' : Act → World → Prop} {Q : Exit → Act → World → Prop} (hK : ∀ ρ' a' w', Rep C.nt w0 ρ' (app o r σ) a' w' → K' a' w') : wpOp P ops Q i K' a w := by
  unfold wpOp
  simp only [hi]
  unfold raw at hr
  cases hd : dstB C.nt o.dst with
  | false => rw [hd] at hr; cases hr
  | true =>
    rw [hd] at hr
    simp only [cond_true] at hr
    have hdst : dstIn C.nt o.dst := by
      cases hx : o.dst with
      | none => trivial
      | some d => rw [hx] at hd; exact Nat.le_of_ble_eq_true hd
    split at hr
    · rename_i hw
      rw [wanted_of h hw]
      simp only [if_true]
      exact .inl (res_sound OK h hr hc hdst hK)
    · rename_i hw
      rw [wanted_of h hw]
      simp only [Option.some.injEq] at hr
      subst hr
      simp only [Bool.false_eq_true, if_false]
      exact hK ρ _ _ (h.put (v := .tup []) hdst all0)
    · cases hr

/-- the operations of a statement, one behind the other -/
def runL (C : Ctx) (orc : Nat → Nat) (ops : Array Oper) : List Oper → Ms → Option (List Prop × Ms)
  | [], σ => some ([], σ)
  | o :: l, σ => (raw C orc ops o σ).bind fun r => (runL C orc ops l (app o r σ)).map fun q => (r.1 :: q.1, q.2)

def conj : List Prop → Prop
  | [] => True
  | p :: l => p ∧ conj l
theorem conj_append : ∀ (l m : List Prop), conj (l ++ m) ↔ conj l ∧ conj m
  | [], m => by simp [conj]
  | p :: l, m => by simp [conj, conj_append l m, and_assoc]

theorem runL_sound (OK : CtxOK P C w0) {orc : Nat → Nat} {ops : Array Oper} {Q : Exit → Act → World → Prop} : ∀ (l : List Oper) (k : Nat) (σ : Ms) (ρ : Env) (a : Act) (w : World), (∀ j, l[j]? = ops[k + j]?) →
    ∀ cs σ', runL C orc ops l σ = some (cs, σ') → conj cs → Rep C.nt w0 ρ σ a w → (∀ ρ' a' w', Rep C.nt w0 ρ' σ' a' w' → Q .normal a' w') →
    wpOps P ops Q ((List.range l.length).map (k + ·)) a w
  | [], k, σ, ρ, a, w, _, cs, σ', hr, _, h, hQ => by
    simp only [runL, Option.some.injEq, Prod.mk.injEq] at hr
    obtain ⟨_, rfl⟩ := hr
    exact hQ _ _ _ h
  | o :: l, k, σ, ρ, a, w, hl, cs, σ', hr, hc, h, hQ => by
    simp only [runL] at hr
    obtain ⟨r, h1, hr⟩ := Option.bind_eq_some_iff.1 hr
    obtain ⟨q, h2, h3⟩ := Option.map_eq_some_iff.1 hr
    simp only [Prod.mk.injEq] at h3
    obtain ⟨rfl, rfl⟩ := h3
    have h0 : ops[k]? = some o := by simpa using (hl 0).symm
    have hlist : (List.range (o :: l).length).map (k + ·) = k :: (List.range l.length).map (k + 1 + ·) := by
      rw [List.length_cons, List.range_succ_eq_map]
      simp only [List.map_cons, Nat.add_zero, List.map_map, List.cons.injEq, true_and]
      congr 1
      funext x
      simp only [Function.comp_apply]
      omega
    rw [hlist, wpOps_cons]
    refine raw_sound OK h h0 h1 hc.1 fun ρ' a' w' h' => ?_
    exact runL_sound OK l (k + 1) _ ρ' a' w' (fun j => by have := hl (j + 1); simpa [Nat.add_assoc, Nat.add_comm 1 j] using this) q.1 q.2 h2 hc.2 h' hQ

theorem region_sound (OK : CtxOK P C w0) {orc : Nat → Nat} {ops : Array Oper} {id : Nat} {Q : Exit → Act → World → Prop} {cs : List Prop} (hr : runL C orc ops ops.toList σ = some (cs, σ')) (hc : conj cs)
    (h : Rep C.nt w0 ρ σ a w) (hQ : ∀ ρ' a' w', Rep C.nt w0 ρ' σ' a' w' → Q .normal a' w') : (Code.region id ops false).wp P Q a w := by
  refine wp_region ?_
  have := runL_sound OK (Q := Q) ops.toList 0 σ ρ a w (fun j => by simp) cs σ' hr hc h hQ
  simpa using this

/-- every order comes to an end that fits -/
def absAny (C : Ctx) (orc : Nat → Nat) (md : Region.Mode) (ops : Array Oper) (R : Ms → Prop) : Nat → Array Bool → Ms → Prop
  | 0, listed, σ => Region.ready md ops listed = [] ∧ R σ
  | f + 1, listed, σ => (Region.ready md ops listed = [] → R σ) ∧
    ∀ i ∈ Region.ready md ops listed, ∃ o r, ops[i]? = some o ∧ raw C orc ops o σ = some r ∧ r.1 ∧ absAny C orc md ops R f (listed.setIfInBounds i true) (app o r σ)

theorem wpAny_of_abs (OK : CtxOK P C w0) {orc : Nat → Nat} {md : Region.Mode} {ops : Array Oper} {R : Ms → Prop} {Q : Exit → Act → World → Prop} (hQ : ∀ σ ρ a w, R σ → Rep C.nt w0 ρ σ a w → Q .normal a w) :
    ∀ (f : Nat) (listed : Array Bool) (σ : Ms) (ρ : Env) (a : Act) (w : World), absAny C orc md ops R f listed σ → Rep C.nt w0 ρ σ a w → wpAny P md ops Q f listed a w
  | 0, listed, σ, ρ, a, w, h, hr => ⟨h.1, hQ _ _ _ _ h.2 hr⟩
  | f + 1, listed, σ, ρ, a, w, h, hr => by
    refine ⟨fun h0 => hQ _ _ _ _ (h.1 h0) hr, fun i hi => ?_⟩
    obtain ⟨o, r, ho, hraw, hc, hrest⟩ := h.2 i hi
    exact raw_sound OK hr ho hraw hc fun ρ' a' w' h' => wpAny_of_abs OK hQ f _ _ ρ' a' w' hrest h'

/-- what such a slot may be given -/
def Gives (s0 : Nat → Sv) (o : Oper) : Prop := ∀ d, o.dst = some d → s0 d = .any ∨ (s0 d = .one [.ptr d 0] ∧ ∃ t, o.op = .alloc t)

theorem raw_alloc {orc : Nat → Nat} {ops : Array Oper} {o : Oper} {r : Prop × Sv × Eff} (hr : raw C orc ops o σ = some r) {t d : Nat} (ho : o.op = .alloc t) (hd : o.dst = some d) : r.2.1 = .one [.ptr d 0] ∨ namesV [r.2.1] = [] := by
  unfold raw at hr
  cases hb : dstB C.nt o.dst with
  | false => rw [hb] at hr; cases hr
  | true =>
    rw [hb] at hr
    simp only [cond_true] at hr
    split at hr
    · obtain ⟨vs, h1, h2, _⟩ := res_spec hr
      rw [ho] at h1 h2
      simp only [opsOf, allVals, Option.some.injEq] at h1
      subst h1
      rw [hd] at h2
      simp only [opV, Option.bind_some] at h2
      cases hf : (!σ.dom d) with
      | false => rw [hf] at h2; cases h2
      | true =>
        rw [hf] at h2
        obtain ⟨l, _, h3⟩ := Option.map_eq_some_iff.1 ((cond_true _ _).symm.trans h2)
        subst h3
        exact .inl rfl
    · cases hr; exact .inr rfl
    · cases hr

theorem keeps_app {s0 : Nat → Sv} {orc : Nat → Nat} {ops : Array Oper} {o : Oper} {r : Prop × Sv × Eff} (h : Keeps s0 σ) (hd : Gives s0 o) (hr : raw C orc ops o σ = some r) : Keeps s0 (app o r σ) := by
  intro t
  by_cases ht : s0 t = .any
  · exact .inl ht
  · right
    have same : (app o r σ).slots t = σ.slots t → _ := fun e => (by rw [e]; exact (h t).resolve_left ht : (app o r σ).slots t = s0 t ∨ namesV [(app o r σ).slots t] = [])
    cases ho : o.dst with
    | none =>
      refine same ?_
      show (putS o.dst r.2.1 (r.2.2.app σ)).slots t = σ.slots t
      simp only [ho, putS, Eff.app_slots]
    | some d =>
      by_cases e : t = d
      · subst e
        rcases hd t ho with h1 | ⟨h1, ty, h2⟩
        · exact absurd h1 ht
        · have e2 : (app o r σ).slots t = r.2.1 := by
            show (putS o.dst r.2.1 (r.2.2.app σ)).slots t = r.2.1
            simp only [ho, putS, upd_same]
          rw [e2, h1]
          exact raw_alloc hr h2 ho
      · refine same ?_
        show (putS o.dst r.2.1 (r.2.2.app σ)).slots t = σ.slots t
        simp only [ho, putS]
        rw [upd_ne _ _ e, Eff.app_slots]

/-- an operation that may come now, and hangs together with none of those that needn't wait for it, may come first -/
theorem absAny_first (D : CtxD C) {s0 : Nat → Sv} {ops : Array Oper} (hfz : ∀ (j : Nat) oj, ops[j]? = some oj → Gives s0 oj) {orc : Nat → Nat} {md : Region.Mode} {R : Ms → Prop} {i : Nat} {oi : Oper} {r : Prop × Sv × Eff} (hi : ops[i]? = some oi) :
    ∀ (f : Nat) (listed : Array Bool) (σ : Ms), Wf σ → Keeps s0 σ →
      (∀ (j : Nat) (oj : Oper), ops[j]? = some oj → j ≠ i → listed.getD j true = false → (∀ e ∈ oj.after, Region.binds md e = true → e.on ≠ i) → indepB C s0 ops oi oj = true) →
      i ∈ Region.ready md ops listed → raw C orc ops oi σ = some r → r.1 →
      absAny C orc md ops R f (listed.setIfInBounds i true) (app oi r σ) → absAny C orc md ops R (f + 1) listed σ := by
  intro f
  induction f with
  | zero =>
    intro listed σ hwf _ _ hr hraw hc H
    refine ⟨fun h => (by rw [h] at hr; cases hr), fun j hj => ?_⟩
    by_cases hji : j = i
    · subst hji; exact ⟨oi, r, hi, hraw, hc, H⟩
    · have := ready_mono hj hji
      rw [H.1] at this
      cases this
  | succ f ih =>
    intro listed σ hwf hkp hfree hr hraw hc H
    refine ⟨fun h => (by rw [h] at hr; cases hr), fun j hj => ?_⟩
    by_cases hji : j = i
    · subst hji; exact ⟨oi, r, hi, hraw, hc, H⟩
    · obtain ⟨oj, q, hoj, hrawj, hcj, hrest⟩ := H.2 j (ready_mono hj hji)
      obtain ⟨hjun, oj', hoj', hall⟩ := mem_ready.1 hj
      have : oj' = oj := Option.some.inj (hoj'.symm.trans hoj)
      subst this
      have hnot : ∀ e ∈ oj'.after, Region.binds md e = true → e.on ≠ i := fun e he hb heq => by
        have h1 := hall e he hb
        have h0 := (mem_ready.1 hr).1
        rw [heq] at h1
        rcases Nat.lt_or_ge i listed.size with h' | h'
        · simp [h'] at h0 h1; rw [h0] at h1; cases h1
        · simp [Array.getElem?_eq_none h'] at h1
      have hind := hfree j oj' hoj hji hjun hnot
      have hq : raw C orc ops oj' σ = some q := by rw [← raw_frame D hwf hkp hind hraw hc]; exact hrawj
      have hr2 : raw C orc ops oi (app oj' q σ) = some r := by rw [raw_frame D hwf hkp (indep_symm hind) hq hcj]; exact hraw
      have hcomm := app_comm D hwf hkp hind hraw hq hc hcj
      refine ⟨oj', q, hoj, hq, hcj, ?_⟩
      have hwf' : Wf (app oj' q σ) := by
        obtain ⟨h1, h2, _⟩ := raw_in D hwf hq hcj
        exact app_wf hwf h1 h2
      refine ih (listed.setIfInBounds j true) _ hwf' (keeps_app hkp (hfz j oj' hoj) hq) ?_ (ready_mono hr (Ne.symm hji)) hr2 hc ?_
      · intro k ok hk hki hun hno
        refine hfree k ok hk hki ?_ hno
        by_cases hjk : j = k
        · subst hjk; exact hjun
        · rw [getD_set_ne true hjk] at hun; exact hun
      · rw [Array.setIfInBounds_comm _ _ hji, ← hcomm]
        exact hrest

/-- the order of the text will do: what the evaluation looks at -/
def freeI (C : Ctx) (s0 : Nat → Sv) (ops : Array Oper) (listed : Array Bool) (i : Nat) : Bool :=
  match ops[i]? with
  | none => false
  | some oi => (List.range ops.size).all fun j => j == i || listed.getD j true || match ops[j]? with
      | some oj => oj.after.any (fun e => Region.binds .any e && e.on == i) || indepB C s0 ops oi oj
      | none => true

def lexI (C : Ctx) (s0 : Nat → Sv) (ops : Array Oper) : Nat → Nat → Array Bool → Bool
  | 0, _, listed => (Region.ready .any ops listed).isEmpty
  | f + 1, k, listed => (Region.ready .any ops listed).contains k && freeI C s0 ops listed k && lexI C s0 ops f (k + 1) (listed.setIfInBounds k true)

theorem freeI_spec {s0 : Nat → Sv} {ops : Array Oper} {i : Nat} {oi : Oper} {listed : Array Bool} (hi : ops[i]? = some oi) (h : freeI C s0 ops listed i = true) (j : Nat) (oj : Oper)
    (hj : ops[j]? = some oj) (hne : j ≠ i) (hun : listed.getD j true = false) (hno : ∀ e ∈ oj.after, Region.binds .any e = true → e.on ≠ i) : indepB C s0 ops oi oj = true := by
  simp only [freeI, hi, List.all_eq_true, List.mem_range] at h
  have h1 := h j (Array.getElem?_eq_some_iff.1 hj).1
  simp only [hj, Bool.or_eq_true, beq_iff_eq, hne, false_or, hun, Bool.false_eq_true] at h1
  rcases h1 with h1 | h1
  · obtain ⟨e, he, hb⟩ := Array.any_eq_true'.1 h1
    simp only [Bool.and_eq_true, beq_iff_eq] at hb
    exact absurd hb.2 (hno e he hb.1)
  · exact h1

theorem abs_of_lex (D : CtxD C) {s0 : Nat → Sv} {ops : Array Oper} (hfz : ∀ (j : Nat) oj, ops[j]? = some oj → Gives s0 oj) {orc : Nat → Nat} : ∀ (l : List Oper) (k : Nat) (listed : Array Bool) (σ : Ms), Wf σ → Keeps s0 σ → (∀ j, l[j]? = ops[k + j]?) → lexI C s0 ops l.length k listed = true →
    ∀ cs σ', runL C orc ops l σ = some (cs, σ') → conj cs → absAny C orc .any ops (fun s => s = σ') l.length listed σ
  | [], k, listed, σ, hwf, hkp, hl, hB, cs, σ', hr, _ => by
    simp only [runL, Option.some.injEq, Prod.mk.injEq] at hr
    obtain ⟨_, rfl⟩ := hr
    exact ⟨by simpa [lexI] using hB, rfl⟩
  | o :: l, k, listed, σ, hwf, hkp, hl, hB, cs, σ', hr, hc => by
    simp only [runL] at hr
    obtain ⟨r, h1, hr⟩ := Option.bind_eq_some_iff.1 hr
    obtain ⟨q, h2, h3⟩ := Option.map_eq_some_iff.1 hr
    simp only [Prod.mk.injEq] at h3
    obtain ⟨rfl, rfl⟩ := h3
    have h0 : ops[k]? = some o := by simpa using (hl 0).symm
    simp only [List.length_cons, lexI, Bool.and_eq_true] at hB
    obtain ⟨⟨hrd, hf⟩, hB'⟩ := hB
    have hwf' : Wf (app o r σ) := by
      obtain ⟨h4, h5, _⟩ := raw_in D hwf h1 hc.1
      exact app_wf hwf h4 h5
    exact absAny_first D hfz h0 l.length listed σ hwf hkp (freeI_spec h0 hf) (by simpa using hrd) h1 hc.1
      (abs_of_lex D hfz l (k + 1) _ _ hwf' (keeps_app hkp (hfz k o h0) h1) (fun j => by have := hl (j + 1); simpa [Nat.add_assoc, Nat.add_comm 1 j] using this) hB' q.1 q.2 h2 hc.2)

def isDst (ops : List Oper) (t : Nat) : Bool := ops.any fun o => match o.dst with
  | some d => Nat.beq d t
  | none => false
def isAlloc : Op → Bool
  | .alloc _ => true
  | _ => false
/-- every operation that gives this slot a value makes a variable -/
def allAlloc (ops : List Oper) (t : Nat) : Bool := ops.all fun o => match o.dst with
  | some d => !Nat.beq d t || isAlloc o.op
  | none => true
def isPtrOf (t : Nat) : Sv → Bool
  | .one [.ptr id off] => Nat.beq id t && Nat.beq off 0
  | .any => true
  | _ => false
/-- the slots that a statement leaves as they are; those of the variables that it makes -/
def frozen (ops : List Oper) (s : Nat → Sv) : Nat → Sv := fun t => bif isDst ops t then (bif allAlloc ops t && isPtrOf t (s t) then .one [.ptr t 0] else .any) else s t

theorem frozen_keeps (ops : List Oper) (σ : Ms) : Keeps (frozen ops σ.slots) σ := by
  intro t
  unfold frozen
  cases isDst ops t with
  | true =>
    cases hb : (allAlloc ops t && isPtrOf t (σ.slots t)) with
    | false => exact .inl rfl
    | true =>
      right
      have h1 := (Bool.and_eq_true _ _ ▸ hb : _ ∧ _).2
      unfold isPtrOf at h1
      split at h1
      · rename_i id off hs
        have h2 := (Bool.and_eq_true _ _ ▸ h1 : _ ∧ _)
        have e1 := Nat.eq_of_beq_eq_true h2.1
        have e2 := Nat.eq_of_beq_eq_true h2.2
        subst e1 e2
        exact .inl hs
      · rename_i hs
        rw [hs]; exact .inr rfl
      · cases h1
  | false => exact .inr (.inl rfl)
theorem frozen_dst {ops : Array Oper} {s : Nat → Sv} (j : Nat) (oj : Oper) (h : ops[j]? = some oj) : Gives (frozen ops.toList s) oj := by
  intro d hd
  have hmem : oj ∈ ops.toList := by
    have := Array.mem_of_getElem? h
    simpa using this
  have : isDst ops.toList d = true := by
    unfold isDst
    rw [List.any_eq_true]
    refine ⟨oj, hmem, ?_⟩
    rw [hd]; simp
  unfold frozen
  rw [this]
  simp only [cond_true]
  cases hb : (allAlloc ops.toList d && isPtrOf d (s d)) with
  | false => exact .inl rfl
  | true =>
    right
    refine ⟨rfl, ?_⟩
    have h1 := (Bool.and_eq_true _ _ ▸ hb : _ ∧ _).1
    unfold allAlloc at h1
    have h2 := List.all_eq_true.1 h1 oj hmem
    rw [hd] at h2
    simp only [Nat.beq_refl, Bool.not_true, Bool.false_or] at h2
    unfold isAlloc at h2
    split at h2
    · exact ⟨_, by assumption⟩
    · cases h2

theorem region_draw_sound (OK : CtxOK P C w0) (hm : P.follows .mixedOrders = true) {orc : Nat → Nat} {ops : Array Oper} {id : Nat} {Q : Exit → Act → World → Prop} {cs : List Prop}
    (hB : lexI C (frozen ops.toList σ.slots) ops ops.size 0 (Array.replicate ops.size false) = true) (hr : runL C orc ops ops.toList σ = some (cs, σ')) (hc : conj cs)
    (h : Rep C.nt w0 ρ σ a w) (hQ : ∀ ρ' a' w', Rep C.nt w0 ρ' σ' a' w' → Q .normal a' w') : (Code.region id ops true).wp P Q a w := by
  refine wp_region_any hm ?_
  have habs := abs_of_lex OK.toCtxD frozen_dst ops.toList 0 (Array.replicate ops.size false) σ h.wf (frozen_keeps ops.toList σ) (fun j => by simp) (by simpa using hB) cs σ' hr hc
  have := wpAny_of_abs OK (Q := Q) (w0 := w0) (fun s ρ a w hs hrep => by subst hs; exact hQ _ _ _ hrep) _ _ σ ρ a _ habs h.drew
  simpa using this

end M
end Go.Proofs.YtmjdmhelmgcanaaDoor

/- A machine that evaluates code: code, loops, functions. -/
namespace Go.Proofs.YtmjdmhelmgcanaaDoor
namespace M
open Go.RowKit
variable {P : Program} {C : Ctx} {w0 : Base} {w w' : World} {ρ ρ' : Env} {σ σ' : Ms} {a : Act}

inductive Out where
  | norm
  | exit (id : Nat)
  | ret

def Out.to : Out → Exit
  | .norm => .normal
  | .exit id => .exit id
  | .ret => .ret

def Out.inBlock (id : Nat) : Out → Out
  | .exit i => bif Nat.beq i id then .norm else .exit i
  | o => o

/-- what is still to be done: code; the end of a block; so many rounds more -/
inductive Fr where
  | code (c : Code)
  | endb (id : Nat)
  | more (c : Code) (n : Nat)

def wpK (P : Program) (Q : Exit → Act → World → Prop) : List Fr → Exit → Act → World → Prop
  | [] => Q
  | .code c :: k => Exit.then (c.wp P (wpK P Q k)) (wpK P Q k)
  | .endb id :: k => Exit.inBlock id (wpK P Q k)
  | .more c n :: k => Exit.then (Code.rounds P c (wpK P Q k) n) (wpK P Q k)

def isIn (id : Nat) : List Nat → Bool
  | [] => false
  | i :: l => Nat.beq i id || isIn id l

/-- the machine runs, up to a block among these -/
def runK (C : Ctx) (orc : Nat → Nat) (stops : List Nat) : Nat → List Fr → Out → Ms → Option (List Prop × List Fr × Out × Ms)
  | 0, _, _, _ => none
  | _ + 1, [], o, σ => some ([], [], o, σ)
  | f + 1, .endb id :: k, o, σ => runK C orc stops f k (o.inBlock id) σ
  | f + 1, .more c n :: k, o, σ => (match o with
      | .norm => (match n with
        | 0 => none
        | n + 1 => runK C orc stops f (.code c :: .more c n :: k) .norm σ)
      | o => runK C orc stops f k o σ)
  | f + 1, .code c :: k, o, σ => (match o with
      | .norm => (match c with
        | .skip => runK C orc stops f k .norm σ
        | .region _ ops draw => bif draw && !lexI C (frozen ops.toList σ.slots) ops ops.size 0 (Array.replicate ops.size false) then none else (runL C orc ops ops.toList σ).bind fun q => (runK C orc stops f k .norm q.2).map fun r => (q.1 ++ r.1, r.2)
        | .seq x y => runK C orc stops f (.code x :: .code y :: k) .norm σ
        | .cond c x y => (valsOf C.nt σ.slots c).bind fun v => (boolS v).bind fun b => runK C orc stops f (.code (bif b then x else y) :: k) .norm σ
        | .block id x => bif isIn id stops then some ([], .code (.block id x) :: k, .norm, σ) else runK C orc stops f (.code x :: .endb id :: k) .norm σ
        | .loop x => runK C orc stops f (.code x :: .more x 63 :: k) .norm σ
        | .exit id => runK C orc stops f k (.exit id) σ
        | .ret => runK C orc stops f k .ret σ
        | _ => none)
      | o => runK C orc stops f k o σ)

theorem wpK_code_other {Q : Exit → Act → World → Prop} {c : Code} {k : List Fr} {o : Out} (h : o ≠ .norm) (hw : wpK P Q k o.to a w) : wpK P Q (.code c :: k) o.to a w := by
  cases o with
  | norm => exact absurd rfl h
  | exit id => exact hw
  | ret => exact hw

theorem wpK_endb {Q : Exit → Act → World → Prop} {id : Nat} {k : List Fr} {o : Out} (hw : wpK P Q k (o.inBlock id).to a w) : wpK P Q (.endb id :: k) o.to a w := by
  cases o with
  | norm => exact hw
  | ret => exact hw
  | exit i =>
    show Exit.inBlock id (wpK P Q k) (.exit i) a w
    cases hb : Nat.beq i id with
    | true =>
      have hi : i = id := Nat.eq_of_beq_eq_true hb
      simp only [Out.inBlock, hb, cond_true, Out.to] at hw
      simp only [Exit.inBlock, hi, if_true]
      exact hw
    | false =>
      have hi : i ≠ id := fun e => by subst e; simp at hb
      simp only [Out.inBlock, hb, cond_false, Out.to] at hw
      simp only [Exit.inBlock, hi, if_false]
      exact hw

theorem runK_sound (OK : CtxOK P C w0) (hm : P.follows .mixedOrders = true) {orc : Nat → Nat} {stops : List Nat} {Q : Exit → Act → World → Prop} : ∀ (f : Nat) (k : List Fr) (o : Out) (σ : Ms) (ρ : Env) (a : Act) (w : World) (cs : List Prop) (k' : List Fr) (o' : Out) (σ' : Ms),
    runK C orc stops f k o σ = some (cs, k', o', σ') → conj cs → Rep C.nt w0 ρ σ a w → (∀ ρ a w, Rep C.nt w0 ρ σ' a w → wpK P Q k' o'.to a w) → wpK P Q k o.to a w := by
  intro f
  induction f with
  | zero => intro k o σ ρ a w cs k' o' σ' h; cases h
  | succ f ih =>
    intro k o σ ρ a w cs k' o' σ' h hc hr hQ
    cases k with
    | nil =>
      simp only [runK, Option.some.injEq, Prod.mk.injEq] at h
      obtain ⟨_, rfl, rfl, rfl⟩ := h
      exact hQ ρ a w hr
    | cons x k =>
      cases x with
      | endb id =>
        simp only [runK] at h
        exact wpK_endb (ih _ _ _ ρ a w _ _ _ _ h hc hr hQ)
      | more c n =>
        simp only [runK] at h
        cases o with
        | norm =>
          cases n with
          | zero => cases h
          | succ n => exact ih (.code c :: .more c n :: k) .norm σ ρ a w _ _ _ _ h hc hr hQ
        | exit id => exact ih k (.exit id) σ ρ a w _ _ _ _ h hc hr hQ
        | ret => exact ih k .ret σ ρ a w _ _ _ _ h hc hr hQ
      | code c =>
        simp only [runK] at h
        cases o with
        | exit id => exact ih k (.exit id) σ ρ a w _ _ _ _ h hc hr hQ
        | ret => exact ih k .ret σ ρ a w _ _ _ _ h hc hr hQ
        | norm =>
          show c.wp P (wpK P Q k) a w
          cases c with
          | skip => exact wp_skip (ih k .norm σ ρ a w _ _ _ _ h hc hr hQ)
          | region id ops draw =>
            simp only at h
            cases hB : (draw && !lexI C (frozen ops.toList σ.slots) ops ops.size 0 (Array.replicate ops.size false)) with
            | true => rw [hB] at h; cases h
            | false =>
              rw [hB] at h
              obtain ⟨⟨cs1, σ1⟩, h1, h2⟩ := Option.bind_eq_some_iff.1 ((cond_false _ _).symm.trans h)
              obtain ⟨⟨cs2, k2, o2, σ2⟩, h3, h4⟩ := Option.map_eq_some_iff.1 h2
              simp only [Prod.mk.injEq] at h4
              obtain ⟨rfl, rfl, rfl, rfl⟩ := h4
              rw [conj_append] at hc
              have hn : ∀ ρ' a' w', Rep C.nt w0 ρ' σ1 a' w' → wpK P Q k .normal a' w' := fun ρ' a' w' h' => ih k .norm σ1 ρ' a' w' cs2 k2 o2 σ2 h3 hc.2 h' hQ
              cases draw with
              | false => exact region_sound OK h1 hc.1 hr hn
              | true =>
                have hB' : lexI C (frozen ops.toList σ.slots) ops ops.size 0 (Array.replicate ops.size false) = true := by simpa using hB
                exact region_draw_sound OK hm hB' h1 hc.1 hr hn
          | seq x y => exact wp_seq (ih (.code x :: .code y :: k) .norm σ ρ a w _ _ _ _ h hc hr hQ)
          | cond c x y =>
            obtain ⟨v, h1, h⟩ := Option.bind_eq_some_iff.1 h
            obtain ⟨b, h2, h⟩ := Option.bind_eq_some_iff.1 h
            have e1 := valsOf_eval hr h1
            rw [boolS_spec h2] at e1
            have e1' : a.eval c = .bool b := e1
            have := ih (.code (bif b then x else y) :: k) .norm σ ρ a w _ _ _ _ h hc hr hQ
            cases b with
            | true => exact wp_cond_true e1' this
            | false => exact wp_cond_false e1' this
          | block id x =>
            simp only at h
            cases hs : isIn id stops with
            | true =>
              rw [hs] at h
              cases h
              exact hQ ρ a w hr
            | false =>
              rw [hs] at h
              exact wp_block (ih (.code x :: .endb id :: k) .norm σ ρ a w _ _ _ _ ((cond_false _ _).symm.trans h) hc hr hQ)
          | loop x => exact wp_loop_rounds 64 (ih (.code x :: .more x 63 :: k) .norm σ ρ a w _ _ _ _ h hc hr hQ)
          | exit id => exact wp_exit (ih k (.exit id) σ ρ a w _ _ _ _ h hc hr hQ)
          | ret => exact wp_ret (ih k .ret σ ρ a w _ _ _ _ h hc hr hQ)
          | _ => cases h

/-- from a state, whatever happens, one of these is come to -/
def Goes (P : Program) (nt : Nat) (w0 : Base) (k : List Fr) (o : Out) (σ : Ms) (Z : List Fr → Out → Ms → Prop) : Prop :=
  ∀ Q : Exit → Act → World → Prop, (∀ k' o' σ', Z k' o' σ' → ∀ ρ a w, Rep nt w0 ρ σ' a w → wpK P Q k' o'.to a w) → ∀ ρ a w, Rep nt w0 ρ σ a w → wpK P Q k o.to a w

theorem Goes.bind {nt : Nat} {k : List Fr} {o : Out} {Z Z' : List Fr → Out → Ms → Prop} (h : Goes P nt w0 k o σ Z) (h' : ∀ k' o' σ', Z k' o' σ' → Goes P nt w0 k' o' σ' Z') : Goes P nt w0 k o σ Z' :=
  fun Q hQ => h Q fun k' o' σ' hz => h' k' o' σ' hz Q hQ
theorem Goes.mono {nt : Nat} {k : List Fr} {o : Out} {Z Z' : List Fr → Out → Ms → Prop} (h : Goes P nt w0 k o σ Z) (h' : ∀ k' o' σ', Z k' o' σ' → Z' k' o' σ') : Goes P nt w0 k o σ Z' :=
  fun Q hQ => h Q fun k' o' σ' hz => hQ k' o' σ' (h' _ _ _ hz)

/-! ## States by lists -/

def lookS : List (Nat × Sv) → Nat → Sv
  | [], _ => .any
  | (i, v) :: l, j => bif Nat.beq i j then v else lookS l j
def lookH : List (Nat × Bk) → Nat → Option Bk
  | [], _ => none
  | (i, v) :: l, j => bif Nat.beq i j then some v else lookH l j

def kn (S : List (Nat × Sv)) (H : List (Nat × Bk)) : Ms := { slots := lookS S, heap := lookH H, dom := fun i => Nat.ble 1000 i || (lookH H i).isSome }

def closedA (H : List (Nat × Bk)) (a : Av) : Bool :=
  match a.name with
  | some id => (lookH H id).isSome
  | none => true
def closedV (H : List (Nat × Bk)) : Sv → Bool
  | .one l => l.all (closedA H)
  | .tup l => l.all fun m => m.all (closedA H)
  | .any => true
def closedK (H : List (Nat × Bk)) : Bk → Bool
  | .var l _ => l.all (closedA H)
  | .arr l _ => l.all (closedA H)
  | _ => true
def closedB (nt : Nat) (S : List (Nat × Sv)) (H : List (Nat × Bk)) : Bool :=
  S.all (fun p => Nat.blt p.1 nt && closedV H p.2) && H.all (fun p => closedK H p.2)

theorem lookS_mem : ∀ {S : List (Nat × Sv)} {i : Nat}, lookS S i = .any ∨ (i, lookS S i) ∈ S
  | [], i => .inl rfl
  | (j, v) :: l, i => by
    simp only [lookS]
    cases hb : Nat.beq j i with
    | true =>
      have : j = i := Nat.eq_of_beq_eq_true hb
      subst this
      exact .inr List.mem_cons_self
    | false =>
      rcases lookS_mem (S := l) (i := i) with h | h
      · exact .inl h
      · exact .inr (List.mem_cons_of_mem _ h)
theorem lookH_mem : ∀ {H : List (Nat × Bk)} {i : Nat} {k : Bk}, lookH H i = some k → (i, k) ∈ H
  | [], i, k, h => by cases h
  | (j, v) :: l, i, k, h => by
    simp only [lookH] at h
    cases hb : Nat.beq j i with
    | true =>
      rw [hb] at h
      cases h
      have : j = i := Nat.eq_of_beq_eq_true hb
      subst this
      exact List.mem_cons_self
    | false =>
      rw [hb] at h
      exact List.mem_cons_of_mem _ (lookH_mem h)

theorem AvOK.kn {S : List (Nat × Sv)} {H : List (Nat × Bk)} {x : Av} (h : AvOK σ x) (hc : closedA H x = true) : AvOK (kn S H) x := by
  unfold AvOK at *
  unfold closedA at hc
  cases hn : x.name with
  | none => rw [hn] at h; exact h
  | some id =>
    rw [hn] at hc
    refine ⟨?_, hc⟩
    show (Nat.ble 1000 id || (lookH H id).isSome) = true
    have hc' : (lookH H id).isSome = true := hc
    rw [hc', Bool.or_true]

/-- a literal is a number -/
def genA : Av → Av
  | .lit k n => .int k n
  | a => a
def genV (b : Bool) : Sv → Sv
  | .one l => bif b then .one (l.map genA) else .one l
  | v => v
def genK (b : Bool) : Bk → Bk
  | .var l t => bif b then .var (l.map genA) t else .var l t
  | k => k

theorem genA_val (ρ : Env) (x : Av) : (genA x).val ρ = x.val ρ ∧ (genA x).cells ρ = x.cells ρ ∧ (genA x).name = x.name ∧ (genA x).agg = x.agg := by cases x <;> exact ⟨rfl, rfl, rfl, rfl⟩
theorem genA_ok {x : Av} (h : AvOK σ x) : AvOK σ (genA x) := by cases x <;> first | exact h | trivial
theorem gen_cells (ρ : Env) (l : List Av) : cellsL ρ (l.map genA) = cellsL ρ l := by
  induction l with
  | nil => rfl
  | cons a l ih => rw [List.map_cons, cellsL_cons, cellsL_cons, ih, (genA_val ρ a).2.1]
theorem gen_den (ρ : Env) (l : List Av) : denL ρ (l.map genA) = denL ρ l := by
  cases l with
  | nil => rfl
  | cons a m =>
    cases m with
    | nil => exact (genA_val ρ a).1
    | cons b m =>
      show Value.agg (cellsL ρ ((a :: b :: m).map genA)).toArray = Value.agg (cellsL ρ (a :: b :: m)).toArray
      rw [gen_cells]
theorem genV_den (ρ : Env) (b : Bool) (v : Sv) : (genV b v).den ρ = v.den ρ := by
  cases v with
  | one l => cases b with
    | true => exact gen_den ρ l
    | false => rfl
  | tup l => rfl
  | any => rfl
theorem genV_ok {b : Bool} {v : Sv} (h : v.all (AvOK σ)) : (genV b v).all (AvOK σ) := by
  cases v with
  | one l => cases b with
    | true =>
      intro x hx
      obtain ⟨y, hy, rfl⟩ := List.mem_map.1 hx
      exact genA_ok (h y hy)
    | false => exact h
  | tup l => exact h
  | any => exact h
theorem genV_any {b : Bool} {v : Sv} (h : v = .any) : genV b v = .any := by subst h; rfl
theorem genK_ok {B : Nat → Prop} {b : Bool} {id : Nat} {k : Bk} (h : BkOK ρ w B id k) : BkOK ρ w B id (genK b k) := by
  cases k with
  | var l t => cases b with
    | true => exact ⟨h.1, by rw [gen_cells]; exact h.2⟩
    | false => exact h
  | arr l t => exact h
  | sit s p => exact h
  | row o e es n f => exact h
  | dead => exact h
theorem genK_named {b : Bool} {k : Bk} (h : k.named (AvOK σ)) : (genK b k).named (AvOK σ) := by
  cases k with
  | var l t => cases b with
    | true =>
      intro x hx
      obtain ⟨y, hy, rfl⟩ := List.mem_map.1 hx
      exact genA_ok (h y hy)
    | false => exact h
  | arr l t => exact h
  | sit s p => trivial
  | row o e es n f => trivial
  | dead => trivial
theorem genK_own {b : Bool} {k : Bk} : (genK b k).own = k.own := by
  cases k with
  | var l t => cases b <;> rfl
  | _ => rfl

/-- less is known: these slots and these names -/
theorem Rep.look {nt : Nat} (h : Rep nt w0 ρ σ a w) {gs gh : List Nat} {S : List (Nat × Sv)} {H : List (Nat × Bk)} (hS : ∀ p ∈ S, genV (isIn p.1 gs) (σ.slots p.1) = p.2) (hH : ∀ p ∈ H, (σ.heap p.1).map (genK (isIn p.1 gh)) = some p.2) (hc : closedB nt S H = true) : Rep nt w0 ρ (kn S H) a w := by
  unfold closedB at hc
  simp only [Bool.and_eq_true, List.all_eq_true] at hc
  obtain ⟨c1, c2⟩ := hc
  have hk0 : ∀ id k, lookH H id = some k → ∃ k0, σ.heap id = some k0 ∧ k = genK (isIn id gh) k0 := fun id k hk => by
    obtain ⟨k0, h1, h2⟩ := Option.map_eq_some_iff.1 (hH _ (lookH_mem hk))
    exact ⟨k0, h1, h2.symm⟩
  refine ⟨h.size, h.defers, fun i hi => ?_, h.below, fun id k hk => ?_, fun i j ki kj hi hj oi oj => ?_, fun i => ?_, fun id k hk => ?_, fun id hid => ?_, fun i hi => ⟨?_, (h.names i hi).2⟩⟩
  rotate_right
  · show (Nat.ble 1000 i || (lookH H i).isSome) = true
    rw [Nat.ble_eq_true_of_le hi, Bool.true_or]
  · rcases lookS_mem (S := S) (i := i) with h1 | h1
    · exact .inl h1
    · have h2 := hS _ h1
      simp only at h2
      rcases h.slots i hi with h3 | h3
      · left
        show lookS S i = .any
        rw [← h2]
        exact genV_any h3
      · right
        show a.eval (.tmp i) = (lookS S i).den ρ
        rw [← h2, genV_den, h3]
  · obtain ⟨k0, h1, rfl⟩ := hk0 id k hk
    exact genK_ok (h.blocks id k0 h1)
  · obtain ⟨k0, h1, rfl⟩ := hk0 i ki hi
    obtain ⟨k1, h2, rfl⟩ := hk0 j kj hj
    rw [genK_own] at oi oj
    exact h.inj i j k0 k1 h1 h2 oi oj
  · rcases lookS_mem (S := S) (i := i) with h1 | h1
    · show (lookS S i).all _
      rw [h1]
      trivial
    · have h2 := (c1 _ h1).2
      have h3 := genV_ok (b := isIn i gs) (h.okS i)
      have h4 := hS _ h1
      simp only at h4
      rw [h4] at h3
      show (lookS S i).all _
      simp only at h2 h3
      generalize lookS S i = v at h2 h3
      cases v with
      | one l => exact fun x hx => (h3 x hx).kn (List.all_eq_true.1 h2 x hx)
      | tup l => exact fun m hm x hx => (h3 m hm x hx).kn (List.all_eq_true.1 (List.all_eq_true.1 h2 m hm) x hx)
      | any => trivial
  · have h2 := c2 _ (lookH_mem hk)
    obtain ⟨k0, h1, e⟩ := hk0 id k hk
    have h3 := genK_named (b := isIn id gh) (h.okH id k0 h1)
    rw [← e] at h3
    cases k with
    | var l t => exact fun x hx => (h3 x hx).kn (List.all_eq_true.1 h2 x hx)
    | arr l t => exact fun x hx => (h3 x hx).kn (List.all_eq_true.1 h2 x hx)
    | _ => trivial
  · show (Nat.ble 1000 id || (lookH H id).isSome) = true
    have : (lookH H id).isSome = true := hid
    rw [this, Bool.or_true]

/-- what is looked at of where the machine has come -/
def see (gs gh is hs : List Nat) (r : Option (List Prop × List Fr × Out × Ms)) : Option (List Prop × List Fr × Out × List Sv × List (Option Bk)) :=
  r.map fun q => (q.1, q.2.1, q.2.2.1, is.map fun i => genV (isIn i gs) (q.2.2.2.slots i), hs.map fun i => (q.2.2.2.heap i).map (genK (isIn i gh)))

theorem map_eq_mem {α β γ : Type} {f : α → γ} {g : β → γ} {l : List (α × β)} (h : (l.map (·.1)).map f = l.map fun p => g p.2) : ∀ p ∈ l, f p.1 = g p.2 := by
  intro p hp
  rw [List.map_map] at h
  exact List.map_inj_left.1 h p hp

/-- the machine runs, and this is known then -/
theorem goes (OK : CtxOK P C w0) (hm : P.follows .mixedOrders = true) {nt : Nat} (hnt : C.nt = nt) {orc : Nat → Nat} {stops gs gh : List Nat} {f : Nat} {k : List Fr} {o : Out} {cs : List Prop} {k' : List Fr} {o' : Out} {S : List (Nat × Sv)} {H : List (Nat × Bk)}
    (h : see gs gh (S.map (·.1)) (H.map (·.1)) (runK C orc stops f k o σ) = some (cs, k', o', S.map (·.2), H.map fun p => some p.2)) (hcl : closedB nt S H = true) (hc : conj cs) :
    Goes P nt w0 k o σ fun k1 o1 σ1 => k1 = k' ∧ o1 = o' ∧ σ1 = kn S H := by
  intro Q hQ ρ a w hr
  subst hnt
  obtain ⟨⟨cs1, k1, o1, σ1⟩, h1, h2⟩ := Option.map_eq_some_iff.1 h
  simp only [Prod.mk.injEq] at h2
  obtain ⟨rfl, rfl, rfl, h3, h4⟩ := h2
  have hS := map_eq_mem (f := fun i => genV (isIn i gs) (σ1.slots i)) (g := id) h3
  have hH := map_eq_mem (f := fun i => (σ1.heap i).map (genK (isIn i gh))) (g := some) h4
  exact runK_sound OK hm f k o σ ρ a w cs1 k1 o1 σ1 h1 hc hr fun ρ a w h' => hQ k1 o1 _ ⟨rfl, rfl, rfl⟩ ρ a w (h'.look hS hH hcl)

/-- a loop -/
theorem goes_loop {nt : Nat} {ι : Type} {id : Nat} {x : Code} {k : List Fr} (st : ι → Ms) (Inv : ι → Prop) (μ : ι → Nat) (E : Out → Ms → Prop)
    (round : ∀ p, Inv p → Goes P nt w0 [.code x] .norm (st p) fun k' o' σ' => k' = [] ∧ ((o' = .norm ∧ ∃ p', Inv p' ∧ μ p' < μ p ∧ σ' = st p') ∨ (o' ≠ .norm ∧ E (o'.inBlock id) σ')))
    {p : ι} (hp : Inv p) : Goes P nt w0 (.code (.block id (.loop x)) :: k) .norm (st p) fun k' o' σ' => k' = k ∧ E o' σ' := by
  intro Q hQ ρ a w hr
  show (Code.block id (.loop x)).wp P (wpK P Q k) a w
  refine wp_block ?_
  have key : ∀ n p, μ p < n → Inv p → ∀ ρ a w, Rep nt w0 ρ (st p) a w → Code.rounds P x (Exit.inBlock id (wpK P Q k)) n a w := by
    intro n
    induction n with
    | zero => intro p h; omega
    | succ n ih =>
      intro p hlt hinv ρ a w hr
      rw [rounds_succ]
      have := round p hinv (Exit.then (Code.rounds P x (Exit.inBlock id (wpK P Q k)) n) (Exit.inBlock id (wpK P Q k))) (fun k' o' σ' hz ρ a w hr' => by
        obtain ⟨rfl, hz⟩ := hz
        rcases hz with ⟨rfl, p', hi', hμ, rfl⟩ | ⟨hne, hE⟩
        · exact ih p' (by omega) hi' ρ a w hr'
        · have h1 := wpK_endb (hQ k _ σ' ⟨rfl, hE⟩ ρ a w hr')
          show Exit.then _ _ o'.to a w
          cases o' with
          | norm => exact absurd rfl hne
          | exit i => exact h1
          | ret => exact h1) ρ a w hr
      exact this
  exact wp_loop_rounds (μ p + 1) (key _ p (Nat.lt_succ_self _) hp ρ a w hr)

end M
end Go.Proofs.YtmjdmhelmgcanaaDoor

/- A machine that evaluates code: what a function hands back; calls. -/
namespace Go.Proofs.YtmjdmhelmgcanaaDoor
namespace M
open Go.RowKit
variable {P : Program} {C : Ctx} {w0 : Base} {w w' : World} {ρ ρ' : Env} {σ σ' : Ms} {a : Act}

def ptrS : Sv → Option (Nat × Nat)
  | .one [.ptr id off] => some (id, off)
  | _ => none
theorem ptrS_spec {v : Sv} {id off : Nat} (h : ptrS v = some (id, off)) : v = .one [.ptr id off] := by
  unfold ptrS at h; split at h <;> simp_all

/-- where the results are -/
def resOf (C : Ctx) (σ : Ms) : ResultVar → Option (List Av)
  | .tmp t => bif Nat.blt t C.nt then oneS (σ.slots t) else none
  | .cell p t => bif Nat.blt p C.nt then (ptrS (σ.slots p)).bind fun q => bif Nat.beq q.2 0 then (σ.heap q.1).bind fun k => (match k with
      | .var l _ => (C.size t).bind fun n => bif Nat.beq n (sizeL l) && (isAggL l == C.agg t) then some l else none
      | _ => none) else none else none

def oneRes (r : ResultVar) (tmps : Array Value) : Sem Value :=
  match r with
  | .tmp t => pure (tmps.getD t undef)
  | .cell a t => do loadVar t (← asAddr (tmps.getD a undef))

theorem oneRes_run (OK : CtxOK P C w0) (h : Rep C.nt w0 ρ σ a w) {r : ResultVar} {l : List Av} (hr : resOf C σ r = some l) : (oneRes r a.tmps).run P w = .ok (denL ρ l) w ∧ ∀ x ∈ l, AvOK σ x := by
  cases r with
  | tmp t =>
    simp only [resOf] at hr
    cases hb : Nat.blt t C.nt with
    | false => rw [hb] at hr; cases hr
    | true =>
      rw [hb] at hr
      have h1 := oneS_spec ((cond_true _ _).symm.trans hr)
      have h2 := h.slots t (Nat.le_of_ble_eq_true hb)
      have h3 := h.okS t
      rw [h1] at h2 h3
      rcases h2 with h2 | h2
      · cases h2
      refine ⟨?_, h3⟩
      have h2' : a.tmps.getD t undef = denL ρ l := h2
      simp only [oneRes, h2']
      rfl
  | cell p t =>
    simp only [resOf] at hr
    cases hb : Nat.blt p C.nt with
    | false => rw [hb] at hr; cases hr
    | true =>
      rw [hb] at hr
      obtain ⟨⟨id, off⟩, h1, hr⟩ := Option.bind_eq_some_iff.1 ((cond_true _ _).symm.trans hr)
      simp only at hr
      cases hoff : Nat.beq off 0 with
      | false => rw [hoff] at hr; cases hr
      | true =>
        rw [hoff] at hr
        obtain rfl : off = 0 := Nat.eq_of_beq_eq_true hoff
        obtain ⟨k, h3, hr⟩ := Option.bind_eq_some_iff.1 ((cond_true _ _).symm.trans hr)
        split at hr
        · rename_i m ty
          obtain ⟨n, h4, hr⟩ := Option.bind_eq_some_iff.1 hr
          cases hg : (Nat.beq n (sizeL m) && (isAggL m == C.agg t)) with
          | false => rw [hg] at hr; cases hr
          | true =>
            rw [hg] at hr
            cases hr
            rw [Bool.and_eq_true] at hg
            have hn : n = sizeL l := Nat.eq_of_beq_eq_true hg.1
            have hg' : isAggL l = C.agg t := by simpa using hg.2
            have h2 := h.slots p (Nat.le_of_ble_eq_true hb)
            rw [ptrS_spec h1] at h2
            rcases h2 with h2 | h2
            · cases h2
            have h2' : a.tmps.getD p undef = .pointer (some ⟨ρ.b id, 0, none⟩) := h2
            obtain ⟨_, hcell⟩ := h.blocks id _ h3
            refine ⟨?_, h.okH id _ h3⟩
            have hload := run_loadVar (P := P) (w := w) (ρ := ρ) (b := ρ.b id) (off := 0) OK h4 hn.symm hg' fun j u hu => by
              rw [Nat.zero_add, cell_of_row w _ _ _ _ _ hcell]
              simpa using hu
            simp only [oneRes, h2']
            simp [asAddr, hload]
        · cases hr

def resAll (C : Ctx) (σ : Ms) : List ResultVar → Option Sv
  | [r] => (resOf C σ r).map .one
  | [r, s] => (resOf C σ r).bind fun x => (resOf C σ s).map fun y => .tup [x, y]
  | _ => none

theorem resAll_run (OK : CtxOK P C w0) (h : Rep C.nt w0 ρ σ a w) {fn : Func} {v : Sv} (hr : resAll C σ fn.results.toList = some v) : (results fn a.tmps).run P w = .ok (v.den ρ) w ∧ v.all (AvOK σ) := by
  unfold resAll at hr
  split at hr
  · rename_i r hl
    obtain ⟨l, h1, rfl⟩ := Option.map_eq_some_iff.1 hr
    obtain ⟨h2, h3⟩ := oneRes_run OK h h1
    have hfn : fn.results = #[r] := by apply Array.ext'; simpa using hl
    refine ⟨?_, h3⟩
    unfold results
    rw [hfn]
    have : (oneRes r a.tmps).run P w = .ok (denL ρ l) w := h2
    cases r <;> simp only [oneRes] at this <;> simp [Sv.den] <;> simpa using this
  · rename_i r s hl
    obtain ⟨x, h1, hr⟩ := Option.bind_eq_some_iff.1 hr
    obtain ⟨y, h1', rfl⟩ := Option.map_eq_some_iff.1 hr
    obtain ⟨h2, h3⟩ := oneRes_run OK h h1
    obtain ⟨h2', h3'⟩ := oneRes_run OK h h1'
    have hfn : fn.results = #[r, s] := by apply Array.ext'; simpa using hl
    refine ⟨?_, ?_⟩
    · have e1 : (oneRes r a.tmps).run P w = .ok (denL ρ x) w := h2
      have e2 : (oneRes s a.tmps).run P w = .ok (denL ρ y) w := h2'
      have : (results fn a.tmps).run P w = (do let u ← oneRes r a.tmps; let v ← oneRes s a.tmps; pure (.tuple #[u, v]) : Sem Value).run P w := by
        unfold results
        rw [hfn]
        cases r <;> cases s <;> simp [oneRes]
      rw [this]
      simp [e1, e2, Sv.den]
    · intro m hm
      simp only [List.mem_cons, List.not_mem_nil, or_false] at hm
      rcases hm with rfl | rfl
      · exact h3
      · exact h3'
  · cases hr

/-- the machine runs to a return -/
def seeR (C : Ctx) (rs : List ResultVar) (hs : List Nat) (r : Option (List Prop × List Fr × Out × Ms)) : Option (List Prop × List Fr × Out × Sv × List (Option Bk)) :=
  r.bind fun q => (resAll C q.2.2.2 rs).map fun v => (q.1, q.2.1, q.2.2.1, v, hs.map q.2.2.2.heap)

/-- a call has come to its end, with this value; these names are known -/
def Fin (C : Ctx) (rs : List ResultVar) (R : Sv → Ms → Prop) (k : List Fr) (o : Out) (σ : Ms) : Prop := k = [] ∧ (o = .norm ∨ o = .ret) ∧ ∃ v, resAll C σ rs = some v ∧ R v σ

theorem goes_ret (OK : CtxOK P C w0) (hm : P.follows .mixedOrders = true) {nt : Nat} (hnt : C.nt = nt) {orc : Nat → Nat} {stops : List Nat} {f : Nat} {k : List Fr} {o : Out} {cs : List Prop} {o' : Out} {rs : List ResultVar} {v : Sv} {H : List (Nat × Bk)}
    (h : seeR C rs (H.map (·.1)) (runK C orc stops f k o σ) = some (cs, [], o', v, H.map fun p => some p.2)) (ho : o' = .norm ∨ o' = .ret) (hc : conj cs) {R : Sv → Ms → Prop} (hR : ∀ σ, (∀ p ∈ H, σ.heap p.1 = some p.2) → R v σ) :
    Goes P nt w0 k o σ (Fin C rs R) := by
  intro Q hQ ρ a w hr
  subst hnt
  obtain ⟨⟨cs1, k1, o1, σ1⟩, h1, h2⟩ := Option.bind_eq_some_iff.1 h
  obtain ⟨v1, h3, h4⟩ := Option.map_eq_some_iff.1 h2
  simp only [Prod.mk.injEq] at h4
  obtain ⟨rfl, rfl, rfl, rfl, h5⟩ := h4
  exact runK_sound OK hm f k o σ ρ a w cs1 [] o1 σ1 h1 hc hr fun ρ a w h' => hQ [] o1 σ1 ⟨rfl, ho, _, h3, hR σ1 (map_eq_mem (f := σ1.heap) (g := some) h5)⟩ ρ a w h'

/-- the arguments' slots -/
def argS : Nat → List Sv → List (Nat × Sv)
  | _, [] => []
  | i, v :: l => (i, v) :: argS (i + 1) l

theorem lookS_argS : ∀ (args : List Sv) (k i : Nat), lookS (argS k args) i = .any ∨ ∃ j, i = k + j ∧ args[j]? = some (lookS (argS k args) i)
  | [], k, i => .inl rfl
  | v :: l, k, i => by
    simp only [argS, lookS]
    cases hb : Nat.beq k i with
    | true => exact .inr ⟨0, (Nat.eq_of_beq_eq_true hb).symm, rfl⟩
    | false =>
      rcases lookS_argS l (k + 1) i with h | ⟨j, h1, h2⟩
      · exact .inl h
      · exact .inr ⟨j + 1, by omega, by simpa using h2⟩

/-- what is handed in -/
structure InOK (w0 : Base) (args : List Sv) (H : List (Nat × Bk)) : Prop where
  argok : ∀ s ∈ args, s.all (AvOK (kn (argS 0 args) H))
  blocks : ∀ id k, lookH H id = some k → BkOK w0.ρ w0.w w0.F id k
  named : ∀ id k, lookH H id = some k → k.named (AvOK (kn (argS 0 args) H))
  inj : ∀ i j ki kj, lookH H i = some ki → lookH H j = some kj → ki.own = true → kj.own = true → w0.ρ.b i = w0.ρ.b j → i = j

theorem calls_of (OK : CtxOK P C w0) {f : FuncId} {fn : Func} {c : Code} (hf : P.funcs[f]? = some fn) (hb : fn.body = some c) (hnt : C.nt = fn.ntmps) {args : List Sv} {H : List (Nat × Bk)} (hlen : args.length ≤ fn.ntmps) (hin : InOK w0 args H)
    {R : Sv → Ms → Prop} (g : Goes P fn.ntmps w0 [.code c] .norm (kn (argS 0 args) H) (Fin C fn.results.toList R)) :
    Calls P f (args.map (Sv.den w0.ρ)).toArray w0.w fun e w' => ∃ v σ' ρ' a', R v σ' ∧ e = .returned (v.den ρ') ∧ Rep fn.ntmps w0 ρ' σ' a' w' ∧ v.all (AvOK σ') := by
  have hrep : Rep fn.ntmps w0 w0.ρ (kn (argS 0 args) H) { tmps := (args.map (Sv.den w0.ρ)).toArray ++ Array.replicate (fn.ntmps - (args.map (Sv.den w0.ρ)).toArray.size) undef, defers := [] } w0.w := by
    refine ⟨?_, rfl, fun i hi => ?_, ⟨rfl, rfl, rfl, Nat.le_refl _, fun _ _ _ => rfl⟩, hin.blocks, hin.inj, fun i => ?_, hin.named, fun id hid => ?_, fun i hi => ⟨?_, rfl, rfl, rfl⟩⟩
    rotate_right
    · show (Nat.ble 1000 i || (lookH H i).isSome) = true
      rw [Nat.ble_eq_true_of_le hi, Bool.true_or]
    · simp only [Array.size_append, List.size_toArray, List.length_map, Array.size_replicate]; omega
    · rcases lookS_argS args 0 i with h | ⟨j, h1, h2⟩
      · exact .inl h
      · right
        rw [Nat.zero_add] at h1
        subst h1
        have hlt : i < args.length := (List.getElem?_eq_some_iff.1 h2).1
        have h3 : args[i] = lookS (argS 0 args) i := (List.getElem?_eq_some_iff.1 h2).2
        show Act.eval _ _ = (lookS (argS 0 args) i).den w0.ρ
        rw [← h3]
        simp [Act.eval, Array.getElem?_append, hlt]
    · rcases lookS_argS args 0 i with h | ⟨j, h1, h2⟩
      · show (lookS (argS 0 args) i).all _
        rw [h]; trivial
      · exact hin.argok _ (List.mem_of_getElem? h2)
    · show (Nat.ble 1000 id || (lookH H id).isSome) = true
      have : (lookH H id).isSome = true := hid
      rw [this, Bool.or_true]
  refine calls_of_wp hf hb ?_
  exact g (bodyPost P fn _) (fun k o σ' hz ρ' a' w' hr' => by
    obtain ⟨rfl, ho, v, hv, hR⟩ := hz
    rw [← hnt] at hr'
    obtain ⟨h1, h2⟩ := resAll_run (P := P) (fn := fn) OK hr' hv
    rw [hnt] at hr'
    rcases ho with rfl | rfl
    · exact ⟨hr'.defers, _, h1, v, σ', ρ', a', hR, rfl, hr', h2⟩
    · exact ⟨hr'.defers, _, h1, v, σ', ρ', a', hR, rfl, hr', h2⟩) w0.ρ _ _ hrep

end M
end Go.Proofs.YtmjdmhelmgcanaaDoor
