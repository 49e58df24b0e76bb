/-
  Am6: operations do what Am5 says.
-/
import Derived.Test.YtkidkceaocgnfaaAm5
set_option linter.all false
namespace Go.Am
section
variable {E : Env} {st : St} {loc : Nat → Nat} {lv : Nat → Prop} {a : Act} {w : World}

def Next' (E : Env) (K : St → Prop) : Act → World → Prop := fun a w => ∃ st, SR E st a w ∧ K st

theorem putK_ok {dst : Option Tmp} {v c : Value} {K : St → Prop} (hs : SRel E st loc a w) (hv : RR (csz w) loc st.live v c) (h : putK E.n dst v K st) : Next' E K (a.put dst c) w := by
  unfold putK at h
  cases dst with
  | none => exact ⟨st, ⟨loc, hs⟩, h⟩
  | some d =>
    simp only at h
    split at h
    · rename_i hd; exact ⟨_, ⟨loc, hs.put hd hv⟩, h⟩
    · exact h.elim

theorem upon_value {o : Oper} {K : Act → World → Prop} {Q : Exit → Act → World → Prop} {c : Value} {w' : World} (h : (execOp a.eval o).run E.P w = .ok (.value c) w') (hk : K (a.put o.dst c) w') : o.wp E.P a w K Q := by
  unfold Oper.wp
  rw [h]
  exact hk
theorem upon_skip {o : Oper} {K : Act → World → Prop} {Q : Exit → Act → World → Prop} {w' : World} (h : (execOp a.eval o).run E.P w = .ok .skip w') (hk : K (a.put o.dst undef) w') : o.wp E.P a w K Q := by
  unfold Oper.wp
  rw [h]
  exact hk

theorem zOK_run {P : Program} {t : TypeId} (h : zOK P t = true) (w : World) : ∃ z i, (zeroValue t).run P w = .ok z w ∧ z.cells.toList = zc P t ∧ (zc P t).all atomV = true ∧ P.info? t = some i ∧ i.zero = some z ∧ z.cells.size = i.size := by
  unfold zOK at h
  cases hi : P.info? t with
  | none => simp [hi] at h
  | some i =>
    cases hz : i.zero with
    | none => simp [hi, hz] at h
    | some z =>
      simp only [hi, Option.bind_some, hz, Bool.and_eq_true, beq_iff_eq] at h
      exact ⟨z, i, by simp [zeroValue, typeInfo, hi, hz], by simp [zc, hi, hz], by simpa [zc, hi, hz] using h.1, rfl, hz, by simpa [Program.cellsOf, hi] using h.2⟩

theorem vrs_self {sz : Nat → Nat} {l : List Value} (hl : l.all atomV = true) : VRs sz l l := ⟨rfl, fun i h1 h2 => .atom _ (List.all_eq_true.1 hl _ (List.getElem_mem _))⟩

/-- a new row of cells -/
theorem new_row {H : AHeap} {w w' : World} {xs ys : List Value} {e : TypeId} (hh : HRel H w) (x : Ext w w') (hsz : w.heap.size < w'.heap.size) {c : Array Value} (hn : w'.heap[w.heap.size]? = some (.cells c e (0, 0)))
    (hx : VRs (csz w) xs ys) (hy : ∀ i (h : i < ys.length), c[i]? = some ys[i]) (hc : xs.all cellV = true) :
    HRel (H.put w.heap.size (.cells xs e true)) w' ∧ FrRel H w (H.put w.heap.size (.cells xs e true)) w' := by
  have hlen : xs.length ≤ c.size := by
    rcases Nat.lt_or_ge c.size ys.length with h | h
    · have := hy c.size h
      rw [Array.getElem?_eq_none (Nat.le_refl _)] at this
      cases this
    · rw [hx.1]; exact h
  refine heap_new hh x hsz ⟨c, (0, 0), hn, hlen, fun i hi => ?_, fun _ => ⟨rfl, hh.base⟩, hc⟩
  exact ⟨_, hy i (hx.1 ▸ hi), fun _ => (hx.2 i hi (hx.1 ▸ hi)).mono x.csz⟩

theorem new_row' {H : AHeap} {w : World} {xs ys : List Value} {e : TypeId} (hh : HRel H w) (hx : VRs (csz w) xs ys) (hc : xs.all cellV = true) :
    HRel (H.put w.heap.size (.cells xs e true)) (w.alloc (.cells ⟨ys⟩ e)) ∧ FrRel H w (H.put w.heap.size (.cells xs e true)) (w.alloc (.cells ⟨ys⟩ e)) :=
  new_row hh (.alloc w _) (by simp) (heap_alloc_new w _) hx (fun i hi => by simp [hi]) hc

theorem Instr_fill_size {place : Nat → Option (Nat × Nat)} : ∀ {ps : List (Nat × Value)} {c c' : Array Value}, Instr.fill place c ps = some c' → c'.size = c.size
  | [], c, c', h => by simp only [Instr.fill, Option.some.injEq] at h; rw [h]
  | (i, v) :: ps, c, c', h => by
    simp only [Instr.fill] at h
    split at h
    · cases h
    · split at h
      · cases h
      · have := Instr_fill_size h
        rw [this]
        have : ∀ (l : List (Value × Nat)) (off : Nat) (c : Array Value), (l.foldl (fun (cs : Array Value) (x : Value × Nat) => cs.setIfInBounds (off + x.2) x.1) c).size = c.size := by
          intro l off
          induction l with
          | nil => intro c; rfl
          | cons x l ih => intro c; simp only [List.foldl_cons]; rw [ih]; simp
        rw [← Array.foldl_toList]
        exact this _ _ _

theorem cells_of_rr {n : Nat} {v c : Value} {K : List Value → Prop} (hr : RR (csz w) loc lv v c) (h : cellsK n v K) : ∃ xs ys, c.cells = ⟨ys⟩ ∧ VRs (csz w) xs ys ∧ xs.all cellV = true ∧ xs.length = n ∧ K xs := by
  unfold cellsK at h
  split at h
  · rename_i cs
    obtain ⟨xs⟩ := cs
    obtain ⟨ys, rfl, hv, hc⟩ := (hr.vr rfl).agg'
    exact ⟨xs, ys, rfl, hv, hc, (gd_iff.1 h).1, (gd_iff.1 h).2⟩
  · rename_i hne
    split at h
    · rename_i hb
      simp only [Bool.and_eq_true, beq_iff_eq] at hb
      obtain ⟨⟨h1, h2⟩, rfl⟩ := hb
      have hv := hr.vr h1
      refine ⟨[v], [c], ?_, .cons hv .nil, by simp [h2], rfl, h⟩
      have := hv.oneCell h2
      cases c <;> first | rfl | simp [Value.oneCell'] at this
    · exact h.elim

theorem alloc_ok {o : Oper} {t : TypeId} {A : Nat → Option Nat} {K : St → Prop} {Q : Exit → Act → World → Prop} (hs : SRel E st loc a w) (ho : o.op = .alloc t) (h : aop E.P E.n A o st K) : o.wp E.P a w (Next' E K) Q := by
  simp only [aop, ho] at h
  split at h
  case h_2 => exact h.elim
  rename_i d hd
  split at h
  case isFalse => exact h.elim
  rename_i hlt
  split at h
  case isFalse => exact h.elim
  rename_i hz
  obtain ⟨z, i, hz1, hz2, hz3, hi, _, _⟩ := zOK_run hz w
  have hzc : z.cells = ⟨zc E.P t⟩ := by rw [← hz2]
  have hrun : (execOp a.eval o).run E.P w = .ok (.value (.pointer (some ⟨w.heap.size, 0, none⟩))) (w.alloc (.cells ⟨zc E.P t⟩ t)) := by
    simp [execOp, ho, Instr.alloc, hz1, newVar, newRow, hzc]
  refine upon_value hrun ?_
  rw [hd]
  split at h
  · split at h
    case h_2 => exact h.elim
    rename_i hfree
    refine ⟨_, ⟨_, (hs.newbox hfree (vrs_self hz3) (all_cell hz3) t).put hlt ?_⟩, h⟩
    have := RR.loc (sz := csz (w.alloc (.cells ⟨zc E.P t⟩ t))) (loc := fun i => if i = d then w.heap.size else loc i) (live := (st.setbox d (zc E.P t)).live) d 0 (by simp [St.live, St.setbox])
    simpa using this
  · obtain ⟨h1, h2⟩ := new_row' (e := t) hs.heap (vrs_self hz3) (all_cell hz3)
    exact ⟨_, ⟨_, (hs.withH h1 h2).put hlt (.val (.atom _ rfl))⟩, h _ (Option.eq_none_iff_forall_not_mem.2 fun o ho => Nat.lt_irrefl _ (hs.heap.lt _ o ho))⟩

theorem box_ok {o : Oper} {t : TypeId} {x : Operand} {A : Nat → Option Nat} {K : St → Prop} {Q : Exit → Act → World → Prop} (hs : SRel E st loc a w) (ho : o.op = .box t x) (h : aop E.P E.n A o st K) : o.wp E.P a w (Next' E K) Q := by
  simp only [aop, ho] at h
  split at h
  case h_2 => exact h.elim
  rename_i d hd
  split at h
  case isFalse => exact h.elim
  rename_i hlt
  obtain ⟨i, hi, h⟩ := szT_elim h
  obtain ⟨xs, ys, hc, hv, hcv, hlen, h⟩ := cells_of_rr (ev_rr hs x) h
  have hrun : (execOp a.eval o).run E.P w = .ok (.value (.pointer (some ⟨w.heap.size, 0, none⟩))) (w.alloc (.cells ⟨ys⟩ t)) := by
    simp [execOp, ho, Instr.box, newVar, newRow, hc]
  refine upon_value hrun ?_
  rw [hd]
  split at h
  · split at h
    case h_2 => exact h.elim
    rename_i hfree
    refine ⟨_, ⟨_, (hs.newbox hfree hv hcv t).put hlt ?_⟩, h⟩
    have := RR.loc (sz := csz (w.alloc (.cells ⟨ys⟩ t))) (loc := fun i => if i = d then w.heap.size else loc i) (live := (st.setbox d xs).live) d 0 (by simp [St.live, St.setbox])
    simpa using this
  · obtain ⟨h1, h2⟩ := new_row' (e := t) hs.heap hv hcv
    exact ⟨_, ⟨_, (hs.withH h1 h2).put hlt (.val (.atom _ rfl))⟩, h _ (Option.eq_none_iff_forall_not_mem.2 fun o ho => Nat.lt_irrefl _ (hs.heap.lt _ o ho))⟩

theorem wrC_elim {n : Nat} {v c : Value} {xs : List Value} {q : Nat} {K : List Value → Prop} (hr : RR (csz w) loc lv v c) (h : wrC n v xs q K) :
    ∃ us vs, c.cells = ⟨vs⟩ ∧ VRs (csz w) us vs ∧ us.all cellV = true ∧ us.length = n ∧ q + n ≤ xs.length ∧ K (stC xs q us) := by
  unfold wrC at h
  split at h
  · rename_i cs
    obtain ⟨us⟩ := cs
    obtain ⟨vs, rfl, hv, hc⟩ := (hr.vr rfl).agg'
    have h := gd_iff.1 h
    exact ⟨us, vs, rfl, hv, hc, h.1.1, h.1.2, h.2⟩
  · split at h
    · rename_i hb
      simp only [Bool.and_eq_true, beq_iff_eq] at hb
      obtain ⟨⟨h1, h2⟩, rfl⟩ := hb
      have hv := hr.vr h1
      have h := gd_iff.1 h
      refine ⟨[v], [c], ?_, .cons hv .nil, by simp [h2], rfl, h.1, ?_⟩
      · have := hv.oneCell h2
        cases c <;> first | rfl | simp [Value.oneCell'] at this
      · have e : stC xs q [v] = xs.set q v := by
          simp only [stC, List.length_singleton]
          rw [List.set_eq_take_append_cons_drop, if_pos h.1]
          simp
        rw [e]; exact h.2
    · exact h.elim

theorem stC_length {xs us : List Value} {q : Nat} (h : q + us.length ≤ xs.length) : (stC xs q us).length = xs.length := by
  simp [stC]; omega
theorem stC_cell {xs us : List Value} {q : Nat} (h1 : xs.all cellV = true) (h2 : us.all cellV = true) : (stC xs q us).all cellV = true := by
  refine List.all_eq_true.2 fun x hx => ?_
  simp only [stC, List.mem_append] at hx
  rcases hx with (hx | hx) | hx
  · exact List.all_eq_true.1 h1 x (List.mem_of_mem_take hx)
  · exact List.all_eq_true.1 h2 x hx
  · exact List.all_eq_true.1 h1 x (List.mem_of_mem_drop hx)
theorem stC_vrs {sz : Nat → Nat} {xs ys us vs : List Value} {q : Nat} (h1 : VRs sz xs ys) (h2 : VRs sz us vs) : VRs sz (stC xs q us) (stC ys q vs) := by
  have ht : ∀ k, VRs sz (xs.take k) (ys.take k) := fun k => by simpa using h1.range 0 k
  have hd : ∀ k, VRs sz (xs.drop k) (ys.drop k) := fun k => by
    have := h1.range k xs.length
    have e1 : (xs.drop k).take xs.length = xs.drop k := List.take_of_length_le (by simp)
    have e2 : (ys.drop k).take xs.length = ys.drop k := List.take_of_length_le (by simp [h1.1])
    rwa [e1, e2] at this
  have := ((ht q).append h2).append (hd (q + us.length))
  unfold stC
  rw [← h2.1]
  exact this

theorem stC_take {c vs : List Value} {n q j : Nat} (hj : j < n) (h1 : q + vs.length ≤ n) (h2 : n ≤ c.length) : (stC c q vs)[j]? = (stC (c.take n) q vs)[j]? := by
  simp only [stC, List.take_take, Nat.min_eq_left (show q ≤ n by omega), List.append_assoc, List.drop_take]
  simp only [List.getElem?_append, List.length_take, Nat.min_eq_left (show q ≤ c.length by omega)]
  split
  · rfl
  · split
    · rfl
    · rw [List.getElem?_take, if_pos (by omega)]

theorem store_run {P : Program} {w : World} {t : TypeId} {b q : Nat} {cur : Array Value} {e : TypeId} {v : Value} {vs : List Value} {i : TypeInfo} (hi : P.info? t = some i) (hb : w.heap[b]? = some (.cells cur e (0, 0)))
    (hc : v.cells = ⟨vs⟩) (hl : vs.length = i.size) (hq : q + vs.length ≤ cur.size) (h1 : ∀ v ∈ vs, v.oneCell' = true) :
    (Instr.storeAt t (.pointer (some ⟨b, q, none⟩)) v).run P w = .ok () (w.setRow b ⟨stC cur.toList q vs⟩) := by
  have hst := run_storeCells_at P b q e vs 0 cur w hb (by simpa using hq) h1
  simp only [Nat.add_zero] at hst
  have hsz : v.cells.size = i.size := by rw [hc]; exact hl
  have hcl : v.cells.toList = vs := by rw [hc]
  simp [Instr.storeAt, Instr.sureAddr, storeVar, sizeOf, typeInfo, hi, hsz, hcl, hst, stC]

theorem vrs_one {sz : Nat → Nat} {us vs : List Value} (h : VRs sz us vs) (hc : us.all cellV = true) : ∀ v ∈ vs, v.oneCell' = true := by
  intro v hv
  obtain ⟨i, hi, rfl⟩ := List.mem_iff_getElem.1 hv
  have hi' : i < us.length := by rw [h.1]; exact hi
  exact (h.2 i hi' hi).oneCell (List.all_eq_true.1 hc _ (List.getElem_mem _))

theorem wrH_elim {H : AHeap} {b : Nat} {K : List Value → TypeId → Prop} (h : wrH H b K) : ∃ xs e, H.get b = some (.cells xs e true) ∧ K xs e := by
  unfold wrH at h
  split at h
  · rename_i hx; exact ⟨_, _, hx, h⟩
  · exact h.elim

theorem store_ok {o : Oper} {t : TypeId} {x v : Operand} {A : Nat → Option Nat} {K : St → Prop} {Q : Exit → Act → World → Prop} (hs : SRel E st loc a w) (ho : o.op = .store t x v) (h : aop E.P E.n A o st K) : o.wp E.P a w (Next' E K) Q := by
  simp only [aop, ho] at h
  split at h
  case h_1 => exact h.elim
  rename_i hd
  obtain ⟨i, hi, h⟩ := szT_elim h
  have hx := ev_rr hs x
  have hv := ev_rr hs v
  split at h
  · rename_i d _
    split at h
    case h_2 => exact h.elim
    rename_i k q he
    rw [he] at hx
    split at h
    case isFalse => exact h.elim
    rename_i hkd
    subst hkd
    obtain ⟨xs, hk, h⟩ := rdB_elim h
    obtain ⟨us, vs, hc, huv, hcv, hlen, hq, h⟩ := wrC_elim hv h
    obtain ⟨c, e, g1, g2, g3, g4, g5⟩ := hs.box k xs hk
    have hcs : c.size = xs.length := by rw [g2.1]; simp
    have hvl : vs.length = i.size := by rw [← huv.1]; exact hlen
    have hrun := store_run (P := E.P) (w := w) (b := loc k) (q := q) hi g1 hc hvl (by omega) (vrs_one huv hcv)
    refine upon_skip (w' := w.setRow (loc k) ⟨stC c.toList q vs⟩) (by simp [execOp, ho, hx.locp.1, hrun]) ?_
    rw [hd]
    have hlen2 : (stC c.toList q vs).length = c.size := by rw [stC_length (by simp; omega)]; simp
    exact ⟨_, ⟨loc, hs.setbox hk (Upd.setRow g1 hlen2) (setRow_heap w _ _ _ _ _ g1) (stC_vrs g2 huv) (stC_cell g5 hcv)⟩, h⟩
  · split at h
    case h_2 => exact h.elim
    rename_i p he
    rw [he] at hx
    obtain ⟨b, q, rfl, h⟩ := hp_elim h
    obtain ⟨xs, e, hb, h⟩ := wrH_elim h
    obtain ⟨us, vs, hc, huv, hcv, hlen, hq, h⟩ := wrC_elim hv h
    obtain ⟨c, fr, g1, g2, g3, g4, g5⟩ := hs.heap.obj b _ hb
    obtain ⟨rfl, gb⟩ := g4 rfl
    have hvl : vs.length = i.size := by rw [← huv.1]; exact hlen
    have hrun := store_run (P := E.P) (w := w) (b := b) (q := q) hi g1 hc hvl (by omega) (vrs_one huv hcv)
    refine upon_skip (w' := w.setRow b ⟨stC c.toList q vs⟩) (by simp [execOp, ho, (hx.vr rfl).pointer, hrun]) ?_
    rw [hd]
    have hlen2 : (stC c.toList q vs).length = c.size := by rw [stC_length (by simp; omega)]; simp
    have hu : Upd b w (w.setRow b ⟨stC c.toList q vs⟩) := Upd.setRow g1 hlen2
    have hown : st.H.owned b := .inl ⟨xs, e, hb⟩
    have ho : ORel (w.setRow b ⟨stC c.toList q vs⟩) st.H.base b (.cells (stC xs q us) e true) := by
      refine ⟨_, (0, 0), setRow_heap w _ _ _ _ _ g1, by rw [stC_length (by omega)]; simp [hlen2]; exact g2, fun j hj => ?_, fun _ => ⟨rfl, gb⟩, stC_cell g5 hcv⟩
      rw [stC_length (by omega)] at hj
      have hsame : VRs (csz w) xs (c.toList.take xs.length) := ⟨by simp; omega, fun k k1 k2 => by
        obtain ⟨y, hy, hr⟩ := g3 k k1
        have : (c.toList.take xs.length)[k] = y := by
          have hy' : c.toList[k]? = some y := by simpa using hy
          obtain ⟨_, e⟩ := List.getElem?_eq_some_iff.1 hy'
          simpa using e
        rw [this]; exact hr (.inl rfl)⟩
      have hst := stC_vrs (q := q) hsame huv
      have hj2 : j < (stC xs q us).length := by rw [stC_length (by omega)]; exact hj
      have hj3 : j < (stC (c.toList.take xs.length) q vs).length := by rw [← hst.1]; exact hj2
      refine ⟨(stC (c.toList.take xs.length) q vs)[j], ?_, fun _ => (hst.2 j hj2 hj3).mono hu.grew.csz⟩
      have : (stC c.toList q vs)[j]? = (stC (c.toList.take xs.length) q vs)[j]? := stC_take hj (by omega) (by simp; omega)
      simp only [List.getElem?_toArray]
      rw [this]
      exact List.getElem?_eq_getElem hj3
    obtain ⟨r1, r2⟩ := heap_set hs.heap hu hown ho
    exact ⟨_, ⟨loc, hs.withH r1 r2⟩, h⟩

theorem csz_new (w : World) (c : Array Value) (e : TypeId) : csz (w.alloc (.cells c e)) w.heap.size = c.size := by
  unfold csz
  rw [heap_alloc_new]

theorem elemW_elim {P : Program} {t : TypeId} {K : TypeId → Nat → Nat → List Value → Prop} (h : elemW P t K) :
    ∃ e i z, P.underlying t = some (.slice e) ∧ P.info? e = some i ∧ i.zero = some z ∧ z.cells.toList = zc P e ∧ (zc P e).all atomV = true ∧ z.cells.size = i.size ∧ 0 < i.size ∧ 0 < i.bytes ∧ K e i.size i.bytes (zc P e) := by
  unfold elemW at h
  split at h
  · rename_i e hu
    split at h
    · rename_i i hi
      split at h
      · rename_i hb
        simp only [Bool.and_eq_true, Nat.blt_eq] at hb
        obtain ⟨⟨hz, h1⟩, h2⟩ := hb
        obtain ⟨z, i', _, z1, z2, hi', z3, z4⟩ := zOK_run hz (default : World)
        rw [hi] at hi'
        cases hi'
        exact ⟨e, i, z, hu, hi, z3, z1, z2, z4, h1, h2, h⟩
      · exact h.elim
    · exact h.elim
  · exact h.elim

theorem mkL_atom {z : List Value} {l : Nat} (h : z.all atomV = true) : (mkL z l).all atomV = true := by
  refine List.all_eq_true.2 fun x hx => ?_
  simp only [mkL, List.mem_map, List.mem_range] at hx
  obtain ⟨i, hi, rfl⟩ := hx
  have hz : 0 < z.length := by
    rcases Nat.eq_zero_or_pos z.length with e | e
    · rw [e] at hi; omega
    · exact e
  rw [List.getD_eq_getElem?_getD, List.getElem?_eq_getElem (Nat.mod_lt _ hz)]
  exact List.all_eq_true.1 h _ (List.getElem_mem _)
theorem mkL_length (z : List Value) (l : Nat) : (mkL z l).length = l * z.length := by simp [mkL]

theorem madeCells_get {z : Array Value} {n i : Nat} (h : i < n) : (madeCells z n)[i]? = some (z[i % z.size]!) := by
  simp [madeCells, h]

theorem make_ok {o : Oper} {t : TypeId} {l c : Operand} {A : Nat → Option Nat} {K : St → Prop} {Q : Exit → Act → World → Prop} (hs : SRel E st loc a w) (ho : o.op = .makeSlice t l c) (h : aop E.P E.n A o st K) : o.wp E.P a w (Next' E K) Q := by
  simp only [aop, ho] at h
  have hl := ev_rr hs l
  have hc := ev_rr hs c
  split at h
  case h_2 => exact h.elim
  rename_i kl l' kc c' el ec
  rw [el] at hl; rw [ec] at hc
  obtain ⟨e, i, z, hu, hi, hz, z1, z2, z3, hs1, hs2, h⟩ := elemW_elim h
  obtain ⟨⟨⟨h0, h1⟩, h2⟩, h⟩ := h
  have h63 : c' ≤ 9223372036854775807 := by
    have : (1 : Int) * c' ≤ i.bytes * c' := Int.mul_le_mul_of_nonneg_right (by omega) (by omega)
    omega
  have hrun := run_make (P := E.P) w t e i z hu hi hz kl kc l' c' h0 h1 h2 h63
  refine upon_value (c := .slice (some ⟨w.heap.size, 0, none⟩) l'.toNat c'.toNat) (w' := w.alloc (.cells (madeCells z.cells (c'.toNat * i.size)) e)) (by simp [execOp, ho, (hl.vr rfl).int, (hc.vr rfl).int, hrun]) ?_
  have hzl : (zc E.P e).length = i.size := by rw [← z1]; simpa using z3
  have hle : l'.toNat ≤ c'.toNat := by omega
  have hat := mkL_atom (l := l'.toNat) z2
  obtain ⟨r1, r2⟩ := new_row (e := e) (c := madeCells z.cells (c'.toNat * i.size)) hs.heap (.alloc w _) (by simp) (heap_alloc_new w _) (vrs_self hat) (fun j hj => by
    rw [mkL_length, hzl] at hj
    have hj2 : j < c'.toNat * i.size := Nat.lt_of_lt_of_le hj (Nat.mul_le_mul_right _ hle)
    rw [madeCells_get hj2]
    have hm : j % (zc E.P e).length < (zc E.P e).length := Nat.mod_lt _ (by omega)
    simp only [mkL, List.getElem_map, List.getElem_range, Option.some.injEq]
    rw [List.getD_eq_getElem?_getD, List.getElem?_eq_getElem hm]
    have hm2 : j % z.cells.size < z.cells.size := by rw [z3]; exact Nat.mod_lt _ hs1
    rw [getElem!_pos z.cells _ hm2]
    simp only [Option.getD_some]
    have : ∀ (m1 m2 : Nat) (p1 : m1 < z.cells.size) (p2 : m2 < (zc E.P e).length), m1 = m2 → z.cells[m1] = (zc E.P e)[m2] := by
      intro m1 m2 p1 p2 hm; subst hm
      have hq : z.cells.toList[m1]? = (zc E.P e)[m1]? := by rw [z1]
      rw [List.getElem?_eq_getElem (by simpa using p1), List.getElem?_eq_getElem p2] at hq
      simpa using hq
    exact this _ _ hm2 hm (by rw [z3, hzl])) (all_cell hat)
  refine putK_ok (hs.withH r1 r2) (.val (.slice _ _ _ _ (.inr ⟨rfl, ?_⟩) hle ?_)) (h _ (Option.eq_none_iff_forall_not_mem.2 fun o ho => Nat.lt_irrefl _ (hs.heap.lt _ o ho)))
  · rw [csz_new, size_madeCells, hzl]; simp
  · simp only [maxLen]; omega

theorem bslice_ok {o : Oper} {t : TypeId} {len : Nat} {ps : Array (Nat × Operand)} {A : Nat → Option Nat} {K : St → Prop} {Q : Exit → Act → World → Prop} (hs : SRel E st loc a w) (ho : o.op = .buildSlice t len ps) (h : aop E.P E.n A o st K) : o.wp E.P a w (Next' E K) Q := by
  simp only [aop, ho] at h
  obtain ⟨e, i, z, hu, hi, hz, z1, z2, z3, hs1, hs2, h⟩ := elemW_elim h
  split at h
  case isFalse => exact h.elim
  rename_i hle
  have hzl : (zc E.P e).length = i.size := by rw [← z1]; simpa using z3
  have hml : (mkL (zc E.P e) len).length = len * i.size := by rw [mkL_length, hzl]
  rw [← hml] at h
  obtain ⟨res, res', h1, h2, h3, h⟩ := buildL_ok hs (mkL (zc E.P e) len) (mkL_atom z2) (fun k => some (k * i.size, i.size)) ps.toList _ 0 0 _ [] (fun k x hx => by
    simp only [List.getElem?_map, Option.map_eq_some_iff] at hx
    obtain ⟨y, hy, rfl⟩ := hx
    rw [List.getElem?_range] at hy
    · simp only [Option.some.injEq] at hy; subst hy; simp
    · obtain ⟨hlt, _⟩ := List.getElem?_eq_some_iff.1 hy
      simpa using hlt) (Nat.zero_le _) rfl h
  simp only [List.nil_append, List.drop_zero] at h1
  have hzero : (zeroValue e).run E.P w = .ok z w := by simp [zeroValue, typeInfo, hi, hz]
  have hcells : (⟨mkL (zc E.P e) len⟩ : Array Value) = (Array.range (len * i.size)).map (z.cells[· % z.cells.size]!) := by
    apply Array.ext
    · simp [hml]
    · intro j j1 j2
      have hm : j % (zc E.P e).length < (zc E.P e).length := Nat.mod_lt _ (by omega)
      simp only [mkL, List.getElem_toArray, List.getElem_map, List.getElem_range, Array.getElem_map, Array.getElem_range]
      rw [List.getD_eq_getElem?_getD, List.getElem?_eq_getElem hm]
      have hm2 : j % z.cells.size < z.cells.size := by rw [z3]; exact Nat.mod_lt _ hs1
      rw [getElem!_pos z.cells _ hm2]
      simp only [Option.getD_some]
      have : ∀ (m1 m2 : Nat) (p1 : m1 < z.cells.size) (p2 : m2 < (zc E.P e).length), m1 = m2 → (zc E.P e)[m2] = z.cells[m1] := by
        intro m1 m2 p1 p2 hm; subst hm
        have hq : z.cells.toList[m1]? = (zc E.P e)[m1]? := by rw [z1]
        rw [List.getElem?_eq_getElem (by simpa using p1), List.getElem?_eq_getElem p2] at hq
        simpa using hq.symm
      exact this _ _ hm2 hm (by rw [z3, hzl])
  have hrl : len * i.size ≤ res'.length := by
    have := Instr_fill_size h1
    simp only [List.size_toArray] at this
    omega
  have hrun : (execOp a.eval o).run E.P w = .ok (.value (.slice (some ⟨w.heap.size, 0, none⟩) len len)) (w.alloc (.cells ⟨res'⟩ e)) := by
    have hn : ¬ (16777216 < len * i.size) := by omega
    have e1 : (ps.map fun (i, x) => (i, a.eval x)).toList = ps.toList.map fun (i, x) => (i, a.eval x) := by simp
    rw [hcells] at h1
    have hfc : len * i.size = 0 → (Array.range (len * i.size)).map ((#[] : Array Value)[· % (#[] : Array Value).size]!) = (Array.range (len * i.size)).map (z.cells[· % z.cells.size]!) := by
      intro h0; rw [h0]; apply Array.ext <;> simp
    have hb : (Instr.buildSlice t len (ps.map fun (i, x) => (i, a.eval x))).run E.P w = .ok (.slice (some ⟨w.heap.size, 0, none⟩) len len) (w.alloc (.cells ⟨res'⟩ e)) := by
      unfold Instr.buildSlice
      rw [Sem.run_bind, run_underlying hu, Result.andThen_ok]
      simp only [Sem.run_bind, run_sz hi, Result.andThen_ok, Program.cellsOf, hi, Option.map_some, Option.getD_some]
      rw [if_neg (by simpa using hn)]
      split
      · rename_i h0
        simp only [pure_bind, hfc h0, e1, h1]
        rfl
      · rw [Sem.run_bind, hzero, Result.andThen_ok]
        simp only [pure_bind, e1, h1]
        rfl
    simp [execOp, ho, hb]
  refine upon_value hrun ?_
  obtain ⟨r1, r2⟩ := new_row' (e := e) hs.heap h2 h3
  refine putK_ok (hs.withH r1 r2) (.val (.slice _ _ _ _ (.inr ⟨rfl, ?_⟩) (Nat.le_refl _) ?_)) (h _ (Option.eq_none_iff_forall_not_mem.2 fun o ho => Nat.lt_irrefl _ (hs.heap.lt _ o ho)))
  · rw [csz_new]; simpa using hrl
  · simp only [maxLen]
    have : len * 1 ≤ len * i.size := Nat.mul_le_mul_left _ hs1
    omega

end
end Go.Am
