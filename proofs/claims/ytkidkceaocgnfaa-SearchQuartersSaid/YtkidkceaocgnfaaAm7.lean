/-
  Am7: append and calls do what Am5 says; so does every operation.
-/
import Derived.Test.YtkidkceaocgnfaaAm6
set_option linter.all false
namespace Go.Am
section
variable {E : Env} {st : St} {loc : Nat → Nat} {lv : Nat → Prop} {a : Act} {w : World}

theorem kill_put (H : AHeap) (b : Nat) (o : AObj) : (H.kill b).put b o = H.put b o := by
  unfold AHeap.kill AHeap.put
  congr 1
  funext i
  by_cases h : i = b <;> simp [h]
theorem put_same {H : AHeap} {b : Nat} {o : AObj} (hb : H.get b = some o) : H.put b o = H := by
  have h1 : (fun i => if i = b then some o else H.get i) = H.get := by
    funext i
    by_cases h : i = b
    · subst h; simp [hb]
    · simp [h]
  unfold AHeap.put
  rw [h1]

theorem heap_kill {H : AHeap} (hh : HRel H w) (b : Nat) : HRel (H.kill b) w ∧ FrRel H w (H.kill b) w := by
  constructor
  · exact {
      obj := fun k o hk => by
        simp only [AHeap.kill] at hk
        split at hk
        · cases hk
        · exact hh.obj k o hk
      lt := fun k o hk => by
        simp only [AHeap.kill] at hk
        split at hk
        · cases hk
        · exact hh.lt k o hk
      base := hh.base }
  · exact {
      grew := .refl w
      kept := fun _ _ _ => rfl
      own := fun k hk => by
        left
        unfold AHeap.owned AHeap.kill at hk
        by_cases e : k = b
        · simp [e] at hk
        · simp only [e, if_false] at hk; exact hk
      dom := fun k hk => by
        left
        simp only [AHeap.kill] at hk
        by_cases e : k = b
        · simp [e] at hk
        · simpa only [e, if_false] using hk
      base := rfl }

theorem run_append_same {P : Program} {t ty e : TypeId} {i : TypeInfo} (ht : P.underlying t = some (.slice e)) (hi : P.info? e = some i) {b1 b2 : Option Addr} {n cap c2 : Nat} (hn : n ≤ cap) :
    (Builtin.append_ #[t, t] ty #[.slice b1 n cap, .slice b2 0 c2]).run P w = .ok (.slice b1 n cap) w := by
  have h2 : (Builtin.firstCells i.size 0 (.slice b2 0 c2)).run P w = .ok #[] w := by
    cases b2 with
    | none => simp [Builtin.firstCells]
    | some b => simp [Builtin.firstCells, loadCells, loadCellsFrom]
  cases b1 <;> simp [Builtin.append_, run_underlying ht, sizeOf, typeInfo, hi, Builtin.lenOf, hn, h2, storeCells]

theorem src_ok {H : AHeap} {a2 : Option Addr} {m2 cap2 z z2 : Nat} {K : List Value → Prop} (hh : HRel H w) (hv : VR (csz w) (.slice a2 m2 z2) (.slice a2 m2 cap2)) (h : srcW H a2 m2 z K) :
    ∃ us vs, VRs (csz w) us vs ∧ us.all cellV = true ∧ us.length = m2 * z ∧ K us ∧ (a2 = none → m2 = 0) ∧ ∀ b, a2 = some b → ∀ j v, vs[j]? = some v → w.cell? (b.add j) = some v := by
  unfold srcW at h
  split at h
  · obtain ⟨cap, _, _, h0, _⟩ := hv.sl
    obtain ⟨rfl, _⟩ := h0 rfl
    exact ⟨[], [], .nil, rfl, by simp, h, (fun _ => rfl), (fun b hb => by cases hb)⟩
  · rename_i b o
    obtain ⟨xs, e, own, hb, h⟩ := rdH_elim h
    obtain ⟨⟨hlen, hnj⟩, h⟩ := gd_iff.1 h
    obtain ⟨ys, hy, hcv, hc⟩ := hrel_cells hh hb
    refine ⟨_, _, nj_range hy hnj, cells_range hcv o _, by simp; omega, h, (fun e => by cases e), fun b' hb' j v hj => ?_⟩
    cases hb'
    rw [add_none]
    apply hc
    rw [List.getElem?_take] at hj
    split at hj
    · simpa [List.getElem?_drop] using hj
    · cases hj
  · exact h.elim

theorem append_ok {o : Oper} {c : Call} {A : Nat → Option Nat} {K : St → Prop} {Q : Exit → Act → World → Prop} (hs : SRel E st loc a w) (ho : o.op = .call c) (hc : c.callee = .builtin .append) (h : aop E.P E.n A o st K) : o.wp E.P a w (Next' E K) Q := by
  simp only [aop, ho, hc] at h
  split at h
  case h_2 => exact h.elim
  rename_i t t' s n z' a2 m2 z2 hty hargs
  split at h
  case isFalse => exact h.elim
  rename_i htt
  subst htt
  obtain ⟨e, i, z, hu, hi, hz, z1, z2', z3, hs1, hs2, hE⟩ := elemW_elim h
  clear h
  have hrr := args_rr hs c.args.toList
  rw [hargs] at hrr
  have hts : c.argTypes = #[t, t] := by rw [← Array.toArray_toList (xs := c.argTypes), hty]
  -- the two arguments
  obtain ⟨c1, c2, hcs, r1, r2⟩ : ∃ c1 c2, c.args.toList.map a.eval = [c1, c2] ∧ RR (csz w) loc st.live (.slice s n z') c1 ∧ RR (csz w) loc st.live (.slice a2 m2 z2) c2 := by
    cases hh : c.args.toList.map a.eval with
    | nil => rw [hh] at hrr; cases hrr
    | cons c1 l =>
      rw [hh] at hrr
      cases hrr with
      | cons h1 h2 =>
        cases h2 with
        | cons h2 h3 => cases h3; exact ⟨_, _, rfl, h1, h2⟩
  obtain ⟨cap, rfl, hncap, hnil, hsome⟩ := (r1.vr rfl).sl
  obtain ⟨cap2, rfl, _⟩ := (r2.vr rfl).sl
  obtain ⟨us, vs, huv, hcv, hul, h', hnil2, hnews⟩ := src_ok hs.heap (r2.vr rfl) hE
  clear hE
  obtain ⟨hby, h⟩ := h'
  have hvl : vs.length = m2 * i.size := by rw [← huv.1]; exact hul
  have hexec : ∀ c' w', (Builtin.append_ #[t, t] o.type #[.slice s n cap, .slice a2 m2 cap2]).run E.P w = .ok c' w' → (execOp a.eval o).run E.P w = .ok (.value c') w' := by
    intro c' w' hr
    have hm : c.args.map a.eval = #[.slice s n cap, .slice a2 m2 cap2] := by rw [← Array.toArray_toList (xs := c.args.map a.eval), Array.toList_map, hcs]
    simp [execOp, ho, resolve, hc, hm, invoke, builtin, hts, hr]
  have hsmall : n + m2 ≤ 140737488355328 := by
    have : (n + m2) * 1 ≤ (n + m2) * i.bytes := Nat.mul_le_mul_left _ hs2
    omega
  have hzl : (zc E.P e).length = i.size := by rw [← z1]; simpa using z3
  cases s with
  | none =>
    obtain ⟨rfl, rfl, rfl⟩ := hnil rfl
    simp only [Nat.zero_add] at hby
    by_cases hm : m2 = 0
    · subst hm
      exact upon_value (hexec _ _ (run_append_same hu hi (Nat.le_refl 0))) (putK_ok (hs) (.val (.atom _ rfl)) (h.1 rfl))
    · obtain ⟨b2, rfl⟩ : ∃ b2, a2 = some b2 := by
        cases a2 with
        | none => exact absurd (hnil2 rfl) hm
        | some b => exact ⟨b, rfl⟩
      have hr := run_append_nil (P := E.P) w t o.type e i z hu hi hz b2 m2 cap2 vs hvl (hnews b2 rfl) (by omega) (by omega) (by omega)
      refine upon_value (hexec _ _ hr) ?_
      generalize hg : grownCap w m2 0 e = cap' at *
      have hge : m2 ≤ cap' := by rw [← hg]; exact grownCap_ge w m2 0 e
      have hle : cap' ≤ maxLen := by rw [← hg]; exact grownCap_le_maxLen w m2 0 e (by simp only [maxLen]; omega)
      have hx : Ext w (w.drew.alloc (.cells (vs.toArray ++ Builtin.zeroCells z.cells (cap' - m2)) e)) := (Ext.drew w).trans (.alloc _ _)
      obtain ⟨q1, q2⟩ := new_row (e := e) (xs := us) (ys := vs) hs.heap hx (by simp) (heap_alloc_new w.drew _) huv (fun j hj => by
        rw [Array.getElem?_append_left (by simpa using hj)]; simp [hj]) hcv
      refine putK_ok (hs.withH q1 q2) (.val (.slice _ _ _ _ (.inr ⟨rfl, ?_⟩) hge hle)) (h.2 hm _ (Option.eq_none_iff_forall_not_mem.2 fun o ho => Nat.lt_irrefl _ (hs.heap.lt _ o ho)))
      have := csz_new w.drew (vs.toArray ++ Builtin.zeroCells z.cells (cap' - m2)) e
      simp only [World.size_drew] at this
      rw [this]
      simp [size_zeroCells, hvl, z3]
      rw [← Nat.add_mul]
      exact Nat.mul_le_mul_right _ (by omega)
  | some ba =>
    obtain ⟨hcap0, hmx⟩ := hsome ba rfl
    split at h
    · rename_i hh; cases hh
    · rename_i b1 hh
      cases hh
      split at h
      case h_2 => exact h.elim
      rename_i xs e' hb
      obtain ⟨⟨hxl, rfl, rfl⟩, h⟩ := h
      obtain ⟨cur, fr, g1, g2, g3, g4, g5⟩ := hs.heap.obj b1 _ hb
      obtain ⟨rfl, gb⟩ := g4 rfl
      have hcap : 0 + cap * i.size ≤ csz w b1 := by
        rcases hcap0 with h | h
        · rw [h]; simp
        · exact h.2
      have hcs2 : csz w b1 = cur.size := by simp [csz, g1]
      simp only [hcs2, Nat.zero_add] at hcap
      -- the old cells
      have hsame : VRs (csz w) xs (cur.toList.take xs.length) := ⟨by simp; omega, fun k k1 k2 => by
        obtain ⟨y, hy, hr⟩ := g3 k k1
        have : (cur.toList.take xs.length)[k] = y := by
          have hy' : cur.toList[k]? = some y := by simpa using hy
          obtain ⟨_, e⟩ := List.getElem?_eq_some_iff.1 hy'
          simpa using e
        rw [this]; exact hr (.inl rfl)⟩
      by_cases hm : m2 = 0
      · subst hm
        have hus : us = [] := by simpa using hul
        subst hus
        have e1 : (st.H.kill b1).put b1 (.cells (xs ++ []) e' true) = st.H := by
          rw [List.append_nil, kill_put, put_same hb]
        have hK := h b1 (.inl rfl)
        rw [e1] at hK
        exact upon_value (hexec _ _ (run_append_same hu hi hncap)) (putK_ok hs (.val (.slice _ _ _ _ (.inr ⟨rfl, by simpa [hcs2] using hcap⟩) hncap hmx)) hK)
      · obtain ⟨b2, rfl⟩ : ∃ b2, a2 = some b2 := by
          cases a2 with
          | none => exact absurd (hnil2 rfl) hm
          | some b => exact ⟨b, rfl⟩
        by_cases hroom : n + m2 ≤ cap
        · have hfit : n * i.size + vs.length ≤ cur.size := by
            rw [hvl, ← Nat.add_mul]
            exact Nat.le_trans (Nat.mul_le_mul_right _ hroom) hcap
          have hr := run_append_room (P := E.P) w t o.type e' i hu hi b1 n cap cur g1 b2 m2 cap2 vs hvl (hnews b2 rfl) (vrs_one huv hcv) hroom hfit
          refine upon_value (hexec _ _ hr) ?_
          generalize hcn : (cur.toList.take (n * i.size) ++ vs ++ cur.toList.drop (n * i.size + vs.length)).toArray = cn
          have hcn2 : cn.size = cur.size := by rw [← hcn]; simp; omega
          have hupd : Upd b1 w (w.setRow b1 cn) := Upd.setRow g1 hcn2
          have hor : ORel (w.setRow b1 cn) st.H.base b1 (.cells (xs ++ us) e' true) := by
            refine ⟨cn, (0, 0), setRow_heap w _ _ _ _ _ g1, by rw [hcn2]; simp [hxl, hul]; rw [← hvl]; exact hfit, fun j hj => ?_, fun _ => ⟨rfl, gb⟩, by simp [g5, hcv]⟩
            have hv := hsame.append huv
            have hj2 : j < (cur.toList.take xs.length ++ vs).length := by rw [← hv.1]; exact hj
            refine ⟨_, ?_, fun _ => (hv.2 j hj hj2).mono hupd.grew.csz⟩
            rw [← hcn, ← hxl]
            simp only [List.getElem?_toArray]
            rw [List.getElem?_append_left hj2]
            exact List.getElem?_eq_getElem hj2
          obtain ⟨q1, q2⟩ := heap_set hs.heap hupd (.inl ⟨xs, e', hb⟩) hor
          have hK := h b1 (.inl rfl)
          rw [kill_put] at hK
          refine putK_ok (hs.withH q1 q2) (.val (.slice _ _ _ _ (.inr ⟨rfl, ?_⟩) hroom hmx)) hK
          rw [hupd.csz, hcs2]; simpa using hcap
        · have hfits := growslice_fits (need := n + m2) (old := cap) (bytes := i.bytes) (by omega) hby
          have holds : ∀ j v, (cur.toList.take xs.length)[j]? = some v → w.cell? ((⟨b1, 0, none⟩ : Addr).add j) = some v := by
            intro j v hj
            rw [add_none]
            rw [List.getElem?_take] at hj
            split at hj
            · simp [World.cell?, g1]; simpa using hj
            · cases hj
          have hr := run_append_grow (P := E.P) w t o.type e' i z hu hi hz ⟨b1, 0, none⟩ n cap (cur.toList.take xs.length) (by simp; omega) holds b2 m2 cap2 vs hvl (hnews b2 rfl) (by omega) (by omega) hfits
          refine upon_value (hexec _ _ hr) ?_
          generalize hg : grownCap w (n + m2) cap e' = cap' at *
          have hge : n + m2 ≤ cap' := by rw [← hg]; exact grownCap_ge w _ _ _
          have hle : cap' ≤ maxLen := by rw [← hg]; exact grownCap_le_maxLen w _ _ _ (by simp only [maxLen]; omega)
          obtain ⟨k1, k2⟩ := heap_kill hs.heap b1
          have hx : Ext w (w.drew.alloc (.cells ((cur.toList.take xs.length).toArray ++ vs.toArray ++ Builtin.zeroCells z.cells (cap' - (n + m2))) e')) := (Ext.drew w).trans (.alloc _ _)
          obtain ⟨q1, q2⟩ := new_row (e := e') (xs := xs ++ us) (ys := cur.toList.take xs.length ++ vs) k1 hx (by simp) (heap_alloc_new w.drew _) (hsame.append huv) (fun j hj => by
            rw [Array.getElem?_append_left (by simpa using hj)]
            simp [hj]) (by simp [g5, hcv])
          refine putK_ok (hs.withH q1 (k2.trans q2)) (.val (.slice _ _ _ _ (.inr ⟨rfl, ?_⟩) hge hle)) (h _ (.inr (Option.eq_none_iff_forall_not_mem.2 fun o ho => Nat.lt_irrefl _ (hs.heap.lt _ o ho))))
          have := csz_new w.drew ((cur.toList.take xs.length).toArray ++ vs.toArray ++ Builtin.zeroCells z.cells (cap' - (n + m2))) e'
          simp only [World.size_drew] at this
          rw [this]
          simp only [Array.size_append, List.size_toArray, List.length_take, size_zeroCells, hvl, z3, Array.length_toList]
          have : min xs.length cur.size = n * i.size := by omega
          rw [this, ← Nat.add_mul, ← Nat.add_mul, Nat.zero_add]
          exact Nat.mul_le_mul_right _ (by omega)
    · exact h.elim

/-- no function of the program is the one that the model takes for itself -/
def NoNG (P : Program) : Prop := ∀ (g : FuncId) (fn : Func), P.funcs[g]? = some fn → fn.body.isSome = true → (fn.name == "runtime.NumGoroutine") = false

theorem vrs_args {sz : Nat → Nat} {vs cs : List Value} (h : F2 (RR sz loc lv) vs cs) (hv : vs.all isVal = true) : VRs sz vs cs := by
  induction h with
  | nil => exact .nil
  | cons h1 h2 ih =>
    simp only [List.all_cons, Bool.and_eq_true] at hv
    exact .cons (h1.vr hv.1) (ih hv.2)

theorem resK_elim {P : Program} {ty : TypeId} {r : Value} {K : Value → Prop} (h : resK P ty r K) : K r := by
  unfold resK at h
  split at h
  · unfold tupK at h
    split at h
    · exact asKs_elim (K := fun l => K (.tuple ⟨l⟩)) h
    · exact h.elim
  · exact asK_elim h

theorem call_ok (hN : NoNG E.P) {o : Oper} {c : Call} {f : Operand} {A : Nat → Option Nat} {K : St → Prop} {Q : Exit → Act → World → Prop} (hs : SRel E st loc a w) (ho : o.op = .call c) (hc : c.callee = .value f) (h : aop E.P E.n A o st K) : o.wp E.P a w (Next' E K) Q := by
  simp only [aop, ho, hc] at h
  have hf := ev_rr hs f
  split at h
  case h_2 => exact h.elim
  rename_i g x y he
  rw [he] at hf
  have hfv := hf.vr rfl
  have hfe := hfv.func
  split at h
  case isFalse => exact h.elim
  rename_i hb
  simp only [Bool.and_eq_true] at hb
  obtain ⟨hall, hbody⟩ := hb
  unfold hasBody at hbody
  cases hfn : E.P.funcs[g]? with
  | none => simp [hfn] at hbody
  | some fn =>
    simp only [hfn] at hbody
    have hname := hN g fn hfn hbody
    have hflat : x.toList.all flatV = true ∧ y.toList.all flatV = true := by
      have hat : atomV (.func (.func g) x y) = true := by
        generalize a.eval f = c at hfv
        cases hfv with
        | atom _ h => exact h
      unfold atomV at hat
      exact (Bool.and_eq_true _ _).mp hat
    have hself : ∀ l : List Value, l.all flatV = true → VRs (csz w) l l := fun l hl => vrs_self (List.all_eq_true.2 fun v hv => by
      have := List.all_eq_true.1 hl v hv
      cases v <;> simp_all [atomV, flatV])
    simp only [List.all_append, Bool.and_eq_true] at hall
    have hvrs : VRs (csz w) (x.toList ++ c.args.toList.map (ev E.n st) ++ y.toList) (x.toList ++ c.args.toList.map a.eval ++ y.toList) :=
      ((hself _ hflat.1).append (vrs_args (args_rr hs c.args.toList) hall.1.2)).append (hself _ hflat.2)
    have hcall := h w _ hs.heap hvrs
    have hrun : (execOp a.eval o).run E.P w = .ok (.enter g ⟨x.toList ++ c.args.toList.map a.eval ++ y.toList⟩) w := by
      have e1 : x ++ c.args.map a.eval ++ y = ⟨x.toList ++ c.args.toList.map a.eval ++ y.toList⟩ := by
        apply Array.ext'; simp
      have hnb : fn.body.isNone = false := by cases hh : fn.body <;> simp_all
      have e2 : (callFunc g (x ++ c.args.map a.eval ++ y)).run E.P w = .ok (.enter g (x ++ c.args.map a.eval ++ y)) w := by
        unfold callFunc
        simp only [Sem.run_bind, program, Sem.run, Result.andThen_ok, hfn, hname, hnb, Bool.false_eq_true, if_false, Sem.run_pure]
      rw [← e1]
      simp only [execOp, ho, resolve, hc, hfe, Deferred.ofValue, Sem.run_bind, Sem.run_pure, Result.andThen_ok, invoke]
      exact e2
    unfold Oper.wp
    rw [hrun]
    simp only [Oper.upon]
    refine hcall.mono ?_
    rintro e w' ⟨r, c', H', rfl, hr, hh, hfr, hq⟩
    exact putK_ok (hs.withH hh hfr) (.val hr) (resK_elim hq)

theorem aop_ok (hN : NoNG E.P) {o : Oper} {A : Nat → Option Nat} {K : St → Prop} {Q : Exit → Act → World → Prop} (hs : SRel E st loc a w) (h : aop E.P E.n A o st K) : o.wp E.P a w (Next' E K) Q := by
  have opv' : opv E.P A (ev E.n st) st.loc st.H o.op (fun v => putK E.n o.dst v K st) → o.wp E.P a w (Next' E K) Q := by
    intro h
    obtain ⟨v, c, h1, h2, h3⟩ := opv_ok hs o h
    exact upon_value h1 (putK_ok hs h2 h3)
  cases ho : o.op
  case alloc t => exact alloc_ok hs ho h
  case box t x => exact box_ok hs ho h
  case store t x v => exact store_ok hs ho h
  case buildSlice t len ps => exact bslice_ok hs ho h
  case makeSlice t l c => exact make_ok hs ho h
  case call c =>
    cases hc : c.callee with
    | builtin b =>
      by_cases hb : b = .append
      · subst hb; exact append_ok hs ho hc h
      · refine opv' ?_
        have : aop E.P E.n A o st K = opv E.P A (ev E.n st) st.loc st.H o.op fun v => putK E.n o.dst v K st := by
          simp only [aop, ho, hc]
        rw [this] at h; exact h
    | value f => exact call_ok hN hs ho hc h
    | invoke r m => simp only [aop, ho, hc] at h
  all_goals
    refine opv' ?_
    have : aop E.P E.n A o st K = opv E.P A (ev E.n st) st.loc st.H o.op fun v => putK E.n o.dst v K st := by simp only [aop, ho]
    rw [this] at h; exact h

/-- a region's operation; what stands under a guard whose test says no is passed over -/
def iop1 (P : Program) (n : Nat) (A : Nat → Option Nat) (ops : Array Oper) (i : Nat) (K : St → Prop) (st : St) : Prop :=
  match ops[i]? with
  | none => False
  | some o =>
    match o.guard with
    | none => aop P n A o st K
    | some (j, want) =>
      match (ops[j]?).bind (·.dst) with
      | none => False
      | some d =>
        if d < n then
          match st.regs d with
          | .bool b =>
            bif b then (if want = true then aop P n A o (st.put d (.bool true)) K else putK n o.dst undef K (st.put d (.bool true)))
            else (if want = false then aop P n A o (st.put d (.bool false)) K else putK n o.dst undef K (st.put d (.bool false)))
          | .tuple cs => match cs.toList with | [] => putK n o.dst undef K st | _ => False
          | _ => False
        else False
/-- operations, one behind the other -/
def iops (P : Program) (n : Nat) (A : Nat → Option Nat) (ops : Array Oper) : List Nat → (St → Prop) → St → Prop
  | [], K, st => K st
  | i :: is, K, st => iop1 P n A ops i (iops P n A ops is K) st

theorem put_self {d : Nat} {v : Value} (h : st.regs d = v) : st.put d v = st := by
  unfold St.put
  have : (fun i => if i = d then v else st.regs i) = st.regs := by
    funext i
    by_cases e : i = d
    · subst e; simp [h]
    · simp [e]
  rw [this]

theorem iop1_ok (hN : NoNG E.P) {A : Nat → Option Nat} {ops : Array Oper} {K : St → Prop} {Q : Exit → Act → World → Prop} {i : Nat} {st : St} {a : Act} {w : World} (hs : SR E st a w) (h : iop1 E.P E.n A ops i K st) :
    wpOp E.P ops Q i (Next' E K) a w := by
  obtain ⟨loc, hs⟩ := hs
  simp only [iop1] at h
  unfold wpOp
  split at h
  · exact h.elim
  · rename_i o ho
    rw [ho]
    simp only
    have go : ∀ {st : St} {a : Act}, SRel E st loc a w → aop E.P E.n A o st K → o.wp E.P a w (Next' E K) Q := fun hs h => aop_ok hN hs h
    split at h
    · rename_i hg
      rw [if_pos (by simp [Region.wanted, hg])]
      exact .inl (go hs h)
    · rename_i j want hg
      split at h
      · exact h.elim
      · rename_i d hd
        split at h
        case isFalse => exact h.elim
        rename_i hlt
        have skip : putK E.n o.dst undef K st → Next' E K (a.put o.dst undef) w := fun h => putK_ok (c := undef) hs (.val (.tuple [] [] rfl fun i h => absurd h (by simp))) h
        split at h
        case h_3 => exact h.elim
        case h_2 =>
          rename_i cs hb
          obtain ⟨cs⟩ := cs
          cases cs with
          | cons x xs => exact h.elim
          | nil =>
            have hr := hs.regs d hlt
            rw [hb] at hr
            obtain ⟨ys, hc, hl⟩ := (hr.vr rfl).tuple'
            have : ys = [] := by have := hl.1; simpa using this.symm
            subst this
            have hy : yielded ops a.tmps j = none := by
              unfold yielded
              rw [hd]
              simp only [Option.bind_some]
              have : a.tmps[d]? = some (.tuple ⟨[]⟩) := by
                rw [Array.getD_eq_getD_getElem?] at hc
                have hlt' : d < a.tmps.size := by rw [hs.size]; exact hlt
                rw [Array.getElem?_eq_getElem hlt'] at hc ⊢
                simpa using hc
              rw [this]
            have hw : Region.wanted o (yielded ops a.tmps) = false := by simp [Region.wanted, hg, hy]
            rw [hw]
            exact skip h
        rename_i b hb
        have hr := hs.regs d hlt
        rw [hb] at hr
        have hc := (hr.vr rfl).bool
        have hy : yielded ops a.tmps j = some b := by
          unfold yielded
          rw [hd]
          simp only [Option.bind_some]
          have : a.tmps[d]? = some (.bool b) := by
            rw [Array.getD_eq_getD_getElem?] at hc
            have hlt' : d < a.tmps.size := by rw [hs.size]; exact hlt
            rw [Array.getElem?_eq_getElem hlt'] at hc ⊢
            simpa using hc
          rw [this]
        have hput : st.put d (.bool b) = st := put_self hb
        have hw : Region.wanted o (yielded ops a.tmps) = (b == want) := by
          simp [Region.wanted, hg, hy]
        rw [hw]
        cases b <;> simp only [cond_true, cond_false, hput] at h
        · cases want
          · simp only [if_true] at h; exact .inl (go hs h)
          · simp only [reduceCtorEq, if_false] at h; exact skip h
        · cases want
          · simp only [reduceCtorEq, if_false] at h; exact skip h
          · simp only [if_true] at h; exact .inl (go hs h)

theorem iops_ok (hN : NoNG E.P) {A : Nat → Option Nat} {ops : Array Oper} {K : St → Prop} {Q : Exit → Act → World → Prop} (hQ : ∀ a w, Next' E K a w → Q .normal a w) :
    ∀ (is : List Nat) (st : St) (a : Act) (w : World), SR E st a w → iops E.P E.n A ops is K st → wpOps E.P ops Q is a w
  | [], st, a, w, hs, h => hQ a w ⟨st, hs, h⟩
  | i :: is, st, a, w, hs, h => by
    rw [wpOps_cons]
    exact wpOp_mono (fun a w ⟨st, hs, h⟩ => iops_ok hN hQ is st a w hs h) (iop1_ok hN hs h)

theorem AW.region (hN : NoNG E.P) {A : Nat → Option Nat} {id : Nat} {ops : Array Oper} {K : Exit → St → Prop} (h : iops E.P E.n A ops (List.range ops.size) (K .normal) st) : AW E (.region id ops false) K st :=
  fun a w hs => wp_region (iops_ok hN (fun _ _ h => h) _ st a w hs h)

theorem AW.cond {c : Operand} {x y : Code} {K : Exit → St → Prop} {b : Bool} (hc : ev E.n st c = .bool b) (h : bif b then AW E x K st else AW E y K st) : AW E (.cond c x y) K st := by
  rintro a w ⟨loc, hs⟩
  have hr := ev_rr hs c
  rw [hc] at hr
  have he := (hr.vr rfl).bool
  cases b with
  | true => exact wp_cond_true he (h a w ⟨loc, hs⟩)
  | false => exact wp_cond_false he (h a w ⟨loc, hs⟩)

end
end Go.Am
