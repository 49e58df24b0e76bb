/-
  AmE: operations that may be told in another order.
-/
import Derived.Test.YtkidkceaocgnfaaAmD
set_option linter.all false
namespace Go.Am

theorem Det.mono {α : Type} {f : (α → Prop) → Prop} (h : Det f) {K K' : α → Prop} (hf : f K) (hk : ∀ a, K a → K' a) : f K' := by
  obtain ⟨a, ha, h1⟩ := h K hf
  exact h1 K' (hk a ha)

/-- what an operation leaves behind: a register, a local box -/
structure Up where
  reg : Option (Nat × Value)
  box : Option (Nat × List Value)
def Up.app (u : Up) (st : St) : St where
  regs := fun i => match u.reg with | some (d, v) => if i = d then v else st.regs i | none => st.regs i
  loc := fun i => match u.box with | some (d, v) => if i = d then some v else st.loc i | none => st.loc i
  H := st.H

/-- it comes to one answer and leaves the heap alone -/
def isDet (A : Nat → Option Nat) (o : Oper) : Bool :=
  match o.op with
  | .alloc _ => match o.dst with | some d => decide (A d = some d) | none => false
  | .box _ _ => match o.dst with | some d => decide (A d = some d) | none => false
  | .store _ x _ => (lpOf A x).isSome
  | .buildSlice _ _ _ => false
  | .makeSlice _ _ _ => false
  | .call c => match c.callee with | .builtin .append => false | .builtin _ => true | _ => false
  | _ => true
/-- the local box that it writes -/
def wbox (A : Nat → Option Nat) (o : Oper) : Option Nat := match o.op with | .load _ _ => none | _ => boxOf A o

def opTmps (op : Op) : List Nat := op.operands.toList.filterMap fun | .tmp t => some t | _ => none

structure Agree (A : Nat → Option Nat) (o : Oper) (st st' : St) : Prop where
  regs : ∀ t ∈ opTmps o.op, st.regs t = st'.regs t
  box : ∀ k, boxOf A o = some k → st.loc k = st'.loc k
  H : looksH A o.op = true → st.H = st'.H

structure Touch (A : Nat → Option Nat) (o : Oper) (st s : St) : Prop where
  regs : ∀ t, o.dst ≠ some t → s.regs t = st.regs t
  box : ∀ k, wbox A o ≠ some k → s.loc k = st.loc k
  H : isDet A o = true → s.H = st.H

theorem ev_agree {n : Nat} {st st' : St} {op : Op} (h : ∀ t ∈ opTmps op, st.regs t = st'.regs t) (x : Operand) (hx : x ∈ op.operands) : ev n st x = ev n st' x := by
  cases x with
  | tmp t =>
    have : t ∈ opTmps op := List.mem_filterMap.2 ⟨_, Array.mem_toList_iff.2 hx, rfl⟩
    simp only [ev, h t this]
  | _ => rfl

/-- what is apart from an update -/
structure Up.Off (A : Nat → Option Nat) (u : Up) (o : Oper) : Prop where
  regs : ∀ d v, u.reg = some (d, v) → d ∉ opTmps o.op ∧ o.dst ≠ some d
  box : ∀ d v, u.box = some (d, v) → boxOf A o ≠ some d

theorem Up.regs_eq {A : Nat → Option Nat} {u : Up} {o : Oper} (h : u.Off A o) (st : St) : ∀ t ∈ opTmps o.op, (u.app st).regs t = st.regs t := by
  intro t ht
  simp only [Up.app]
  split
  · rename_i d v hr
    split
    · rename_i e; subst e; exact absurd ht (h.regs _ _ hr).1
    · rfl
  · rfl
theorem Up.loc_eq {A : Nat → Option Nat} {u : Up} {o : Oper} (h : u.Off A o) (st : St) {k : Nat} (hk : boxOf A o = some k) : (u.app st).loc k = st.loc k := by
  simp only [Up.app]
  split
  · rename_i d v hr
    split
    · rename_i e; subst e; exact absurd hk (h.box _ _ hr)
    · rfl
  · rfl
theorem Up.app_H (u : Up) (st : St) : (u.app st).H = st.H := rfl
theorem Up.put {A : Nat → Option Nat} {u : Up} {o : Oper} (h : u.Off A o) {d : Nat} (hd : o.dst = some d) (st : St) (v : Value) : (u.app st).put d v = u.app (st.put d v) := by
  have e : ((u.app st).put d v).regs = (u.app (st.put d v)).regs := by
    funext i
    simp only [Up.app, St.put]
    split
    · rename_i hi
      subst hi
      split
      · rename_i d' v' hr
        rw [if_neg]
        intro e; subst e
        exact (h.regs _ _ hr).2 hd
      · rfl
    · rfl
  calc (u.app st).put d v = { regs := ((u.app st).put d v).regs, loc := (u.app st).loc, H := st.H } := rfl
    _ = u.app (st.put d v) := by rw [e]; rfl
theorem Up.withH (u : Up) (st : St) (H : AHeap) : (u.app st).withH H = u.app (st.withH H) := rfl
theorem Up.setbox {A : Nat → Option Nat} {u : Up} {o : Oper} (h : u.Off A o) {d : Nat} (hd : boxOf A o = some d) (st : St) (xs : List Value) : (u.app st).setbox d xs = u.app (st.setbox d xs) := by
  have e : ((u.app st).setbox d xs).loc = (u.app (st.setbox d xs)).loc := by
    funext i
    simp only [Up.app, St.setbox]
    split
    · rename_i hi
      subst hi
      split
      · rename_i d' v' hr
        rw [if_neg]
        intro e; subst e
        exact h.box _ _ hr hd
      · rfl
    · rfl
  calc (u.app st).setbox d xs = { regs := (u.app st).regs, loc := ((u.app st).setbox d xs).loc, H := st.H } := rfl
    _ = u.app (st.setbox d xs) := by rw [e]; rfl

/-! ### operations that come to one answer -/
theorem det_cellsK (n : Nat) (v : Value) : Det (cellsK n v) := by
  cases v <;> first | exact det_gd (det_pure _) | exact det_bite (det_pure _) det_false
theorem det_wrC (n : Nat) (v : Value) (xs : List Value) (o : Nat) : Det (wrC n v xs o) := by
  have h : ∀ (c : Prop) [Decidable c] (zs : List Value), Det (fun K : List Value → Prop => gd c (K zs)) := fun c _ zs => det_gd (det_pure zs)
  have g : ∀ v : Value, Det (fun K : List Value → Prop => if isVal v && cellV v && n == 1 then gd (o < xs.length) (K (xs.set o v)) else False) := fun v => det_bite (h _ _) det_false
  cases v with
  | agg cs => exact h _ _
  | chan r => exact g (.chan r)
  | tuple vs => exact g (.tuple vs)
  | _ => exact g _

/-- what falls to opv -/
def isVOp (o : Oper) : Bool :=
  match o.op with
  | .alloc _ => false
  | .box _ _ => false
  | .store _ _ _ => false
  | .buildSlice _ _ _ => false
  | .makeSlice _ _ _ => false
  | .call c => match c.callee with | .builtin .append => false | .builtin _ => true | _ => false
  | _ => true

theorem aop_vop {P : Program} {n : Nat} {A : Nat → Option Nat} {o : Oper} (h : isVOp o = true) (st : St) (K : St → Prop) :
    aop P n A o st K = opv P A (ev n st) st.loc st.H o.op (fun v => putK n o.dst v K st) := by
  rcases o with ⟨dst, op, ty, _, _, _⟩
  cases op with
  | call c =>
    rcases c with ⟨callee, args, ts⟩
    cases callee with
    | value f => cases h
    | invoke r m => cases h
    | builtin b => cases b <;> first | rfl | exact nomatch h
  | _ => first | rfl | exact nomatch h

theorem hp_mono {p : Option Addr} {K K' : Nat → Nat → Prop} (h : hp p K) (hk : ∀ b o, K b o → K' b o) : hp p K' := by
  rcases p with _ | ⟨b, o, _ | s⟩
  · exact h.elim
  · exact hk _ _ h
  · exact h.elim
theorem wrH_mono {H : AHeap} {b : Nat} {K K' : List Value → TypeId → Prop} (h : wrH H b K) (hk : ∀ xs e, K xs e → K' xs e) : wrH H b K' := by
  obtain ⟨xs, e, h1, h2⟩ := wrH_elim h
  simp only [wrH, h1]
  exact hk _ _ h2
theorem elemW_mono {P : Program} {t : TypeId} {K K' : TypeId → Nat → Nat → List Value → Prop} (h : elemW P t K) (hk : ∀ e z b zs, K e z b zs → K' e z b zs) : elemW P t K' := by
  unfold elemW at h ⊢
  split at h
  case h_2 => exact h.elim
  split at h
  case h_2 => exact h.elim
  split at h
  case isFalse => exact h.elim
  rename_i hc
  rw [if_pos hc]
  exact hk _ _ _ _ h
theorem srcW_mono {H : AHeap} {a : Option Addr} {m z : Nat} {K K' : List Value → Prop} (h : srcW H a m z K) (hk : ∀ xs, K xs → K' xs) : srcW H a m z K' := by
  rcases a with _ | ⟨b, o, _ | s⟩
  · exact hk _ h
  · exact (det_rdH H b).mono h fun xs h => gd_iff.2 ⟨(gd_iff.1 h).1, hk _ (gd_iff.1 h).2⟩
  · exact h.elim
theorem appW_mono {H : AHeap} {e z by_ : Nat} {a : Option Addr} {n z' : Nat} {ys : List Value} {m : Nat} {K K' : Option Addr → Nat → Nat → AHeap → Prop} (h : appW H e z by_ a n z' ys m K) (hk : ∀ a n z H, K a n z H → K' a n z H) : appW H e z by_ a n z' ys m K' := by
  refine ⟨h.1, ?_⟩
  have h := h.2
  rcases a with _ | ⟨b, o, _ | s⟩
  · exact ⟨fun hm => hk _ _ _ _ (h.1 hm), fun hm b hb => hk _ _ _ _ (h.2 hm b hb)⟩
  · cases o with
    | zero =>
      simp only at h ⊢
      split at h
      · rename_i xs e' hb
        exact ⟨h.1, fun b hb => hk _ _ _ _ (h.2 b hb)⟩
      · exact h.elim
    | succ o => exact h.elim
  · cases o <;> exact h.elim
theorem asK_mono {kd : Kd} {v : Value} {K K' : Value → Prop} (h : asK kd v K) (hk : ∀ v, K v → K' v) : asK kd v K' := (det_asK kd v).mono h hk
theorem asKs_mono : ∀ {kds : List Kd} {vs : List Value} {K K' : List Value → Prop}, asKs kds vs K → (∀ v, K v → K' v) → asKs kds vs K'
  | [], [], _, _, h, hk => hk _ h
  | [], _ :: _, _, _, h, _ => h.elim
  | _ :: _, [], _, _, h, _ => h.elim
  | kd :: kds, v :: vs, K, K', h, hk => asK_mono (kd := kd) (v := v) (K := fun v' => asKs kds vs fun r => K (v' :: r)) h fun v h => asKs_mono h fun r h => hk _ h
theorem resK_mono {P : Program} {ty : TypeId} {r : Value} {K K' : Value → Prop} (h : resK P ty r K) (hk : ∀ v, K v → K' v) : resK P ty r K' := by
  unfold resK at h ⊢
  split at h
  · cases r with
    | tuple vs => exact asKs_mono h fun l h => hk _ h
    | _ => exact h.elim
  · exact asK_mono h hk

/-- what such an operation leaves behind, from wherever it starts -/
theorem aop_det {P : Program} {n : Nat} {A : Nat → Option Nat} {o : Oper} (hd : isDet A o = true) {st : St} {K : St → Prop} (h : aop P n A o st K) :
    ∃ u : Up, (u.reg.map (·.1) = o.dst) ∧ (∀ d v, u.box = some (d, v) → wbox A o = some d) ∧ K (u.app st) ∧
      ∀ st', Agree A o st st' → ∀ K' : St → Prop, K' (u.app st') → aop P n A o st' K' := by
  by_cases hv : isVOp o = true
  · rw [aop_vop hv] at h
    obtain ⟨v, hk, hdet⟩ := opv_det P A (ev n st) st.loc st.H o.op _ h
    have go : ∀ st', Agree A o st st' → ∀ K' : St → Prop, putK n o.dst v K' st' → aop P n A o st' K' := by
      intro st' ha K' hk'
      rw [aop_vop hv]
      rw [opv_congr (ev' := ev n st) (L' := st.loc) (H' := st.H)]
      · exact hdet _ hk'
      · exact fun x hx => (ev_agree ha.regs x hx).symm
      · intro t x d ho hx
        exact (ha.box d (by rcases o with ⟨dst, op, ty, p, af, g⟩; simp only at ho; subst ho; exact hx)).symm
      · exact fun hh => (ha.H hh).symm
    cases hd' : o.dst with
    | none =>
      rw [hd'] at hk
      refine ⟨⟨none, none⟩, by first | rfl | exact hd'.symm, ?_, hk, fun st' ha K' hk' => ?_⟩
      · intro d v h; cases h
      refine go st' ha K' ?_
      rw [hd']; exact hk'
    | some d =>
      rw [hd'] at hk
      simp only [putK] at hk
      split at hk
      · rename_i hlt
        refine ⟨⟨some (d, v), none⟩, by first | rfl | exact hd'.symm, ?_, hk, fun st' ha K' hk' => ?_⟩
        · intro d v h; cases h
        refine go st' ha K' ?_
        rw [hd']
        simp only [putK, hlt, if_true]
        exact hk'
      · exact hk.elim
  · rcases o with ⟨dst, op, ty, pos, af, g⟩
    cases op with
    | alloc t =>
      cases dst with
      | none => exact nomatch hd
      | some d =>
        have hA : A d = some d := of_decide_eq_true hd
        have hb : boxOf A ⟨some d, .alloc t, ty, pos, af, g⟩ = some d := by simp [boxOf, hA]
        simp only [aop] at h
        split at h
        case isFalse => exact h.elim
        rename_i hlt
        split at h
        case isFalse => exact h.elim
        rename_i hz
        split at h
        case h_2 => exact h.elim
        rename_i hl
        refine ⟨⟨some (d, .complex .f32 d 0), some (d, zc P t)⟩, by first | rfl | exact hd'.symm, ?_, h, fun st' ha K' hk' => ?_⟩
        · intro d v h; cases h; exact hb
        have hl' : st'.loc d = none := by rw [← ha.box d hb]; exact hl
        simp only [aop, hlt, hz, hA, if_true, hl']
        exact hk'
    | box t x =>
      cases dst with
      | none => exact nomatch hd
      | some d =>
        have hA : A d = some d := of_decide_eq_true hd
        have hb : boxOf A ⟨some d, .box t x, ty, pos, af, g⟩ = some d := by simp [boxOf, hA]
        simp only [aop] at h
        split at h
        case isFalse => exact h.elim
        rename_i hlt
        obtain ⟨z, h, hz⟩ := det_szT P t _ h
        obtain ⟨ys, h, hys⟩ := det_cellsK _ _ _ h
        split at h
        case h_2 => exact h.elim
        rename_i hl
        refine ⟨⟨some (d, .complex .f32 d 0), some (d, ys)⟩, by first | rfl | exact hd'.symm, ?_, h, fun st' ha K' hk' => ?_⟩
        · intro d v h; cases h; exact hb
        have hl' : st'.loc d = none := by rw [← ha.box d hb]; exact hl
        simp only [aop, hlt, hA, if_true, hl']
        refine hz _ ?_
        rw [← ev_agree ha.regs x (by simp [Op.operands])]
        exact hys _ hk'
    | store t x v =>
      cases dst with
      | some d => simp only [aop] at h
      | none =>
        cases hx : lpOf A x with
        | none => simp [isDet, hx] at hd
        | some d =>
          have hb : boxOf A ⟨none, .store t x v, ty, pos, af, g⟩ = some d := by simp [boxOf, hx]
          simp only [aop, hx] at h
          obtain ⟨z, h, hz⟩ := det_szT P t _ h
          have e1 : ∀ st', Agree A ⟨none, .store t x v, ty, pos, af, g⟩ st st' → ev n st' x = ev n st x := fun st' ha => (ev_agree ha.regs x (by simp [Op.operands])).symm
          have e2 : ∀ st', Agree A ⟨none, .store t x v, ty, pos, af, g⟩ st st' → ev n st' v = ev n st v := fun st' ha => (ev_agree ha.regs v (by simp [Op.operands])).symm
          split at h
          case h_2 => exact h.elim
          rename_i k q hp
          split at h
          case isFalse => exact h.elim
          rename_i hk
          subst hk
          obtain ⟨xs, h, hxs⟩ := det_rdB st.loc k _ h
          obtain ⟨xs', h, hxs'⟩ := det_wrC _ _ _ _ _ h
          refine ⟨⟨none, some (k, xs')⟩, by first | rfl | exact hd'.symm, ?_, h, fun st' ha K' hk' => ?_⟩
          · intro d v h; cases h; exact hb
          simp only [aop, hx]
          refine hz _ ?_
          rw [e1 st' ha, hp]
          simp only [if_true]
          have hL : rdB st'.loc k = rdB st.loc k := by funext K; simp only [rdB, ha.box k hb]
          rw [hL]
          refine hxs _ ?_
          rw [e2 st' ha]
          exact hxs' _ hk'
    | buildSlice t l ps => exact nomatch hd
    | makeSlice t l c => exact nomatch hd
    | call c =>
      rcases c with ⟨callee, args, ts⟩
      cases callee with
      | value f => exact nomatch hd
      | invoke r m => exact nomatch hd
      | builtin b => cases b <;> first | exact absurd rfl hv | exact nomatch hd
    | _ => exact absurd rfl hv

theorem putK_frame {n : Nat} {A : Nat → Option Nat} {u : Up} {o : Oper} (hu : u.Off A o) {st : St} {H' : AHeap} {v : Value} {K K' : St → Prop} (h : putK n o.dst v K (u.app (st.withH H')))
    (hk : ∀ s : St, (∀ t, o.dst ≠ some t → s.regs t = st.regs t) → s.loc = st.loc → s.H = H' → K (u.app s) → K' s) : putK n o.dst v K' (st.withH H') := by
  cases hd : o.dst with
  | none =>
    rw [hd] at h
    exact hk _ (fun _ _ => rfl) rfl rfl h
  | some d =>
    rw [hd] at h
    simp only [putK] at h ⊢
    split at h
    · rename_i hlt
      rw [if_pos hlt]
      refine hk _ ?_ rfl rfl (by rw [← Up.put hu hd]; exact h)
      intro t ht
      simp only [St.put]
      rw [if_neg]
      · rfl
      · intro e; subst e; exact ht hd
    · exact h.elim

theorem aop_frame {P : Program} {n : Nat} {A : Nat → Option Nat} {u : Up} {o : Oper} (hu : u.Off A o) {st : St} {K K' : St → Prop} (h : aop P n A o (u.app st) K) (hk : ∀ s, Touch A o st s → K (u.app s) → K' s) : aop P n A o st K' := by
  have hev : ∀ x ∈ o.op.operands, ev n (u.app st) x = ev n st x := fun x hx => ev_agree (Up.regs_eq hu st) x hx
  -- an end, where the heap may have turned
  have fin : isDet A o = false → ∀ (H' : AHeap) (v : Value), putK n o.dst v K (u.app (st.withH H')) → putK n o.dst v K' (st.withH H') := by
    intro hd H' v h
    refine putK_frame hu h fun s h1 h2 h3 hs => hk s ⟨h1, fun k _ => by rw [h2], fun h => by rw [hd] at h; cases h⟩ hs
  by_cases hv : isVOp o = true
  · rw [aop_vop hv] at h ⊢
    rw [opv_congr (H := (u.app st).H) (ev' := ev n st) (L' := st.loc) (H' := st.H) hev ?_ (fun _ => rfl)] at h
    · refine (opv_det P A (ev n st) st.loc st.H o.op).mono h fun v h => ?_
      exact putK_frame (st := st) (H' := st.H) hu h fun s h1 h2 h3 hs => hk s ⟨h1, fun k _ => by rw [h2], fun _ => h3⟩ hs
    · intro t x d ho hx
      refine Up.loc_eq hu st (by rcases o with ⟨dst, op, ty, p, af, g⟩; simp only at ho; subst ho; exact hx)
  · rcases o with ⟨dst, op, ty, pos, af, g⟩
    cases op with
    | alloc t =>
      cases dst with
      | none => simp only [aop] at h
      | some d =>
        simp only [aop] at h ⊢
        split at h
        case isFalse => exact h.elim
        rename_i hlt
        split at h
        case isFalse => exact h.elim
        rename_i hz
        rw [if_pos hlt, if_pos hz]
        split at h
        · rename_i hA
          rw [if_pos hA]
          have hb : boxOf A ⟨some d, .alloc t, ty, pos, af, g⟩ = some d := by simp [boxOf, hA]
          rw [Up.loc_eq hu st hb] at h
          split at h
          case h_2 => exact h.elim
          rename_i hl
          refine hk _ ⟨?_, ?_, fun _ => rfl⟩ (by rw [← Up.put hu rfl, ← Up.setbox hu hb]; exact h)
          · intro t ht
            simp only [St.put, St.setbox]
            rw [if_neg]; intro e; subst e; exact ht rfl
          · intro k hk
            simp only [St.put, St.setbox]
            rw [if_neg]; intro e; subst e; exact hk (by simpa [wbox] using hb)
        · rename_i hA
          rw [if_neg hA]
          intro b hb
          refine hk _ ⟨?_, fun k _ => rfl, fun h => absurd (of_decide_eq_true h) hA⟩ (by rw [← Up.put hu rfl, ← Up.withH]; exact h b hb)
          intro t ht
          simp only [St.put, St.withH]
          rw [if_neg]; intro e; subst e; exact ht rfl
    | box t x =>
      cases dst with
      | none => simp only [aop] at h
      | some d =>
        simp only [aop] at h ⊢
        split at h
        case isFalse => exact h.elim
        rename_i hlt
        rw [if_pos hlt]
        rw [hev x (by simp [Op.operands])] at h
        refine (det_szT P t).mono h fun z h => (det_cellsK z (ev n st x)).mono h fun ys h => ?_
        split at h
        · rename_i hA
          rw [if_pos hA]
          have hb : boxOf A ⟨some d, .box t x, ty, pos, af, g⟩ = some d := by simp [boxOf, hA]
          rw [Up.loc_eq hu st hb] at h
          split at h
          case h_2 => exact h.elim
          rename_i hl
          refine hk _ ⟨?_, ?_, fun _ => rfl⟩ (by rw [← Up.put hu rfl, ← Up.setbox hu hb]; exact h)
          · intro t ht
            simp only [St.put, St.setbox]
            rw [if_neg]; intro e; subst e; exact ht rfl
          · intro k hk
            simp only [St.put, St.setbox]
            rw [if_neg]; intro e; subst e; exact hk (by simpa [wbox] using hb)
        · rename_i hA
          rw [if_neg hA]
          intro b hb
          refine hk _ ⟨?_, fun k _ => rfl, fun h => absurd (of_decide_eq_true h) hA⟩ (by rw [← Up.put hu rfl, ← Up.withH]; exact h b hb)
          intro t ht
          simp only [St.put, St.withH]
          rw [if_neg]; intro e; subst e; exact ht rfl
    | store t x v =>
      cases dst with
      | some d => simp only [aop] at h
      | none =>
        have e1 := hev x (by simp [Op.operands])
        have e2 := hev v (by simp [Op.operands])
        simp only [aop, e1, e2] at h ⊢
        refine (det_szT P t).mono h fun z h => ?_
        cases hx : lpOf A x with
        | some d =>
          have hb : boxOf A ⟨none, .store t x v, ty, pos, af, g⟩ = some d := by simp [boxOf, hx]
          rw [hx] at h
          simp only at h ⊢
          split at h
          case h_2 => exact h.elim
          rename_i k q hp
          split at h
          case isFalse => exact h.elim
          rename_i hkd
          subst hkd
          rw [if_pos rfl]
          have hL : rdB (u.app st).loc k = rdB st.loc k := by funext K; simp only [rdB, Up.loc_eq hu st hb]
          rw [hL] at h
          refine (det_rdB st.loc k).mono h fun xs h => (det_wrC z (ev n st v) xs q).mono h fun xs' h => ?_
          refine hk _ ⟨fun _ _ => rfl, ?_, fun _ => rfl⟩ (by rw [← Up.setbox hu hb]; exact h)
          intro j hj
          simp only [St.setbox]
          rw [if_neg]; intro e; subst e; exact hj (by simpa [wbox] using hb)
        | none =>
          rw [hx] at h
          simp only at h ⊢
          split at h
          case h_2 => exact h.elim
          rename_i p hp
          refine hp_mono h fun b q h => ?_
          refine wrH_mono h fun xs e h => (det_wrC z (ev n st v) xs q).mono h fun xs' h => ?_
          exact hk _ ⟨fun _ _ => rfl, fun _ _ => rfl, fun h => by simp [isDet, hx] at h⟩ h
    | buildSlice t l ps =>
      have e1 : ∀ zs tot pl K, buildL (ev n (u.app st)) zs tot 0 0 pl ps.toList K = buildL (ev n st) zs tot 0 0 pl ps.toList K := fun zs tot pl K => build_congr pl 0 0 ps.toList K fun p hp => hev p.2 (by simp only [Op.operands]; exact (List.mem_toArray).2 (List.mem_map_of_mem hp))
      simp only [aop, e1] at h ⊢
      refine elemW_mono h fun e z by_ zs h => ?_
      split at h
      case isFalse => exact h.elim
      rename_i hl
      rw [if_pos hl]
      exact (det_build _ _ _ _ _ _ _).mono h fun ys h b hb => fin rfl _ _ (h b hb)
    | makeSlice t l c =>
      have e1 := hev l (by simp [Op.operands])
      have e2 := hev c (by simp [Op.operands])
      simp only [aop, e1, e2] at h ⊢
      split at h
      case h_2 => exact h.elim
      rename_i a b _ _
      refine elemW_mono h fun e z by_ zs h => ?_
      exact ⟨h.1, fun b hb => fin rfl _ _ (h.2 b hb)⟩
    | call c =>
      rcases c with ⟨callee, args, ts⟩
      have ea : args.toList.map (ev n (u.app st)) = args.toList.map (ev n st) := List.map_congr_left fun a ha => hev a (by simp only [Op.operands, Call.operands, Array.mem_append]; exact .inr (by simpa using ha))
      cases callee with
      | value f =>
        have ef := hev f (by simp [Op.operands, Call.operands])
        simp only [aop, ea, ef] at h ⊢
        split at h
        case h_2 => exact h.elim
        rename_i gf x y hf
        split at h
        case isFalse => exact h.elim
        rename_i hg
        rw [if_pos hg]
        exact h.mono fun r H' h => resK_mono h fun r' h => fin rfl _ _ h
      | invoke r m => exact h.elim
      | builtin b =>
        cases b <;> first
          | exact absurd rfl hv
          | (simp only [aop, ea] at h ⊢
             split at h
             case h_2 => exact h.elim
             rename_i t t' a m z' a2 m2 z2 hts hargs
             split at h
             case isFalse => exact h.elim
             rename_i ht
             rw [if_pos ht]
             refine elemW_mono h fun e z by_ zs h => srcW_mono h fun ys h => appW_mono h fun a' m' z' H' h => fin rfl _ _ h)
    | _ => exact absurd rfl hv
end Go.Am
