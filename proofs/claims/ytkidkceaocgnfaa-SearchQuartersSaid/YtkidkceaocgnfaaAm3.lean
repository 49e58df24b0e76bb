/-
  Am3: operations that only make a value do what Am2 says.
-/
import Derived.Test.YtkidkceaocgnfaaAm2
set_option linter.all false
namespace Go.Am
section
variable {P : Program} {sz : Nat → Nat} {loc : Nat → Nat} {lv : Nat → Prop} {w : World} {A : Nat → Option Nat}

/-- what an operation that makes a value has come to -/
def Val (P : Program) (w : World) (loc : Nat → Nat) (lv : Nat → Prop) (s : Sem Value) (kv : Value → Prop) : Prop := ∃ v c, s.run P w = .ok c w ∧ RR (csz w) loc lv v c ∧ kv v

theorem Val.atom {s : Sem Value} {kv : Value → Prop} {v : Value} (h : s.run P w = .ok v w) (hv : VR (csz w) v v) (hk : kv v) : Val P w loc lv s kv := ⟨v, v, h, .val hv, hk⟩

theorem isVal_of_vr {v c : Value} (h : VR sz v c) : isVal v = true ∨ v = .chan none := by
  cases h with
  | atom _ h =>
    cases v with
    | complex k a b => cases k <;> simp_all [isVal, atomV, flatV]
    | chan r => cases r <;> simp_all [isVal, atomV, flatV]
    | _ => simp [isVal]
  | slice => simp [isVal]
  | agg => simp [isVal]
  | tuple => simp [isVal]

theorem kd_agg {t : TypeId} {n : Nat} (h : kdOf P t = .agg n) : ∃ d i, P.underlying t = some d ∧ d.isRow = true ∧ P.info? t = some i ∧ i.size = n := by
  unfold kdOf at h
  split at h <;> simp only [Kd.agg.injEq, reduceCtorEq] at h
  all_goals
    rename_i d hd
    cases hi : P.info? t with
    | none => simp [Program.underlying, hi] at hd
    | some i => exact ⟨_, i, hd, rfl, rfl, by simpa [Program.cellsOf, hi] using h⟩

theorem kd_scalar {t : TypeId} (h : ∀ n, kdOf P t ≠ .agg n) (hb : kdOf P t ≠ .bad) : (isAgg t).run P w = .ok false w := by
  unfold kdOf at h hb
  cases hd : P.underlying t with
  | none => simp [hd] at hb
  | some d =>
    unfold isAgg
    rw [Sem.run_bind, run_underlying hd w]
    cases d <;> simp_all

/-- a block's cells, abstract and true -/
theorem loadVar_ok {t : TypeId} {b o : Nat} {xs ys : List Value} {kv : Value → Prop} (hx : VRs (csz w) xs ys) (hcv : xs.all cellV = true)
    (hc : ∀ j v, ys[j]? = some v → w.cell? ⟨b, j, none⟩ = some v) (h : ldC (kdOf P t) xs o kv) : Val P w loc lv (loadVar t ⟨b, o, none⟩) kv := by
  by_cases hk : ∃ n, kdOf P t = .agg n
  · obtain ⟨n, hk⟩ := hk
    obtain ⟨d, i, hu, hd, hi, hs⟩ := kd_agg hk
    simp only [hk, ldC] at h
    obtain ⟨hlen, hkv⟩ := gd_iff.1 h
    refine ⟨_, .agg ⟨(ys.drop o).take n⟩, ?_, .val ((hx.range o n).ag (cells_range hcv o n)), hkv⟩
    have := run_loadVar_mid (P := P) w b o t ((ys.drop o).take n) d (fun j v hj => hc _ _ (by
      rw [List.getElem?_take] at hj
      split at hj
      · simpa [List.getElem?_drop] using hj
      · cases hj)) hu hd (by
      have := hx.1
      simp [hi, hs]; omega)
    exact this
  · have hk' : ∀ n, kdOf P t ≠ .agg n := fun n e => hk ⟨n, e⟩
    have hb : kdOf P t ≠ .bad := by
      intro e
      rw [e] at h
      simp only [ldC, at_] at h
      split at h
      · exact h
      · exact h
    have h' : at_ xs o fun v => asK (kdOf P t) v kv := by
      generalize kdOf P t = kd at h hk'
      cases kd <;> first | exact h | exact absurd rfl (hk' _)
    simp only [at_] at h'
    split at h'
    · rename_i v hv
      obtain ⟨c, hc1, hc2⟩ := hx.nth hv
      refine ⟨v, c, ?_, .val hc2, asK_elim h'⟩
      simp [loadVar, kd_scalar hk' hb, hc _ _ hc1]
    · exact h'.elim

theorem hrel_cells {H : AHeap} {b : Nat} {xs : List Value} {e : TypeId} {own : Bool} (h : HRel H w) (hb : H.get b = some (.cells xs e own)) :
    ∃ ys : List Value, (xs.length = ys.length ∧ ∀ i (h1 : i < xs.length) (h2 : i < ys.length), nj xs[i] = true → VR (csz w) xs[i] ys[i]) ∧ xs.all cellV = true ∧ ∀ j v, ys[j]? = some v → w.cell? ⟨b, j, none⟩ = some v := by
  obtain ⟨c, fr, h1, h2, h3, _, hcv⟩ := h.obj b _ hb
  refine ⟨c.toList.take xs.length, ⟨by simp; omega, fun i i1 i2 hn => ?_⟩, hcv, fun j v hv => ?_⟩
  · obtain ⟨v, hv, hr⟩ := h3 i i1
    have : (c.toList.take xs.length)[i] = v := by
      have : c.toList[i]? = some v := by simpa using hv
      obtain ⟨_, e⟩ := List.getElem?_eq_some_iff.1 this
      simpa using e
    rw [this]; exact hr (.inr hn)
  · rw [List.getElem?_take] at hv
    split at hv
    · simp [World.cell?, h1]; simpa using hv
    · cases hv
theorem nj_range {sz : Nat → Nat} {xs ys : List Value} (h : xs.length = ys.length ∧ ∀ i (h1 : i < xs.length) (h2 : i < ys.length), nj xs[i] = true → VR sz xs[i] ys[i]) {o n : Nat} (hn : ((xs.drop o).take n).all nj = true) : VRs sz ((xs.drop o).take n) ((ys.drop o).take n) := by
  refine ⟨by simp [h.1], fun i h1 h2 => ?_⟩
  have := List.all_eq_true.1 hn _ (List.getElem_mem h1)
  simp only [List.getElem_take, List.getElem_drop] at this ⊢
  exact h.2 _ _ _ this
theorem loadH_ok {t : TypeId} {b o : Nat} {xs ys : List Value} {kv : Value → Prop} (hx : xs.length = ys.length ∧ ∀ i (h1 : i < xs.length) (h2 : i < ys.length), nj xs[i] = true → VR (csz w) xs[i] ys[i]) (hcv : xs.all cellV = true)
    (hc : ∀ j v, ys[j]? = some v → w.cell? ⟨b, j, none⟩ = some v) (h : ldH (kdOf P t) xs o kv) : Val P w loc lv (loadVar t ⟨b, o, none⟩) kv := by
  by_cases hk : ∃ n, kdOf P t = .agg n
  · obtain ⟨n, hk⟩ := hk
    obtain ⟨d, i, hu, hd, hi, hs⟩ := kd_agg hk
    simp only [hk, ldH] at h
    obtain ⟨⟨hlen, hnj⟩, hkv⟩ := gd_iff.1 h
    refine ⟨_, .agg ⟨(ys.drop o).take n⟩, ?_, .val ((nj_range hx hnj).ag (cells_range hcv o n)), hkv⟩
    have := run_loadVar_mid (P := P) w b o t ((ys.drop o).take n) d (fun j v hj => hc _ _ (by
      rw [List.getElem?_take] at hj
      split at hj
      · simpa [List.getElem?_drop] using hj
      · cases hj)) hu hd (by
      have := hx.1
      simp [hi, hs]; omega)
    exact this
  · have hk' : ∀ n, kdOf P t ≠ .agg n := fun n e => hk ⟨n, e⟩
    have hb : kdOf P t ≠ .bad := by
      intro e
      rw [e] at h
      simp only [ldH, at_] at h
      split at h
      · exact h
      · exact h
    have h' : at_ xs o fun v => asK (kdOf P t) v kv := by
      generalize kdOf P t = kd at h hk'
      cases kd <;> first | exact h | exact absurd rfl (hk' _)
    simp only [at_] at h'
    split at h'
    · rename_i v hv
      obtain ⟨hlt, hv'⟩ := List.getElem?_eq_some_iff.1 hv
      have hlt2 : o < ys.length := hx.1 ▸ hlt
      have hvr := hx.2 o hlt hlt2 (by rw [hv']; exact asK_nj h')
      rw [hv'] at hvr
      refine ⟨v, ys[o], ?_, .val hvr, asK_elim h'⟩
      simp [loadVar, kd_scalar hk' hb, hc _ _ (List.getElem?_eq_getElem hlt2)]
    · exact h'.elim

theorem hp_elim {p : Option Addr} {K : Nat → Nat → Prop} (h : hp p K) : ∃ b o, p = some ⟨b, o, none⟩ ∧ K b o := by
  unfold hp at h
  split at h
  · exact ⟨_, _, rfl, h⟩
  · exact h.elim
theorem rdH_elim {H : AHeap} {b : Nat} {K : List Value → Prop} (h : rdH H b K) : ∃ xs e own, H.get b = some (.cells xs e own) ∧ K xs := by
  unfold rdH at h
  split at h
  · rename_i hx; exact ⟨_, _, _, hx, h⟩
  · exact h.elim
theorem rdB_elim {L : Nat → Option (List Value)} {k : Nat} {K : List Value → Prop} (h : rdB L k K) : ∃ xs, L k = some xs ∧ K xs := by
  unfold rdB at h
  split at h
  · rename_i hx; exact ⟨_, hx, h⟩
  · exact h.elim
theorem szT_elim {t : TypeId} {K : Nat → Prop} (h : szT P t K) : ∃ i, P.info? t = some i ∧ K i.size := by
  unfold szT at h
  split at h
  · rename_i hx; exact ⟨_, hx, h⟩
  · exact h.elim
theorem at_elim {xs : List Value} {i : Nat} {K : Value → Prop} (h : at_ xs i K) : ∃ v, xs[i]? = some v ∧ K v := by
  unfold at_ at h
  split at h
  · rename_i hx; exact ⟨_, hx, h⟩
  · exact h.elim

theorem box_cells {E : Env} {st : St} {a : Act} (hs : SRel E st loc a w) {k : Nat} {xs : List Value} (hk : st.loc k = some xs) :
    ∃ ys, VRs (csz w) xs ys ∧ xs.all cellV = true ∧ ∀ j v, ys[j]? = some v → w.cell? ⟨loc k, j, none⟩ = some v := by
  obtain ⟨c, e, h1, h2, _, _, hcv⟩ := hs.box k xs hk
  exact ⟨c.toList, h2, hcv, fun j v hv => by simp [World.cell?, h1]; simpa using hv⟩

theorem add_none (b o n : Nat) : (⟨b, o, none⟩ : Addr).add n = ⟨b, o + n, none⟩ := Addr.add_mid b o n

theorem load_ok {E : Env} {st : St} {a : Act} (hs : SRel E st loc a w) {t : TypeId} {x : Operand} {kv : Value → Prop} (h : opv E.P A (ev E.n st) st.loc st.H (.load t x) kv) :
    Val E.P w loc st.live (Instr.loadAt t (a.eval x)) kv := by
  have hr := ev_rr hs x
  simp only [opv] at h
  split at h
  · rename_i d hd
    split at h
    case h_2 => exact h.elim
    rename_i k o he
    rw [he] at hr
    split at h
    case isFalse => exact h.elim
    rename_i hkd
    subst hkd
    obtain ⟨xs, hk, h⟩ := rdB_elim h
    obtain ⟨ys, hy, hcv, hc⟩ := box_cells hs hk
    rw [hr.locp.1]
    have := loadVar_ok (P := E.P) (loc := loc) (lv := st.live) hy hcv hc h
    simpa [Instr.loadAt, Instr.sureAddr, Val] using this
  · split at h
    case h_2 => exact h.elim
    rename_i p he
    rw [he] at hr
    obtain ⟨b, o, rfl, h⟩ := hp_elim h
    obtain ⟨xs, e, own, hb, h⟩ := rdH_elim h
    obtain ⟨ys, hy, hcv, hc⟩ := hrel_cells hs.heap hb
    rw [(hr.vr rfl).pointer]
    have := loadH_ok (P := E.P) (loc := loc) (lv := st.live) hy hcv hc h
    simpa [Instr.loadAt, Instr.sureAddr, Val] using this

theorem fieldAddr_ok {E : Env} {st : St} {a : Act} (hs : SRel E st loc a w) {s : TypeId} {f : Nat} {x : Operand} {kv : Value → Prop} (h : opv E.P A (ev E.n st) st.loc st.H (.fieldAddr s x f) kv) :
    Val E.P w loc st.live (Instr.fieldAt s (a.eval x) f) kv := by
  have hr := ev_rr hs x
  simp only [opv] at h
  split at h
  · rename_i off t hf
    unfold foff at hf
    split at hf
    · rename_i fs hu
      split at hf
      · rename_i fd hfd
        split at hf
        · rename_i i hi
          split at hf
          · cases hf
          · rename_i hne
            simp only [Option.some.injEq, Prod.mk.injEq] at hf
            obtain ⟨rfl, rfl⟩ := hf
            have hplace : ∀ b o, (fieldPlace ⟨b, o, none⟩ fd).run E.P w = .ok ⟨b, o + fd.offset, none⟩ w := by
              intro b o
              simp [fieldPlace, sizeOf, typeInfo, hi, hne, add_none]
            split at h
            · rename_i k o he
              rw [he] at hr
              rw [hr.locp.1]
              exact ⟨_, _, by simp [Instr.fieldAt, run_underlying hu, hfd, Instr.sureAddr, hplace], .loc k _ hr.locp.2, h⟩
            · rename_i p he
              rw [he] at hr
              obtain ⟨b, o, rfl, h⟩ := hp_elim h
              rw [(hr.vr rfl).pointer]
              exact .atom (by simp [Instr.fieldAt, run_underlying hu, hfd, Instr.sureAddr, hplace]) (.atom _ rfl) h
            · exact h.elim
        · cases hf
      · cases hf
    · cases hf
  · exact h.elim

theorem indexAddr_ok {E : Env} {st : St} {a : Act} (hs : SRel E st loc a w) {t : TypeId} {x i : Operand} {kv : Value → Prop} (h : opv E.P A (ev E.n st) st.loc st.H (.indexAddr t x i) kv) :
    Val E.P w loc st.live (Instr.indexAt t (a.eval x) (a.eval i)) kv := by
  have hr := ev_rr hs x
  have hri := ev_rr hs i
  simp only [opv] at h
  split at h
  · rename_i k j hj
    rw [hj] at hri
    rw [(hri.vr rfl).int]
    split at h
    · rename_i n e q o hu he
      rw [he] at hr
      obtain ⟨ti, hti, h⟩ := szT_elim h
      obtain ⟨⟨h0, h1⟩, h⟩ := gd_iff.1 h
      rw [hr.locp.1]
      exact ⟨_, _, by simp [Instr.indexAt, asIntOf, run_underlying hu, Instr.sureAddr, h0, h1, sizeOf, typeInfo, hti, add_none], .loc q _ hr.locp.2, h⟩
    · rename_i n e p hu he
      rw [he] at hr
      obtain ⟨ti, hti, h⟩ := szT_elim h
      obtain ⟨b, o, rfl, h⟩ := hp_elim h
      obtain ⟨⟨h0, h1⟩, h⟩ := gd_iff.1 h
      rw [(hr.vr rfl).pointer]
      exact .atom (by simp [Instr.indexAt, asIntOf, run_underlying hu, Instr.sureAddr, h0, h1, sizeOf, typeInfo, hti, add_none]) (.atom _ rfl) h
    · rename_i e s n z hu he
      rw [he] at hr
      obtain ⟨ti, hti, h⟩ := szT_elim h
      obtain ⟨b, o, rfl, h⟩ := hp_elim h
      obtain ⟨⟨h0, h1⟩, h⟩ := gd_iff.1 h
      obtain ⟨cap, hc, _⟩ := (hr.vr rfl).sl
      rw [hc]
      exact .atom (by simp [Instr.indexAt, asIntOf, run_underlying hu, h0, h1, sizeOf, typeInfo, hti, add_none]) (.atom _ rfl) h
    · exact h.elim
  · exact h.elim

/-- a cell, or a range, of a value's own cells -/
theorem part_ok {t : TypeId} {o : Nat} {xs ys : List Value} {kv : Value → Prop} (hx : VRs (csz w) xs ys) (hcv : xs.all cellV = true) (h : ldC (kdOf P t) xs o kv) : Val P w loc lv (part t ⟨ys⟩ o) kv := by
  by_cases hk : ∃ n, kdOf P t = .agg n
  · obtain ⟨n, hk⟩ := hk
    obtain ⟨d, i, hu, hd, hi, hs⟩ := kd_agg hk
    simp only [hk, ldC] at h
    obtain ⟨hlen, hkv⟩ := gd_iff.1 h
    refine ⟨_, .agg ⟨(ys.drop o).take n⟩, ?_, .val ((hx.range o n).ag (cells_range hcv o n)), hkv⟩
    have hagg : (isAgg t).run P w = .ok true w := by
      unfold isAgg
      rw [Sem.run_bind, run_underlying hu w]
      cases d <;> simp_all
    have e : (⟨ys⟩ : Array Value).extract o (o + n) = ⟨(ys.drop o).take n⟩ := by
      apply Array.ext'
      simp [List.extract_eq_take_drop]
    simp [part, hagg, sizeOf, typeInfo, hi, hs]
  · have hk' : ∀ n, kdOf P t ≠ .agg n := fun n e => hk ⟨n, e⟩
    have hb : kdOf P t ≠ .bad := by
      intro e
      rw [e] at h
      simp only [ldC, at_] at h
      split at h
      · exact h
      · exact h
    have h' : at_ xs o fun v => asK (kdOf P t) v kv := by
      generalize kdOf P t = kd at h hk'
      cases kd <;> first | exact h | exact absurd rfl (hk' _)
    obtain ⟨v, hv, h'⟩ := at_elim h'
    obtain ⟨c, hc1, hc2⟩ := hx.nth hv
    refine ⟨v, c, ?_, .val hc2, asK_elim h'⟩
    have : (⟨ys⟩ : Array Value)[o]? = some c := by simpa using hc1
    simp [part, kd_scalar hk' hb, this]

theorem field_ok {E : Env} {st : St} {a : Act} (hs : SRel E st loc a w) {s : TypeId} {f : Nat} {x : Operand} {kv : Value → Prop} (h : opv E.P A (ev E.n st) st.loc st.H (.field s x f) kv) :
    Val E.P w loc st.live (Instr.field s (a.eval x) f) kv := by
  have hr := ev_rr hs x
  simp only [opv] at h
  split at h
  · rename_i off t cs hf he
    unfold foff at hf
    split at hf
    · rename_i fs hu
      split at hf
      · rename_i fd hfd
        split at hf
        · rename_i i hi
          split at hf
          · cases hf
          · simp only [Option.some.injEq, Prod.mk.injEq] at hf
            obtain ⟨rfl, rfl⟩ := hf
            rw [he] at hr
            obtain ⟨xs⟩ := cs
            obtain ⟨ys, hc, hv, hcv⟩ := (hr.vr rfl).agg'
            rw [hc]
            obtain ⟨v, c, h1, h2, h3⟩ := part_ok (P := E.P) (loc := loc) (lv := st.live) hv hcv h
            exact ⟨v, c, by simp [Instr.field, run_underlying hu, hfd, asAgg, h1], h2, h3⟩
        · cases hf
      · cases hf
    · cases hf
  · exact h.elim

theorem index_ok {E : Env} {st : St} {a : Act} (hs : SRel E st loc a w) {t : TypeId} {x i : Operand} {kv : Value → Prop} (h : opv E.P A (ev E.n st) st.loc st.H (.index t x i) kv) :
    Val E.P w loc st.live (Instr.index t (a.eval x) (a.eval i)) kv := by
  have hr := ev_rr hs x
  have hri := ev_rr hs i
  simp only [opv] at h
  split at h
  · rename_i k j n e cs hj hu he
    rw [hj] at hri
    rw [(hri.vr rfl).int]
    rw [he] at hr
    obtain ⟨xs⟩ := cs
    obtain ⟨ys, hc, hv, hcv⟩ := (hr.vr rfl).agg'
    rw [hc]
    obtain ⟨ti, hti, h⟩ := szT_elim h
    obtain ⟨⟨h0, h1⟩, h⟩ := gd_iff.1 h
    obtain ⟨v, c, h1', h2, h3⟩ := part_ok (P := E.P) (loc := loc) (lv := st.live) hv hcv h
    exact ⟨v, c, by simp [Instr.index, asIntOf, run_underlying hu, h0, h1, sizeOf, typeInfo, hti, h1'], h2, h3⟩
  · exact h.elim

theorem extract_ok {E : Env} {st : St} {a : Act} (hs : SRel E st loc a w) {i : Nat} {x : Operand} {kv : Value → Prop} (h : opv E.P A (ev E.n st) st.loc st.H (.extract x i) kv) :
    Val E.P w loc st.live (Instr.extract (a.eval x) i) kv := by
  have hr := ev_rr hs x
  simp only [opv] at h
  split at h
  · rename_i vs he
    rw [he] at hr
    obtain ⟨xs⟩ := vs
    obtain ⟨ys, hc, hv⟩ := (hr.vr rfl).tuple'
    rw [hc]
    obtain ⟨v, hv1, h⟩ := at_elim h
    split at h
    · obtain ⟨c, hc1, hc2⟩ := hv.nth hv1
      have : (⟨ys⟩ : Array Value)[i]? = some c := by simpa using hc1
      exact ⟨v, c, by simp [Instr.extract, this], .val hc2, h⟩
    · exact h.elim
  · exact h.elim

theorem un_ok {E : Env} {st : St} {a : Act} (hs : SRel E st loc a w) {op : UnOp} {t : TypeId} {x : Operand} {kv : Value → Prop} (h : opv E.P A (ev E.n st) st.loc st.H (.unOp op t x) kv) :
    Val E.P w loc st.live (Op.unary op (a.eval x)) kv := by
  have hr := ev_rr hs x
  simp only [opv, unV] at h
  split at h
  · rename_i k n he
    rw [he] at hr
    rw [(hr.vr rfl).int]
    exact .atom (by simp [Op.unary, Op.intArith]) (.atom _ rfl) h
  · rename_i b he
    rw [he] at hr
    rw [(hr.vr rfl).bool]
    exact .atom (by simp [Op.unary]) (.atom _ rfl) h
  · exact h.elim

theorem conv_ok {E : Env} {st : St} {a : Act} (hs : SRel E st loc a w) {s d : TypeId} {x : Operand} {kv : Value → Prop} (h : opv E.P A (ev E.n st) st.loc st.H (.convert s d x) kv) :
    Val E.P w loc st.live (convert s d (a.eval x)) kv := by
  have hr := ev_rr hs x
  simp only [opv] at h
  split at h
  case h_2 => exact h.elim
  rename_i u hu
  simp only [convV] at h
  split at h
  · rename_i k k' n hd he
    rw [he] at hr
    rw [(hr.vr rfl).int]
    exact .atom (by simp [convert, run_underlying hu, run_underlying hd, Conv.intToInt]) (.atom _ rfl) h
  · rename_i k' n hd he
    rw [he] at hr
    rw [(hr.vr rfl).int]
    exact .atom (by simp [convert, run_underlying hu, run_underlying hd, Conv.intToFloat]) (.atom _ rfl) h
  · rename_i k b hd he
    rw [he] at hr
    rw [(hr.vr rfl).float]
    unfold f2i at h
    split at h
    · rename_i n hn
      obtain ⟨⟨h0, h1⟩, h⟩ := h
      exact .atom (by simp [convert, run_underlying hu, run_underlying hd, Conv.floatToInt, hn, h0, h1]) (.atom _ rfl) h
    · exact h.elim
  · exact h.elim

theorem eqGuard_int {op : BinOp} {t : TypeId} {x y : Operand} {a b : Value} (h : (∀ c, a ≠ .agg c) ∧ a ≠ .nilIface) : (eqGuard op t x y a b).run P w = .ok () w := by
  unfold eqGuard
  cases op <;> simp
  all_goals
    cases a <;> simp_all

theorem all_atom_vr {xs ys : List Value} (h : VRs sz xs ys) (ha : xs.all atomV = true) : ys = xs := by
  refine List.ext_getElem h.1.symm fun i h1 h2 => ?_
  have hx := List.all_eq_true.1 ha _ (List.getElem_mem h2)
  have hv := h.2 i h2 h1
  generalize xs[i] = x at hx hv
  generalize ys[i] = y at hv
  cases hv with
  | atom => rfl
  | slice => simp [atomV, flatV] at hx
  | agg => simp [atomV, flatV] at hx
  | tuple => simp [atomV, flatV] at hx

theorem eqA_ok {op : BinOp} {t : TypeId} {x y : Operand} {xs ys : List Value} {c d : Value} {K : Bool → Prop} (hc : VR (csz w) (.agg ⟨xs⟩) c) (hd : VR (csz w) (.agg ⟨ys⟩) d)
    (h : eqA P op t x y xs ys K) : Val P w loc lv (do eqGuard op t x y c d; binOp op t c d) (fun v => ∃ b, v = .bool b ∧ K b) := by
  obtain ⟨⟨ha, hb⟩, b, hp, hk⟩ := h
  obtain ⟨cs, rfl, hcs, _⟩ := hc.agg'
  obtain ⟨ds, rfl, hds, _⟩ := hd.agg'
  rw [all_atom_vr hcs ha, all_atom_vr hds hb]
  exact .atom (pureR_run hp w) (.atom _ rfl) ⟨b, rfl, hk⟩

theorem equal_bool {t : TypeId} (hu : P.underlying t = some .bool) (m n : Bool) : (Op.equal t (.bool m) (.bool n)).run P w = .ok (m == n) w := by
  have : ∀ d, (Op.equalIn (d + 1) t (.bool m) (.bool n)).run P w = .ok (m == n) w := fun d => by simp [Op.equalIn, run_underlying hu]
  exact this 9999
theorem equal_ptr {t e : TypeId} (hu : P.underlying t = some (.pointer e)) (p : Option Addr) : (Op.equal t (.pointer p) (.pointer none)).run P w = .ok p.isNone w := by
  have : ∀ d, (Op.equalIn (d + 1) t (.pointer p) (.pointer none)).run P w = .ok p.isNone w := fun d => by cases p <;> simp [Op.equalIn, run_underlying hu]
  exact this 9999
theorem bin_eql_bool {t : TypeId} (m n : Bool) : binOp .eql t (.bool m) (.bool n) = (do pure (.bool (← Op.equal t (.bool m) (.bool n)))) := rfl
theorem bin_neq_bool {t : TypeId} (m n : Bool) : binOp .neq t (.bool m) (.bool n) = (do pure (.bool (!(← Op.equal t (.bool m) (.bool n))))) := rfl
theorem bin_eql_ptr {t : TypeId} (p q : Option Addr) : binOp .eql t (.pointer p) (.pointer q) = (do pure (.bool (← Op.equal t (.pointer p) (.pointer q)))) := rfl
theorem bin_neq_ptr {t : TypeId} (p q : Option Addr) : binOp .neq t (.pointer p) (.pointer q) = (do pure (.bool (!(← Op.equal t (.pointer p) (.pointer q))))) := rfl

theorem bin_ok {E : Env} {st : St} {a : Act} (hs : SRel E st loc a w) {op : BinOp} {t t' : TypeId} {x y : Operand} {kv : Value → Prop} (h : opv E.P A (ev E.n st) st.loc st.H (.binOp op t x y t') kv) :
    Val E.P w loc st.live (do eqGuard op t x y (a.eval x) (a.eval y); binOp op t (a.eval x) (a.eval y)) kv := by
  have hx := ev_rr hs x
  have hy := ev_rr hs y
  simp only [opv, binV] at h
  split at h
  · -- ints
    rename_i k m k' n ex ey
    rw [ex] at hx; rw [ey] at hy
    rw [(hx.vr rfl).int, (hy.vr rfl).int]
    have hg := eqGuard_int (P := E.P) (w := w) (op := op) (t := t) (x := x) (y := y) (a := .int k m) (b := .int k' n) (by simp)
    split at h
    · obtain ⟨h0, h⟩ := gd_iff.1 h
      exact .atom (by simp [hg, binOp, Op.shift, Int.not_lt.2 h0, shlI]) (.atom _ rfl) h
    · obtain ⟨h0, h⟩ := gd_iff.1 h
      exact .atom (by simp [hg, binOp, Op.shift, Int.not_lt.2 h0, shrI]) (.atom _ rfl) h
    · rename_i hn1 hn2
      split at h
      · rename_i hkk
        subst hkk
        cases op <;> simp only [intOp, nz] at h <;>
          first
            | exact absurd rfl hn1
            | exact absurd rfl hn2
            | exact .atom (by simp [hg, binOp, Op.intArith, Op.intBits, Op.intCmp, andI, orI, xorI, andNotI, bne]) (.atom _ rfl) h
            | (obtain ⟨h0, h⟩ := gd_iff.1 h
               exact .atom (by simp [hg, binOp, Op.intDiv, h0]) (.atom _ rfl) h)
      · exact h.elim
  · rename_i m n ex ey
    rw [ex] at hx; rw [ey] at hy
    rw [(hx.vr rfl).bool, (hy.vr rfl).bool]
    have hg := eqGuard_int (P := E.P) (w := w) (op := op) (t := t) (x := x) (y := y) (a := .bool m) (b := .bool n) (by simp)
    split at h
    · rename_i hu
      exact .atom (by rw [Sem.run_bind, hg, Result.andThen_ok, bin_eql_bool]; simp [equal_bool hu]) (.atom _ rfl) h
    · rename_i hu
      exact .atom (by rw [Sem.run_bind, hg, Result.andThen_ok, bin_neq_bool]; simp [equal_bool hu]) (.atom _ rfl) h
    · exact h.elim
  · rename_i k m k' n ex ey
    rw [ex] at hx; rw [ey] at hy
    rw [(hx.vr rfl).float, (hy.vr rfl).float]
    have hg := eqGuard_int (P := E.P) (w := w) (op := op) (t := t) (x := x) (y := y) (a := .float k m) (b := .float k' n) (by simp)
    split at h
    · rename_i hkk
      subst hkk
      split at h <;> first
        | exact h.elim
        | exact .atom (by simp [hg, binOp, Op.floatCmp, fEq, fLt, fGt, bne]) (.atom _ rfl) h
        | (simp only [fAdd, fSub] at h
           split at h
           · rename_i hr
             exact .atom (by simp [hg, binOp, Op.floatArith, hr]) (.atom _ rfl) h
           · exact h.elim)
    · exact h.elim
  · rename_i m n p q ex ey
    rw [ex] at hx; rw [ey] at hy
    rw [(hx.vr rfl).complex.1, (hy.vr rfl).complex.1]
    have hg := eqGuard_int (P := E.P) (w := w) (op := op) (t := t) (x := x) (y := y) (a := .complex .f64 m n) (b := .complex .f64 p q) (by simp)
    split at h
    · exact .atom (by simp [hg, binOp, Op.complexOp, Op.Complex.cmp, Op.floatCmp, asBool, fEq]) (.atom _ rfl) h
    · exact .atom (by simp [hg, binOp, Op.complexOp, Op.Complex.cmp, Op.floatCmp, asBool, fEq]) (.atom _ rfl) h
    · simp only [fAdd] at h
      split at h
      · rename_i hr
        split at h
        · rename_i hi
          exact .atom (by simp [hg, binOp, Op.complexOp, Op.Complex.arith, Op.floatArith, hr, hi]) (.atom _ rfl) h
        · exact h.elim
      · exact h.elim
    · simp only [fSub] at h
      split at h
      · rename_i hr
        split at h
        · rename_i hi
          exact .atom (by simp [hg, binOp, Op.complexOp, Op.Complex.arith, Op.floatArith, hr, hi]) (.atom _ rfl) h
        · exact h.elim
      · exact h.elim
    · exact h.elim
  · rename_i m n ex ey
    rw [ex] at hx; rw [ey] at hy
    rw [(hx.vr rfl).string, (hy.vr rfl).string]
    have hg := eqGuard_int (P := E.P) (w := w) (op := op) (t := t) (x := x) (y := y) (a := .string m) (b := .string n) (by simp)
    split at h
    · exact .atom (by simp [hg, binOp, Op.stringOp, strEq]) (.atom _ rfl) h
    · exact .atom (by simp [hg, binOp, Op.stringOp, strEq]) (.atom _ rfl) h
    · exact h.elim
  · rename_i xs ys ex ey
    rw [ex] at hx; rw [ey] at hy
    obtain ⟨xs⟩ := xs
    obtain ⟨ys⟩ := ys
    split at h
    · obtain ⟨v, c, h1, h2, b, rfl, h3⟩ := eqA_ok (loc := loc) (lv := st.live) (hx.vr rfl) (hy.vr rfl) h
      exact ⟨_, c, h1, h2, h3⟩
    · obtain ⟨v, c, h1, h2, b, rfl, h3⟩ := eqA_ok (loc := loc) (lv := st.live) (hx.vr rfl) (hy.vr rfl) h
      exact ⟨_, c, h1, h2, h3⟩
    · exact h.elim
  · rename_i p ex ey
    rw [ex] at hx; rw [ey] at hy
    rw [(hx.vr rfl).pointer, (hy.vr rfl).pointer]
    have hg := eqGuard_int (P := E.P) (w := w) (op := op) (t := t) (x := x) (y := y) (a := .pointer p) (b := .pointer none) (by simp)
    split at h
    · rename_i hu
      exact .atom (by rw [Sem.run_bind, hg, Result.andThen_ok, bin_eql_ptr]; simp [equal_ptr hu]) (.atom _ rfl) h
    · rename_i hu
      exact .atom (by rw [Sem.run_bind, hg, Result.andThen_ok, bin_neq_ptr]; simp [equal_ptr hu]) (.atom _ rfl) h
    · exact h.elim
  · exact h.elim

theorem foldInt_ok {f : Int → Int → Int} {k : IntKind} {kv : Value → Prop} (m2 : Value → Value → Sem Value) (hm : ∀ k k' x y, m2 (.int k x) (.int k' y) = pure (.int k (f x y))) :
    ∀ (r rc : List Value) (x : Int), F2 (RR (csz w) loc lv) r rc → foldInt f k kv x r → Val P w loc lv (rc.foldlM m2 (.int k x)) kv
  | [], [], x, _, h => .atom (by simp) (.atom _ rfl) h
  | v :: r, c :: rc, x, hr, h => by
    cases hr with
    | cons h1 hr =>
      unfold foldInt at h
      split at h
      · rename_i hh; cases hh
      · rename_i k' y r' hh
        simp only [List.cons.injEq] at hh
        obtain ⟨rfl, rfl⟩ := hh
        split at h
        · rename_i hk
          subst hk
          rw [(h1.vr rfl).int]
          simp only [List.foldlM_cons, hm, pure_bind]
          exact foldInt_ok m2 hm r rc _ hr h
        · exact h.elim
      · exact h.elim

theorem max_ok {ts : Array TypeId} {t : TypeId} {k : IntKind} {x : Int} {r rc : List Value} {kv : Value → Prop} (hr : F2 (RR (csz w) loc lv) r rc) (h : foldInt mxI k kv x r) :
    Val P w loc lv (Builtin.max_ ts t ⟨.int k x :: rc⟩) kv := by
  have := foldInt_ok (P := P) (w := w) (loc := loc) (lv := lv) Builtin.max2 (f := mxI) (fun k k' x y => rfl) r rc x hr h
  exact this
theorem min_ok {ts : Array TypeId} {t : TypeId} {k : IntKind} {x : Int} {r rc : List Value} {kv : Value → Prop} (hr : F2 (RR (csz w) loc lv) r rc) (h : foldInt mnI k kv x r) :
    Val P w loc lv (Builtin.min_ ts t ⟨.int k x :: rc⟩) kv := by
  have := foldInt_ok (P := P) (w := w) (loc := loc) (lv := lv) Builtin.min2 (f := mnI) (fun k k' x y => rfl) r rc x hr h
  exact this

theorem args_rr {E : Env} {st : St} {a : Act} (hs : SRel E st loc a w) (l : List Operand) : F2 (RR (csz w) loc st.live) (l.map (ev E.n st)) (l.map a.eval) := by
  induction l with
  | nil => exact .nil
  | cons x l ih => exact .cons (ev_rr hs x) ih

theorem builtin_ok {b : Builtin} {ts : Array TypeId} {ty : TypeId} {cs : Array Bool} {vs cv : List Value} {kv : Value → Prop} (hr : F2 (RR (csz w) loc lv) vs cv) (h : builtinV P b ts vs kv) :
    ∃ v c, (builtin b ts ty cs ⟨cv⟩).run P w = .ok (.value c) w ∧ RR (csz w) loc lv v c ∧ kv v := by
  have fin : ∀ {s : Sem Value}, Val P w loc lv s kv → ∃ v c, ((do pure (.value (← s))) : Sem Next).run P w = .ok (.value c) w ∧ RR (csz w) loc lv v c ∧ kv v := by
    rintro s ⟨v, c, h1, h2, h3⟩
    exact ⟨v, c, by simp [h1], h2, h3⟩
  unfold builtinV at h
  split at h
  · -- len
    rename_i x
    cases hr with
    | cons h1 hr =>
      cases hr
      rename_i c
      refine fin ?_
      split at h
      · rename_i t ht
        have h0 : (⟨[c]⟩ : Array Value)[0]? = some c := rfl
        split at h
        · rename_i e a n z hu
          obtain ⟨cap, hc, _⟩ := (h1.vr rfl).sl
          subst hc
          exact .atom (by simp [Builtin.len_, ht, run_underlying hu, goInt]) (.atom _ rfl) h
        · rename_i s hu
          have hc := (h1.vr rfl).string
          subst hc
          exact .atom (by simp [Builtin.len_, ht, run_underlying hu, goInt]) (.atom _ rfl) h
        · rename_i n e hu
          exact .atom (by simp [Builtin.len_, ht, run_underlying hu, goInt]) (.atom _ rfl) h
        · rename_i arr hu
          split at h
          · rename_i n e hu2
            exact .atom (by simp [Builtin.len_, ht, run_underlying hu, run_underlying hu2, goInt]) (.atom _ rfl) h
          · exact h.elim
        · exact h.elim
      · exact h.elim
  · rename_i k x r
    cases hr with
    | cons h1 hr =>
      have hc := (h1.vr rfl).int
      subst hc
      exact fin (max_ok hr h)
  · rename_i k x r
    cases hr with
    | cons h1 hr =>
      have hc := (h1.vr rfl).int
      subst hc
      exact fin (min_ok hr h)
  · cases hr with
    | cons h1 hr =>
      cases hr
      have hc := (h1.vr (by rfl)).complex.1
      subst hc
      exact fin (.atom (by rfl) (.atom _ rfl) h)
  · cases hr with
    | cons h1 hr =>
      cases hr
      have hc := (h1.vr (by rfl)).complex.1
      subst hc
      exact fin (.atom (by rfl) (.atom _ rfl) h)
  · cases hr with
    | cons h1 hr =>
      cases hr with
      | cons h2 hr =>
        cases hr
        have hc := (h1.vr (by rfl)).float
        subst hc
        have hc := (h2.vr (by rfl)).float
        subst hc
        exact fin (.atom (by rfl) (.atom _ rfl) h)
  · exact h.elim

theorem splice_ok (suf : List Value) : ∀ (vs old : List Value) (k : Nat) (pre : List Value), old.length = vs.length → pre.length = k →
    ((vs.zipIdx).foldl (fun (cs : Array Value) (x : Value × Nat) => cs.setIfInBounds (k + x.2) x.1) ⟨pre ++ old ++ suf⟩) = ⟨pre ++ vs ++ suf⟩ := by
  suffices H : ∀ (vs old : List Value) (j k : Nat) (pre : List Value), old.length = vs.length → pre.length = k + j →
      ((vs.zipIdx j).foldl (fun (cs : Array Value) (x : Value × Nat) => cs.setIfInBounds (k + x.2) x.1) ⟨pre ++ old ++ suf⟩) = ⟨pre ++ vs ++ suf⟩ by
    intro vs old k pre h1 h2
    exact H vs old 0 k pre h1 (by simpa using h2)
  intro vs
  induction vs with
  | nil => intro old j k pre h1 h2; simp only [List.length_nil, List.length_eq_zero_iff] at h1; subst h1; rfl
  | cons v vs ih =>
    intro old j k pre h1 h2
    cases old with
    | nil => simp at h1
    | cons o old =>
      simp only [List.zipIdx_cons, List.foldl_cons]
      have e : (⟨pre ++ o :: old ++ suf⟩ : Array Value).setIfInBounds (k + j) v = ⟨(pre ++ [v]) ++ old ++ suf⟩ := by
        apply Array.ext'
        simp only [Array.toList_setIfInBounds]
        rw [← h2]
        simp
      rw [e, ih old (j + 1) k (pre ++ [v]) (by simpa using h1) (by simp [h2]; omega)]
      simp

theorem fill_step {place : Nat → Option (Nat × Nat)} {i off n : Nat} {v : Value} {pre old suf : List Value} {rest : List (Nat × Value)} (hp : place i = some (off, n)) (hv : v.cells.size = n)
    (ho : old.length = n) (hpre : pre.length = off) : Instr.fill place ⟨pre ++ old ++ suf⟩ ((i, v) :: rest) = Instr.fill place ⟨pre ++ v.cells.toList ++ suf⟩ rest := by
  have h1 : (v.cells.size ≠ n || off + v.cells.size > (⟨pre ++ old ++ suf⟩ : Array Value).size) = false := by
    simp [hv]; omega
  simp only [Instr.fill, hp, h1]
  have := splice_ok suf v.cells.toList old off pre (by simp [ho, hv]) hpre
  have e : (v.cells.zipIdx.foldl (fun (cs : Array Value) (x : Value × Nat) => cs.setIfInBounds (off + x.2) x.1) ⟨pre ++ old ++ suf⟩) = ⟨pre ++ v.cells.toList ++ suf⟩ := by
    rw [← this, ← Array.foldl_toList, Array.toList_zipIdx]
  simpa using congrArg (fun c => Instr.fill place c rest) e

theorem buildL_ok {E : Env} {st : St} {a : Act} (hs : SRel E st loc a w) (z : List Value) (hz : z.all atomV = true) (place : Nat → Option (Nat × Nat)) :
    ∀ (ps : List (Nat × Operand)) (pl : List (Nat × Nat)) (i o : Nat) (K : List Value → Prop) (pre : List Value), (∀ k x, pl[k]? = some x → place (i + k) = some x) → o ≤ z.length → pre.length = o →
      buildL (ev E.n st) z z.length i o pl ps K → ∃ res res', Instr.fill place ⟨pre ++ z.drop o⟩ (ps.map fun (i, x) => (i, a.eval x)) = some ⟨pre ++ res'⟩ ∧ VRs (csz w) res res' ∧ res.all cellV = true ∧ K res := by
  have hzz : ∀ l : List Value, l.all atomV = true → VRs (csz w) l l := fun l hl => ⟨rfl, fun i h1 h2 => .atom _ (List.all_eq_true.1 hl _ (List.getElem_mem _))⟩
  have hzd : ∀ o, (z.drop o).all atomV = true := fun o => List.all_eq_true.2 fun x hx => List.all_eq_true.1 hz x (List.mem_of_mem_drop hx)
  have hzt : ∀ o n, ((z.drop o).take n).all atomV = true := fun o n => List.all_eq_true.2 fun x hx => List.all_eq_true.1 (hzd o) x (List.mem_of_mem_take hx)
  intro ps pl
  induction pl generalizing ps with
  | nil =>
    intro i o K pre _ _ _ h
    cases ps with
    | nil => simp only [buildL] at h; exact ⟨_, _, rfl, hzz _ (hzd o), all_cell (hzd o), h⟩
    | cons p ps => simp only [buildL] at h
  | cons p pl ih =>
    intro i o K pre hpl ho hpre h
    cases ps with
    | nil => simp only [buildL] at h; exact ⟨_, _, rfl, hzz _ (hzd o), all_cell (hzd o), h⟩
    | cons q ps =>
      obtain ⟨off, n⟩ := p
      obtain ⟨j, x⟩ := q
      simp only [buildL] at h
      split at h
      · rename_i hoff
        obtain ⟨rfl, hlen⟩ := hoff
        have hp0 := hpl 0 (off, n) rfl
        simp only [Nat.add_zero] at hp0
        have hsplit : z.drop off = (z.drop off).take n ++ z.drop (off + n) := by
          rw [← List.drop_drop, List.take_append_drop]
        have hpl' : ∀ k x, pl[k]? = some x → place (i + 1 + k) = some x := fun k x hx => by
          have := hpl (k + 1) x (by simpa using hx)
          rwa [show i + (k + 1) = i + 1 + k by omega] at this
        split at h
        · rename_i hj
          subst hj
          have hx := ev_rr hs x
          split at h
          · rename_i cs he
            rw [he] at hx
            obtain ⟨xs⟩ := cs
            obtain ⟨ys, hc, hv, hcv⟩ := (hx.vr rfl).agg'
            obtain ⟨hn, h⟩ := gd_iff.1 h
            have hyn : ys.length = n := by rw [← hv.1]; exact hn
            obtain ⟨res, res', h1, h2, hrc, h3⟩ := ih ps (j + 1) (off + n) _ (pre ++ ys) hpl' hlen (by simp [hpre, hyn]) h
            refine ⟨_, ys ++ res', ?_, hv.append h2, by simp [hrc]; simpa using hcv, h3⟩
            simp only [List.map_cons]
            rw [hsplit, ← List.append_assoc, fill_step hp0 (by rw [hc]; exact hyn) (by simp; omega) hpre, hc]
            simpa [List.append_assoc, Value.cells] using h1
          · rename_i v hne
            split at h
            · rename_i hvn
              simp only [Bool.and_eq_true, beq_iff_eq] at hvn
              obtain ⟨⟨hval, hcell⟩, rfl⟩ := hvn
              have hc := hx.vr hval
              have hcells : (a.eval x).cells = #[a.eval x] := by
                generalize ev E.n st x = v at hc hne
                generalize a.eval x = c at hc
                cases hc with
                | atom _ h =>
                  cases v with
                  | agg cs => simp [atomV, flatV] at h
                  | _ => rfl
                | slice => rfl
                | agg xs ys => exact absurd rfl (hne _)
                | tuple => rfl
              obtain ⟨res, res', h1, h2, hrc, h3⟩ := ih ps (j + 1) (off + 1) _ (pre ++ [a.eval x]) hpl' hlen (by simp [hpre]) h
              refine ⟨_, a.eval x :: res', ?_, .cons hc h2, by simp [hcell]; simpa using hrc, h3⟩
              simp only [List.map_cons]
              rw [hsplit, ← List.append_assoc, fill_step hp0 (by rw [hcells]; rfl) (by simp; omega) hpre, hcells]
              simpa [List.append_assoc] using h1
            · exact h.elim
        · obtain ⟨res, res', h1, h2, hrc, h3⟩ := ih ((j, x) :: ps) (i + 1) (off + n) _ (pre ++ (z.drop off).take n) hpl' hlen (by simp; omega) h
          refine ⟨_, (z.drop off).take n ++ res', ?_, (hzz _ (hzt off n)).append h2, by rw [List.all_append, hrc, all_cell (hzt off n)]; rfl, h3⟩
          have e : pre ++ z.drop off = pre ++ (z.drop off).take n ++ z.drop (off + n) := by rw [List.append_assoc, ← hsplit]
          rw [e, h1, List.append_assoc]
      · exact h.elim

theorem run_sz {t : TypeId} {i : TypeInfo} (hi : P.info? t = some i) : (sizeOf t).run P w = .ok (P.cellsOf t) w := by simp [sizeOf, typeInfo, hi, Program.cellsOf]
theorem mapM_sizes : ∀ (l : List Field), l.all (fun f => (P.info? f.type).isSome) = true →
    (l.mapM fun f => (do pure (f.offset, ← sizeOf f.type) : Sem (Nat × Nat))).run P w = .ok (l.map fun f => (f.offset, P.cellsOf f.type)) w
  | [], _ => by simp
  | f :: l, h => by
    simp only [List.all_cons, Bool.and_eq_true] at h
    obtain ⟨h1, h2⟩ := h
    obtain ⟨i, hi⟩ := Option.isSome_iff_exists.1 h1
    rw [List.mapM_cons, Sem.run_bind, Sem.run_bind, run_sz hi]
    simp only [Result.andThen_ok, Sem.run_pure, Sem.run_bind, List.map_cons]
    rw [mapM_sizes l h2]
    rfl

theorem build_ok {E : Env} {st : St} {a : Act} (hs : SRel E st loc a w) {t : TypeId} {ps : Array (Nat × Operand)} {kv : Value → Prop} (h : opv E.P A (ev E.n st) st.loc st.H (.build t ps) kv) :
    Val E.P w loc st.live (Instr.build t (ps.map fun (i, x) => (i, a.eval x))) kv := by
  simp only [opv] at h
  split at h
  case h_2 => exact h.elim
  rename_i l hl
  split at h
  case isFalse => exact h.elim
  rename_i hz
  unfold zOK at hz
  cases hinf : E.P.info? t with
  | none => simp [hinf] at hz
  | some ti =>
    cases hzz : ti.zero with
    | none => simp [hinf, hzz] at hz
    | some z =>
      simp only [hinf, Option.bind_some, hzz, Bool.and_eq_true, beq_iff_eq] at hz
      have hzc : zc E.P t = z.cells.toList := by simp [zc, hinf, hzz]
      have hzs : z.cells.size = ti.size := by simpa [Program.cellsOf, hinf] using hz.2
      have hsz : E.P.cellsOf t = ti.size := by simp [Program.cellsOf, hinf]
      rw [hzc] at h
      have hzero : (zeroValue t).run E.P w = .ok z w := by simp [zeroValue, typeInfo, hinf, hzz]
      have hlen : z.cells.toList.length = E.P.cellsOf t := by simpa using hz.2
      rw [← hlen] at h
      have main : ∀ place : Nat → Option (Nat × Nat), (∀ k x, l[k]? = some x → place k = some x) →
          ∃ res res', Instr.fill place z.cells (ps.toList.map fun (i, x) => (i, a.eval x)) = some ⟨res'⟩ ∧ VRs (csz w) res res' ∧ res.all cellV = true ∧ kv (.agg ⟨res⟩) := by
        intro place hp
        obtain ⟨res, res', h1, h2, hrc, h3⟩ := buildL_ok hs z.cells.toList hz.1 place ps.toList l 0 0 _ [] (fun k x hx => by simpa using hp k x hx) (Nat.zero_le _) rfl h
        exact ⟨res, res', by simpa using h1, h2, hrc, h3⟩
      unfold placesOf at hl
      split at hl
      · rename_i fs hu
        split at hl
        · rename_i hall
          simp only [Option.some.injEq] at hl
          subst hl
          have hm : (fs.mapM fun f => (do pure (f.offset, ← sizeOf f.type) : Sem (Nat × Nat))).run E.P w = .ok ⟨fs.toList.map fun f => (f.offset, E.P.cellsOf f.type)⟩ w := by
            rw [Array.mapM_eq_mapM_toList, Sem.run_map, mapM_sizes fs.toList hall]
            rfl
          obtain ⟨res, res', h1, h2, hrc, h3⟩ := main ((⟨fs.toList.map fun f => (f.offset, E.P.cellsOf f.type)⟩ : Array (Nat × Nat))[·]?) (fun k x hx => by simpa using hx)
          refine ⟨_, .agg ⟨res'⟩, ?_, .val (h2.ag hrc), h3⟩
          unfold Instr.build
          rw [Sem.run_bind, hzero, Result.andThen_ok, Sem.run_bind, run_underlying hu, Result.andThen_ok]
          simp only [Sem.run_bind, hm, Result.andThen_ok, Array.toList_map, h1, Sem.run_pure]
        · cases hl
      · rename_i n e hu
        split at hl
        · rename_i he
          simp only [Option.some.injEq] at hl
          subst hl
          obtain ⟨ie, hie⟩ := Option.isSome_iff_exists.1 he
          obtain ⟨res, res', h1, h2, hrc, h3⟩ := main (fun i => some (i * E.P.cellsOf e, E.P.cellsOf e)) (fun k x hx => by
            simp only [List.getElem?_map, Option.map_eq_some_iff] at hx
            obtain ⟨y, hy, rfl⟩ := hx
            rw [List.getElem?_range] at hy
            · simp only [Option.some.injEq] at hy; subst hy; rfl
            · obtain ⟨hlt, _⟩ := List.getElem?_eq_some_iff.1 hy
              simpa using hlt)
          refine ⟨_, .agg ⟨res'⟩, ?_, .val (h2.ag hrc), h3⟩
          unfold Instr.build
          rw [Sem.run_bind, hzero, Result.andThen_ok, Sem.run_bind, run_underlying hu, Result.andThen_ok]
          simp only [Sem.run_bind, run_sz hie, Result.andThen_ok, Array.toList_map, h1, Sem.run_pure]
        · cases hl
      · cases hl

theorem opv_ok {E : Env} {st : St} {a : Act} (hs : SRel E st loc a w) (o : Oper) {kv : Value → Prop} (h : opv E.P A (ev E.n st) st.loc st.H o.op kv) :
    ∃ v c, (execOp a.eval o).run E.P w = .ok (.value c) w ∧ RR (csz w) loc st.live v c ∧ kv v := by
  obtain ⟨dst, op, ty, pos, after, guard⟩ := o
  have fin : ∀ {s : Sem Value}, Val E.P w loc st.live s kv → ∃ v c, ((do pure (.value (← s))) : Sem Next).run E.P w = .ok (.value c) w ∧ RR (csz w) loc st.live v c ∧ kv v := by
    rintro s ⟨v, c, h1, h2, h3⟩
    exact ⟨v, c, by simp [h1], h2, h3⟩
  cases op <;> simp only [execOp] <;> try exact h.elim
  case move x => exact ⟨_, _, rfl, ev_rr hs x, h⟩
  case assign x => exact ⟨_, _, rfl, ev_rr hs x, h⟩
  case pick c x y =>
    have hc := ev_rr hs c
    simp only [opv] at h
    split at h
    · rename_i t he
      rw [he] at hc
      rw [(hc.vr rfl).bool]
      cases t with
      | true => exact ⟨_, _, rfl, ev_rr hs x, h⟩
      | false => exact ⟨_, _, rfl, ev_rr hs y, h⟩
    · exact h.elim
  case build t ps => exact fin (build_ok hs h)
  case load t x => exact fin (load_ok hs h)
  case nilCheck x =>
    have hx := ev_rr hs x
    simp only [opv] at h
    split at h
    · rename_i k o he
      rw [he] at hx
      rw [hx.locp.1]
      exact ⟨_, _, rfl, .loc k o hx.locp.2, h⟩
    · rename_i p he
      rw [he] at hx
      obtain ⟨b, o, rfl, h⟩ := hp_elim h
      rw [(hx.vr rfl).pointer]
      exact ⟨_, _, rfl, .val (.atom _ rfl), h⟩
    · rename_i f p q he
      rw [he] at hx
      have hv := hx.vr rfl
      have hc := hv.func
      rw [hc] at hv
      rw [hc]
      exact ⟨_, _, rfl, .val hv, h⟩
    · exact h.elim
  case binOp op t x y t' => exact fin (bin_ok hs h)
  case unOp op t x => exact fin (un_ok hs h)
  case convert s d x => exact fin (conv_ok hs h)
  case makeFunc f x y =>
    simp only [opv] at h
    split at h
    · rename_i hat
      have e : ∀ l : Array Operand, (l.map (ev E.n st)).toList.all flatV = true → l.map a.eval = l.map (ev E.n st) := by
        intro l hl
        apply Array.map_congr_left
        intro z hz
        have hz' : flatV (ev E.n st z) = true := List.all_eq_true.1 hl _ (by
          rw [Array.toList_map]
          exact List.mem_map_of_mem (Array.mem_toList_iff.2 hz))
        have hr := ev_rr hs z
        generalize ev E.n st z = v at hr hz'
        generalize a.eval z = c at hr
        cases hr with
        | junk => simp [flatV, Am.junk] at hz'
        | val h =>
          cases h with
          | atom => rfl
          | slice => simp [flatV] at hz'
          | agg => simp [flatV] at hz'
          | tuple => simp [flatV] at hz'
        | loc => simp [flatV] at hz'
      have hx : (x.map (ev E.n st)).toList.all flatV = true ∧ (y.map (ev E.n st)).toList.all flatV = true := by
        have := hat
        unfold atomV at this
        exact (Bool.and_eq_true _ _).mp this
      rw [e x hx.1, e y hx.2]
      exact ⟨_, _, rfl, .val (.atom _ hat), h⟩
    · exact h.elim
  case fieldAddr s x f => exact fin (fieldAddr_ok hs h)
  case field s x f => exact fin (field_ok hs h)
  case indexAddr t x i => exact fin (indexAddr_ok hs h)
  case index t x i => exact fin (index_ok hs h)
  case extract x i => exact fin (extract_ok hs h)
  case call c =>
    simp only [opv] at h
    split at h
    · rename_i b hb
      have hm : c.args.map a.eval = ⟨c.args.toList.map a.eval⟩ := by apply Array.ext'; simp
      obtain ⟨v, cv, h1, h2, h3⟩ := builtin_ok (P := E.P) (w := w) (loc := loc) (lv := st.live) (ty := ty) (cs := c.args.map fun | .const _ => true | _ => false) (args_rr hs c.args.toList) h
      refine ⟨v, cv, ?_, h2, h3⟩
      simp only [resolve, hb, hm, invoke, Sem.run_bind, Sem.run_pure, Result.andThen_ok]
      exact h1
    · exact h.elim

end
end Go.Am
