/-
  AmF: regions that draw their order: an order that serves for all.
-/
import Derived.Test.YtkidkceaocgnfaaAmE
set_option linter.all false
namespace Go.Am

section
variable {P : Program} {n : Nat} {A : Nat → Option Nat} {ops : Array Oper}

theorem Up.off_of {u : Up} {o : Oper} {d : Nat} (hr : ∀ d v, u.reg = some (d, v) → d ∉ o.looksAt ops ∧ o.dst ≠ some d) (hb : ∀ d v, u.box = some (d, v) → boxOf A o ≠ some d) : u.Off A o where
  regs := fun d v h => ⟨fun hm => (hr d v h).1 (List.mem_append_left _ hm), (hr d v h).2⟩
  box := hb

/-- apart, with the guard's register -/
structure Off1 (A : Nat → Option Nat) (ops : Array Oper) (u : Up) (o : Oper) : Prop where
  regs : ∀ d v, u.reg = some (d, v) → d ∉ o.looksAt ops ∧ o.dst ≠ some d
  box : ∀ d v, u.box = some (d, v) → boxOf A o ≠ some d
theorem Off1.off {u : Up} {o : Oper} (h : Off1 A ops u o) : u.Off A o where
  regs := fun d v hh => ⟨fun hm => (h.regs d v hh).1 (List.mem_append_left _ hm), (h.regs d v hh).2⟩
  box := h.box
structure Agree1 (A : Nat → Option Nat) (ops : Array Oper) (o : Oper) (st st' : St) : Prop where
  regs : ∀ t ∈ o.looksAt ops, st.regs t = st'.regs t
  box : ∀ k, boxOf A o = some k → st.loc k = st'.loc k
  H : looksH A o.op = true → st.H = st'.H
theorem Agree1.agree {o : Oper} {st st' : St} (h : Agree1 A ops o st st') : Agree A o st st' := ⟨fun t ht => h.regs t (List.mem_append_left _ ht), h.box, h.H⟩

/-- whether an operation is done -/
def wants (ops : Array Oper) (n : Nat) (o : Oper) (regs : Nat → Value) : Option Bool :=
  match o.guard with
  | none => some true
  | some (j, want) =>
    match (ops[j]?).bind (·.dst) with
    | none => none
    | some d => if d < n then match regs d with | .bool b => some (b == want) | .tuple cs => (match cs.toList with | [] => some false | _ => none) | _ => none else none
def gop (P : Program) (n : Nat) (A : Nat → Option Nat) (o : Oper) (w : Option Bool) (K : St → Prop) (st : St) : Prop :=
  match w with
  | some true => aop P n A o st K
  | some false => putK n o.dst undef K st
  | none => False
theorem iop1_eq {i : Nat} {o : Oper} (hi : ops[i]? = some o) (K : St → Prop) (st : St) : iop1 P n A ops i K st = gop P n A o (wants ops n o st.regs) K st := by
  unfold iop1 wants gop
  rw [hi]
  simp only
  cases hg : o.guard with
  | none => rfl
  | some jw =>
    obtain ⟨j, want⟩ := jw
    simp only
    cases hd : (ops[j]?).bind (·.dst) with
    | none => rfl
    | some d =>
      simp only
      by_cases hlt : d < n
      · simp only [hlt, if_true]
        cases hr : st.regs d with
        | bool b =>
          have hp : st.put d (.bool b) = st := put_self hr
          cases b <;> cases want <;> simp [hp]
        | tuple cs =>
          simp only
          cases cs.toList with
          | nil => rfl
          | cons x xs => rfl
        | _ => rfl
      · simp only [hlt, if_false]
theorem wants_congr {o : Oper} {r r' : Nat → Value} (h : ∀ t ∈ o.looksAt ops, r t = r' t) : wants ops n o r = wants ops n o r' := by
  unfold wants
  cases hg : o.guard with
  | none => rfl
  | some jw =>
    obtain ⟨j, want⟩ := jw
    simp only
    cases hd : (ops[j]?).bind (·.dst) with
    | none => rfl
    | some d =>
      have : r d = r' d := h d (List.mem_append_right _ (by simp [hg, hd]))
      simp only [this]

theorem iop1_det {i : Nat} {o : Oper} (hi : ops[i]? = some o) (hd : isDet A o = true) {st : St} {K : St → Prop} (h : iop1 P n A ops i K st) :
    ∃ u : Up, (u.reg.map (·.1) = o.dst) ∧ (∀ d v, u.box = some (d, v) → wbox A o = some d) ∧ K (u.app st) ∧ ∀ st', Agree1 A ops o st st' → ∀ K' : St → Prop, K' (u.app st') → iop1 P n A ops i K' st' := by
  rw [iop1_eq hi] at h
  have key : ∀ w, gop P n A o w K st → ∃ u : Up, (u.reg.map (·.1) = o.dst) ∧ (∀ d v, u.box = some (d, v) → wbox A o = some d) ∧ K (u.app st) ∧ ∀ st', Agree A o st st' → ∀ K' : St → Prop, K' (u.app st') → gop P n A o w K' st' := by
    intro w h
    rcases w with _ | _ | _
    · exact h.elim
    · cases hd' : o.dst with
      | none =>
        refine ⟨⟨none, none⟩, rfl, ?_, ?_, ?_⟩
        · intro d v h; cases h
        · have h' : putK n o.dst undef K st := h
          rw [hd'] at h'; exact h'
        · intro st' _ K' hk
          show putK n o.dst undef K' st'
          rw [hd']; exact hk
      | some d =>
        have h' : putK n o.dst undef K st := h
        rw [hd'] at h'
        simp only [putK] at h'
        split at h'
        · rename_i hlt
          refine ⟨⟨some (d, undef), none⟩, rfl, ?_, h', ?_⟩
          · intro d v h; cases h
          · intro st' _ K' hk
            show putK n o.dst undef K' st'
            rw [hd']
            simp only [putK, hlt, if_true]
            exact hk
        · exact h'.elim
    · exact aop_det hd h
  obtain ⟨u, h1, h2, h3, h4⟩ := key _ h
  refine ⟨u, h1, h2, h3, fun st' ha K' hk => ?_⟩
  rw [iop1_eq hi, ← wants_congr (r := st.regs) ha.regs]
  exact h4 st' ha.agree K' hk

theorem iop1_frame {u : Up} {i : Nat} {o : Oper} (hi : ops[i]? = some o) (hu : Off1 A ops u o) {st : St} {K K' : St → Prop} (h : iop1 P n A ops i K (u.app st)) (hk : ∀ s, Touch A o st s → K (u.app s) → K' s) : iop1 P n A ops i K' st := by
  rw [iop1_eq hi] at h ⊢
  have hr : ∀ t ∈ o.looksAt ops, (u.app st).regs t = st.regs t := by
    intro t ht
    simp only [Up.app]
    split
    · rename_i d v hr
      split
      · rename_i e; subst e; exact absurd ht (hu.regs _ _ hr).1
      · rfl
    · rfl
  rw [wants_congr hr] at h
  revert h
  rcases wants ops n o st.regs with _ | _ | _
  · exact id
  · intro h
    exact putK_frame (st := st) (H' := st.H) hu.off h fun s h1 h2 h3 hs => hk s ⟨h1, fun k _ => by rw [h2], fun _ => h3⟩ hs
  · exact fun h => aop_frame hu.off h hk

theorem iop1_mono {i : Nat} {o : Oper} (hi : ops[i]? = some o) {st : St} {K K' : St → Prop} (h : iop1 P n A ops i K st) (hk : ∀ s, Touch A o st s → K s → K' s) : iop1 P n A ops i K' st :=
  iop1_frame (u := ⟨none, none⟩) hi ⟨(by intro d v h; cases h), (by intro d v h; cases h)⟩ h hk

/-! ### an order, with loads to be told again behind what may turn the heap -/
def chk1 (P : Program) (n : Nat) (A : Nat → Option Nat) (ops : Array Oper) (y : Nat) (s : St) : Prop :=
  match (ops[y]?).bind (·.dst) with
  | some d => iop1 P n A ops y (fun s' => s'.regs d = s.regs d) s
  | none => False
def chks (P : Program) (n : Nat) (A : Nat → Option Nat) (ops : Array Oper) : List Nat → St → Prop → Prop
  | [], _, R => R
  | y :: ys, s, R => chk1 P n A ops y s ∧ chks P n A ops ys s R
def dops (P : Program) (n : Nat) (A : Nat → Option Nat) (ops : Array Oper) : List (Nat × List Nat) → (St → Prop) → St → Prop
  | [], K, st => K st
  | (i, c) :: σ, K, st => iop1 P n A ops i (fun s => chks P n A ops c s (dops P n A ops σ K s)) st
theorem chks_elim {s : St} {R : Prop} : ∀ {c : List Nat}, chks P n A ops c s R → (∀ y ∈ c, chk1 P n A ops y s) ∧ R
  | [], h => ⟨fun y hy => (by cases hy), h⟩
  | y :: ys, h => by
    obtain ⟨h1, h2⟩ := chks_elim h.2
    refine ⟨fun z hz => ?_, h2⟩
    rcases List.mem_cons.1 hz with rfl | hz
    · exact h.1
    · exact h1 z hz

def boxApart (A : Nat → Option Nat) (x y : Oper) : Bool :=
  match boxOf A x, boxOf A y with
  | some a, some b => a != b || ((wbox A x).isNone && (wbox A y).isNone)
  | _, _ => true
/-- z leaves what y looks at as it is -/
def off (A : Nat → Option Nat) (ops : Array Oper) (z y : Nat) : Bool :=
  match ops[z]?, ops[y]? with
  | some oz, some oy => oz.apart ops oy && boxApart A oz oy
  | _, _ => false
def swapOK (A : Nat → Option Nat) (ops : Array Oper) (x i : Nat × List Nat) : Bool :=
  match ops[x.1]?, ops[i.1]? with
  | some ox, some oi => x.2.isEmpty && isDet A ox && off A ops x.1 i.1 && (!looksH A ox.op || isDet A oi || (i.2.contains x.1 && (match ox.dst with | some d => !(ox.looksAt ops).contains d | none => false)))
  | _, _ => false

theorem wbox_box {o : Oper} {k : Nat} (h : wbox A o = some k) : boxOf A o = some k := by
  unfold wbox at h
  split at h
  · cases h
  · exact h
theorem off_spec {z y : Nat} {oz oy : Oper} (hz : ops[z]? = some oz) (hy : ops[y]? = some oy) (h : off A ops z y = true) {u : Up} (hr : u.reg.map (·.1) = oz.dst) (hb : ∀ d v, u.box = some (d, v) → wbox A oz = some d) : Off1 A ops u oy := by
  simp only [off, hz, hy, Bool.and_eq_true] at h
  obtain ⟨h1, h2, h3⟩ := Oper.apart_spec h.1
  have hreg : ∀ d v, u.reg = some (d, v) → oz.dst = some d := fun d v hh => by rw [← hr, hh]; rfl
  refine ⟨fun d v hh => ⟨h1 d (hreg d v hh), h2 d (hreg d v hh)⟩, fun d v hh he => ?_⟩
  have hw := hb d v hh
  have hbz := wbox_box hw
  have h4 := h.2
  simp [boxApart, hbz, he, hw] at h4

theorem bubble {i : Nat × List Nat} {oi : Oper} (hi : ops[i.1]? = some oi) (R : St → Prop) : ∀ (pre : List (Nat × List Nat)) (C : List Nat) (st : St), (∀ x ∈ pre, swapOK A ops x i = true) →
    (pre.Pairwise fun x z => x.1 ∈ i.2 → off A ops z.1 x.1 = true) → (∀ y ∈ C, y ∈ i.2 ∧ ∀ z ∈ pre, off A ops z.1 y = true) →
    dops P n A ops pre (fun s => iop1 P n A ops i.1 (fun s3 => (∀ y ∈ i.2, chk1 P n A ops y s3) ∧ R s3) s) st → iop1 P n A ops i.1 (fun s2 => (∀ y ∈ C, chk1 P n A ops y s2) ∧ dops P n A ops pre R s2) st := by
  intro pre
  induction pre with
  | nil =>
    intro C st _ _ hC h
    exact iop1_mono hi h fun s _ ⟨h1, h2⟩ => ⟨fun y hy => h1 y (hC y hy).1, h2⟩
  | cons x pre ih =>
    intro C st hsw hpw hC h
    obtain ⟨x, cx⟩ := x
    have hx := hsw _ (List.mem_cons_self ..)
    have hx0 := hx
    unfold swapOK at hx
    split at hx
    case h_2 => cases hx
    rename_i ox oi' hox hoi
    rw [hi] at hoi
    cases hoi
    simp only [Bool.and_eq_true, List.isEmpty_iff] at hx
    obtain ⟨⟨⟨hcx, hdet⟩, hoff⟩, hheap⟩ := hx
    subst hcx
    simp only [List.pairwise_cons] at hpw
    have h' : iop1 P n A ops x (fun s => dops P n A ops pre (fun s => iop1 P n A ops i.1 (fun s3 => (∀ y ∈ i.2, chk1 P n A ops y s3) ∧ R s3) s) s) st := h
    have hIH := iop1_mono hox h' (K' := fun s => iop1 P n A ops i.1 (fun s2 => (∀ y ∈ (if x ∈ i.2 then x :: C else C), chk1 P n A ops y s2) ∧ dops P n A ops pre R s2) s) fun s _ hs =>
      ih (if x ∈ i.2 then x :: C else C) s (fun z hz => hsw z (List.mem_cons_of_mem _ hz)) hpw.2 (by
        intro y hy
        split at hy
        · rename_i hxi
          rcases List.mem_cons.1 hy with rfl | hy
          · exact ⟨hxi, fun z hz => hpw.1 z hz hxi⟩
          · exact ⟨(hC y hy).1, fun z hz => (hC y hy).2 z (List.mem_cons_of_mem _ hz)⟩
        · exact ⟨(hC y hy).1, fun z hz => (hC y hy).2 z (List.mem_cons_of_mem _ hz)⟩) hs
    obtain ⟨u, hur, hub, hk, hrec⟩ := iop1_det hox hdet hIH
    refine iop1_frame hi (off_spec hox hi hoff hur hub) hk fun s ht ⟨hc, hd⟩ => ⟨fun y hy => ?_, ?_⟩
    · -- loads told before
      have hyC : y ∈ (if x ∈ i.2 then x :: C else C) := by
        split
        · exact List.mem_cons_of_mem _ hy
        · exact hy
      have h1 := hc y hyC
      have hoffy := (hC y hy).2 _ (List.mem_cons_self ..)
      unfold chk1 at h1 ⊢
      cases hoy : ops[y]? with
      | none => simp [hoy] at h1
      | some oy =>
        rw [hoy] at h1
        simp only [Option.bind_some] at h1 ⊢
        cases hdy : oy.dst with
        | none => simp [hdy] at h1
        | some d =>
          rw [hdy] at h1
          simp only at h1 ⊢
          have hO := off_spec hox hoy hoffy hur hub
          have hne : ∀ s' : St, (u.app s').regs d = s'.regs d := by
            intro s'
            simp only [Up.app]
            split
            · rename_i d' v hr
              rw [if_neg]
              intro e; subst e
              exact (hO.regs _ _ hr).2 hdy
            · rfl
          refine iop1_frame hoy hO h1 fun s' _ h => ?_
          rw [hne, hne] at h
          exact h
    · -- the operation itself
      show iop1 P n A ops x (fun s => dops P n A ops pre R s) s
      have hap : Oper.apart ops ox oi = true ∧ boxApart A ox oi = true := by
        simpa only [off, hox, hi, Bool.and_eq_true] using hoff
      have hregs : ∀ t ∈ ox.looksAt ops, st.regs t = s.regs t := by
        intro t htm
        refine (ht.regs t fun e => ?_).symm
        exact (Oper.apart_spec hap.1).2.2 t e htm
      have hbox : ∀ k, boxOf A ox = some k → st.loc k = s.loc k := by
        intro k hk'
        by_cases hw : wbox A oi = some k
        · have hbi := wbox_box hw
          have h4 := hap.2
          simp [boxApart, hk', hbi, hw] at h4
        · exact (ht.box k hw).symm
      by_cases hH : looksH A ox.op = true
      · by_cases hdi : isDet A oi = true
        · exact hrec s ⟨hregs, hbox, fun _ => (ht.H hdi).symm⟩ _ hd
        · simp only [hH, hdi, Bool.not_true, Bool.false_or, Bool.and_eq_true, List.contains_iff_mem] at hheap
          obtain ⟨hxi, hself⟩ := hheap
          have h1 := hc x (by rw [if_pos hxi]; exact List.mem_cons_self ..)
          cases hdx : ox.dst with
          | none => simp [hdx] at hself
          | some d =>
            rw [hdx] at hself
            simp only [Bool.not_eq_true', ] at hself
            unfold chk1 at h1
            rw [hox] at h1
            simp only [Option.bind_some, hdx] at h1
            obtain ⟨u2, h2r, h2b, h2k, h2rec⟩ := iop1_det hox hdet h1
            have hbn : boxOf A ox = none := by
              unfold looksH at hH
              unfold boxOf
              split at hH
              · rename_i t x hop; rw [hop]; simpa using hH
              · cases hH
            have hwn : wbox A ox = none := by
              cases hwx : wbox A ox with
              | none => rfl
              | some k => rw [wbox_box hwx] at hbn; cases hbn
            have hub' : u.box = none := by
              cases hu : u.box with
              | none => rfl
              | some q => have := hub q.1 q.2 hu; rw [hwn] at this; cases this
            have hub2 : u2.box = none := by
              cases hu : u2.box with
              | none => rfl
              | some q => have := h2b q.1 q.2 hu; rw [hwn] at this; cases this
            obtain ⟨ur, ubx⟩ := u
            obtain ⟨u2r, u2bx⟩ := u2
            subst hub'
            subst hub2
            rw [hdx] at hur h2r
            cases ur with
            | none => cases hur
            | some q =>
              cases u2r with
              | none => cases h2r
              | some q2 =>
                obtain ⟨d1, v1⟩ := q
                obtain ⟨d2, v2⟩ := q2
                simp only [Option.map_some, Option.some.injEq] at hur h2r
                subst hur
                subst h2r
                simp only [Up.app, if_true] at h2k
                subst h2k
                refine h2rec s ⟨?_, ?_, fun _ => rfl⟩ _ hd
                · intro t htm
                  simp only [Up.app]
                  rw [if_neg]
                  intro e; subst e
                  have : (ox.looksAt ops).contains t = true := List.contains_iff_mem.2 htm
                  rw [this] at hself; cases hself
                · intro k hk'; rw [hbn] at hk'; cases hk'
      · exact hrec s ⟨hregs, hbox, fun h => absurd h hH⟩ _ hd

end
end Go.Am
