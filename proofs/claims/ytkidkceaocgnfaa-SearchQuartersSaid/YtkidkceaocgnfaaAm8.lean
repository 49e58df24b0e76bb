/-
  Am8: a body cut into pieces: what each piece comes to, and that the body does it.
-/
import Derived.Test.YtkidkceaocgnfaaAmG
set_option linter.all false
namespace Go.Am

/-- what is asked of a program -/
def Fit (P : Program) : Prop := NoNG P ∧ P.follows .mixedOrders = true

/-- what is known at a cut: registers, registers that hold boxes' addresses, boxes -/
structure Live where
  regs : List Nat
  ptrs : List (Nat × Nat)
  boxes : List Nat

def okV : Value → Bool | .complex .f32 _ _ => false | _ => true
def look : List Nat → List Value → Nat → Option Value
  | r :: rs, v :: vs, i => if i = r then some v else look rs vs i
  | _, _, _ => none
def lookL : List Nat → List (List Value) → Nat → Option (List Value)
  | r :: rs, v :: vs, i => if i = r then some v else lookL rs vs i
  | _, _, _ => none
def lookP : List (Nat × Nat) → Nat → Option Nat
  | (r, d) :: l, i => if i = r then some d else lookP l i
  | [], _ => none

def mk (L : Live) (vs : List Value) (bs : List (List Value)) (H : AHeap) : St where
  regs := fun i => match look L.regs vs i with
    | some v => v
    | none => match lookP L.ptrs i with | some d => .complex .f32 d 0 | none => junk
  loc := fun i => lookL L.boxes bs i
  H := H

def exB (loc : Nat → Option (List Value)) : List Nat → (List (List Value) → Prop) → Prop
  | [], K => K []
  | d :: ds, K => rdB loc d fun xs => exB loc ds fun r => K (xs :: r)
def exR (regs : Nat → Value) : List Nat → (List Value → Prop) → Prop
  | [], K => K []
  | r :: rs, K => if okV (regs r) = true then exR regs rs fun vs => K (regs r :: vs) else False
def exP (regs : Nat → Value) (boxes : List Nat) : List (Nat × Nat) → Prop → Prop
  | [], K => K
  | (r, d) :: l, K => match regs r with | .complex .f32 k o => if k = d then if o = 0 then if boxes.contains d = true then exP regs boxes l K else False else False else False | _ => False

/-- what a cut takes of a state -/
def ex (L : Live) (st : St) (K : List Value → List (List Value) → AHeap → Prop) : Prop :=
  exR st.regs L.regs fun vs => exB st.loc L.boxes fun bs => exP st.regs L.boxes L.ptrs (K vs bs st.H)

theorem exB_elim {loc : Nat → Option (List Value)} : ∀ {ds : List Nat} {K : List (List Value) → Prop}, exB loc ds K → ∃ bs, K bs ∧ (∀ i, lookL ds bs i = none ∨ lookL ds bs i = loc i) ∧ ∀ i ∈ ds, lookL ds bs i ≠ none
  | [], K, h => ⟨[], h, fun _ => .inl rfl, fun i hi => by cases hi⟩
  | d :: ds, K, h => by
    obtain ⟨xs, hx, h⟩ := rdB_elim h
    obtain ⟨bs, hk, h1, h2⟩ := exB_elim h
    refine ⟨xs :: bs, hk, fun i => ?_, fun i hi => ?_⟩
    · simp only [lookL]
      split
      · rename_i e; subst e; exact .inr hx.symm
      · exact h1 i
    · simp only [lookL]
      split
      · simp
      · rename_i e
        exact h2 i ((List.mem_cons.1 hi).resolve_left e)
theorem exR_elim {regs : Nat → Value} : ∀ {rs : List Nat} {K : List Value → Prop}, exR regs rs K → ∃ vs, K vs ∧ ∀ i, look rs vs i = none ∨ (look rs vs i = some (regs i) ∧ okV (regs i) = true)
  | [], K, h => ⟨[], h, fun _ => .inl rfl⟩
  | r :: rs, K, h => by
    simp only [exR] at h
    split at h
    · rename_i hok
      obtain ⟨vs, hk, h1⟩ := exR_elim h
      refine ⟨regs r :: vs, hk, fun i => ?_⟩
      simp only [look]
      split
      · rename_i e; subst e; exact .inr ⟨rfl, hok⟩
      · exact h1 i
    · exact h.elim
theorem exP_elim {regs : Nat → Value} {boxes : List Nat} : ∀ {l : List (Nat × Nat)} {K : Prop}, exP regs boxes l K → K ∧ ∀ i d, lookP l i = some d → regs i = .complex .f32 d 0 ∧ d ∈ boxes
  | [], K, h => ⟨h, fun i d hd => by simp [lookP] at hd⟩
  | (r, d) :: l, K, h => by
    simp only [exP] at h
    split at h
    case h_2 => exact h.elim
    rename_i k o hr
    split at h
    case isFalse => exact h.elim
    rename_i hk
    split at h
    case isFalse => exact h.elim
    rename_i ho
    split at h
    case isFalse => exact h.elim
    rename_i hb
    subst hk ho
    obtain ⟨h1, h2⟩ := exP_elim h
    refine ⟨h1, fun i d' hd => ?_⟩
    simp only [lookP] at hd
    split at hd
    · rename_i e; subst e; cases hd; exact ⟨hr, List.contains_iff_mem.1 hb⟩
    · exact h2 i d' hd

theorem ex_elim {L : Live} {st : St} {K : List Value → List (List Value) → AHeap → Prop} (h : ex L st K) : ∃ vs bs, K vs bs st.H ∧ Less (mk L vs bs st.H) st := by
  obtain ⟨vs, h, hv⟩ := exR_elim h
  obtain ⟨bs, h, hb1, hb2⟩ := exB_elim h
  obtain ⟨h, hp⟩ := exP_elim h
  refine ⟨vs, bs, h, ?_, fun t => hb1 t, rfl⟩
  intro t
  simp only [mk]
  rcases hv t with e | ⟨e, ok⟩
  · rw [e]
    simp only
    cases hq : lookP L.ptrs t with
    | none => exact .inl rfl
    | some d =>
      obtain ⟨e1, e2⟩ := hp t d hq
      refine .inr ⟨e1.symm, fun k o hk => ?_⟩
      rw [e1] at hk
      cases hk
      exact hb2 _ e2
  · rw [e]
    refine .inr ⟨rfl, fun k o hk => ?_⟩
    rw [hk] at ok
    simp [okV] at ok

theorem Less.trans {a b c : St} (h : Less a b) (k : Less b c) : Less a c where
  regs := fun t => by
    rcases h.regs t with e | ⟨e, hl⟩
    · exact .inl e
    · rcases k.regs t with e2 | ⟨e2, hl2⟩
      · exact .inl (e.trans e2)
      · exact .inr ⟨e.trans e2, fun kk o hk => hl kk o (e2.trans hk)⟩
  loc := fun t => by
    rcases h.loc t with e | e
    · exact .inl e
    · rcases k.loc t with e2 | e2
      · exact .inl (e.trans e2)
      · exact .inr (e.trans e2)
  H := h.H.trans k.H

theorem AW.loopT {E : Env} {c : Code} {K : Exit → St → Prop} {st : St} {σ : Type} (m : σ → St) (I : σ → Prop) (μ : σ → Nat) (s0 : σ) (hl : Less (m s0) st) (h0 : I s0)
    (round : ∀ s, I s → AW E c (thenK (fun st' => ∃ s', Less (m s') st' ∧ I s' ∧ μ s' < μ s) K) (m s)) : AW E (.loop c) K st := by
  refine AW.loop (fun st => ∃ s, Less (m s) st ∧ I s) (fun st => least fun q => ∃ s, Less (m s) st ∧ I s ∧ μ s = q) ⟨s0, hl, h0⟩ ?_
  rintro st ⟨s1, hl1, hI1⟩
  obtain ⟨⟨s, hls, hIs, hm⟩, _⟩ := least_spec (p := fun q => ∃ s, Less (m s) st ∧ I s ∧ μ s = q) ⟨_, s1, hl1, hI1, rfl⟩
  refine (AW.less hls (round s hIs)).mono fun e st' hk => ?_
  cases e with
  | normal =>
    obtain ⟨s', hl', hI', hlt⟩ := hk
    refine ⟨⟨s', hl', hI'⟩, ?_⟩
    have := (least_spec (p := fun q => ∃ s, Less (m s) st' ∧ I s ∧ μ s = q) ⟨_, s', hl', hI', rfl⟩).2 _ ⟨s', hl', hI', rfl⟩
    omega
  | _ => exact hk

/-- what stands around a piece -/
inductive Fr where
  | rest (r : Nat) (y : Code)
  | tail (y : Code)
  | blk (id : Nat)
  | loop (l : Nat)

def firstR : Code → Option Nat
  | .region id _ _ => some id
  | .seq a b => match firstR a with | some r => some r | none => firstR b
  | .cond _ a b => match firstR a with | some r => some r | none => firstR b
  | .block _ b => firstR b
  | .loop b => firstR b
  | .scope b => firstR b
  | _ => none

abbrev KB := Nat → List Value → List (List Value) → AHeap → Prop

/-- all that a body's pieces are told by -/
structure Pc where
  P : Program
  n : Nat
  A : Nat → Option Nat
  Lv : Nat → Live
  Ll : Nat → Live
  Sh : KB → Nat → List Value → List (List Value) → AHeap → Prop
  ShL : KB → Nat → List Value → List (List Value) → AHeap → Prop
  D : Nat → Option (List (Nat × List Nat))
  K0 : St → Prop

def popTo (id : Nat) : List Fr → Option (List Fr)
  | [] => none
  | .blk i :: ctx => if i = id then some ctx else popTo id ctx
  | .rest _ _ :: ctx => popTo id ctx
  | .tail _ :: ctx => popTo id ctx
  | .loop _ :: ctx => popTo id ctx

/-- a piece's end -/
def norm (X : Pc) (kb : KB) (st : St) : Nat → List Fr → Prop
  | 0, _ => False
  | _ + 1, [] => X.K0 st
  | _ + 1, .rest r _ :: _ => ex (X.Lv r) st (X.Sh kb r)
  | f + 1, .tail y :: ctx => match y with
    | .skip => norm X kb st f ctx
    | .ret => X.K0 st
    | .exit id => match popTo id ctx with | some c => norm X kb st f c | none => False
    | _ => False
  | f + 1, .blk _ :: ctx => norm X kb st f ctx
  | _ + 1, .loop l :: _ => ex (X.Ll l) st (kb l)

def upK (kb : KB) (l : Nat) (k : List Value → List (List Value) → AHeap → Prop) : KB := fun j => if j = l then k else kb j

/-- a loop: a relation, a measure -/
def lpW (B : KB → List Value → List (List Value) → AHeap → Prop) (kb : KB) (l : Nat) (vs : List Value) (bs : List (List Value)) (H : AHeap) : Prop :=
  ∃ (I : List Value → List (List Value) → AHeap → Prop) (μ : List Value → List (List Value) → AHeap → Nat),
    I vs bs H ∧ ∀ vs bs H, I vs bs H → B (upK kb l fun vs' bs' H' => I vs' bs' H' ∧ μ vs' bs' H' < μ vs bs H) vs bs H

/-- a region, in the text's order; one that draws, in an order that serves for all -/
def regW (X : Pc) (id : Nat) (ops : Array Oper) (d : Bool) (K : St → Prop) (st : St) : Prop :=
  match d with
  | false => iops X.P X.n X.A ops (List.range ops.size) K st
  | true => match X.D id with | some σ => if drawOK X.A ops σ = true then dops X.P X.n X.A ops σ K st else False | none => False

def interp (X : Pc) (kb : KB) : Code → List Fr → St → Prop
  | .skip, ctx, st => norm X kb st 40 ctx
  | .region id ops d, ctx, st => regW X id ops d (fun st => norm X kb st 40 ctx) st
  | .seq x y, ctx, st =>
    match x with
    | .region id ops d => regW X id ops d (fun st => interp X kb y ctx st) st
    | .skip => interp X kb y ctx st
    | x => match firstR y with
      | some r => interp X kb x (.rest r y :: ctx) st
      | none => interp X kb x (.tail y :: ctx) st
  | .cond c x y, ctx, st => match ev X.n st c with | .bool b => bif b then interp X kb x ctx st else interp X kb y ctx st | _ => False
  | .block id c, ctx, st => interp X kb c (.blk id :: ctx) st
  | .loop b, _, st =>
    match firstR b with
    | some l => ex (X.Ll l) st (lpW (fun kb => X.ShL kb l) kb l)
    | none => False
  | .exit id, ctx, st => match popTo id ctx with | some c => norm X kb st 40 c | none => False
  | .ret, _, st => X.K0 st
  | _, _, _ => False

/-- the true continuation of what stands around a piece -/
def ctxK (E : Env) (K0 : St → Prop) (kS : Nat → St → Prop) : List Fr → Exit → St → Prop
  | [], e, st => match e with | .normal => K0 st | .ret => K0 st | _ => False
  | .rest _ y :: ctx, e, st => thenK (AW E y (ctxK E K0 kS ctx)) (ctxK E K0 kS ctx) e st
  | .tail y :: ctx, e, st => thenK (AW E y (ctxK E K0 kS ctx)) (ctxK E K0 kS ctx) e st
  | .blk id :: ctx, e, st => blockK id (ctxK E K0 kS ctx) e st
  | .loop l :: ctx, e, st => thenK (kS l) (ctxK E K0 kS ctx) e st

def noLoop (l : Nat) : List Fr → Bool
  | [] => true
  | .loop j :: ctx => !(j == l) && noLoop l ctx
  | .rest _ _ :: ctx => noLoop l ctx
  | .tail _ :: ctx => noLoop l ctx
  | .blk _ :: ctx => noLoop l ctx

/-- what the pieces owe -/
def Obl (X : Pc) : Code → List Fr → Prop
  | .seq x y, ctx =>
    match x with
    | .region _ _ _ => Obl X y ctx
    | .skip => Obl X y ctx
    | x => match firstR y with
      | some r => (∀ kb vs bs H, X.Sh kb r vs bs H → interp X kb y ctx (mk (X.Lv r) vs bs H)) ∧ Obl X x (.rest r y :: ctx) ∧ Obl X y ctx
      | none => Obl X x (.tail y :: ctx)
  | .cond _ x y, ctx => Obl X x ctx ∧ Obl X y ctx
  | .block id c, ctx => Obl X c (.blk id :: ctx)
  | .loop b, ctx =>
    match firstR b with
    | some l => (noLoop l ctx = true ∧ ∀ kb vs bs H, X.ShL kb l vs bs H → interp X kb b (.loop l :: ctx) (mk (X.Ll l) vs bs H)) ∧ Obl X b (.loop l :: ctx)
    | none => True
  | _, _ => True

def OblC (X : Pc) : List Fr → Prop
  | [] => True
  | .rest r y :: ctx => ((∀ kb vs bs H, X.Sh kb r vs bs H → interp X kb y ctx (mk (X.Lv r) vs bs H)) ∧ Obl X y ctx) ∧ OblC X ctx
  | .tail _ :: ctx => OblC X ctx
  | .blk _ :: ctx => OblC X ctx
  | .loop _ :: ctx => OblC X ctx

def csize : Code → Nat
  | .seq a b => csize a + csize b + 1
  | .cond _ a b => csize a + csize b + 1
  | .block _ b => csize b + 1
  | .loop b => csize b + 2
  | .scope b => csize b + 1
  | _ => 1
def fsize : List Fr → Nat
  | [] => 0
  | .rest _ y :: ctx => csize y + fsize ctx
  | .tail y :: ctx => csize y + fsize ctx
  | .blk _ :: ctx => fsize ctx
  | .loop _ :: ctx => fsize ctx
theorem csize_pos : ∀ c, 0 < csize c := by intro c; cases c <;> simp [csize]

theorem ctxK_ret {E : Env} {K0 : St → Prop} {kS : Nat → St → Prop} {st : St} (h : K0 st) : ∀ ctx, ctxK E K0 kS ctx .ret st
  | [] => h
  | .rest _ _ :: ctx => ctxK_ret h ctx
  | .tail _ :: ctx => ctxK_ret h ctx
  | .blk _ :: ctx => ctxK_ret h ctx
  | .loop _ :: ctx => ctxK_ret h ctx
theorem ctxK_pop {E : Env} {K0 : St → Prop} {kS : Nat → St → Prop} {st : St} {id : Nat} {c : List Fr} (h : ctxK E K0 kS c .normal st) : ∀ {ctx}, popTo id ctx = some c → ctxK E K0 kS ctx (.exit id) st
  | [], hp => by simp [popTo] at hp
  | .blk i :: ctx, hp => by
    simp only [popTo] at hp
    simp only [ctxK, blockK]
    split at hp
    · rename_i e; cases hp; subst e; simp only [if_true]; exact h
    · rename_i e; rw [if_neg (fun h => e h.symm)]; exact ctxK_pop h hp
  | .rest _ _ :: ctx, hp => ctxK_pop h (ctx := ctx) hp
  | .tail _ :: ctx, hp => ctxK_pop h (ctx := ctx) hp
  | .loop _ :: ctx, hp => ctxK_pop h (ctx := ctx) hp
theorem popTo_size {id : Nat} {c : List Fr} : ∀ {ctx}, popTo id ctx = some c → fsize c ≤ fsize ctx
  | [], hp => by simp [popTo] at hp
  | .blk i :: ctx, hp => by
    simp only [popTo] at hp
    simp only [fsize]
    split at hp
    · cases hp; exact Nat.le_refl _
    · exact popTo_size hp
  | .rest _ y :: ctx, hp => Nat.le_trans (popTo_size (ctx := ctx) hp) (by simp [fsize])
  | .tail _ :: ctx, hp => Nat.le_trans (popTo_size (ctx := ctx) hp) (by simp [fsize])
  | .loop _ :: ctx, hp => popTo_size (ctx := ctx) hp
theorem popTo_obl {X : Pc} {id : Nat} {c : List Fr} : ∀ {ctx}, popTo id ctx = some c → OblC X ctx → OblC X c
  | [], hp, _ => by simp [popTo] at hp
  | .blk i :: ctx, hp, ho => by
    simp only [popTo] at hp
    split at hp
    · cases hp; exact ho
    · exact popTo_obl hp ho
  | .rest _ y :: ctx, hp, ho => popTo_obl (ctx := ctx) hp ho.2
  | .tail _ :: ctx, hp, ho => popTo_obl (ctx := ctx) hp ho
  | .loop _ :: ctx, hp, ho => popTo_obl (ctx := ctx) hp ho
theorem ctxK_mono {E : Env} {K0 : St → Prop} {kS kS' : Nat → St → Prop} {l : Nat} (hk : ∀ j, j ≠ l → kS' j = kS j) : ∀ {ctx}, noLoop l ctx = true → ctxK E K0 kS' ctx = ctxK E K0 kS ctx
  | [], _ => rfl
  | .rest _ y :: ctx, h => by funext e st; simp only [ctxK, ctxK_mono hk (ctx := ctx) h]
  | .tail _ :: ctx, h => by funext e st; simp only [ctxK, ctxK_mono hk (ctx := ctx) h]
  | .blk _ :: ctx, h => by funext e st; simp only [ctxK, ctxK_mono hk (ctx := ctx) h]
  | .loop j :: ctx, h => by
    simp only [noLoop, Bool.and_eq_true, Bool.not_eq_true', beq_eq_false_iff_ne] at h
    funext e st
    simp only [ctxK, ctxK_mono hk (ctx := ctx) h.2, hk j h.1]

theorem AW.regW {E : Env} {X : Pc} (hP : E.P = X.P) (hn : E.n = X.n) (hN : Fit X.P) {id : Nat} {ops : Array Oper} {d : Bool} {K : St → Prop} {st : St} (h : Am.regW X id ops d K st) : AW E (.region id ops d) (fun e st => e = .normal ∧ K st) st := by
  cases d with
  | false =>
    simp only [Am.regW] at h
    refine AW.region (hP ▸ hN.1) (A := X.A) ?_
    rw [hP, hn]
    have e : (fun st => (Exit.normal = Exit.normal ∧ K st)) = K := by funext st; simp
    rw [e]
    exact h
  | true =>
    simp only [Am.regW] at h
    split at h
    · split at h
      · rename_i hd
        refine AW.draw (A := X.A) (hP ▸ hN.1) (hP ▸ hN.2) hd ?_
        rw [hP, hn]
        have e : (fun st => (Exit.normal = Exit.normal ∧ K st)) = K := by funext st; simp
        rw [e]
        exact h
      · exact h.elim
    · exact h.elim

theorem interp_ok {E : Env} (X : Pc) (hP : E.P = X.P) (hn : E.n = X.n) (hN : Fit X.P) : ∀ (m : Nat) (c : Code) (ctx : List Fr) (kb : KB) (kS : Nat → St → Prop) (st : St), csize c + fsize ctx ≤ m →
    (∀ j st, ex (X.Ll j) st (kb j) → kS j st) → Obl X c ctx → OblC X ctx → interp X kb c ctx st → AW E c (ctxK E X.K0 kS ctx) st := by
  intro m
  induction m using Nat.strongRecOn with
  | _ m IH =>
    -- an end
    have hnorm : ∀ (f : Nat) (ctx : List Fr) (kb : KB) (kS : Nat → St → Prop) (st : St), fsize ctx < m → (∀ j st, ex (X.Ll j) st (kb j) → kS j st) → OblC X ctx → norm X kb st f ctx → ctxK E X.K0 kS ctx .normal st := by
      intro f
      induction f with
      | zero => intro ctx kb kS st _ _ _ h; exact h.elim
      | succ f ihf =>
        intro ctx kb kS st hm hkb ho h
        cases ctx with
        | nil => exact h
        | cons fr ctx =>
          cases fr with
          | rest r y =>
            obtain ⟨vs, bs, hk, hl⟩ := ex_elim h
            simp only [fsize] at hm
            exact AW.less hl (IH (csize y + fsize ctx) hm y ctx kb kS _ (Nat.le_refl _) hkb ho.1.2 ho.2 (ho.1.1 kb vs bs _ hk))
          | tail y =>
            have hm' : fsize ctx < m := by simp only [fsize] at hm; have := csize_pos y; omega
            simp only [norm] at h
            simp only [ctxK, thenK]
            split at h
            · exact AW.skip (ihf ctx kb kS st hm' hkb ho h)
            · exact AW.ret (ctxK_ret h ctx)
            · rename_i id
              split at h
              · rename_i c hc
                exact AW.exit (ctxK_pop (ihf c kb kS st (Nat.lt_of_le_of_lt (popTo_size hc) hm') hkb (popTo_obl hc ho) h) hc)
              · exact h.elim
            · exact h.elim
          | blk id => exact ihf ctx kb kS st hm hkb ho h
          | loop l => exact hkb l st h
    intro c
    induction c with
    | skip => intro ctx kb kS st hm hkb ho hoc h; exact AW.skip (hnorm 40 ctx kb kS st (by simp only [csize] at hm; omega) hkb hoc h)
    | region id ops d =>
      intro ctx kb kS st hm hkb ho hoc h
      exact (AW.regW hP hn hN h).mono fun e st ⟨he, h⟩ => by subst he; exact hnorm 40 ctx kb kS st (by simp only [csize] at hm; omega) hkb hoc h
    | seq x y ihx ihy =>
      intro ctx kb kS st hm hkb ho hoc h
      have hy : ∀ st, Obl X y ctx → interp X kb y ctx st → AW E y (ctxK E X.K0 kS ctx) st := fun st ho h => ihy ctx kb kS st (by simp only [csize] at hm; omega) hkb ho hoc h
      have hx : ∀ fr : Fr, (∀ e st, ctxK E X.K0 kS (fr :: ctx) e st = thenK (AW E y (ctxK E X.K0 kS ctx)) (ctxK E X.K0 kS ctx) e st) → fsize (fr :: ctx) ≤ csize y + fsize ctx → Obl X x (fr :: ctx) → OblC X (fr :: ctx) → interp X kb x (fr :: ctx) st →
          AW E (.seq x y) (ctxK E X.K0 kS ctx) st := by
        intro fr hfr hfs ho1 ho2 h
        refine AW.seq ((ihx (fr :: ctx) kb kS st (by simp only [csize] at hm; omega) hkb ho1 ho2 h).mono fun e st h => ?_)
        rw [← hfr]; exact h
      have gen : (∀ id ops d, x ≠ .region id ops d) → x ≠ .skip → AW E (.seq x y) (ctxK E X.K0 kS ctx) st := by
        intro n1 n2
        have h' : match firstR y with | some r => interp X kb x (.rest r y :: ctx) st | none => interp X kb x (.tail y :: ctx) st := by
          cases x <;> first | exact h | exact absurd rfl n2 | exact absurd rfl (n1 _ _ _)
        have ho' : match firstR y with | some r => (∀ kb vs bs H, X.Sh kb r vs bs H → interp X kb y ctx (mk (X.Lv r) vs bs H)) ∧ Obl X x (.rest r y :: ctx) ∧ Obl X y ctx | none => Obl X x (.tail y :: ctx) := by
          cases x <;> first | exact ho | exact absurd rfl n2 | exact absurd rfl (n1 _ _ _)
        cases hr : firstR y with
        | some r =>
          rw [hr] at h' ho'
          exact hx (.rest r y) (fun e st => rfl) (Nat.le_refl _) ho'.2.1 ⟨⟨ho'.1, ho'.2.2⟩, hoc⟩ h'
        | none =>
          rw [hr] at h' ho'
          exact hx (.tail y) (fun e st => rfl) (Nat.le_refl _) ho' hoc h'
      cases x with
      | region id ops d => exact AW.seq ((AW.regW hP hn hN h).mono fun e st ⟨he, h⟩ => by subst he; exact hy st ho h)
      | skip => exact AW.seq (AW.skip (hy st ho h))
      | _ => exact gen (by simp) (by simp)
    | cond c x y ihx ihy =>
      intro ctx kb kS st hm hkb ho hoc h
      simp only [interp] at h
      split at h
      case h_2 => exact h.elim
      rename_i b hb
      simp only [csize] at hm
      refine AW.cond (b := b) (by rw [hn]; exact hb) ?_
      cases b with
      | true => exact ihx ctx kb kS st (by omega) hkb ho.1 hoc h
      | false => exact ihy ctx kb kS st (by omega) hkb ho.2 hoc h
    | block id c ih =>
      intro ctx kb kS st hm hkb ho hoc h
      simp only [csize] at hm
      exact AW.block (ih (.blk id :: ctx) kb kS st (by simp only [fsize]; omega) hkb ho hoc h)
    | loop b ih =>
      intro ctx kb kS st hm hkb ho hoc h
      simp only [csize] at hm
      simp only [interp] at h
      simp only [Obl] at ho
      split at h
      case h_2 => exact h.elim
      rename_i l hl
      rw [hl] at ho
      obtain ⟨⟨hno, hsl⟩, hob⟩ := ho
      obtain ⟨vs0, bs0, ⟨I, μ, hI0, hround⟩, hless⟩ := ex_elim h
      refine AW.loopT (σ := List Value × List (List Value) × AHeap) (fun s => mk (X.Ll l) s.1 s.2.1 s.2.2) (fun s => I s.1 s.2.1 s.2.2) (fun s => μ s.1 s.2.1 s.2.2) (vs0, bs0, st.H) hless hI0 ?_
      rintro ⟨vs, bs, H⟩ hI
      have hb := hsl _ vs bs H (hround vs bs H hI)
      let kS' : Nat → St → Prop := fun j => if j = l then (fun st' => ∃ s' : List Value × List (List Value) × AHeap, Less (mk (X.Ll l) s'.1 s'.2.1 s'.2.2) st' ∧ I s'.1 s'.2.1 s'.2.2 ∧ μ s'.1 s'.2.1 s'.2.2 < μ vs bs H) else kS j
      have := ih (.loop l :: ctx) _ kS' _ (by simp only [fsize]; omega) (by
        intro j st' hex
        by_cases hj : j = l
        · subst hj
          obtain ⟨vs', bs', hk, hl'⟩ := ex_elim hex
          simp only [upK, if_true] at hk
          simp only [kS', if_true]
          exact ⟨(vs', bs', st'.H), hl', hk.1, hk.2⟩
        · simp only [kS', hj, if_false]
          apply hkb
          have : ∀ vs bs H, upK kb l (fun vs' bs' H' => I vs' bs' H' ∧ μ vs' bs' H' < μ vs bs H) j = kb j := fun vs bs H => by simp [upK, hj]
          rw [this] at hex
          exact hex) hob hoc hb
      refine this.mono fun e st' hk => ?_
      have hm2 : ctxK E X.K0 kS' ctx = ctxK E X.K0 kS ctx := ctxK_mono (l := l) (fun j hj => by simp only [kS', hj, if_false]) hno
      simp only [ctxK, hm2] at hk
      cases e with
      | normal => simpa only [thenK, kS', if_true] using hk
      | _ => exact hk
    | exit id =>
      intro ctx kb kS st hm hkb ho hoc h
      simp only [interp] at h
      split at h
      · rename_i c hc
        exact AW.exit (ctxK_pop (hnorm 40 c kb kS st (by have := popTo_size hc; simp only [csize] at hm; omega) hkb (popTo_obl hc hoc) h) hc)
      · exact h.elim
    | ret => intro ctx kb kS st hm hkb ho hoc h; exact AW.ret (ctxK_ret h ctx)
    | _ => intro ctx kb kS st hm hkb ho hoc h; exact h.elim

/-- a function's results -/
def retV (P : Program) (A : Nat → Option Nat) (n : Nat) (st : St) : List ResultVar → (List Value → Prop) → Prop
  | [], K => K []
  | .tmp t :: rs, K => if t < n then if isVal (st.regs t) = true then retV P A n st rs fun vs => K (st.regs t :: vs) else False else False
  | .cell t ty :: rs, K => if t < n then opv P A (ev n st) st.loc st.H (.load ty (.tmp t)) fun v => if isVal v = true then retV P A n st rs fun vs => K (v :: vs) else False else False

def oneV : List Value → Value | [v] => v | vs => .tuple ⟨vs⟩
def ret (P : Program) (A : Nat → Option Nat) (n : Nat) (rs : List ResultVar) (Q : Value → AHeap → Prop) (st : St) : Prop := retV P A n st rs fun vs => Q (oneV vs) st.H

def entry (args : List Value) (H : AHeap) : St := { regs := fun t => match args[t]? with | some v => v | none => junk, loc := fun _ => none, H := H }

theorem retV_ok {E : Env} {st : St} {loc : Nat → Nat} {a : Act} {w : World} {A : Nat → Option Nat} (hs : SRel E st loc a w) : ∀ (rs : List ResultVar) (K : List Value → Prop), retV E.P A E.n st rs K →
    ∃ vs cs, (rs.mapM fun (r : ResultVar) => match r with | .tmp t => (pure (a.tmps.getD t undef) : Sem Value) | .cell b t => do loadVar t (← asAddr (a.tmps.getD b undef))).run E.P w = .ok cs w ∧ VRs (csz w) vs cs ∧ K vs
  | [], K, h => ⟨[], [], by simp, .nil, h⟩
  | .tmp t :: rs, K, h => by
    simp only [retV] at h
    split at h
    case isFalse => exact h.elim
    rename_i ht
    split at h
    case isFalse => exact h.elim
    rename_i hv
    obtain ⟨vs, cs, h1, h2, h3⟩ := retV_ok hs rs _ h
    refine ⟨_, a.tmps.getD t undef :: cs, ?_, .cons ((hs.regs t ht).vr hv) h2, h3⟩
    simp only [List.mapM_cons, Sem.run_bind, Sem.run_pure, Result.andThen_ok, h1]
  | .cell t ty :: rs, K, h => by
    simp only [retV] at h
    split at h
    case isFalse => exact h.elim
    rename_i ht
    obtain ⟨v, c, h1, h2, h3⟩ := load_ok hs h
    split at h3
    case isFalse => exact h3.elim
    rename_i hv
    obtain ⟨vs, cs, g1, g2, g3⟩ := retV_ok hs rs _ h3
    refine ⟨_, c :: cs, ?_, .cons (h2.vr hv) g2, g3⟩
    have e : (do loadVar ty (← asAddr (a.tmps.getD t undef)) : Sem Value).run E.P w = .ok c w := by
      have h1' : (Instr.loadAt ty (a.tmps.getD t undef)).run E.P w = .ok c w := h1
      generalize a.tmps.getD t undef = p at h1'
      cases p with
      | pointer q =>
        cases q with
        | none => simp [Instr.loadAt, Instr.sureAddr, stuck] at h1'
        | some q => simpa [Instr.loadAt, Instr.sureAddr, asAddr] using h1'
      | _ => simp [Instr.loadAt, Instr.sureAddr, stuck] at h1'
    simp only [List.mapM_cons]
    rw [Sem.run_bind, e]
    simp only [Result.andThen_ok, Sem.run_bind, g1, Sem.run_pure]

/-- A CALL, OUT OF ITS BODY's PIECES -/
theorem call_of {X : Pc} {f : FuncId} {fn : Func} {c : Code} {Q : Value → AHeap → Prop} (hf : X.P.funcs[f]? = some fn) (hb : fn.body = some c) (hn : X.n = fn.ntmps) (hN : Fit X.P)
    (hK : X.K0 = ret X.P X.A X.n fn.results.toList Q) (hO : Obl X c []) {args : List Value} {H : AHeap} (hlen : args.length ≤ fn.ntmps) (h : interp X (fun _ _ _ _ => False) c [] (entry args H)) :
    call X.P f args H Q := by
  intro w cargs hw hargs
  refine calls_of_wp hf hb ?_
  let E : Env := ⟨X.P, X.n, w, H⟩
  have hs : SR E (entry args H) { tmps := (⟨cargs⟩ : Array Value) ++ Array.replicate (fn.ntmps - (⟨cargs⟩ : Array Value).size) undef, defers := [] } w := by
    refine ⟨fun _ => 0, ?_⟩
    refine { size := ?_, defers := rfl, regs := ?_, heap := hw, fr := .refl H w, box := ?_, inj := ?_ }
    · have := hargs.1
      simp only [Array.size_append, List.size_toArray, Array.size_replicate]
      show _ = X.n
      rw [hn]; omega
    · intro t ht
      simp only [entry]
      rw [Array.getD_eq_getD_getElem?]
      rcases Nat.lt_or_ge t args.length with h1 | h1
      · rw [List.getElem?_eq_getElem h1]
        have h2 : t < cargs.length := hargs.1 ▸ h1
        rw [Array.getElem?_append_left (by simpa using h2)]
        simp only [List.getElem?_toArray, List.getElem?_eq_getElem h2, Option.getD_some]
        exact .val (hargs.2 t h1 h2)
      · rw [List.getElem?_eq_none h1]
        exact .junk _
    · intro t xs ht; simp [entry] at ht
    · intro t u ht; simp [entry] at ht
  have hA := interp_ok (E := E) X rfl rfl hN _ c [] (fun _ _ _ _ => False) (fun _ _ => False) (entry args H) (Nat.le_refl _) (fun j st h => by obtain ⟨_, _, h, _⟩ := ex_elim h; exact h) hO trivial h
  refine Go.wp_mono (hA _ w hs) fun e a' w' ⟨st', ⟨loc, r⟩, k⟩ => ?_
  have fin : X.K0 st' → (bodyPost X.P fn fun e w' => ∃ r c H', e = .returned c ∧ VR (csz w') r c ∧ HRel H' w' ∧ FrRel H w H' w' ∧ Q r H') .ret a' w' := by
    intro hk
    rw [hK] at hk
    obtain ⟨vs, cs, h1, h2, h3⟩ := retV_ok r fn.results.toList _ hk
    have hres : (results fn a'.tmps).run X.P w' = .ok (if h : (⟨cs⟩ : Array Value).size = 1 then (⟨cs⟩ : Array Value)[0] else .tuple ⟨cs⟩) w' := by
      unfold results
      rw [Sem.run_bind, Array.mapM_eq_mapM_toList, Sem.run_map]
      have h1' := h1
      exact (congrArg (fun r => (Result.andThen (Result.andThen r fun a w' => Result.ok a.toArray w') fun a w' => Sem.run X.P (pure (if h : a.size = 1 then a[0] else Value.tuple a)) w')) h1').trans rfl
    refine ⟨r.defers, _, hres, oneV vs, _, st'.H, rfl, ?_, r.heap, r.fr, h3⟩
    cases vs with
    | nil =>
      have : cs = [] := by have := h2.1; simpa using this.symm
      subst this
      exact .tuple [] [] rfl (fun i h => by simp at h)
    | cons v vs =>
      cases cs with
      | nil => have := h2.1; simp at this
      | cons c cs =>
        cases vs with
        | nil =>
          have : cs = [] := by have := h2.1; simpa using this.symm
          subst this
          exact h2.2 0 (by simp) (by simp)
        | cons v2 vs =>
          cases cs with
          | nil => have := h2.1; simp at this
          | cons c2 cs => exact .tuple _ _ h2.1 h2.2
  cases e with
  | normal => exact fin k
  | ret => exact fin k
  | _ => exact k.elim

end Go.Am
