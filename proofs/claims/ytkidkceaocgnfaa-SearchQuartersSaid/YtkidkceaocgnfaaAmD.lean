/-
  AmD: operations that only make a value: one value, out of what they look at.
-/
import Derived.Test.YtkidkceaocgnfaaAm7
set_option linter.all false
namespace Go.Am

/-- what comes to one answer -/
def Det {α : Type} (f : (α → Prop) → Prop) : Prop := ∀ K, f K → ∃ a, K a ∧ ∀ K', K' a → f K'
theorem det_pure {α : Type} (a : α) : Det (fun K : α → Prop => K a) := fun K h => ⟨a, h, fun _ h => h⟩
theorem det_false {α : Type} : Det (fun _ : α → Prop => False) := fun _ h => h.elim
theorem det_bind {α β : Type} {f : (α → Prop) → Prop} {g : α → (β → Prop) → Prop} (hf : Det f) (hg : ∀ a, Det (g a)) : Det (fun K => f fun a => g a K) := by
  intro K h
  obtain ⟨a, ha, h1⟩ := hf _ h
  obtain ⟨b, hb, h2⟩ := hg a K ha
  exact ⟨b, hb, fun K' h => h1 _ (h2 K' h)⟩
theorem det_map {α β : Type} {f : (α → Prop) → Prop} (g : α → β) (hf : Det f) : Det (fun K : β → Prop => f fun a => K (g a)) := det_bind (g := fun a (K : β → Prop) => K (g a)) hf fun a => det_pure (g a)
theorem det_and {α : Type} {c : Prop} {g : (α → Prop) → Prop} (hg : Det g) : Det (fun K => c ∧ g K) := by
  rintro K ⟨hc, h⟩
  obtain ⟨a, ha, h1⟩ := hg K h
  exact ⟨a, ha, fun K' h => ⟨hc, h1 K' h⟩⟩
theorem det_gd {α : Type} {c : Prop} [Decidable c] {g : (α → Prop) → Prop} (hg : Det g) : Det (fun K => gd c (g K)) := by
  intro K h
  obtain ⟨hc, h⟩ := gd_iff.1 h
  obtain ⟨a, ha, h1⟩ := hg K h
  exact ⟨a, ha, fun K' h => gd_iff.2 ⟨hc, h1 K' h⟩⟩
theorem det_ite {α : Type} {c : Prop} [Decidable c] {f g : (α → Prop) → Prop} (hf : Det f) (hg : Det g) : Det (fun K => if c then f K else g K) := by
  by_cases h : c
  · simpa only [h, if_true] using hf
  · simpa only [h, if_false] using hg
theorem det_bif {α : Type} {c : Bool} {f g : (α → Prop) → Prop} (hf : Det f) (hg : Det g) : Det (fun K => bif c then f K else g K) := by
  cases c
  · exact hg
  · exact hf
theorem det_bite {α : Type} {c : Bool} {f g : (α → Prop) → Prop} (hf : Det f) (hg : Det g) : Det (fun K => if c = true then f K else g K) := det_ite hf hg

theorem det_asI (k : IntKind) (v : Value) : Det (asI k v) := by
  cases v <;> first | exact det_false | exact det_ite (det_pure _) det_false
theorem det_asB (v : Value) : Det (asB v) := by cases v <;> first | exact det_false | exact det_pure _
theorem det_asF (k : FloatKind) (v : Value) : Det (asF k v) := by
  cases v <;> first | exact det_false | exact det_ite (det_pure _) det_false
theorem det_asS (v : Value) : Det (asS v) := by cases v <;> first | exact det_false | exact det_pure _
theorem det_asP (v : Value) : Det (asP v) := by cases v <;> first | exact det_false | exact det_pure _
theorem det_asM (v : Value) : Det (asM v) := by cases v <;> first | exact det_false | exact det_pure _
theorem det_asA (n : Nat) (v : Value) : Det (asA n v) := by cases v <;> first | exact det_false | exact det_gd (det_pure _)
theorem det_asK (kd : Kd) (v : Value) : Det (asK kd v) := by
  cases kd with
  | int k => exact det_map (fun x => Value.int k x) (det_asI k v)
  | bool => exact det_map (fun x => Value.bool x) (det_asB v)
  | float k => exact det_map (fun x => Value.float k x) (det_asF k v)
  | cplx => cases v <;> first | exact det_false | (rename_i k _ _; cases k <;> first | exact det_false | exact det_pure (Value.complex .f64 _ _))
  | str => exact det_map (fun x => Value.string x) (det_asS v)
  | ptr => exact det_map (fun x => Value.pointer x) (det_asP v)
  | slice => cases v <;> first | exact det_false | exact det_pure (Value.slice _ _ _)
  | map => exact det_map (fun x => Value.map x) (det_asM v)
  | func => cases v <;> first | exact det_false | exact det_pure (Value.func _ _ _)
  | agg n => exact det_map (fun xs => Value.agg ⟨xs⟩) (det_asA n v)
  | bad => exact det_false
theorem det_at (xs : List Value) (i : Nat) : Det (at_ xs i) := by
  unfold at_
  cases xs[i]? with
  | none => exact det_false
  | some v => exact det_pure v
theorem det_ldC (kd : Kd) (xs : List Value) (o : Nat) : Det (ldC kd xs o) := by
  have h : ∀ kd, Det (fun kv => at_ xs o fun v => asK kd v kv) := fun kd => det_bind (det_at xs o) fun v => det_asK kd v
  cases kd <;> first | exact h _ | exact det_gd (det_pure _)
theorem det_ldH (kd : Kd) (xs : List Value) (o : Nat) : Det (ldH kd xs o) := by
  have h : ∀ kd, Det (fun kv => at_ xs o fun v => asK kd v kv) := fun kd => det_bind (det_at xs o) fun v => det_asK kd v
  cases kd <;> first | exact h _ | exact det_gd (det_pure _)
theorem det_hp {α : Type} (p : Option Addr) {g : Nat → Nat → (α → Prop) → Prop} (hg : ∀ b o, Det (g b o)) : Det (fun K => hp p fun b o => g b o K) := by
  rcases p with _ | ⟨b, o, _ | s⟩
  · exact det_false
  · exact hg b o
  · exact det_false
theorem det_rdH (H : AHeap) (b : Nat) : Det (rdH H b) := by
  unfold rdH
  rcases H.get b with _ | ⟨xs, e, own⟩ | ⟨es, own⟩
  · exact det_false
  · exact det_pure xs
  · exact det_false
theorem det_rdB (L : Nat → Option (List Value)) (k : Nat) : Det (rdB L k) := by
  unfold rdB
  cases L k with
  | none => exact det_false
  | some xs => exact det_pure xs
theorem det_szT (P : Program) (t : TypeId) : Det (szT P t) := by
  unfold szT
  cases P.info? t with
  | none => exact det_false
  | some i => exact det_pure i.size
theorem det_aidx (i : Int) (n : Nat) : Det (aidx i n) := det_gd (det_pure _)
theorem det_fAdd (k : FloatKind) (a b : Nat) : Det (fAdd k a b) := by
  unfold fAdd
  cases k.format.add a b with
  | none => exact det_false
  | some r => exact det_pure r
theorem det_fSub (k : FloatKind) (a b : Nat) : Det (fSub k a b) := by
  unfold fSub
  cases k.format.sub a b with
  | none => exact det_false
  | some r => exact det_pure r
theorem det_intOp (op : BinOp) (k : IntKind) (a b : Int) : Det (intOp op k a b) := by
  cases op <;> first | exact det_pure _ | exact det_false | exact det_gd (det_pure _)
theorem det_eqA (P : Program) (op : BinOp) (t : TypeId) (x y : Operand) (xs ys : List Value) : Det (eqA P op t x y xs ys) := by
  rintro K ⟨h, b, hb, hk⟩
  exact ⟨b, hk, fun K' hk' => ⟨h, b, hb, hk'⟩⟩
theorem det_binV (P : Program) (op : BinOp) (t : TypeId) (ox oy : Operand) (x y : Value) : Det (binV P op t ox oy x y) := by
  cases x with
  | int k a =>
    cases y with
    | int k' b => cases op <;> first | exact det_gd (det_pure _) | exact det_ite (det_intOp _ k a b) det_false
    | _ => exact det_false
  | bool a =>
    cases y with
    | bool b =>
      unfold binV
      generalize P.underlying t = u
      cases op <;> first | exact det_false | (rcases u with _ | u <;> first | exact det_false | (cases u <;> first | exact det_false | exact det_pure _))
    | _ => exact det_false
  | float k a =>
    cases y with
    | float k' b => cases op <;> first | exact det_ite (det_pure _) det_false | exact det_ite det_false det_false | exact det_ite (det_map (fun r => Value.float k r) (det_fAdd k a b)) det_false | exact det_ite (det_map (fun r => Value.float k r) (det_fSub k a b)) det_false
    | _ => exact det_false
  | complex k a b =>
    cases y with
    | complex k' c d =>
      have ha : Det (fun K : Value → Prop => fAdd .f64 a c fun r => fAdd .f64 b d fun i => K (.complex .f64 r i)) :=
        det_bind (g := fun r (K : Value → Prop) => fAdd .f64 b d fun i => K (.complex .f64 r i)) (det_fAdd .f64 a c) fun r => det_map (fun i => Value.complex .f64 r i) (det_fAdd .f64 b d)
      have hs : Det (fun K : Value → Prop => fSub .f64 a c fun r => fSub .f64 b d fun i => K (.complex .f64 r i)) :=
        det_bind (g := fun r (K : Value → Prop) => fSub .f64 b d fun i => K (.complex .f64 r i)) (det_fSub .f64 a c) fun r => det_map (fun i => Value.complex .f64 r i) (det_fSub .f64 b d)
      cases k <;> cases k' <;> first
        | exact det_false
        | (cases op <;> first
            | exact det_false
            | exact det_pure _
            | exact ha
            | exact hs)
    | _ => cases k <;> exact det_false
  | string a =>
    cases y with
    | string b => cases op <;> first | exact det_false | exact det_pure _
    | _ => exact det_false
  | agg xs =>
    cases y with
    | agg ys => cases op <;> first | exact det_false | exact det_map (fun b => Value.bool b) (det_eqA P _ t ox oy xs.toList ys.toList)
    | _ => exact det_false
  | pointer a =>
    cases y with
    | pointer b =>
      cases b with
      | some b => exact det_false
      | none =>
        unfold binV
        generalize P.underlying t = u
        cases op <;> first | exact det_false | (rcases u with _ | u <;> first | exact det_false | (cases u <;> first | exact det_false | exact det_pure _))
    | _ => exact det_false
  | _ => exact det_false
theorem det_unV (op : UnOp) (x : Value) : Det (unV op x) := by
  cases op <;> cases x <;> first | exact det_false | exact det_pure _
theorem det_f2i (k : IntKind) (b : Nat) : Det (f2i k b) := by
  unfold f2i
  cases (FloatKind.f64.decode b).toInt .zero with
  | none => exact det_false
  | some n => exact det_and (det_pure n)
theorem det_convV (P : Program) (d : TypeId) (x : Value) : Det (convV P d x) := by
  unfold convV
  generalize P.underlying d = u
  rcases u with _ | u
  · exact det_false
  · cases u <;> first
      | exact det_false
      | (cases x <;> first
          | exact det_false
          | exact det_pure _
          | (rename_i k f b; cases f <;> first | exact det_false | exact det_map (fun n => Value.int k n) (det_f2i k b)))
      | (rename_i k; cases k <;> cases x <;> first | exact det_false | exact det_pure _)
theorem det_foldInt (f : Int → Int → Int) (k : IntKind) : ∀ (l : List Value) (x : Int), Det (fun kv => foldInt f k kv x l)
  | [], x => det_pure (Value.int k x)
  | v :: l, x => by
    cases v <;> first | exact det_false | exact det_ite (det_foldInt f k l _) det_false
theorem det_builtinV (P : Program) (b : Builtin) (ts : Array TypeId) (args : List Value) : Det (builtinV P b ts args) := by
  intro K h
  unfold builtinV at h
  split at h
  · -- len
    rename_i x
    have : Det (builtinV P .len ts [x]) := by
      unfold builtinV
      cases ts[0]? with
      | none => exact det_false
      | some t =>
        simp only
        cases P.underlying t with
        | none => exact det_false
        | some u =>
          cases u <;> first
            | exact det_false
            | exact det_pure _
            | (cases x <;> first | exact det_false | exact det_pure _)
            | (simp only; rename_i arr; cases P.underlying arr with
                | none => exact det_false
                | some u => cases u <;> first | exact det_false | exact det_pure _)
    exact this K (by unfold builtinV; exact h)
  · exact det_foldInt mxI _ _ _ K h
  · exact det_foldInt mnI _ _ _ K h
  · exact det_pure (Value.float .f64 _) K h
  · exact det_pure (Value.float .f64 _) K h
  · exact det_pure (Value.complex .f64 _ _) K h
  · exact h.elim
theorem det_build (ev : Operand → Value) (z : List Value) (tot : Nat) : ∀ (pl : List (Nat × Nat)) (i o : Nat) (ps : List (Nat × Operand)), Det (buildL ev z tot i o pl ps)
  | pl, i, o, [] => by cases pl <;> exact det_pure _
  | [], i, o, _ :: _ => det_false
  | (off, n) :: pl, i, o, (j, x) :: ps => by
    have e : buildL ev z tot i o ((off, n) :: pl) ((j, x) :: ps) = fun K => if off = o ∧ o + n ≤ tot then if j = i then match ev x with
        | .agg cs => gd (cs.toList.length = n) (buildL ev z tot (i + 1) (o + n) pl ps fun r => K (cs.toList ++ r))
        | v => if isVal v && cellV v && n == 1 then buildL ev z tot (i + 1) (o + n) pl ps fun r => K (v :: r) else False
        else buildL ev z tot (i + 1) (o + n) pl ((j, x) :: ps) fun r => K ((z.drop o).take n ++ r) else False := by funext K; rw [buildL]; generalize ev x = v; cases v <;> rfl
    rw [e]
    refine det_ite (det_ite ?_ ?_) det_false
    · cases ev x <;> first
        | exact det_gd (det_map (fun r => _ ++ r) (det_build ev z tot pl (i + 1) (o + n) ps))
        | exact det_bite (det_map (fun r => _ :: r) (det_build ev z tot pl (i + 1) (o + n) ps)) det_false
    · exact det_map (fun r => (z.drop o).take n ++ r) (det_build ev z tot pl (i + 1) (o + n) ((j, x) :: ps))

theorem opv_det (P : Program) (A : Nat → Option Nat) (ev : Operand → Value) (L : Nat → Option (List Value)) (H : AHeap) (op : Op) : Det (opv P A ev L H op) := by
  cases op with
  | move x => exact det_pure _
  | assign x => exact det_pure _
  | pick c a b =>
    show Det (fun kv => match ev c with | .bool t => bif t then kv (ev a) else kv (ev b) | _ => False)
    cases ev c <;> first | exact det_false | exact det_bif (det_pure _) (det_pure _)
  | nilCheck x =>
    have e : ∀ v : Value, Det (fun kv : Value → Prop => match v with | .complex .f32 k o => kv (.complex .f32 k o) | .pointer p => hp p fun b o => kv (.pointer (some ⟨b, o, none⟩)) | .func (.func f) x y => kv (.func (.func f) x y) | _ => False) := by
      intro v
      cases v with
      | complex k a b => cases k <;> first | exact det_false | exact det_pure _
      | pointer p => exact det_hp p fun b o => det_pure (Value.pointer (some ⟨b, o, none⟩))
      | func f a b => cases f <;> first | exact det_false | exact det_pure _
      | _ => exact det_false
    exact e (ev x)
  | load t x =>
    have e : ∀ (l : Option Nat) (v : Value), Det (fun kv : Value → Prop => match l with
        | some d => match v with | .complex .f32 k o => if k = d then rdB L d fun xs => ldC (kdOf P t) xs o kv else False | _ => False
        | none => match v with | .pointer p => hp p fun b o => rdH H b fun xs => ldH (kdOf P t) xs o kv | _ => False) := by
      intro l v
      cases l with
      | some d =>
        cases v with
        | complex k a o => cases k <;> first | exact det_false | exact det_ite (det_bind (det_rdB L d) fun xs => det_ldC (kdOf P t) xs o) det_false
        | _ => exact det_false
      | none =>
        cases v with
        | pointer p => exact det_hp p fun b o => det_bind (det_rdH H b) fun xs => det_ldH (kdOf P t) xs o
        | _ => exact det_false
    exact e (lpOf A x) (ev x)
  | fieldAddr s x f =>
    have e : ∀ (l : Option (Nat × TypeId)) (v : Value), Det (fun kv : Value → Prop => match l with
        | some (off, _) => match v with | .complex .f32 k o => kv (.complex .f32 k (o + off)) | .pointer p => hp p fun b o => kv (.pointer (some ⟨b, o + off, none⟩)) | _ => False
        | none => False) := by
      rintro (_ | ⟨off, t⟩) v
      · exact det_false
      · cases v with
        | complex k a o => cases k <;> first | exact det_false | exact det_pure _
        | pointer p => exact det_hp p fun b o => det_pure (Value.pointer (some ⟨b, o + off, none⟩))
        | _ => exact det_false
    exact e (foff P s f) (ev x)
  | indexAddr t x i =>
    have e : ∀ (i : Value) (u : Option TypeDesc) (v : Value), Det (fun kv : Value → Prop => match i with
        | .int _ j =>
          match u, v with
          | some (.array n e), .complex .f32 k o => szT P e fun z => aidx j n fun m => kv (.complex .f32 k (o + m * z))
          | some (.array n e), .pointer p => szT P e fun z => hp p fun b o => aidx j n fun m => kv (.pointer (some ⟨b, o + m * z, none⟩))
          | some (.slice e), .slice a n _ => szT P e fun z => hp a fun b o => aidx j n fun m => kv (.pointer (some ⟨b, o + m * z, none⟩))
          | _, _ => False
        | _ => False) := by
      intro i u v
      cases i with
      | int ki j =>
        rcases u with _ | u
        · exact det_false
        · cases u with
          | array n e =>
            cases v with
            | complex k a o => cases k <;> first | exact det_false | exact det_bind (g := fun z (kv : Value → Prop) => aidx j n fun m => kv (.complex .f32 a (o + m * z))) (det_szT P e) fun z => det_map (fun m => Value.complex .f32 a (o + m * z)) (det_aidx j n)
            | pointer p => exact det_bind (g := fun z (kv : Value → Prop) => hp p fun b o => aidx j n fun m => kv (.pointer (some ⟨b, o + m * z, none⟩))) (det_szT P e) fun z => det_hp p fun b o => det_map (fun m => Value.pointer (some ⟨b, o + m * z, none⟩)) (det_aidx j n)
            | _ => exact det_false
          | slice e =>
            cases v with
            | slice a n c => exact det_bind (g := fun z (kv : Value → Prop) => hp a fun b o => aidx j n fun m => kv (.pointer (some ⟨b, o + m * z, none⟩))) (det_szT P e) fun z => det_hp a fun b o => det_map (fun m => Value.pointer (some ⟨b, o + m * z, none⟩)) (det_aidx j n)
            | _ => exact det_false
          | _ => exact det_false
      | _ => exact det_false
    exact e (ev i) (P.underlying t) (ev x)
  | field s x f =>
    have e : ∀ (l : Option (Nat × TypeId)) (v : Value), Det (fun kv : Value → Prop => match l, v with
        | some (off, t), .agg cs => ldC (kdOf P t) cs.toList off kv
        | _, _ => False) := by
      rintro (_ | ⟨off, t⟩) v
      · exact det_false
      · cases v with
        | agg cs => exact det_ldC (kdOf P t) cs.toList off
        | _ => exact det_false
    exact e (foff P s f) (ev x)
  | index t x i =>
    have e : ∀ (i : Value) (u : Option TypeDesc) (v : Value), Det (fun kv : Value → Prop => match i, u, v with
        | .int _ j, some (.array n e), .agg cs => szT P e fun z => aidx j n fun m => ldC (kdOf P e) cs.toList (m * z) kv
        | _, _, _ => False) := by
      intro i u v
      cases i with
      | int ki j =>
        rcases u with _ | u
        · exact det_false
        · cases u with
          | array n e =>
            cases v with
            | agg cs => exact det_bind (g := fun z (kv : Value → Prop) => aidx j n fun m => ldC (kdOf P e) cs.toList (m * z) kv) (det_szT P e) fun z => det_bind (det_aidx j n) fun m => det_ldC (kdOf P e) cs.toList (m * z)
            | _ => exact det_false
          | _ => exact det_false
      | _ => exact det_false
    exact e (ev i) (P.underlying t) (ev x)
  | binOp op t x y _ => exact det_binV _ _ _ _ _ _ _
  | unOp op _ x => exact det_unV _ _
  | convert s d x =>
    have e : ∀ u : Option TypeDesc, Det (fun kv : Value → Prop => match u with | some _ => convV P d (ev x) kv | none => False) := by
      rintro (_ | u)
      · exact det_false
      · exact det_convV _ _ _
    exact e (P.underlying s)
  | extract x i =>
    have e : ∀ v : Value, Det (fun kv : Value → Prop => match v with | .tuple vs => at_ vs.toList i fun v => if isVal v then kv v else False | _ => False) := by
      intro v
      cases v with
      | tuple vs => exact det_bind (det_at vs.toList i) fun v => det_bite (det_pure v) det_false
      | _ => exact det_false
    exact e (ev x)
  | build t ps =>
    have e : ∀ l : Option (List (Nat × Nat)), Det (fun kv : Value → Prop => match l with | some l => if zOK P t then buildL ev (zc P t) (P.cellsOf t) 0 0 l ps.toList fun xs => kv (.agg ⟨xs⟩) else False | none => False) := by
      rintro (_ | l)
      · exact det_false
      · exact det_bite (det_map (fun xs => Value.agg ⟨xs⟩) (det_build _ _ _ _ _ _ _)) det_false
    exact e (placesOf P t)
  | makeFunc f x y => exact det_bite (det_pure _) det_false
  | call c =>
    have e : ∀ k : Callee, Det (fun kv : Value → Prop => match k with | .builtin b => builtinV P b c.argTypes (c.args.toList.map ev) kv | _ => False) := by
      intro k
      cases k <;> first | exact det_false | exact det_builtinV _ _ _ _
    exact e c.callee
  | _ => exact det_false

/-! ### what they look at -/
/-- the local box that an operation looks at -/
def boxOf (A : Nat → Option Nat) (o : Oper) : Option Nat :=
  match o.op with
  | .load _ x => lpOf A x
  | .store _ x _ => lpOf A x
  | .alloc _ => match o.dst with | some d => if A d = some d then some d else none | none => none
  | .box _ _ => match o.dst with | some d => if A d = some d then some d else none | none => none
  | _ => none
/-- it looks at the heap -/
def looksH (A : Nat → Option Nat) (op : Op) : Bool := match op with | .load _ x => (lpOf A x).isNone | _ => false

theorem build_congr {ev ev' : Operand → Value} {z : List Value} {tot : Nat} : ∀ (pl : List (Nat × Nat)) (i o : Nat) (ps : List (Nat × Operand)) (K : List Value → Prop), (∀ p ∈ ps, ev p.2 = ev' p.2) → buildL ev z tot i o pl ps K = buildL ev' z tot i o pl ps K
  | pl, i, o, [], K, h => by cases pl <;> rfl
  | [], i, o, _ :: _, K, h => rfl
  | (off, n) :: pl, i, o, (j, x) :: ps, K, h => by
    have h1 : ev x = ev' x := h _ (List.mem_cons_self ..)
    have h2 : ∀ K, buildL ev z tot (i + 1) (o + n) pl ps K = buildL ev' z tot (i + 1) (o + n) pl ps K := fun K => build_congr pl _ _ ps K fun p hp => h p (List.mem_cons_of_mem _ hp)
    have h3 : ∀ K, buildL ev z tot (i + 1) (o + n) pl ((j, x) :: ps) K = buildL ev' z tot (i + 1) (o + n) pl ((j, x) :: ps) K := fun K => build_congr pl _ _ _ K h
    simp only [buildL, h1, h2, h3]

theorem opv_congr {P : Program} {A : Nat → Option Nat} {ev ev' : Operand → Value} {L L' : Nat → Option (List Value)} {H H' : AHeap} {op : Op} (he : ∀ x ∈ op.operands, ev x = ev' x)
    (hl : ∀ t x d, op = .load t x → lpOf A x = some d → L d = L' d) (hh : looksH A op = true → H = H') (kv : Value → Prop) : opv P A ev L H op kv = opv P A ev' L' H' op kv := by
  cases op with
  | load t x =>
    have h1 : ev x = ev' x := he x (by simp [Op.operands])
    cases hx : lpOf A x with
    | some d =>
      have h2 := hl t x d rfl hx
      simp only [opv, hx, h1, rdB, h2]
    | none =>
      have h2 := hh (by simp [looksH, hx])
      simp only [opv, hx, h1, h2]
  | build t ps =>
    have h1 : ∀ K l, buildL ev (zc P t) (P.cellsOf t) 0 0 l ps.toList K = buildL ev' (zc P t) (P.cellsOf t) 0 0 l ps.toList K := fun K l => build_congr l 0 0 ps.toList K fun p hp => he p.2 (by simp only [Op.operands]; exact (List.mem_toArray).2 (List.mem_map_of_mem hp))
    simp only [opv, h1]
  | makeFunc f x y =>
    have h1 : x.map ev = x.map ev' := Array.map_congr_left fun a ha => he a (by simp [Op.operands, ha])
    have h2 : y.map ev = y.map ev' := Array.map_congr_left fun a ha => he a (by simp [Op.operands, ha])
    simp only [opv, h1, h2]
  | call c =>
    have h1 : c.args.toList.map ev = c.args.toList.map ev' := List.map_congr_left fun a ha => he a (by simp only [Op.operands, Call.operands, Array.mem_append]; exact .inr (by simpa using ha))
    simp only [opv, h1]
  | pick c a b =>
    have h1 := he c (by simp [Op.operands]); have h2 := he a (by simp [Op.operands]); have h3 := he b (by simp [Op.operands])
    simp only [opv, h1, h2, h3]
  | indexAddr t x i => have h1 := he x (by simp [Op.operands]); have h2 := he i (by simp [Op.operands]); simp only [opv, h1, h2]
  | index t x i => have h1 := he x (by simp [Op.operands]); have h2 := he i (by simp [Op.operands]); simp only [opv, h1, h2]
  | binOp op t x y _ => have h1 := he x (by simp [Op.operands]); have h2 := he y (by simp [Op.operands]); simp only [opv, h1, h2]
  | move x => have h1 := he x (by simp [Op.operands]); simp only [opv, h1]
  | assign x => have h1 := he x (by simp [Op.operands]); simp only [opv, h1]
  | nilCheck x => have h1 := he x (by simp [Op.operands]); simp only [opv, h1]
  | fieldAddr s x f => have h1 := he x (by simp [Op.operands]); simp only [opv, h1]
  | field s x f => have h1 := he x (by simp [Op.operands]); simp only [opv, h1]
  | unOp o t x => have h1 := he x (by simp [Op.operands]); simp only [opv, h1]
  | convert s d x => have h1 := he x (by simp [Op.operands]); simp only [opv, h1]
  | extract x i => have h1 := he x (by simp [Op.operands]); simp only [opv, h1]
  | _ => rfl
end Go.Am
