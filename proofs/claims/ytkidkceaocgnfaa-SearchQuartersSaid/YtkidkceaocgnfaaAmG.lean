/-
  AmG: regions that draw: one order, checked, stands for all.
-/
import Derived.Test.YtkidkceaocgnfaaAmF
set_option linter.all false
namespace Go.Am

def lookN : List (Nat × Nat) → Nat → Nat
  | (i, m) :: l, j => bif Nat.beq i j then m else lookN l j
  | [], _ => 0
def maskOf (M : List (Nat × Nat)) : List Edge → Nat
  | [] => 0
  | e :: es => bif Region.binds .any e then (maskOf M es ||| 2 ^ e.on) ||| lookN M e.on else maskOf M es
def ancM (ops : Array Oper) : List (Nat × List Nat) → List (Nat × Nat) → List (Nat × Nat)
  | [], M => M
  | (i, _) :: σ, M => ancM ops σ ((i, match ops[i]? with | some o => maskOf M o.after.toList | none => 0) :: M)
def reach (M : List (Nat × Nat)) (x i : Nat) : Bool := (lookN M i).testBit x

def allP {α : Type} (f : α → α → Bool) : List α → Bool
  | [] => true
  | x :: l => l.all (f x) && allP f l
def allT {α : Type} (f : α → α → α → Bool) : List α → Bool
  | [] => true
  | x :: l => allP (f x) l && allT f l
theorem allP_spec {α : Type} {f : α → α → Bool} : ∀ {l : List α}, allP f l = true → ∀ x y, [x, y].Sublist l → f x y = true
  | [], _, x, y, h => by cases h
  | a :: l, h, x, y, hs => by
    simp only [allP, Bool.and_eq_true, List.all_eq_true] at h
    cases hs with
    | cons _ hs => exact allP_spec h.2 x y hs
    | cons_cons _ hs => exact h.1 y (hs.subset (List.mem_cons_self ..))
theorem allT_spec {α : Type} {f : α → α → α → Bool} : ∀ {l : List α}, allT f l = true → ∀ x y z, [x, y, z].Sublist l → f x y z = true
  | [], _, x, y, z, h => by cases h
  | a :: l, h, x, y, z, hs => by
    simp only [allT, Bool.and_eq_true] at h
    cases hs with
    | cons _ hs => exact allT_spec h.2 x y z hs
    | cons_cons _ hs => exact allP_spec h.1 y z hs

def linB (ops : Array Oper) : List Nat → List (Nat × List Nat) → Bool
  | _, [] => true
  | L, (i, _) :: σ => (match ops[i]? with | some o => o.after.toList.all (fun e => !Region.binds .any e || L.contains e.on) | none => false) && linB ops (i :: L) σ

def drawOK (A : Nat → Option Nat) (ops : Array Oper) (σ : List (Nat × List Nat)) : Bool :=
  let M := ancM ops σ []
  allP (fun x i => !Nat.beq x.1 i.1 && (reach M x.1 i.1 || swapOK A ops x i)) σ &&
    (allT (fun x z i => reach M z.1 i.1 || !i.2.contains x.1 || off A ops z.1 x.1) σ &&
      (linB ops [] σ && (List.range ops.size).all fun j => σ.any fun x => Nat.beq x.1 j))

section
variable {P : Program} {n : Nat} {A : Nat → Option Nat} {ops : Array Oper}

def LinP (ops : Array Oper) : (Nat → Prop) → List (Nat × List Nat) → Prop
  | _, [] => True
  | L, (i, _) :: σ => (∃ o, ops[i]? = some o ∧ ∀ e ∈ o.after, Region.binds .any e = true → L e.on) ∧ LinP ops (fun j => L j ∨ j = i) σ
theorem LinP.mono : ∀ {σ : List (Nat × List Nat)} {L L' : Nat → Prop}, (∀ j, L j → L' j) → LinP ops L σ → LinP ops L' σ
  | [], _, _, _, _ => trivial
  | (i, c) :: σ, L, L', h, hl => ⟨let ⟨o, ho, h1⟩ := hl.1; ⟨o, ho, fun e he hb => h _ (h1 e he hb)⟩, hl.2.mono fun j hj => hj.imp (h j) id⟩
theorem LinP.erase : ∀ {pre post : List (Nat × List Nat)} {i : Nat} {c : List Nat} {L : Nat → Prop}, LinP ops L (pre ++ (i, c) :: post) → LinP ops (fun j => L j ∨ j = i) (pre ++ post)
  | [], _, _, _, _, h => h.2
  | (x, cx) :: pre, post, i, c, L, h => ⟨let ⟨o, ho, h1⟩ := h.1; ⟨o, ho, fun e he hb => .inl (h1 e he hb)⟩, (LinP.erase h.2).mono fun j hj => by
      rcases hj with (h | h) | h
      · exact .inl (.inl h)
      · exact .inr h
      · exact .inl (.inr h)⟩
theorem linB_spec : ∀ {σ : List (Nat × List Nat)} {L : List Nat}, linB ops L σ = true → LinP ops (fun j => j ∈ L) σ
  | [], _, _ => trivial
  | (i, c) :: σ, L, h => by
    simp only [linB, Bool.and_eq_true] at h
    refine ⟨?_, (linB_spec h.2).mono fun j hj => (List.mem_cons.1 hj).symm⟩
    have h1 := h.1
    split at h1
    case h_2 => cases h1
    rename_i o ho
    refine ⟨o, ho, fun e he hb => ?_⟩
    have := List.all_eq_true.1 h1 e (Array.mem_toList_iff.2 he)
    simpa [hb] using this

/-- what has been told is closed -/
def Closed (ops : Array Oper) (L : Nat → Prop) : Prop := ∀ j o, ops[j]? = some o → L j → ∀ e ∈ o.after, Region.binds .any e = true → L e.on
def MS (ops : Array Oper) (M : List (Nat × Nat)) : Prop :=
  ∀ (L : Nat → Prop), Closed ops L → ∀ i o, ops[i]? = some o → (∀ e ∈ o.after, Region.binds .any e = true → L e.on) → ∀ j, (lookN M i).testBit j = true → L j
theorem mask_spec {M : List (Nat × Nat)} (hM : MS ops M) (hin : ∀ i, (lookN M i) ≠ 0 → ∃ o, ops[i]? = some o) {L : Nat → Prop} (hL : Closed ops L) : ∀ (es : List Edge), (∀ e ∈ es, Region.binds .any e = true → L e.on) → ∀ j, (maskOf M es).testBit j = true → L j
  | [], _, j, h => by simp [maskOf] at h
  | e :: es, he, j, h => by
    unfold maskOf at h
    have ih := mask_spec hM hin hL es (fun x hx => he x (List.mem_cons_of_mem _ hx)) j
    cases hb : Region.binds .any e with
    | false => rw [hb] at h; exact ih h
    | true =>
      rw [hb] at h
      simp only [cond_true, Nat.testBit_or, Bool.or_eq_true] at h
      have hl := he e (List.mem_cons_self ..) hb
      rcases h with (h | h) | h
      · exact ih h
      · rw [Nat.testBit_two_pow] at h
        have : e.on = j := by simpa using h
        exact this ▸ hl
      · have hne : lookN M e.on ≠ 0 := by intro h0; rw [h0] at h; simp at h
        obtain ⟨o, ho⟩ := hin _ hne
        exact hM L hL e.on o ho (hL e.on o ho hl) j h
theorem ancM_spec : ∀ (σ : List (Nat × List Nat)) (M : List (Nat × Nat)), MS ops M → (∀ i, (lookN M i) ≠ 0 → ∃ o, ops[i]? = some o) → MS ops (ancM ops σ M)
  | [], M, h, _ => h
  | (i, c) :: σ, M, h, hin => by
    refine ancM_spec σ _ ?_ ?_
    · intro L hL k o ho hp j hj
      simp only [lookN] at hj
      cases hik : Nat.beq i k with
      | false => rw [hik] at hj; exact h L hL k o ho hp j hj
      | true =>
        have : i = k := Nat.eq_of_beq_eq_true hik
        subst this
        rw [hik] at hj
        simp only [cond_true, ho] at hj
        exact mask_spec h hin hL o.after.toList (fun e he hb => hp e (Array.mem_toList_iff.1 he) hb) j hj
    · intro k hk
      simp only [lookN] at hk
      cases hik : Nat.beq i k with
      | false => rw [hik] at hk; exact hin k hk
      | true =>
        have : i = k := Nat.eq_of_beq_eq_true hik
        subst this
        rw [hik] at hk
        simp only [cond_true] at hk
        cases ho : ops[i]? with
        | none => rw [ho] at hk; exact absurd rfl hk
        | some o => exact ⟨o, rfl⟩

theorem dops_mono : ∀ {σ : List (Nat × List Nat)} {K K' : St → Prop} {st : St}, dops P n A ops σ K st → (∀ s, K s → K' s) → dops P n A ops σ K' st
  | [], _, _, _, h, hk => hk _ h
  | (i, c) :: σ, K, K', st, h, hk => by
    have h' : iop1 P n A ops i (fun s => chks P n A ops c s (dops P n A ops σ K s)) st := h
    show iop1 P n A ops i (fun s => chks P n A ops c s (dops P n A ops σ K' s)) st
    cases hi : ops[i]? with
    | none => unfold iop1 at h'; rw [hi] at h'; exact h'.elim
    | some o =>
      refine iop1_mono hi h' fun s _ h => ?_
      have go : ∀ c : List Nat, chks P n A ops c s (dops P n A ops σ K s) → chks P n A ops c s (dops P n A ops σ K' s) := by
        intro c
        induction c with
        | nil => exact fun h => dops_mono h hk
        | cons y ys ih => exact fun h => ⟨h.1, ih h.2⟩
      exact go c h
theorem dops_append : ∀ (σ τ : List (Nat × List Nat)) (K : St → Prop) (st : St), dops P n A ops (σ ++ τ) K st = dops P n A ops σ (dops P n A ops τ K) st
  | [], _, _, _ => rfl
  | (i, c) :: σ, τ, K, st => by
    have : ∀ s, dops P n A ops (σ ++ τ) K s = dops P n A ops σ (dops P n A ops τ K) s := fun s => dops_append σ τ K s
    show iop1 P n A ops i (fun s => chks P n A ops c s (dops P n A ops (σ ++ τ) K s)) st = iop1 P n A ops i (fun s => chks P n A ops c s (dops P n A ops σ (dops P n A ops τ K) s)) st
    simp only [this]

theorem wpAny_of {E : Env} (hN : NoNG E.P) {Q : Exit → Act → World → Prop} {K : St → Prop} (hQ : ∀ a w, Next' E K a w → Q .normal a w) {M : List (Nat × Nat)} (hM : MS ops M) :
    ∀ (fuel : Nat) (σ : List (Nat × List Nat)) (listed : Array Bool) (st : St) (a : Act) (w : World), σ.length ≤ fuel →
    (∀ j, listed.getD j true = false → ∃ c, (j, c) ∈ σ) → (∀ x ∈ σ, listed.getD x.1 true = false) → LinP ops (fun j => listed.getD j false = true) σ → Closed ops (fun j => listed.getD j false = true) →
    (∀ x i, [x, i].Sublist σ → x.1 ≠ i.1 ∧ (reach M x.1 i.1 = true ∨ swapOK A ops x i = true)) →
    (∀ x z i, [x, z, i].Sublist σ → reach M z.1 i.1 = true ∨ (x.1 ∈ i.2 → off A ops z.1 x.1 = true)) →
    SR E st a w → dops E.P E.n A ops σ K st → wpAny E.P .any ops Q fuel listed a w := by
  intro fuel
  induction fuel with
  | zero =>
    intro σ listed st a w hlen hun hin _ _ _ _ hs h
    have : σ = [] := List.length_eq_zero_iff.1 (Nat.le_zero.1 hlen)
    subst this
    refine ⟨?_, hQ _ _ ⟨st, hs, h⟩⟩
    cases hr : Region.ready .any ops listed with
    | nil => rfl
    | cons j l =>
      have hj : j ∈ Region.ready .any ops listed := by rw [hr]; exact List.mem_cons_self ..
      obtain ⟨c, hc⟩ := hun j (mem_ready.1 hj).1
      cases hc
  | succ fuel ih =>
    intro σ listed st a w hlen hun hin hlin hcl hpair htrip hs h
    refine ⟨fun hr => ?_, fun i hi => ?_⟩
    · cases σ with
      | nil => exact hQ _ _ ⟨st, hs, h⟩
      | cons x σ =>
        obtain ⟨x, c⟩ := x
        obtain ⟨o, ho, hp⟩ := hlin.1
        have : x ∈ Region.ready .any ops listed := mem_ready.2 ⟨hin _ (List.mem_cons_self ..), o, ho, hp⟩
        rw [hr] at this; cases this
    · obtain ⟨h0, o, ho, hp⟩ := mem_ready.1 hi
      obtain ⟨c, hc⟩ := hun i h0
      obtain ⟨pre, post, rfl⟩ := List.append_of_mem hc
      have hnr : ∀ x ∈ pre, reach M x.1 i ≠ true := by
        intro x hx hr
        have h1 := hM (fun j => listed.getD j false = true) hcl i o ho hp x.1 hr
        have h2 := hin x (List.mem_append_left _ hx)
        rw [Array.getD_eq_getD_getElem?] at h1 h2
        cases hl : listed[x.1]? with
        | none => rw [hl] at h1; simp at h1
        | some b => rw [hl] at h1 h2; simp at h1 h2; rw [h1] at h2; cases h2
      have hsub : ∀ x ∈ pre, [x, (i, c)].Sublist (pre ++ (i, c) :: post) := fun x hx =>
        List.Sublist.append (List.singleton_sublist.2 hx) (List.Sublist.cons_cons _ (List.nil_sublist _))
      have hsub2 : ∀ x ∈ post, [(i, c), x].Sublist (pre ++ (i, c) :: post) := fun x hx =>
        (List.Sublist.cons_cons (i, c) (List.singleton_sublist.2 hx)).trans (List.sublist_append_right ..)
      have hsb : (pre ++ post).Sublist (pre ++ (i, c) :: post) := List.Sublist.append (List.Sublist.refl _) (List.sublist_cons_self ..)
      rw [dops_append] at h
      have h1 : dops E.P E.n A ops pre (fun s => iop1 E.P E.n A ops i (fun s3 => (∀ y ∈ c, chk1 E.P E.n A ops y s3) ∧ dops E.P E.n A ops post K s3) s) st :=
        dops_mono h fun s h => iop1_mono ho (show iop1 E.P E.n A ops i (fun s => chks E.P E.n A ops c s (dops E.P E.n A ops post K s)) s from h) fun s _ h => chks_elim h
      have h2 := bubble (i := (i, c)) ho (dops E.P E.n A ops post K) pre [] st (fun x hx => ((hpair x (i, c) (hsub x hx)).2).resolve_left (hnr x hx)) (by
        rw [List.pairwise_iff_forall_sublist]
        intro x z hxz hxi
        have hz : z ∈ pre := hxz.subset (List.mem_cons_of_mem _ (List.mem_cons_self ..))
        have := htrip x z (i, c) (List.Sublist.append hxz (List.Sublist.cons_cons (i, c) (List.nil_sublist _)))
        exact (this.resolve_left (hnr z hz)) hxi) (fun y hy => by cases hy) h1
      have h3 : iop1 E.P E.n A ops i (dops E.P E.n A ops (pre ++ post) K) st := iop1_mono ho h2 fun s _ h => by rw [dops_append]; exact h.2
      refine wpOp_mono (fun a w ⟨st', hs', h'⟩ => ?_) (iop1_ok hN hs h3)
      have hi_lt : i < listed.size := by
        rcases Nat.lt_or_ge i listed.size with h | h
        · exact h
        · rw [Array.getD_eq_getD_getElem?, Array.getElem?_eq_none h] at h0; simp at h0
      have hne : ∀ x ∈ pre ++ post, i ≠ x.1 := by
        intro x hx
        rcases List.mem_append.1 hx with hx | hx
        · exact (hpair _ _ (hsub x hx)).1.symm
        · exact (hpair _ _ (hsub2 x hx)).1
      refine ih (pre ++ post) _ st' a w ?_ ?_ ?_ ?_ ?_ (fun x z hxz => hpair x z (hxz.trans hsb)) (fun x z j hx => htrip x z j (hx.trans hsb)) hs' h'
      · simp only [List.length_append, List.length_cons] at hlen ⊢; omega
      · intro j hj
        have hji : i ≠ j := by
          intro e; subst e
          rw [Array.getD_eq_getD_getElem?] at hj
          simp [hi_lt] at hj
        rw [getD_set_ne true hji] at hj
        obtain ⟨c', hc'⟩ := hun j hj
        rcases List.mem_append.1 hc' with h | h
        · exact ⟨c', List.mem_append_left _ h⟩
        · rcases List.mem_cons.1 h with h | h
          · cases h; exact absurd rfl hji
          · exact ⟨c', List.mem_append_right _ h⟩
      · intro x hx
        rw [getD_set_ne true (hne x hx)]
        refine hin x ?_
        rcases List.mem_append.1 hx with h | h
        · exact List.mem_append_left _ h
        · exact List.mem_append_right _ (List.mem_cons_of_mem _ h)
      · refine hlin.erase.mono fun j hj => ?_
        rcases hj with h | h
        · exact getD_set_true h
        · subst h
          rw [Array.getD_eq_getD_getElem?]; simp [hi_lt]
      · intro j oj hoj hj e he hb
        by_cases hji : i = j
        · subst hji
          rw [ho] at hoj; cases hoj
          exact getD_set_true (hp e he hb)
        · rw [getD_set_ne false hji] at hj
          exact getD_set_true (hcl j oj hoj hj e he hb)

theorem AW.draw {E : Env} (hN : NoNG E.P) (hm : E.P.follows .mixedOrders = true) {id : Nat} {σ : List (Nat × List Nat)} (hd : drawOK A ops σ = true) {K : Exit → St → Prop} {st : St} (h : dops E.P E.n A ops σ (K .normal) st) : AW E (.region id ops true) K st := by
  rintro a w ⟨loc, hs⟩
  refine wp_region_any hm ?_
  simp only [drawOK, Bool.and_eq_true] at hd
  obtain ⟨hp, ht, hl, hc⟩ := hd
  have hlen : ∀ j : Nat, (Array.replicate ops.size false).getD j true = false → j < ops.size := by
    intro j hj
    rcases Nat.lt_or_ge j ops.size with h | h
    · exact h
    · rw [Array.getD_eq_getD_getElem?, Array.getElem?_eq_none (by simpa using h)] at hj; simp at hj
  have hlin := linB_spec hl
  have hin : ∀ {σ : List (Nat × List Nat)} {L : Nat → Prop}, LinP ops L σ → ∀ x ∈ σ, x.1 < ops.size := by
    intro σ
    induction σ with
    | nil => intro L _ x hx; cases hx
    | cons y σ ih =>
      intro L hL x hx
      rcases List.mem_cons.1 hx with rfl | hx
      · obtain ⟨o, ho, _⟩ := hL.1
        exact (Array.getElem?_eq_some_iff.1 ho).1
      · exact ih hL.2 x hx
  have hpr : ∀ x i, [x, i].Sublist σ → x.1 ≠ i.1 ∧ (reach (ancM ops σ []) x.1 i.1 = true ∨ swapOK A ops x i = true) := by
    intro x i hx
    have := allP_spec hp x i hx
    simp only [Bool.and_eq_true, Bool.not_eq_true', Bool.or_eq_true] at this
    exact ⟨fun e => by rw [e] at this; simp at this, this.2⟩
  have hlenσ : σ.length ≤ ops.size := by
    have hnd : (σ.map (·.1)).Nodup := by
      rw [List.nodup_iff_pairwise_ne, List.pairwise_map, List.pairwise_iff_forall_sublist]
      intro x i hx
      exact (hpr x i hx).1
    have : (σ.map (·.1)).length ≤ (List.range ops.size).length := by
      refine List.Nodup.length_le_of_subset hnd fun j hj => ?_
      obtain ⟨x, hx, rfl⟩ := List.mem_map.1 hj
      exact List.mem_range.2 (hin hlin x hx)
    simpa using this
  refine wpAny_of hN (K := K .normal) (M := ancM ops σ []) (fun a w h => h) ?_ ops.size σ _ st a _ hlenσ ?_ ?_ ?_ ?_ hpr ?_ ⟨loc, hs.ext (Ext.drew w)⟩ h
  · exact ancM_spec σ [] (fun L _ i o _ _ j hj => by simp [lookN] at hj) (fun i hi => absurd rfl hi)
  · intro j hj
    have h1 := List.all_eq_true.1 hc j (List.mem_range.2 (hlen j hj))
    obtain ⟨x, hx, hxe⟩ := List.any_eq_true.1 h1
    have : x.1 = j := Nat.eq_of_beq_eq_true hxe
    exact ⟨x.2, this ▸ hx⟩
  · intro x hx
    rw [Array.getD_eq_getD_getElem?]
    simp [hin hlin x hx]
  · exact hlin.mono fun j hj => by cases hj
  · intro j o _ hj
    rw [Array.getD_eq_getD_getElem?, Array.getElem?_replicate] at hj
    split at hj <;> simp at hj
  · intro x z i hx
    have := allT_spec ht x z i hx
    simp only [Bool.or_eq_true, Bool.not_eq_true'] at this
    rcases this with (h | h) | h
    · exact .inl h
    · exact .inr fun hm => by rw [List.contains_iff_mem.2 hm] at h; cases h
    · exact .inr fun _ => h

end
end Go.Am
