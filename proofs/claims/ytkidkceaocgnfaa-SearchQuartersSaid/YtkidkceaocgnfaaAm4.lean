/-
  Am4: worlds that grow by a block, or in one block; the relations stay.
-/
import Derived.Test.YtkidkceaocgnfaaAm3
import Derived.Laws.CopyRow
set_option linter.all false
namespace Go.Am

/-- new blocks, nothing else -/
structure Ext (w w' : World) : Prop where
  os : w'.os = w.os
  tape : w'.tape = w.tape
  output : w'.output = w.output
  size : w.heap.size ≤ w'.heap.size
  old : ∀ b, b < w.heap.size → w'.heap[b]? = w.heap[b]?

theorem Ext.refl (w : World) : Ext w w := ⟨rfl, rfl, rfl, Nat.le_refl _, fun _ _ => rfl⟩
theorem Ext.alloc (w : World) (o : Obj) : Ext w (w.alloc o) := ⟨rfl, rfl, rfl, by simp, fun b hb => heap_alloc_old w o b hb⟩
theorem Ext.drew (w : World) : Ext w w.drew := ⟨rfl, rfl, rfl, Nat.le_refl _, fun _ _ => rfl⟩
theorem Ext.trans {a b c : World} (h : Ext a b) (k : Ext b c) : Ext a c :=
  ⟨k.os.trans h.os, k.tape.trans h.tape, k.output.trans h.output, Nat.le_trans h.size k.size, fun i hi => (k.old i (Nat.lt_of_lt_of_le hi h.size)).trans (h.old i hi)⟩
theorem Ext.csz {w w' : World} (h : Ext w w') (b : Nat) : csz w b ≤ csz w' b := by
  by_cases hb : b < w.heap.size
  · simp [Am.csz, h.old b hb]
  · simp [Am.csz, Array.getElem?_eq_none (Nat.le_of_not_lt hb)]
theorem Ext.grew {w w' : World} (h : Ext w w') : Grew w w' := ⟨h.os, h.tape, h.output, h.size, h.csz⟩

/-- block b alone has turned, its size has not -/
structure Upd (b : Nat) (w w' : World) : Prop where
  os : w'.os = w.os
  tape : w'.tape = w.tape
  output : w'.output = w.output
  size : w'.heap.size = w.heap.size
  old : ∀ k, k ≠ b → w'.heap[k]? = w.heap[k]?
  csz : ∀ k, csz w' k = csz w k
theorem Upd.grew {b : Nat} {w w' : World} (h : Upd b w w') : Grew w w' := ⟨h.os, h.tape, h.output, by rw [h.size]; exact Nat.le_refl _, fun k => by rw [h.csz]; exact Nat.le_refl _⟩
theorem Upd.setRow {b : Nat} {w : World} {c c' : Array Value} {e : TypeId} {fr : Nat × Nat} (hb : w.heap[b]? = some (.cells c e fr)) (hs : c'.size = c.size) : Upd b w (w.setRow b c') where
  os := rfl
  tape := rfl
  output := rfl
  size := by simp
  old := fun k hk => setRow_other w b k c' hk
  csz := fun k => by
    by_cases hk : k = b
    · subst hk; simp [Am.csz, setRow_heap w k c c' e fr hb, hb, hs]
    · simp [Am.csz, setRow_other w b k c' hk]

theorem ORel.mono {w w' : World} {base b : Nat} {o : AObj} (hb : w'.heap[b]? = w.heap[b]?) (hs : ∀ k, csz w k ≤ csz w' k) (h : ORel w base b o) : ORel w' base b o := by
  cases o with
  | cells xs e own =>
    obtain ⟨c, fr, h1, h2, h3, h4⟩ := h
    exact ⟨c, fr, hb.trans h1, h2, fun i hi => let ⟨v, hv, hr⟩ := h3 i hi; ⟨v, hv, fun ho => (hr ho).mono hs⟩, h4⟩
  | map es own =>
    obtain ⟨ents, cl, h1, h2, h3, h4, h5⟩ := h
    exact ⟨ents, cl, hb.trans h1, h2, fun i hi => let ⟨x, hx, hk, hv, hb⟩ := h3 i hi; ⟨x, hx, hk.mono hs, hv.mono hs, hb⟩, h4, h5⟩

theorem RR.mono {sz sz' : Nat → Nat} {loc : Nat → Nat} {lv : Nat → Prop} (hs : ∀ b, sz b ≤ sz' b) {v c : Value} (h : RR sz loc lv v c) : RR sz' loc lv v c := by
  cases h with
  | junk => exact .junk _
  | val h => exact .val (h.mono hs)
  | loc _ _ h => exact .loc _ _ h

theorem HRel.ext {H : AHeap} {w w' : World} (h : HRel H w) (x : Ext w w') : HRel H w' where
  obj := fun b o hb => (h.obj b o hb).mono (x.old b (h.lt b o hb)) x.csz
  lt := fun b o hb => Nat.lt_of_lt_of_le (h.lt b o hb) x.size
  base := Nat.le_trans h.base x.size

theorem FrRel.ext {H H0 : AHeap} {w0 w w' : World} (h : FrRel H0 w0 H w) (x : Ext w w') : FrRel H0 w0 H w' where
  grew := h.grew.trans x.grew
  kept := fun b hb hn => (x.old b (Nat.lt_of_lt_of_le hb h.grew.size)).trans (h.kept b hb hn)
  own := h.own
  dom := h.dom
  base := h.base

theorem SRel.ext {E : Env} {st : St} {loc : Nat → Nat} {a : Act} {w w' : World} (h : SRel E st loc a w) (x : Ext w w') : SRel E st loc a w' where
  size := h.size
  defers := h.defers
  regs := fun t ht => (h.regs t ht).mono x.csz
  heap := h.heap.ext x
  fr := h.fr.ext x
  box := fun t xs hx => by
    obtain ⟨c, e, h1, h2, h3, h4⟩ := h.box t xs hx
    refine ⟨c, e, ?_, h2.mono x.csz, h3, h4⟩
    rw [x.old _ (Array.getElem?_eq_some_iff.1 h1).1]; exact h1
  inj := h.inj

theorem SRel.put {E : Env} {st : St} {loc : Nat → Nat} {a : Act} {w : World} (h : SRel E st loc a w) {d : Nat} (hd : d < E.n) {v c : Value} (hv : RR (csz w) loc st.live v c) :
    SRel E (st.put d v) loc (a.put (some d) c) w where
  size := by simp [Act.put, h.size]
  defers := h.defers
  regs := fun t ht => by
    simp only [St.put, Act.put]
    by_cases e : t = d
    · subst e
      simp only [if_true]
      rw [Array.getD_eq_getD_getElem?, Array.getElem?_setIfInBounds_self_of_lt (by rw [h.size]; exact hd)]
      exact hv
    · simp only [e, if_false]
      rw [Array.getD_eq_getD_getElem?, Array.getElem?_setIfInBounds_ne (Ne.symm e), ← Array.getD_eq_getD_getElem?]
      exact h.regs t ht
  heap := h.heap
  fr := h.fr
  box := h.box
  inj := h.inj

def St.setbox (st : St) (d : Nat) (xs : List Value) : St := { st with loc := fun i => if i = d then some xs else st.loc i }

theorem SRel.newbox {E : Env} {st : St} {loc : Nat → Nat} {a : Act} {w : World} (h : SRel E st loc a w) {d : Nat} (hd : st.loc d = none) {xs cs : List Value} (hx : VRs (csz w) xs cs) (hcv : xs.all cellV = true) (e : TypeId) :
    SRel E (st.setbox d xs) (fun i => if i = d then w.heap.size else loc i) a (w.alloc (.cells ⟨cs⟩ e)) where
  size := h.size
  defers := h.defers
  regs := fun t ht => by
    have hr := (h.regs t ht).mono (Ext.alloc w (.cells ⟨cs⟩ e)).csz
    simp only [St.setbox]
    generalize st.regs t = v at hr
    generalize a.tmps.getD t undef = c at hr
    cases hr with
    | junk => exact .junk _
    | val h => exact .val h
    | loc k o hl =>
      have hne : k ≠ d := fun e => by subst e; exact hl hd
      have := RR.loc (sz := csz (w.alloc (.cells ⟨cs⟩ e))) (loc := fun i => if i = d then w.heap.size else loc i) (live := (st.setbox d xs).live) k o (by simp only [St.live, St.setbox, hne, if_false]; exact hl)
      simp only [hne, if_false] at this
      exact this
  heap := h.heap.ext (.alloc w _)
  fr := h.fr.ext (.alloc w _)
  box := fun t ys ht => by
    simp only [St.setbox] at ht
    by_cases ed : t = d
    · subst ed
      simp only [if_true, Option.some.injEq] at ht
      subst ht
      refine ⟨⟨cs⟩, e, ?_, hx.mono (Ext.alloc w _).csz, ?_, ?_, hcv⟩
      · simp only [if_true]; exact heap_alloc_new w _
      · simp only [if_true, St.setbox]
        cases hg : st.H.get w.heap.size with
        | none => rfl
        | some o => exact absurd (h.heap.lt _ _ hg) (Nat.lt_irrefl _)
      · simp only [if_true]; exact h.fr.grew.size
    · simp only [ed, if_false] at ht ⊢
      exact (h.ext (.alloc w _)).box t ys ht
  inj := fun t u ht hu => by
    simp only [St.setbox] at ht hu
    have lt : ∀ t, st.loc t ≠ none → loc t < w.heap.size := fun t ht => by
      obtain ⟨ys, hy⟩ := Option.ne_none_iff_exists'.1 ht
      obtain ⟨c, e, h1, _⟩ := h.box t ys hy
      exact (Array.getElem?_eq_some_iff.1 h1).1
    by_cases et : t = d <;> by_cases eu : u = d
    · intro _; rw [et, eu]
    · simp only [et, eu, if_true, if_false] at ht hu ⊢; intro e; have := lt u hu; omega
    · simp only [et, eu, if_true, if_false] at ht hu ⊢; intro e; have := lt t ht; omega
    · simp only [et, eu, if_false] at ht hu ⊢; exact h.inj t u ht hu

/-- a box is written -/
theorem SRel.setbox {E : Env} {st : St} {loc : Nat → Nat} {a : Act} {w w' : World} (h : SRel E st loc a w) {d : Nat} {xs ys cs : List Value} {e : TypeId} (hd : st.loc d = some ys)
    (hu : Upd (loc d) w w') (hb : w'.heap[loc d]? = some (.cells ⟨cs⟩ e (0, 0))) (hx : VRs (csz w) xs cs) (hcv : xs.all cellV = true) : SRel E (st.setbox d xs) loc a w' where
  size := h.size
  defers := h.defers
  regs := fun t ht => by
    have hr := (h.regs t ht).mono hu.grew.csz
    show RR _ _ _ (st.regs t) _
    generalize st.regs t = v at hr
    generalize a.tmps.getD t undef = c at hr
    cases hr with
    | junk => exact .junk _
    | val h => exact .val h
    | loc k o hl =>
      refine .loc k o ?_
      simp only [St.live, St.setbox]
      split
      · simp
      · exact hl
  heap := by
    obtain ⟨c, e', h1, h2, h3, h4, _⟩ := h.box d ys hd
    exact {
      obj := fun b o hb => (h.heap.obj b o hb).mono (hu.old b (fun e => by subst e; exact absurd h3 (by have : st.H.get (loc d) = some o := hb; rw [this]; simp))) hu.grew.csz
      lt := fun b o hb => by rw [hu.size]; exact h.heap.lt b o hb
      base := by rw [hu.size]; exact h.heap.base }
  fr := by
    obtain ⟨c, e', h1, h2, h3, h4, _⟩ := h.box d ys hd
    exact {
      grew := h.fr.grew.trans hu.grew
      kept := fun b hb hn => by rw [hu.old b (fun e => by subst e; omega)]; exact h.fr.kept b hb hn
      own := h.fr.own
      dom := h.fr.dom
      base := h.fr.base }
  box := fun t zs ht => by
    simp only [St.setbox] at ht
    obtain ⟨c, e', h1, h2, h3, h4, _⟩ := h.box d ys hd
    by_cases ed : t = d
    · subst ed
      simp only [if_true, Option.some.injEq] at ht
      subst ht
      exact ⟨_, e, hb, hx.mono hu.grew.csz, h3, h4, hcv⟩
    · simp only [ed, if_false] at ht
      obtain ⟨c2, e2, g1, g2, g3, g4⟩ := h.box t zs ht
      have hne : loc t ≠ loc d := fun e => ed (h.inj t d (by simp [ht]) (by simp [hd]) e)
      exact ⟨c2, e2, (hu.old _ hne).trans g1, g2.mono hu.grew.csz, g3, g4⟩
  inj := fun t u ht hu' => by
    have f : ∀ t, (st.setbox d xs).loc t ≠ none → st.loc t ≠ none := fun t ht => by
      simp only [St.setbox] at ht
      by_cases ed : t = d
      · subst ed; simp [hd]
      · simpa only [ed, if_false] using ht
    exact h.inj t u (f t ht) (f u hu')

def St.withH (st : St) (H : AHeap) : St := { st with H := H }

/-- the heap has turned: what the body owns beside it stays -/
theorem SRel.withH {E : Env} {st : St} {loc : Nat → Nat} {a : Act} {w w' : World} {H' : AHeap} (h : SRel E st loc a w) (hh : HRel H' w') (hf : FrRel st.H w H' w') : SRel E (st.withH H') loc a w' where
  size := h.size
  defers := h.defers
  regs := fun t ht => (h.regs t ht).mono hf.grew.csz
  heap := hh
  fr := h.fr.trans hf
  box := fun t ys ht => by
    obtain ⟨c, e, h1, h2, h3, h4⟩ := h.box t ys ht
    have hlt := (Array.getElem?_eq_some_iff.1 h1).1
    refine ⟨c, e, ?_, h2.mono hf.grew.csz, ?_, h4⟩
    · rw [hf.kept _ hlt]
      · exact h1
      · rintro (⟨xs, e, ho⟩ | ⟨es, ho⟩) <;> rw [h3] at ho <;> cases ho
    · show H'.get (loc t) = none
      cases hg : H'.get (loc t) with
      | none => rfl
      | some o =>
        rcases hf.dom (loc t) (by rw [hg]; simp) with h | h
        · exact absurd h3 h
        · omega
  inj := h.inj

/-- a new object on the heap -/
theorem heap_new {H : AHeap} {w w' : World} (hh : HRel H w) (x : Ext w w') {o : AObj} (hlt : w.heap.size < w'.heap.size) (ho : ORel w' H.base w.heap.size o) :
    HRel (H.put w.heap.size o) w' ∧ FrRel H w (H.put w.heap.size o) w' := by
  constructor
  · exact {
      obj := fun b p hb => by
        simp only [AHeap.put] at hb
        split at hb
        · rename_i e; cases hb; subst e; exact ho
        · exact (hh.ext x).obj b p hb
      lt := fun b p hb => by
        simp only [AHeap.put] at hb
        split at hb
        · omega
        · have := hh.lt b p hb; omega
      base := by have := hh.base; simp only [AHeap.put]; omega }
  · exact {
      grew := x.grew
      kept := fun b hb _ => x.old b hb
      own := fun b hb => by
        by_cases e : b = w.heap.size
        · right; omega
        · left
          unfold AHeap.owned AHeap.put at hb
          simp only [e, if_false] at hb
          exact hb
      dom := fun b hb => by
        by_cases e : b = w.heap.size
        · right; omega
        · left
          simpa only [AHeap.put, e, if_false] using hb
      base := rfl }

/-- an owned object is written -/
theorem heap_set {H : AHeap} {w w' : World} (hh : HRel H w) {b : Nat} (hu : Upd b w w') {o : AObj} (hown : H.owned b) (ho : ORel w' H.base b o) :
    HRel (H.put b o) w' ∧ FrRel H w (H.put b o) w' := by
  have hget : H.get b ≠ none := by rcases hown with ⟨_, _, h⟩ | ⟨_, h⟩ <;> simp [h]
  have hb : b < w.heap.size := by
    obtain ⟨o, ho⟩ := Option.ne_none_iff_exists'.1 hget
    exact hh.lt b o ho
  constructor
  · exact {
      obj := fun k p hk => by
        simp only [AHeap.put] at hk
        split at hk
        · rename_i e; cases hk; subst e; exact ho
        · rename_i e; exact (hh.obj k p hk).mono (hu.old k e) hu.grew.csz
      lt := fun k p hk => by
        rw [hu.size]
        simp only [AHeap.put] at hk
        split at hk
        · omega
        · have := hh.lt k p hk; omega
      base := by have := hh.base; simp only [AHeap.put, hu.size]; omega }
  · exact {
      grew := hu.grew
      kept := fun k hk hn => hu.old k (fun e => by subst e; exact hn hown)
      own := fun k hk => by
        left
        by_cases e : k = b
        · subst e; exact hown
        · unfold AHeap.owned AHeap.put at hk
          simp only [e, if_false] at hk
          exact hk
      dom := fun k hk => by
        left
        by_cases e : k = b
        · subst e; exact hget
        · simpa only [AHeap.put, e, if_false] using hk
      base := rfl }

end Go.Am
