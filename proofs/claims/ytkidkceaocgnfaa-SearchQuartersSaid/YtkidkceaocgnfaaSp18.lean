/- Proved: kinescopelaw28.SearchQuarters returns true for every input and leaves its arguments as they were; no condition. -/
import Derived.Test.YtkidkceaocgnfaaSp17
import Derived.Test.YtkidkceaocgnfaaRows
import Derived.ProofKit
import Derived.OpenShut
/- Sp18: the row. -/
set_option linter.all false
set_option maxRecDepth 100000
namespace Go.Am
open Go.Proofs
open Go.ChangeShapes Go.WideShapes Go.ChangeAt Go.RowKit
/-- a cell, if it is known -/
def flatten (v : Value) : Value := if atomV v = true then v else junk
def hpOf (w : World) : AHeap := { get := fun b => match w.heap[b]? with | some (.cells c e _) => some (.cells (c.toList.map flatten) e false) | _ => none, base := w.heap.size }
theorem flatten_cell (v : Value) : cellV (flatten v) = true := by
  unfold flatten; split
  · exact atomV_cell (by assumption)
  · rfl
theorem hpOf_rel (w : World) : HRel (hpOf w) w where
  obj := fun b o hb => by
    simp only [hpOf] at hb
    split at hb
    · rename_i c e fr h
      cases hb
      refine ⟨c, fr, h, by simp, fun i hi => ?_, (fun h => by simp at h), ?_⟩
      · simp only [List.length_map, Array.length_toList] at hi
        refine ⟨c[i], by simp [hi], fun hn => ?_⟩
        simp only [List.getElem_map, Array.getElem_toList] at hn ⊢
        have hn : nj (flatten c[i]) = true := hn.resolve_left (by simp)
        unfold flatten at hn ⊢
        split at hn
        · rename_i ha; rw [if_pos ha]; exact .atom _ ha
        · simp [nj, junk] at hn
      · exact List.all_eq_true.2 fun x hx => by
          obtain ⟨v, _, rfl⟩ := List.mem_map.1 hx
          exact flatten_cell v
    · cases hb
  lt := fun b o hb => by
    simp only [hpOf] at hb
    split at hb
    · rename_i h; exact (Array.getElem?_eq_some_iff.1 h).1
    · cases hb
  base := Nat.le_refl _
theorem hpOf_below {w w' : World} {H' : AHeap} (h : FrRel (hpOf w) w H' w') : Below w.heap.size w w' :=
  ⟨h.grew.os, h.grew.tape, h.grew.output, h.grew.size, fun k hk => h.kept k hk (by
    intro ho
    rcases ho with ⟨xs, e, ho⟩ | ⟨es, ho⟩ <;> (simp only [hpOf] at ho; split at ho <;> simp at ho))⟩
theorem hpOf_cell {w : World} {a : Addr} {v : Value} (h : w.cell? a = some v) (hv : atomV v = true) : ∃ c e, a.spot = none ∧ (hpOf w).get a.block = some (.cells c e false) ∧ c[a.off]? = some v := by
  simp only [World.cell?] at h
  split at h
  · rename_i c e fr hb
    split at h
    · cases h
    · rename_i hs
      refine ⟨c.toList.map flatten, e, by cases ha : a.spot <;> simp_all, by simp [hpOf, hb], ?_⟩
      simp [h, flatten, hv]
  · cases h

section
variable {H : Type} {enc : TypeId × Value → H} {w : World} {base : Nat} {spare : Nat → Bool} {held : Bool}
theorem u8_wf {n : Int} (h : (Lit.int .u8 n).wf = true) : 0 ≤ n ∧ n ≤ 255 := by
  simp [Lit.wf, IntKind.min, IntKind.max, IntKind.bits, IntKind.signed] at h; omega
theorem i8_wf {n : Int} (h : (Lit.int .i8 n).wf = true) : -128 ≤ n ∧ n ≤ 127 := by
  simp [Lit.wf, IntKind.min, IntKind.max, IntKind.bits, IntKind.signed] at h; omega
theorem list8 {α : Type} {l : List α} (h : l.length = 8) : ∃ a0 a1 a2 a3 a4 a5 a6 a7, l = [a0, a1, a2, a3, a4, a5, a6, a7] := by
  match l, h with
  | [a0, a1, a2, a3, a4, a5, a6, a7], _ => exact ⟨a0, a1, a2, a3, a4, a5, a6, a7, rfl⟩

theorem cells25 : Try.prog.cellTypes Try.prog.depth 25 = some [5, 5, 5, 5, 5, 5, 22, 23] := by kernel_rfl
theorem size25 : Try.prog.cellsOf 25 = 8 := by kernel_rfl
theorem size5 : Try.prog.cellsOf 5 = 1 := by kernel_rfl
theorem size22 : Try.prog.cellsOf 22 = 1 := by kernel_rfl
theorem size23 : Try.prog.cellsOf 23 = 1 := by kernel_rfl
noncomputable def smallFs : Array Field := match Try.prog.underlying 25 with | some (.struct fs) => fs | _ => #[]
theorem und25 : Try.prog.underlying 25 = some (.struct smallFs) := by kernel_rfl
theorem fsT : smallFs.map (fun f => (f.type, f.offset)) = #[(5, 0), (5, 1), (5, 2), (5, 3), (5, 4), (5, 5), (22, 6), (23, 7)] := by kernel_rfl
theorem fsAt {i t o : Nat} (h : (#[(5, 0), (5, 1), (5, 2), (5, 3), (5, 4), (5, 5), (22, 6), (23, 7)] : Array (Nat × Nat))[i]? = some (t, o)) : ∃ f, smallFs[i]? = some f ∧ f.type = t ∧ f.offset = o := by
  rw [← fsT, Array.getElem?_map] at h
  cases hf : smallFs[i]? with
  | none => rw [hf] at h; cases h
  | some f =>
    rw [hf] at h
    simp only [Option.map_some, Option.some.injEq, Prod.mk.injEq] at h
    exact ⟨f, rfl, h.1, h.2⟩
theorem csz_le {a : Addr} {c : Nat} (h : ∀ i, i < c → ∃ v, w.cell? (a.add i) = some v) : c = 0 ∨ a.spot = none ∧ a.off + c * 1 ≤ csz w a.block := by
  by_cases hc : c = 0
  · exact .inl hc
  · right
    obtain ⟨v0, h0⟩ := h 0 (by omega)
    obtain ⟨v1, h1⟩ := h (c - 1) (by omega)
    have hs : a.spot = none := by
      simp only [Addr.add, if_true, World.cell?] at h0
      split at h0
      · split at h0
        · cases h0
        · rename_i hs; cases ha : a.spot <;> simp_all
      · cases h0
    refine ⟨hs, ?_⟩
    have e : a.add (c - 1) = ⟨a.block, a.off + (c - 1), none⟩ := by
      unfold Addr.add
      split
      · rename_i h; rw [h]; cases a; simp_all
      · rfl
    rw [e] at h1
    simp only [World.cell?] at h1
    split at h1
    · rename_i cs ee fr hb
      simp only [Option.isSome_none, Bool.false_eq_true, if_false] at h1
      have := (Array.getElem?_eq_some_iff.1 h1).1
      simp only [csz, hb]
      omega
    · cases h1

/-- an argument of type Small -/
theorem open_small {v : Value} {d : DataW H} {p : List MemPlace} (hv : Value.okWide Try.prog w .any base 25 v) (h : DataW.Trod enc Try.prog w 0 (fun _ => true) true 25 v d p) :
    ∃ s c0 c1 n, SmOK (hpOf w) s c0 c1 n ∧ VR (csz w) (.agg ⟨s⟩) v := by
  obtain ⟨cs, rfl, hsz⟩ := okWide_struct und25 hv
  obtain ⟨cs⟩ := cs
  obtain ⟨a0, a1, a2, a3, a4, a5, a6, a7, rfl⟩ := list8 (l := cs) (by simpa [size25] using hsz)
  obtain ⟨fuel, hf⟩ := h
  obtain ⟨xs, n, _, _, _, _, hfs⟩ := DataW.trod_struct und25 hf
  have fld : ∀ i t o : Nat, (#[(5, 0), (5, 1), (5, 2), (5, 3), (5, 4), (5, 5), (22, 6), (23, 7)] : Array (Nat × Nat))[i]? = some (t, o) → ∀ y : DataW H × List MemPlace, xs[i]? = some y → DataW.trod enc Try.prog w 0 (fun _ => true) true n t (([a0, a1, a2, a3, a4, a5, a6, a7].drop o).take (Try.prog.cellsOf t)) = some y := by
    intro i t o hi y hy
    obtain ⟨f, h1, h2, h3⟩ := fsAt hi
    have := hfs i f h1
    rw [h2, h3, hy] at this
    exact this
  have hxl : xs.length = 8 := by
    have h1 : smallFs.size = 8 := by kernel_rfl
    omega
  have yi : ∀ i, i < 8 → ∃ y, xs[i]? = some y := fun i hi => ⟨xs[i], List.getElem?_eq_getElem (by omega)⟩
  obtain ⟨y0, e0⟩ := yi 0 (by decide)
  obtain ⟨y1, e1⟩ := yi 1 (by decide)
  obtain ⟨y2, e2⟩ := yi 2 (by decide)
  obtain ⟨y3, e3⟩ := yi 3 (by decide)
  obtain ⟨y4, e4⟩ := yi 4 (by decide)
  obtain ⟨y5, e5⟩ := yi 5 (by decide)
  obtain ⟨y6, e6⟩ := yi 6 (by decide)
  obtain ⟨y7, e7⟩ := yi 7 (by decide)
  have t0 := fld 0 5 0 rfl y0 e0
  have t1 := fld 1 5 1 rfl y1 e1
  have t2 := fld 2 5 2 rfl y2 e2
  have t3 := fld 3 5 3 rfl y3 e3
  have t4 := fld 4 5 4 rfl y4 e4
  have t5 := fld 5 5 5 rfl y5 e5
  have t6 := fld 6 22 6 rfl y6 e6
  have t7 := fld 7 23 7 rfl y7 e7
  rw [size5] at t0 t1 t2 t3 t4 t5
  rw [size22] at t6
  rw [size23] at t7
  simp only [List.drop_zero, List.drop_succ_cons, List.take_succ_cons, List.take_zero] at t0 t1 t2 t3 t4 t5 t6 t7
  obtain ⟨c0, k0, _, w0⟩ := DataW.trod_int Try.underlying5 t0
  obtain ⟨c1, k1, _, w1⟩ := DataW.trod_int Try.underlying5 t1
  obtain ⟨c2, k2, _, w2⟩ := DataW.trod_int Try.underlying5 t2
  obtain ⟨c3, k3, _, w3⟩ := DataW.trod_int Try.underlying5 t3
  obtain ⟨c4, k4, _, w4⟩ := DataW.trod_int Try.underlying5 t4
  obtain ⟨c5, k5, _, w5⟩ := DataW.trod_int Try.underlying5 t5
  obtain ⟨c6, k6, _, w6⟩ := DataW.trod_int Try.underlying22 t6
  simp only [List.cons.injEq, and_true] at k0 k1 k2 k3 k4 k5 k6
  subst k0 k1 k2 k3 k4 k5 k6
  rcases open_ints Try.underlying23 Try.underlying5 size5 t7 with ⟨k7, _⟩ | ⟨a, len, cap, zs, k7, _, hl, hm, hz, _, hcell, hwz⟩
  · simp only [List.cons.injEq, and_true] at k7
    subst k7
    refine ⟨[.int .u8 c0, .int .u8 c1, .int .u8 c2, .int .u8 c3, .int .u8 c4, .int .u8 c5, .int .u32 c6, .slice none 0 0], c0, c1, 0,
      ⟨⟨c2, c3, c4, c5, c6, none, 0, rfl, u8_wf w2, u8_wf w3, u8_wf w4, u8_wf w5, fun h => absurd rfl h⟩, u8_wf w0, u8_wf w1⟩, ?_⟩
    exact VRs.ag (vrs_self rfl) rfl
  · simp only [List.cons.injEq, and_true] at k7
    subst k7
    simp only [if_true] at hz
    refine ⟨[.int .u8 c0, .int .u8 c1, .int .u8 c2, .int .u8 c3, .int .u8 c4, .int .u8 c5, .int .u32 c6, .slice (some a) len 1], c0, c1, len,
      ⟨⟨c2, c3, c4, c5, c6, some a, 1, rfl, u8_wf w2, u8_wf w3, u8_wf w4, u8_wf w5, fun hn => ?_⟩, u8_wf w0, u8_wf w1⟩, ?_⟩
    · have hat : ∀ i, i < len → w.cell? (a.add i) = some (.int .u8 (zs.getD i 0)) ∧ 0 ≤ zs.getD i 0 ∧ zs.getD i 0 ≤ 255 := by
        intro i hi
        refine ⟨hcell i (by omega), ?_⟩
        have : zs.getD i 0 ∈ zs := by
          rw [List.getD_eq_getElem?_getD, List.getElem?_eq_getElem (show i < zs.length by omega)]
          exact List.getElem_mem _
        exact u8_wf (hwz _ this)
      obtain ⟨xs0, ee, hs, hg, _⟩ := hpOf_cell (hat 0 (by omega)).1 rfl
      have ea : a.add 0 = a := rfl
      rw [ea] at hs hg
      obtain ⟨b, o, sp⟩ := a
      simp only at hs hg
      subst hs
      refine ⟨b, o, xs0, ee, false, rfl, hg, fun i hi => ⟨_, ?_, (hat i hi).2⟩⟩
      obtain ⟨xs1, e1', _, hg1, hc1⟩ := hpOf_cell (hat i hi).1 rfl
      have eb : (Addr.add ⟨b, o, none⟩ i) = ⟨b, o + i, none⟩ := add_none b o i
      rw [eb] at hg1 hc1
      simp only at hg1 hc1
      rw [hg] at hg1
      cases hg1
      exact hc1
    · refine VRs.ag ?_ rfl
      refine .cons (.atom _ rfl) (.cons (.atom _ rfl) (.cons (.atom _ rfl) (.cons (.atom _ rfl) (.cons (.atom _ rfl) (.cons (.atom _ rfl) (.cons (.atom _ rfl) (.cons (.slice _ _ _ _ (csz_le fun i hi => ⟨_, hcell i (by omega)⟩) hl hm) .nil)))))))
end
end Go.Am

namespace Go.Proofs.Ytkidkceaocgnfaa
open Go.ChangeShapes Go.WideShapes Go.ChangeAt Go.RowKit
theorem Try.own : ownKnob Try.prog.godebug = none := by kernel_rfl
theorem Try.laidOut : laidOutB Try.prog = true := by kernel_rfl
theorem sq_lifted (os : Os) (started : os.Started) (H : Type) (enc : TypeId × Value → H) :
    ReturnsInHanded {} Try.checked os 3 .any (Rows.searchQuartersSpec.pre6 enc Try.prog Try.f3 Rows.searchQuartersRow.domain false) (Rows.searchQuartersSpec.post enc Try.prog Try.f3 false true false false) := by
  refine returnsInHanded_of_change (C := Try.checked) Try.own started (by kernel_rfl) Try.func3
    (ChangeSpec.witness6 (enc := enc) (C := Try.checked) false ⟨#[], #[.agg #[.int .u8 0, .int .u8 0, .int .u8 0, .int .u8 0, .int .u8 0, .int .u8 0, .int .u32 0, .slice none 0 0], .agg #[.int .u8 0, .int .u8 0, .int .u8 0, .int .u8 0, .int .u8 0, .int .u8 0, .int .u32 0, .slice none 0 0], .int .u8 0, .int .i8 0, .int .i8 0, .int .u8 0, .bool false], []⟩ 8 (by kernel_rfl) (by kernel_rfl) (by kernel_rfl) (by kernel_rfl)) ?_
  intro W base args ds gs before hval0 hW hcnd _
  have hval : ∀ (j : Nat) t v, Try.f3.params[j]? = some t → args[j]? = some v → Value.okWide Try.prog W .any base t v := hval0
  have hW' := hW
  obtain ⟨p, q, hA0, hV, rfl, hfz, hnd⟩ := hW
  have hA : DataW.TrodAll enc Try.prog W 0 (fun _ => true) true Try.f3.params.toList args.toList ds p := hA0
  rw [Try.params3] at hA hval
  obtain ⟨v0, vs0, d0, ds0, p0, q0, hargs, rfl, rfl, h0, r0⟩ := trodAll_cons hA
  obtain ⟨v1, vs1, d1, ds1, p1, q1, rfl, rfl, rfl, h1, r1⟩ := trodAll_cons r0
  obtain ⟨v2, vs2, d2, ds2, p2, q2, rfl, rfl, rfl, h2, r2⟩ := trodAll_cons r1
  obtain ⟨v3, vs3, d3, ds3, p3, q3, rfl, rfl, rfl, h3, r3⟩ := trodAll_cons r2
  obtain ⟨v4, vs4, d4, ds4, p4, q4, rfl, rfl, rfl, h4, r4⟩ := trodAll_cons r3
  obtain ⟨v5, vs5, d5, ds5, p5, q5, rfl, rfl, rfl, h5, r5⟩ := trodAll_cons r4
  obtain ⟨v6, vs6, d6, ds6, p6, q6, rfl, rfl, rfl, h6, r6⟩ := trodAll_cons r5
  obtain ⟨rfl, rfl, rfl⟩ := trodAll_nil r6
  obtain ⟨args⟩ := args
  simp only at hargs
  subst hargs
  obtain ⟨rfl, rfl⟩ := trodVars_none hV
  obtain ⟨m, rfl, rfl, rfl, wm⟩ := open_int Try.underlying5 (hval 2 5 v2 rfl rfl) h2
  obtain ⟨x, rfl, rfl, rfl, wx⟩ := open_int Try.underlying26 (hval 3 26 v3 rfl rfl) h3
  obtain ⟨y, rfl, rfl, rfl, wy⟩ := open_int Try.underlying26 (hval 4 26 v4 rfl rfl) h4
  obtain ⟨l, rfl, rfl, rfl, wl⟩ := open_int Try.underlying5 (hval 5 5 v5 rfl rfl) h5
  obtain ⟨dn, rfl, rfl, rfl⟩ := open_bool Try.underlying4 (hval 6 4 v6 rfl rfl) h6
  obtain ⟨s, c0, c1, n1, hs, vs⟩ := Am.open_small (hval 0 25 v0 rfl rfl) h0
  obtain ⟨t, e0, e1, n2, ht, vt⟩ := Am.open_small (hval 1 25 v1 rfl rfl) h1
  have hcall := Am.s3 (m := m) (x := x) (y := y) (l := l) (down := dn) hs ht (Am.u8_wf wm) (Am.i8_wf wx) (Am.i8_wf wy) (Am.u8_wf wl)
  refine (hcall W _ (Am.hpOf_rel W) (.cons vs (.cons vt (.cons (.atom _ rfl) (.cons (.atom _ rfl) (.cons (.atom _ rfl) (.cons (.atom _ rfl) (.cons (.atom _ rfl) .nil)))))))).mono fun e W' ⟨r, c, H', he, hvr, _, hfr, hr⟩ => ?_
  subst he
  subst hr
  cases hvr.bool
  have hb := Am.hpOf_below hfr
  have hlt : ∀ x ∈ p0 ++ (p1 ++ ([] ++ ([] ++ ([] ++ ([] ++ ([] ++ []))))) ) ++ [], x.block < W.heap.size := fun x hx => by simpa using hW'.lt x hx
  refine ⟨_, rfl, _, _, _, [], p0 ++ (p1 ++ ([] ++ ([] ++ ([] ++ ([] ++ ([] ++ [])))))), [], hW', ?_, ?_, rfl, hb.frame _, fun h => by cases h⟩
  · exact trodAll_mk1 (shut_bool Try.underlying4 true)
  · refine trodAll_cons_mk (Below.trod Try.laidOut (by kernel_rfl) (of_decide_eq_true (by kernel_rfl)) h0 hb fun x hx => hlt x (by simp [hx])) ?_
    refine trodAll_cons_mk (Below.trod Try.laidOut (by kernel_rfl) (of_decide_eq_true (by kernel_rfl)) h1 hb fun x hx => hlt x (by simp [hx])) ?_
    exact trodAll_cons_mk (shut_int Try.underlying5 wm) (trodAll_cons_mk (shut_int Try.underlying26 wx) (trodAll_cons_mk (shut_int Try.underlying26 wy) (trodAll_cons_mk (shut_int Try.underlying5 wl) (trodAll_cons_mk (shut_bool Try.underlying4 dn) trodAll_mk0))))

theorem searchQuarters_holds : Rows.SearchQuartersSaid :=
  OpenClaim.holds_of_wide 3 Try.f3 rfl rfl rfl rfl rfl rfl rfl ⟨rfl, rfl, rfl, rfl, rfl⟩ rfl rfl rfl rfl rfl (by kernel_rfl) Try.func3 (by kernel_rfl)
    (of_decide_eq_true (by kernel_rfl)) (by unfold Func.isWrapper; rw [if_neg (of_decide_eq_false (by kernel_rfl))]; exact ⟨rfl, rfl⟩)
    (fun os started H enc _ => sq_lifted os started H enc)
#print axioms searchQuarters_holds
end Go.Proofs.Ytkidkceaocgnfaa
