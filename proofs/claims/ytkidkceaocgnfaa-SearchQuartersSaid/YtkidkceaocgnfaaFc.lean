/- printed: functions 34 35 36 37 38 43 46 52 11 -/
import Derived.Test.YtkidkceaocgnfaaT2
set_option maxRecDepth 100000
set_option linter.all false
namespace Go.Am
open Go.Proofs
/-! ## 34 (kinescope/plane.Plane).Set -/

/-- (kinescope/plane.Plane).Set -/
def g34 (Q : Value → AHeap → Prop) (vs : List Value) (H : AHeap) : Prop :=
 inA 3 vs fun l0 vs =>
 inI .i64 vs fun x1 vs =>
 inI .i64 vs fun x2 vs =>
 inI .u8 vs fun x3 vs =>
 nilK vs <|
 gd (l0.length = 3) <|
 bif (decide ((x1 : Int) ≥ 0)) then (
  rI .i64 l0 0 fun x13 =>
  bif (decide ((x1 : Int) < x13)) then (
   bif (decide ((x2 : Int) ≥ 0)) then (
    rI .i64 l0 1 fun x23 =>
    bif (decide ((x2 : Int) < x23)) then (
     rI .i64 l0 0 fun x29 =>
     rSl l0 2 fun a34 n34 z34 =>
     bif (decide (((IntKind.wrap .i64 ((IntKind.wrap .i64 (x2 * x29)) + x1)) : Int) < (n34 : Int))) then (
      rSl l0 2 fun a39 n39 z39 =>
      rI .i64 l0 0 fun x42 =>
      hp a39 fun b47 o47 =>
      aidx (IntKind.wrap .i64 ((IntKind.wrap .i64 (x2 * x42)) + x1)) n39 fun j47 =>
      wrH H b47 fun y e =>
      gd (o47 + j47 * 1 < y.length) <|
      Q (.tuple ⟨[]⟩) (AHeap.put H b47 (.cells (List.set y (o47 + j47 * 1) (.int .u8 x3)) e true))
     ) else (
      Q (.tuple ⟨[]⟩) H
     )
    ) else (
     Q (.tuple ⟨[]⟩) H
    )
   ) else (
    Q (.tuple ⟨[]⟩) H
   )
  ) else (
   Q (.tuple ⟨[]⟩) H
  )
 ) else (
  Q (.tuple ⟨[]⟩) H
 )
def f34 (vs : List Value) (H : AHeap) (Q : Value → AHeap → Prop) : Prop := g34 Q vs H

noncomputable def x34 (Q : Value → AHeap → Prop) : Pc := pc Try.prog 48 [(4, 4), (12, 4), (22, 4), (28, 4), (33, 4), (38, 4), (41, 4)]
  []
  []
  []
  (shOf [])
  (shOf [])
  [] Q
theorem m34 {Q : Value → AHeap → Prop} {vs : List Value} {H : AHeap} (h : g34 Q vs H) : Nat.ble vs.length 48 = true ∧ interp (x34 Q) kb0 (bodyOf Try.f34) [] (entry vs H) := by
  obtain ⟨_, _, rfl, h1⟩ := deA h
  obtain ⟨_, _, rfl, h2⟩ := deI h1
  obtain ⟨_, _, rfl, h3⟩ := deI h2
  obtain ⟨_, _, rfl, h4⟩ := deI h3
  obtain ⟨rfl, g⟩ := deN h4
  exact ⟨by kernel_rfl, Eq.mp (by kernel_rfl) g⟩
theorem c34 {vs : List Value} {H : AHeap} {Q : Value → AHeap → Prop} (h : f34 vs H Q) : call Try.prog 34 vs H Q :=
  call_of' noNG (X := x34 Q) (fn := Try.f34) (by kernel_rfl) (by kernel_rfl) (by kernel_rfl) (by kernel_rfl) (by kernel_rfl) (obl_of (n := 0) (by kernel_rfl) (by kernel_rfl) trivial) (m34 h).1 (m34 h).2

/-! ## 35 (kinescope/plane.Frame).Planes -/

/-- (kinescope/plane.Frame).Planes -/
def g35 (Q : Value → AHeap → Prop) (vs : List Value) (H : AHeap) : Prop :=
 inA 11 vs fun l0 vs =>
 nilK vs <|
 gd (l0.length = 11) <|
 rA 3 l0 2 fun l4 =>
 rA 3 l0 5 fun l6 =>
 rA 3 l0 8 fun l8 =>
 gd (l4.length = 3) <|
 gd (l6.length = 3) <|
 gd (l8.length = 3) <|
 gd (List.length (α := Value) (l4 ++ (l6 ++ (l8 ++ []))) = 9 ∧ 0 + 9 ≤ List.length (α := Value) [.int .i64 0, .int .i64 0, .slice none 0 0, .int .i64 0, .int .i64 0, .slice none 0 0, .int .i64 0, .int .i64 0, .slice none 0 0]) <|
 rA 9 (stC [.int .i64 0, .int .i64 0, .slice none 0 0, .int .i64 0, .int .i64 0, .slice none 0 0, .int .i64 0, .int .i64 0, .slice none 0 0] 0 (l4 ++ (l6 ++ (l8 ++ [])))) 0 fun l =>
 Q (.agg ⟨l⟩) H
def f35 (vs : List Value) (H : AHeap) (Q : Value → AHeap → Prop) : Prop := g35 Q vs H

noncomputable def x35 (Q : Value → AHeap → Prop) : Pc := pc Try.prog 10 [(1, 1), (2, 2), (3, 1), (5, 1), (7, 1)]
  []
  []
  []
  (shOf [])
  (shOf [])
  [.cell 2 80] Q
theorem m35 {Q : Value → AHeap → Prop} {vs : List Value} {H : AHeap} (h : g35 Q vs H) : Nat.ble vs.length 10 = true ∧ interp (x35 Q) kb0 (bodyOf Try.f35) [] (entry vs H) := by
  obtain ⟨_, _, rfl, h1⟩ := deA h
  obtain ⟨rfl, g⟩ := deN h1
  exact ⟨by kernel_rfl, Eq.mp (by kernel_rfl) g⟩
theorem c35 {vs : List Value} {H : AHeap} {Q : Value → AHeap → Prop} (h : f35 vs H Q) : call Try.prog 35 vs H Q :=
  call_of' noNG (X := x35 Q) (fn := Try.f35) (by kernel_rfl) (by kernel_rfl) (by kernel_rfl) (by kernel_rfl) (by kernel_rfl) (obl_of (n := 0) (by kernel_rfl) (by kernel_rfl) trivial) (m35 h).1 (m35 h).2

/-! ## 36 kinescope/comp.Reach -/

def g36_15 (Q : Value → AHeap → Prop) (kb : KB) (vs : List Value) (bs : List (List Value)) (H : AHeap) : Prop :=
 inI .i64 vs fun x1 vs =>
 inI .i64 vs fun x7 vs =>
 inI .i64 vs fun x22 vs =>
 nilK vs <|
 inX bs fun y5 bs =>
 inX bs fun y8 bs =>
 nilX bs <|
 kb 4 [.int .i64 x1, .int .i64 x7, .int .i64 (IntKind.wrap .i64 (x22 + 1))] [y5, y8] H
def f36_15 (Q : Value → AHeap → Prop) : PT := g36_15 Q

def g36_14 (Q : Value → AHeap → Prop) (F15 : PT) (kb : KB) (vs : List Value) (bs : List (List Value)) (H : AHeap) : Prop :=
 inI .i64 vs fun x1 vs =>
 inI .i64 vs fun x7 vs =>
 inI .i64 vs fun x18 vs =>
 inI .i64 vs fun x22 vs =>
 nilK vs <|
 inX bs fun y5 bs =>
 inX bs fun y8 bs =>
 nilX bs <|
 F15 kb [.int .i64 x1, .int .i64 (mxI x7 x18), .int .i64 x22] [y5, y8] H
def f36_14 (Q : Value → AHeap → Prop) : PT := g36_14 Q (f36_15 Q)

def g36_9 (Q : Value → AHeap → Prop) (F14 : PT) (kb : KB) (vs : List Value) (bs : List (List Value)) (H : AHeap) : Prop :=
 inI .i64 vs fun x1 vs =>
 inI .i64 vs fun x7 vs =>
 inI .i64 vs fun x9 vs =>
 inC vs fun r10 i10 vs =>
 inI .i64 vs fun x11 vs =>
 inI .i64 vs fun x22 vs =>
 nilK vs <|
 inX bs fun y5 bs =>
 inX bs fun y8 bs =>
 nilX bs <|
 call Try.prog 12 [.complex .f64 r10 i10] H fun r34 H34 =>
 tupK r34 fun l =>
 inI .i64 l fun x34a l_2 =>
 inI .i64 l_2 fun x34b l_3 =>
 nilK l_3 <|
 rA 11 y8 0 fun l38 =>
 call Try.prog 27 [.agg ⟨l38⟩, .int .i64 x1, .int .i64 x9] H34 fun r41 H41 =>
 tupK r41 fun l_4 =>
 inA 3 l_4 fun l41a l_5 =>
 inI .i64 l_5 fun x41b l_6 =>
 inI .i64 l_6 fun x41c l_7 =>
 nilK l_7 <|
 gd (l41a.length = 3 ∧ 0 + 3 ≤ List.length (α := Value) [.int .i64 0, .int .i64 0, .slice none 0 0]) <|
 rI .i64 y8 0 fun x50 =>
 call Try.prog 46 [.int .i64 x41b, .int .i64 x34a, .int .i64 (IntKind.wrap .i64 (x11 * x50))] H41 fun r52 H52 =>
 tupK r52 fun l_8 =>
 inI .i64 l_8 fun x52a l_9 =>
 inI .i64 l_9 fun x52b l_10 =>
 nilK l_10 <|
 bif ((x9 : Int) == 4) then (
  F14 kb [.int .i64 x1, .int .i64 x7, .int .i64 (IntKind.wrap .i64 ((IntKind.wrap .i64 (2 * x52b)) + 1)), .int .i64 x22] [y5, y8] H52
 ) else (
  F14 kb [.int .i64 x1, .int .i64 x7, .int .i64 x52b, .int .i64 x22] [y5, y8] H52
 )
def f36_9 (Q : Value → AHeap → Prop) : PT := g36_9 Q (f36_14 Q)

def g36_5 (Q : Value → AHeap → Prop) (F9 : PT) (kb : KB) (vs : List Value) (bs : List (List Value)) (H : AHeap) : Prop :=
 inI .i64 vs fun x1 vs =>
 inI .i64 vs fun x7 vs =>
 inI .i64 vs fun x22 vs =>
 nilK vs <|
 inX bs fun y5 bs =>
 inX bs fun y8 bs =>
 nilX bs <|
 rA 4 y5 0 fun l25 =>
 call Try.prog 45 [.agg ⟨l25⟩] H fun r26 H26 =>
 asC r26 fun r26_2 i26 =>
 bif (decide ((x22 : Int) < 4)) then (
  aidx x22 4 fun j30 =>
  rC y5 (0 + j30 * 1) fun r31 i31 =>
  F9 kb [.int .i64 x1, .int .i64 x7, .int .i64 x22, .complex .f64 r31 i31, .int .i64 16, .int .i64 x22] [y5, y8] H26
 ) else (
  F9 kb [.int .i64 x1, .int .i64 x7, .int .i64 x22, .complex .f64 r26_2 i26, .int .i64 8, .int .i64 x22] [y5, y8] H26
 )
def f36_5 (Q : Value → AHeap → Prop) : PT := g36_5 Q (f36_9 Q)

def g36_16 (Q : Value → AHeap → Prop) (kb : KB) (vs : List Value) (bs : List (List Value)) (H : AHeap) : Prop :=
 inI .i64 vs fun x7 vs =>
 nilK vs <|
 nilX bs <|
 Q (.int .i64 x7) H
def f36_16 (Q : Value → AHeap → Prop) : PT := g36_16 Q

def g36_l4 (Q : Value → AHeap → Prop) (F5 F16 : PT) (kb : KB) (vs : List Value) (bs : List (List Value)) (H : AHeap) : Prop :=
 inI .i64 vs fun x1 vs =>
 inI .i64 vs fun x7 vs =>
 inI .i64 vs fun x22 vs =>
 nilK vs <|
 inX bs fun y5 bs =>
 inX bs fun y8 bs =>
 nilX bs <|
 bif (decide ((x22 : Int) < 5)) then (
  F5 kb [.int .i64 x1, .int .i64 x7, .int .i64 x22] [y5, y8] H
 ) else (
  F16 kb [.int .i64 x7] [] H
 )
def f36_l4 (Q : Value → AHeap → Prop) : PT := g36_l4 Q (f36_5 Q) (f36_16 Q)

/-- kinescope/comp.Reach -/
def g36 (Q : Value → AHeap → Prop) (L4 : PT) (vs : List Value) (H : AHeap) : Prop :=
 inI .i64 vs fun x0 vs =>
 inI .i64 vs fun x1 vs =>
 inA 4 vs fun l2 vs =>
 nilK vs <|
 gd (l2.length = 4) <|
 lpW L4 kb0 4 [.int .i64 x1, .int .i64 0, .int .i64 0] [l2, [.int .i64 (mxI x0 1), .int .i64 0, .int .i64 0, .int .i64 0, .slice none 0 0, .int .i64 0, .int .i64 0, .slice none 0 0, .int .i64 0, .int .i64 0, .slice none 0 0]] H
def f36 (vs : List Value) (H : AHeap) (Q : Value → AHeap → Prop) : Prop := g36 Q (f36_l4 Q) vs H

noncomputable def x36 (Q : Value → AHeap → Prop) (F15 F14 F9 F5 F16 L4 : PT) : Pc := pc Try.prog 65 [(5, 5), (8, 8), (14, 14), (30, 5), (49, 8)]
  [(15, ⟨[1, 7, 22], [(5, 5), (8, 8)], [5, 8]⟩), (14, ⟨[1, 7, 18, 22], [(5, 5), (8, 8)], [5, 8]⟩), (9, ⟨[1, 7, 9, 10, 11, 22], [(5, 5), (8, 8)], [5, 8]⟩), (5, ⟨[1, 7, 22], [(5, 5), (8, 8)], [5, 8]⟩), (16, ⟨[7], [], []⟩)]
  [(4, ⟨[1, 7, 22], [(5, 5), (8, 8)], [5, 8]⟩)]
  []
  (shOf [(15, F15), (14, F14), (9, F9), (5, F5), (16, F16)])
  (shOf [(4, L4)])
  [.tmp 6] Q
theorem o36_0 (Q : Value → AHeap → Prop) (F15 F14 F9 F5 L4 : PT) : cutOK (x36 Q F15 F14 F9 F5 (g36_16 Q) L4) (cutAt (bodyOf Try.f36) 0) := by
  refine cutOK_of (F := g36_16 Q) (by kernel_rfl) ?_
  intro kb vs bs H h
  obtain ⟨_, _, rfl, h1⟩ := deI h
  obtain ⟨rfl, g⟩ := deN h1
  obtain ⟨rfl, k⟩ := deNX g
  exact Eq.mp (by kernel_rfl) k
theorem o36_1 (Q : Value → AHeap → Prop) (F15 F14 F9 F5 F16 : PT) : cutOK (x36 Q F15 F14 F9 F5 F16 (g36_l4 Q F5 F16)) (cutAt (bodyOf Try.f36) 1) := by
  refine cutOK_of (F := g36_l4 Q F5 F16) (by kernel_rfl) ?_
  intro kb vs bs H h
  obtain ⟨_, _, rfl, h1⟩ := deI h
  obtain ⟨_, _, rfl, h2⟩ := deI h1
  obtain ⟨_, _, rfl, h3⟩ := deI h2
  obtain ⟨rfl, g⟩ := deN h3
  obtain ⟨_, _, rfl, g1⟩ := deX g
  obtain ⟨_, _, rfl, g2⟩ := deX g1
  obtain ⟨rfl, k⟩ := deNX g2
  exact Eq.mp (by kernel_rfl) k
theorem o36_2 (Q : Value → AHeap → Prop) (F15 F14 F9 F16 L4 : PT) : cutOK (x36 Q F15 F14 F9 (g36_5 Q F9) F16 L4) (cutAt (bodyOf Try.f36) 2) := by
  refine cutOK_of (F := g36_5 Q F9) (by kernel_rfl) ?_
  intro kb vs bs H h
  obtain ⟨_, _, rfl, h1⟩ := deI h
  obtain ⟨_, _, rfl, h2⟩ := deI h1
  obtain ⟨_, _, rfl, h3⟩ := deI h2
  obtain ⟨rfl, g⟩ := deN h3
  obtain ⟨_, _, rfl, g1⟩ := deX g
  obtain ⟨_, _, rfl, g2⟩ := deX g1
  obtain ⟨rfl, k⟩ := deNX g2
  exact Eq.mp (by kernel_rfl) k
theorem o36_3 (Q : Value → AHeap → Prop) (F14 F9 F5 F16 L4 : PT) : cutOK (x36 Q (g36_15 Q) F14 F9 F5 F16 L4) (cutAt (bodyOf Try.f36) 3) := by
  refine cutOK_of (F := g36_15 Q) (by kernel_rfl) ?_
  intro kb vs bs H h
  obtain ⟨_, _, rfl, h1⟩ := deI h
  obtain ⟨_, _, rfl, h2⟩ := deI h1
  obtain ⟨_, _, rfl, h3⟩ := deI h2
  obtain ⟨rfl, g⟩ := deN h3
  obtain ⟨_, _, rfl, g1⟩ := deX g
  obtain ⟨_, _, rfl, g2⟩ := deX g1
  obtain ⟨rfl, k⟩ := deNX g2
  exact Eq.mp (by kernel_rfl) k
theorem o36_4 (Q : Value → AHeap → Prop) (F15 F14 F5 F16 L4 : PT) : cutOK (x36 Q F15 F14 (g36_9 Q F14) F5 F16 L4) (cutAt (bodyOf Try.f36) 4) := by
  refine cutOK_of (F := g36_9 Q F14) (by kernel_rfl) ?_
  intro kb vs bs H h
  obtain ⟨_, _, rfl, h1⟩ := deI h
  obtain ⟨_, _, rfl, h2⟩ := deI h1
  obtain ⟨_, _, rfl, h3⟩ := deI h2
  obtain ⟨_, _, _, rfl, h4⟩ := deC h3
  obtain ⟨_, _, rfl, h5⟩ := deI h4
  obtain ⟨_, _, rfl, h6⟩ := deI h5
  obtain ⟨rfl, g⟩ := deN h6
  obtain ⟨_, _, rfl, g1⟩ := deX g
  obtain ⟨_, _, rfl, g2⟩ := deX g1
  obtain ⟨rfl, k⟩ := deNX g2
  exact Eq.mp (by kernel_rfl) k
theorem o36_5 (Q : Value → AHeap → Prop) (F15 F9 F5 F16 L4 : PT) : cutOK (x36 Q F15 (g36_14 Q F15) F9 F5 F16 L4) (cutAt (bodyOf Try.f36) 5) := by
  refine cutOK_of (F := g36_14 Q F15) (by kernel_rfl) ?_
  intro kb vs bs H h
  obtain ⟨_, _, rfl, h1⟩ := deI h
  obtain ⟨_, _, rfl, h2⟩ := deI h1
  obtain ⟨_, _, rfl, h3⟩ := deI h2
  obtain ⟨_, _, rfl, h4⟩ := deI h3
  obtain ⟨rfl, g⟩ := deN h4
  obtain ⟨_, _, rfl, g1⟩ := deX g
  obtain ⟨_, _, rfl, g2⟩ := deX g1
  obtain ⟨rfl, k⟩ := deNX g2
  exact Eq.mp (by kernel_rfl) k
theorem m36 {Q : Value → AHeap → Prop} (F15 F14 F9 F5 F16 L4 : PT) {vs : List Value} {H : AHeap} (h : g36 Q L4 vs H) : Nat.ble vs.length 65 = true ∧ interp (x36 Q F15 F14 F9 F5 F16 L4) kb0 (bodyOf Try.f36) [] (entry vs H) := by
  obtain ⟨_, _, rfl, h1⟩ := deI h
  obtain ⟨_, _, rfl, h2⟩ := deI h1
  obtain ⟨_, _, rfl, h3⟩ := deA h2
  obtain ⟨rfl, g⟩ := deN h3
  exact ⟨by kernel_rfl, Eq.mp (by kernel_rfl) g⟩
theorem c36 {vs : List Value} {H : AHeap} {Q : Value → AHeap → Prop} (h : f36 vs H Q) : call Try.prog 36 vs H Q :=
  call_of' noNG (X := x36 Q (f36_15 Q) (f36_14 Q) (f36_9 Q) (f36_5 Q) (f36_16 Q) (f36_l4 Q)) (fn := Try.f36) (by kernel_rfl) (by kernel_rfl) (by kernel_rfl) (by kernel_rfl) (by kernel_rfl) (obl_of (n := 6) (by kernel_rfl) (by kernel_rfl) ⟨o36_0 Q (f36_15 Q) (f36_14 Q) (f36_9 Q) (f36_5 Q) (f36_l4 Q), o36_1 Q (f36_15 Q) (f36_14 Q) (f36_9 Q) (f36_5 Q) (f36_16 Q), o36_2 Q (f36_15 Q) (f36_14 Q) (f36_9 Q) (f36_16 Q) (f36_l4 Q), o36_3 Q (f36_14 Q) (f36_9 Q) (f36_5 Q) (f36_16 Q) (f36_l4 Q), o36_4 Q (f36_15 Q) (f36_14 Q) (f36_5 Q) (f36_16 Q) (f36_l4 Q), o36_5 Q (f36_15 Q) (f36_9 Q) (f36_5 Q) (f36_16 Q) (f36_l4 Q), trivial⟩) (m36 (f36_15 Q) (f36_14 Q) (f36_9 Q) (f36_5 Q) (f36_16 Q) (f36_l4 Q) h).1 (m36 (f36_15 Q) (f36_14 Q) (f36_9 Q) (f36_5 Q) (f36_16 Q) (f36_l4 Q) h).2

/-! ## 37 (kinescope/plane.Plane).Block -/

def g37_6 (Q : Value → AHeap → Prop) (kb : KB) (vs : List Value) (bs : List (List Value)) (H : AHeap) : Prop :=
 inI .i64 vs fun x1 vs =>
 inI .i64 vs fun x2 vs =>
 inI .i64 vs fun x9 vs =>
 nilK vs <|
 inX bs fun y3 bs =>
 inX bs fun y6 bs =>
 inX bs fun y7 bs =>
 nilX bs <|
 kb 3 [.int .i64 x1, .int .i64 x2, .int .i64 (IntKind.wrap .i64 (x9 + 1))] [y3, y6, y7] H
def f37_6 (Q : Value → AHeap → Prop) : PT := g37_6 Q

def g37_4 (Q : Value → AHeap → Prop) (F6 : PT) (kb : KB) (vs : List Value) (bs : List (List Value)) (H : AHeap) : Prop :=
 inI .i64 vs fun x1 vs =>
 inI .i64 vs fun x2 vs =>
 inI .i64 vs fun x9 vs =>
 nilK vs <|
 inX bs fun y3 bs =>
 inX bs fun y6 bs =>
 inX bs fun y7 bs =>
 nilX bs <|
 rA 3 y3 0 fun l13 =>
 call Try.prog 28 [.agg ⟨l13⟩, .int .i64 (IntKind.wrap .i64 (x1 + (x9.tmod 8))), .int .i64 (IntKind.wrap .i64 (x2 + (IntKind.wrap .i64 (x9.tdiv 8))))] H fun r22 H22 =>
 asI .u8 r22 fun x22 =>
 aidx x9 64 fun j24 =>
 gd (0 + j24 * 1 < y7.length) <|
 F6 kb [.int .i64 x1, .int .i64 x2, .int .i64 x9] [y3, y6, (List.set y7 (0 + j24 * 1) (.int .i64 (IntKind.wrap .i64 x22)))] H22
def f37_4 (Q : Value → AHeap → Prop) : PT := g37_4 Q (f37_6 Q)

def g37_7 (Q : Value → AHeap → Prop) (kb : KB) (vs : List Value) (bs : List (List Value)) (H : AHeap) : Prop :=
 nilK vs <|
 inX bs fun y6 bs =>
 inX bs fun y7 bs =>
 nilX bs <|
 rA 64 y7 0 fun l26 =>
 gd (l26.length = 64 ∧ 0 + 64 ≤ y6.length) <|
 rA 64 (stC y6 0 l26) 0 fun l =>
 Q (.agg ⟨l⟩) H
def f37_7 (Q : Value → AHeap → Prop) : PT := g37_7 Q

def g37_l3 (Q : Value → AHeap → Prop) (F4 F7 : PT) (kb : KB) (vs : List Value) (bs : List (List Value)) (H : AHeap) : Prop :=
 inI .i64 vs fun x1 vs =>
 inI .i64 vs fun x2 vs =>
 inI .i64 vs fun x9 vs =>
 nilK vs <|
 inX bs fun y3 bs =>
 inX bs fun y6 bs =>
 inX bs fun y7 bs =>
 nilX bs <|
 bif (decide ((x9 : Int) < 64)) then (
  F4 kb [.int .i64 x1, .int .i64 x2, .int .i64 x9] [y3, y6, y7] H
 ) else (
  F7 kb [] [y6, y7] H
 )
def f37_l3 (Q : Value → AHeap → Prop) : PT := g37_l3 Q (f37_4 Q) (f37_7 Q)

/-- (kinescope/plane.Plane).Block -/
def g37 (Q : Value → AHeap → Prop) (L3 : PT) (vs : List Value) (H : AHeap) : Prop :=
 inA 3 vs fun l0 vs =>
 inI .i64 vs fun x1 vs =>
 inI .i64 vs fun x2 vs =>
 nilK vs <|
 gd (l0.length = 3) <|
 lpW L3 kb0 3 [.int .i64 x1, .int .i64 x2, .int .i64 0] [l0, (List.replicate 64 (.int .i64 0)), (List.replicate 64 (.int .i64 0))] H
def f37 (vs : List Value) (H : AHeap) (Q : Value → AHeap → Prop) : Prop := g37 Q (f37_l3 Q) vs H

noncomputable def x37 (Q : Value → AHeap → Prop) (F6 F4 F7 L3 : PT) : Pc := pc Try.prog 27 [(3, 3), (6, 6), (7, 7), (24, 7)]
  [(6, ⟨[1, 2, 9], [(3, 3), (6, 6), (7, 7)], [3, 6, 7]⟩), (4, ⟨[1, 2, 9], [(3, 3), (6, 6), (7, 7)], [3, 6, 7]⟩), (7, ⟨[], [(6, 6), (7, 7)], [6, 7]⟩)]
  [(3, ⟨[1, 2, 9], [(3, 3), (6, 6), (7, 7)], [3, 6, 7]⟩)]
  []
  (shOf [(6, F6), (4, F4), (7, F7)])
  (shOf [(3, L3)])
  [.cell 6 63] Q
theorem o37_0 (Q : Value → AHeap → Prop) (F6 F4 L3 : PT) : cutOK (x37 Q F6 F4 (g37_7 Q) L3) (cutAt (bodyOf Try.f37) 0) := by
  refine cutOK_of (F := g37_7 Q) (by kernel_rfl) ?_
  intro kb vs bs H h
  obtain ⟨rfl, g⟩ := deN h
  obtain ⟨_, _, rfl, g1⟩ := deX g
  obtain ⟨_, _, rfl, g2⟩ := deX g1
  obtain ⟨rfl, k⟩ := deNX g2
  exact Eq.mp (by kernel_rfl) k
theorem o37_1 (Q : Value → AHeap → Prop) (F6 F4 F7 : PT) : cutOK (x37 Q F6 F4 F7 (g37_l3 Q F4 F7)) (cutAt (bodyOf Try.f37) 1) := by
  refine cutOK_of (F := g37_l3 Q F4 F7) (by kernel_rfl) ?_
  intro kb vs bs H h
  obtain ⟨_, _, rfl, h1⟩ := deI h
  obtain ⟨_, _, rfl, h2⟩ := deI h1
  obtain ⟨_, _, rfl, h3⟩ := deI h2
  obtain ⟨rfl, g⟩ := deN h3
  obtain ⟨_, _, rfl, g1⟩ := deX g
  obtain ⟨_, _, rfl, g2⟩ := deX g1
  obtain ⟨_, _, rfl, g3⟩ := deX g2
  obtain ⟨rfl, k⟩ := deNX g3
  exact Eq.mp (by kernel_rfl) k
theorem o37_2 (Q : Value → AHeap → Prop) (F6 F7 L3 : PT) : cutOK (x37 Q F6 (g37_4 Q F6) F7 L3) (cutAt (bodyOf Try.f37) 2) := by
  refine cutOK_of (F := g37_4 Q F6) (by kernel_rfl) ?_
  intro kb vs bs H h
  obtain ⟨_, _, rfl, h1⟩ := deI h
  obtain ⟨_, _, rfl, h2⟩ := deI h1
  obtain ⟨_, _, rfl, h3⟩ := deI h2
  obtain ⟨rfl, g⟩ := deN h3
  obtain ⟨_, _, rfl, g1⟩ := deX g
  obtain ⟨_, _, rfl, g2⟩ := deX g1
  obtain ⟨_, _, rfl, g3⟩ := deX g2
  obtain ⟨rfl, k⟩ := deNX g3
  exact Eq.mp (by kernel_rfl) k
theorem o37_3 (Q : Value → AHeap → Prop) (F4 F7 L3 : PT) : cutOK (x37 Q (g37_6 Q) F4 F7 L3) (cutAt (bodyOf Try.f37) 3) := by
  refine cutOK_of (F := g37_6 Q) (by kernel_rfl) ?_
  intro kb vs bs H h
  obtain ⟨_, _, rfl, h1⟩ := deI h
  obtain ⟨_, _, rfl, h2⟩ := deI h1
  obtain ⟨_, _, rfl, h3⟩ := deI h2
  obtain ⟨rfl, g⟩ := deN h3
  obtain ⟨_, _, rfl, g1⟩ := deX g
  obtain ⟨_, _, rfl, g2⟩ := deX g1
  obtain ⟨_, _, rfl, g3⟩ := deX g2
  obtain ⟨rfl, k⟩ := deNX g3
  exact Eq.mp (by kernel_rfl) k
theorem m37 {Q : Value → AHeap → Prop} (F6 F4 F7 L3 : PT) {vs : List Value} {H : AHeap} (h : g37 Q L3 vs H) : Nat.ble vs.length 27 = true ∧ interp (x37 Q F6 F4 F7 L3) kb0 (bodyOf Try.f37) [] (entry vs H) := by
  obtain ⟨_, _, rfl, h1⟩ := deA h
  obtain ⟨_, _, rfl, h2⟩ := deI h1
  obtain ⟨_, _, rfl, h3⟩ := deI h2
  obtain ⟨rfl, g⟩ := deN h3
  exact ⟨by kernel_rfl, Eq.mp (by kernel_rfl) g⟩
theorem c37 {vs : List Value} {H : AHeap} {Q : Value → AHeap → Prop} (h : f37 vs H Q) : call Try.prog 37 vs H Q :=
  call_of' noNG (X := x37 Q (f37_6 Q) (f37_4 Q) (f37_7 Q) (f37_l3 Q)) (fn := Try.f37) (by kernel_rfl) (by kernel_rfl) (by kernel_rfl) (by kernel_rfl) (by kernel_rfl) (obl_of (n := 4) (by kernel_rfl) (by kernel_rfl) ⟨o37_0 Q (f37_6 Q) (f37_4 Q) (f37_l3 Q), o37_1 Q (f37_6 Q) (f37_4 Q) (f37_7 Q), o37_2 Q (f37_6 Q) (f37_7 Q) (f37_l3 Q), o37_3 Q (f37_4 Q) (f37_7 Q) (f37_l3 Q), trivial⟩) (m37 (f37_6 Q) (f37_4 Q) (f37_7 Q) (f37_l3 Q) h).1 (m37 (f37_6 Q) (f37_4 Q) (f37_7 Q) (f37_l3 Q) h).2

/-! ## 38 kinescope/interp.Block -/

def g38_6 (Q : Value → AHeap → Prop) (kb : KB) (vs : List Value) (bs : List (List Value)) (H : AHeap) : Prop :=
 inI .i64 vs fun x1 vs =>
 inI .i64 vs fun x2 vs =>
 inI .i64 vs fun x3 vs =>
 inI .i64 vs fun x4 vs =>
 inB vs fun c5 vs =>
 inI .i64 vs fun x15 vs =>
 nilK vs <|
 inX bs fun y6 bs =>
 inX bs fun y12 bs =>
 inX bs fun y13 bs =>
 nilX bs <|
 kb 3 [.int .i64 x1, .int .i64 x2, .int .i64 x3, .int .i64 x4, .bool c5, .int .i64 (IntKind.wrap .i64 (x15 + 1))] [y6, y12, y13] H
def f38_6 (Q : Value → AHeap → Prop) : PT := g38_6 Q

def g38_4 (Q : Value → AHeap → Prop) (F6 : PT) (kb : KB) (vs : List Value) (bs : List (List Value)) (H : AHeap) : Prop :=
 inI .i64 vs fun x1 vs =>
 inI .i64 vs fun x2 vs =>
 inI .i64 vs fun x3 vs =>
 inI .i64 vs fun x4 vs =>
 inB vs fun c5 vs =>
 inI .i64 vs fun x15 vs =>
 nilK vs <|
 inX bs fun y6 bs =>
 inX bs fun y12 bs =>
 inX bs fun y13 bs =>
 nilX bs <|
 rA 3 y6 0 fun l19 =>
 call Try.prog 47 [.agg ⟨l19⟩, .int .i64 (IntKind.wrap .i64 ((IntKind.wrap .i64 (2 * (IntKind.wrap .i64 (x1 + (x15.tmod 8))))) + x3)), .int .i64 (IntKind.wrap .i64 ((IntKind.wrap .i64 (2 * (IntKind.wrap .i64 (x2 + (IntKind.wrap .i64 (x15.tdiv 8)))))) + x4)), .bool c5] H fun r35 H35 =>
 asI .i64 r35 fun x35 =>
 aidx x15 64 fun j36 =>
 gd (0 + j36 * 1 < y13.length) <|
 F6 kb [.int .i64 x1, .int .i64 x2, .int .i64 x3, .int .i64 x4, .bool c5, .int .i64 x15] [y6, y12, (List.set y13 (0 + j36 * 1) (.int .i64 x35))] H35
def f38_4 (Q : Value → AHeap → Prop) : PT := g38_4 Q (f38_6 Q)

def g38_7 (Q : Value → AHeap → Prop) (kb : KB) (vs : List Value) (bs : List (List Value)) (H : AHeap) : Prop :=
 nilK vs <|
 inX bs fun y12 bs =>
 inX bs fun y13 bs =>
 nilX bs <|
 rA 64 y13 0 fun l38 =>
 gd (l38.length = 64 ∧ 0 + 64 ≤ y12.length) <|
 rA 64 (stC y12 0 l38) 0 fun l =>
 Q (.agg ⟨l⟩) H
def f38_7 (Q : Value → AHeap → Prop) : PT := g38_7 Q

def g38_l3 (Q : Value → AHeap → Prop) (F4 F7 : PT) (kb : KB) (vs : List Value) (bs : List (List Value)) (H : AHeap) : Prop :=
 inI .i64 vs fun x1 vs =>
 inI .i64 vs fun x2 vs =>
 inI .i64 vs fun x3 vs =>
 inI .i64 vs fun x4 vs =>
 inB vs fun c5 vs =>
 inI .i64 vs fun x15 vs =>
 nilK vs <|
 inX bs fun y6 bs =>
 inX bs fun y12 bs =>
 inX bs fun y13 bs =>
 nilX bs <|
 bif (decide ((x15 : Int) < 64)) then (
  F4 kb [.int .i64 x1, .int .i64 x2, .int .i64 x3, .int .i64 x4, .bool c5, .int .i64 x15] [y6, y12, y13] H
 ) else (
  F7 kb [] [y12, y13] H
 )
def f38_l3 (Q : Value → AHeap → Prop) : PT := g38_l3 Q (f38_4 Q) (f38_7 Q)

/-- kinescope/interp.Block -/
def g38 (Q : Value → AHeap → Prop) (L3 : PT) (vs : List Value) (H : AHeap) : Prop :=
 inA 3 vs fun l0 vs =>
 inI .i64 vs fun x1 vs =>
 inI .i64 vs fun x2 vs =>
 inI .i64 vs fun x3 vs =>
 inI .i64 vs fun x4 vs =>
 inB vs fun c5 vs =>
 nilK vs <|
 gd (l0.length = 3) <|
 lpW L3 kb0 3 [.int .i64 x1, .int .i64 x2, .int .i64 x3, .int .i64 x4, .bool c5, .int .i64 0] [l0, (List.replicate 64 (.int .i64 0)), (List.replicate 64 (.int .i64 0))] H
def f38 (vs : List Value) (H : AHeap) (Q : Value → AHeap → Prop) : Prop := g38 Q (f38_l3 Q) vs H

noncomputable def x38 (Q : Value → AHeap → Prop) (F6 F4 F7 L3 : PT) : Pc := pc Try.prog 39 [(6, 6), (12, 12), (13, 13), (36, 13)]
  [(6, ⟨[1, 2, 3, 4, 5, 15], [(6, 6), (12, 12), (13, 13)], [6, 12, 13]⟩), (4, ⟨[1, 2, 3, 4, 5, 15], [(6, 6), (12, 12), (13, 13)], [6, 12, 13]⟩), (7, ⟨[], [(12, 12), (13, 13)], [12, 13]⟩)]
  [(3, ⟨[1, 2, 3, 4, 5, 15], [(6, 6), (12, 12), (13, 13)], [6, 12, 13]⟩)]
  []
  (shOf [(6, F6), (4, F4), (7, F7)])
  (shOf [(3, L3)])
  [.cell 12 63] Q
theorem o38_0 (Q : Value → AHeap → Prop) (F6 F4 L3 : PT) : cutOK (x38 Q F6 F4 (g38_7 Q) L3) (cutAt (bodyOf Try.f38) 0) := by
  refine cutOK_of (F := g38_7 Q) (by kernel_rfl) ?_
  intro kb vs bs H h
  obtain ⟨rfl, g⟩ := deN h
  obtain ⟨_, _, rfl, g1⟩ := deX g
  obtain ⟨_, _, rfl, g2⟩ := deX g1
  obtain ⟨rfl, k⟩ := deNX g2
  exact Eq.mp (by kernel_rfl) k
theorem o38_1 (Q : Value → AHeap → Prop) (F6 F4 F7 : PT) : cutOK (x38 Q F6 F4 F7 (g38_l3 Q F4 F7)) (cutAt (bodyOf Try.f38) 1) := by
  refine cutOK_of (F := g38_l3 Q F4 F7) (by kernel_rfl) ?_
  intro kb vs bs H h
  obtain ⟨_, _, rfl, h1⟩ := deI h
  obtain ⟨_, _, rfl, h2⟩ := deI h1
  obtain ⟨_, _, rfl, h3⟩ := deI h2
  obtain ⟨_, _, rfl, h4⟩ := deI h3
  obtain ⟨_, _, rfl, h5⟩ := deB h4
  obtain ⟨_, _, rfl, h6⟩ := deI h5
  obtain ⟨rfl, g⟩ := deN h6
  obtain ⟨_, _, rfl, g1⟩ := deX g
  obtain ⟨_, _, rfl, g2⟩ := deX g1
  obtain ⟨_, _, rfl, g3⟩ := deX g2
  obtain ⟨rfl, k⟩ := deNX g3
  exact Eq.mp (by kernel_rfl) k
theorem o38_2 (Q : Value → AHeap → Prop) (F6 F7 L3 : PT) : cutOK (x38 Q F6 (g38_4 Q F6) F7 L3) (cutAt (bodyOf Try.f38) 2) := by
  refine cutOK_of (F := g38_4 Q F6) (by kernel_rfl) ?_
  intro kb vs bs H h
  obtain ⟨_, _, rfl, h1⟩ := deI h
  obtain ⟨_, _, rfl, h2⟩ := deI h1
  obtain ⟨_, _, rfl, h3⟩ := deI h2
  obtain ⟨_, _, rfl, h4⟩ := deI h3
  obtain ⟨_, _, rfl, h5⟩ := deB h4
  obtain ⟨_, _, rfl, h6⟩ := deI h5
  obtain ⟨rfl, g⟩ := deN h6
  obtain ⟨_, _, rfl, g1⟩ := deX g
  obtain ⟨_, _, rfl, g2⟩ := deX g1
  obtain ⟨_, _, rfl, g3⟩ := deX g2
  obtain ⟨rfl, k⟩ := deNX g3
  exact Eq.mp (by kernel_rfl) k
theorem o38_3 (Q : Value → AHeap → Prop) (F4 F7 L3 : PT) : cutOK (x38 Q (g38_6 Q) F4 F7 L3) (cutAt (bodyOf Try.f38) 3) := by
  refine cutOK_of (F := g38_6 Q) (by kernel_rfl) ?_
  intro kb vs bs H h
  obtain ⟨_, _, rfl, h1⟩ := deI h
  obtain ⟨_, _, rfl, h2⟩ := deI h1
  obtain ⟨_, _, rfl, h3⟩ := deI h2
  obtain ⟨_, _, rfl, h4⟩ := deI h3
  obtain ⟨_, _, rfl, h5⟩ := deB h4
  obtain ⟨_, _, rfl, h6⟩ := deI h5
  obtain ⟨rfl, g⟩ := deN h6
  obtain ⟨_, _, rfl, g1⟩ := deX g
  obtain ⟨_, _, rfl, g2⟩ := deX g1
  obtain ⟨_, _, rfl, g3⟩ := deX g2
  obtain ⟨rfl, k⟩ := deNX g3
  exact Eq.mp (by kernel_rfl) k
theorem m38 {Q : Value → AHeap → Prop} (F6 F4 F7 L3 : PT) {vs : List Value} {H : AHeap} (h : g38 Q L3 vs H) : Nat.ble vs.length 39 = true ∧ interp (x38 Q F6 F4 F7 L3) kb0 (bodyOf Try.f38) [] (entry vs H) := by
  obtain ⟨_, _, rfl, h1⟩ := deA h
  obtain ⟨_, _, rfl, h2⟩ := deI h1
  obtain ⟨_, _, rfl, h3⟩ := deI h2
  obtain ⟨_, _, rfl, h4⟩ := deI h3
  obtain ⟨_, _, rfl, h5⟩ := deI h4
  obtain ⟨_, _, rfl, h6⟩ := deB h5
  obtain ⟨rfl, g⟩ := deN h6
  exact ⟨by kernel_rfl, Eq.mp (by kernel_rfl) g⟩
theorem c38 {vs : List Value} {H : AHeap} {Q : Value → AHeap → Prop} (h : f38 vs H Q) : call Try.prog 38 vs H Q :=
  call_of' noNG (X := x38 Q (f38_6 Q) (f38_4 Q) (f38_7 Q) (f38_l3 Q)) (fn := Try.f38) (by kernel_rfl) (by kernel_rfl) (by kernel_rfl) (by kernel_rfl) (by kernel_rfl) (obl_of (n := 4) (by kernel_rfl) (by kernel_rfl) ⟨o38_0 Q (f38_6 Q) (f38_4 Q) (f38_l3 Q), o38_1 Q (f38_6 Q) (f38_4 Q) (f38_7 Q), o38_2 Q (f38_6 Q) (f38_7 Q) (f38_l3 Q), o38_3 Q (f38_4 Q) (f38_7 Q) (f38_l3 Q), trivial⟩) (m38 (f38_6 Q) (f38_4 Q) (f38_7 Q) (f38_l3 Q) h).1 (m38 (f38_6 Q) (f38_4 Q) (f38_7 Q) (f38_l3 Q) h).2

/-! ## 43 kinescope/plane.clamp -/

/-- kinescope/plane.clamp -/
def g43 (Q : Value → AHeap → Prop) (vs : List Value) (H : AHeap) : Prop :=
 inI .i64 vs fun x0 vs =>
 inI .i64 vs fun x1 vs =>
 nilK vs <|
 Q (.int .i64 (mxI (mnI x0 (IntKind.wrap .i64 (x1 - 1))) 0)) H
def f43 (vs : List Value) (H : AHeap) (Q : Value → AHeap → Prop) : Prop := g43 Q vs H

noncomputable def x43 (Q : Value → AHeap → Prop) : Pc := pc Try.prog 10 []
  []
  []
  []
  (shOf [])
  (shOf [])
  [.tmp 4] Q
theorem m43 {Q : Value → AHeap → Prop} {vs : List Value} {H : AHeap} (h : g43 Q vs H) : Nat.ble vs.length 10 = true ∧ interp (x43 Q) kb0 (bodyOf Try.f43) [] (entry vs H) := by
  obtain ⟨_, _, rfl, h1⟩ := deI h
  obtain ⟨_, _, rfl, h2⟩ := deI h1
  obtain ⟨rfl, g⟩ := deN h2
  exact ⟨by kernel_rfl, Eq.mp (by kernel_rfl) g⟩
theorem c43 {vs : List Value} {H : AHeap} {Q : Value → AHeap → Prop} (h : f43 vs H Q) : call Try.prog 43 vs H Q :=
  call_of' noNG (X := x43 Q) (fn := Try.f43) (by kernel_rfl) (by kernel_rfl) (by kernel_rfl) (by kernel_rfl) (by kernel_rfl) (obl_of (n := 0) (by kernel_rfl) (by kernel_rfl) trivial) (m43 h).1 (m43 h).2

/-! ## 46 kinescope/interp.Span -/

/-- kinescope/interp.Span -/
def g46 (Q : Value → AHeap → Prop) (vs : List Value) (H : AHeap) : Prop :=
 inI .i64 vs fun x0 vs =>
 inI .i64 vs fun x1 vs =>
 inI .i64 vs fun x2 vs =>
 nilK vs <|
 call Try.prog 51 [.int .i64 (IntKind.wrap .i64 ((IntKind.wrap .i64 (2 * x0)) + x1))] H fun r16 H16 =>
 tupK r16 fun l =>
 inI .i64 l fun x16a l_2 =>
 inI .i64 l_2 fun x16b l_3 =>
 nilK l_3 <|
 Q (.tuple ⟨[.int .i64 (mnI (mxI x16a 0) (mxI (IntKind.wrap .i64 (x2 - 1)) 0)), .int .i64 (mnI (mxI (IntKind.wrap .i64 ((IntKind.wrap .i64 (x16a + 7)) + x16b)) 0) (mxI (IntKind.wrap .i64 (x2 - 1)) 0))]⟩) H16
def f46 (vs : List Value) (H : AHeap) (Q : Value → AHeap → Prop) : Prop := g46 Q vs H

noncomputable def x46 (Q : Value → AHeap → Prop) : Pc := pc Try.prog 35 []
  []
  []
  []
  (shOf [])
  (shOf [])
  [.tmp 6, .tmp 7] Q
theorem m46 {Q : Value → AHeap → Prop} {vs : List Value} {H : AHeap} (h : g46 Q vs H) : Nat.ble vs.length 35 = true ∧ interp (x46 Q) kb0 (bodyOf Try.f46) [] (entry vs H) := by
  obtain ⟨_, _, rfl, h1⟩ := deI h
  obtain ⟨_, _, rfl, h2⟩ := deI h1
  obtain ⟨_, _, rfl, h3⟩ := deI h2
  obtain ⟨rfl, g⟩ := deN h3
  exact ⟨by kernel_rfl, Eq.mp (by kernel_rfl) g⟩
theorem c46 {vs : List Value} {H : AHeap} {Q : Value → AHeap → Prop} (h : f46 vs H Q) : call Try.prog 46 vs H Q :=
  call_of' noNG (X := x46 Q) (fn := Try.f46) (by kernel_rfl) (by kernel_rfl) (by kernel_rfl) (by kernel_rfl) (by kernel_rfl) (obl_of (n := 0) (by kernel_rfl) (by kernel_rfl) trivial) (m46 h).1 (m46 h).2

/-! ## 52 kinescope/kinescoperef13.Eighth -/

def g52_3 (Q : Value → AHeap → Prop) (kb : KB) (vs : List Value) (bs : List (List Value)) (H : AHeap) : Prop :=
 inI .i64 vs fun x0 vs =>
 inI .i64 vs fun x3 vs =>
 nilK vs <|
 nilX bs <|
 kb 2 [.int .i64 x0, .int .i64 (IntKind.wrap .i64 (x3 + 1))] [] H
def f52_3 (Q : Value → AHeap → Prop) : PT := g52_3 Q

def g52_4 (Q : Value → AHeap → Prop) (F3 : PT) (kb : KB) (vs : List Value) (bs : List (List Value)) (H : AHeap) : Prop :=
 inI .i64 vs fun x0 vs =>
 inI .i64 vs fun x3 vs =>
 nilK vs <|
 nilX bs <|
 bif (decide (((IntKind.wrap .i64 (x0 - (IntKind.wrap .i64 (8 * x3)))) : Int) > (-4))) then (
  bif (decide (((IntKind.wrap .i64 (x0 - (IntKind.wrap .i64 (8 * x3)))) : Int) < 4)) then (
   Q (.int .i64 x3) H
  ) else (
   bif (((IntKind.wrap .i64 (x0 - (IntKind.wrap .i64 (8 * x3)))) : Int) == 4) then (
    bif (decide ((x0 : Int) < 0)) then (
     Q (.int .i64 x3) H
    ) else (
     bif (((IntKind.wrap .i64 (x0 - (IntKind.wrap .i64 (8 * x3)))) : Int) == (-4)) then (
      bif (decide ((x0 : Int) > 0)) then (
       Q (.int .i64 x3) H
      ) else (
       F3 kb [.int .i64 x0, .int .i64 x3] [] H
      )
     ) else (
      F3 kb [.int .i64 x0, .int .i64 x3] [] H
     )
    )
   ) else (
    bif (((IntKind.wrap .i64 (x0 - (IntKind.wrap .i64 (8 * x3)))) : Int) == (-4)) then (
     bif (decide ((x0 : Int) > 0)) then (
      Q (.int .i64 x3) H
     ) else (
      F3 kb [.int .i64 x0, .int .i64 x3] [] H
     )
    ) else (
     F3 kb [.int .i64 x0, .int .i64 x3] [] H
    )
   )
  )
 ) else (
  bif (((IntKind.wrap .i64 (x0 - (IntKind.wrap .i64 (8 * x3)))) : Int) == 4) then (
   bif (decide ((x0 : Int) < 0)) then (
    Q (.int .i64 x3) H
   ) else (
    bif (((IntKind.wrap .i64 (x0 - (IntKind.wrap .i64 (8 * x3)))) : Int) == (-4)) then (
     bif (decide ((x0 : Int) > 0)) then (
      Q (.int .i64 x3) H
     ) else (
      F3 kb [.int .i64 x0, .int .i64 x3] [] H
     )
    ) else (
     F3 kb [.int .i64 x0, .int .i64 x3] [] H
    )
   )
  ) else (
   bif (((IntKind.wrap .i64 (x0 - (IntKind.wrap .i64 (8 * x3)))) : Int) == (-4)) then (
    bif (decide ((x0 : Int) > 0)) then (
     Q (.int .i64 x3) H
    ) else (
     F3 kb [.int .i64 x0, .int .i64 x3] [] H
    )
   ) else (
    F3 kb [.int .i64 x0, .int .i64 x3] [] H
   )
  )
 )
def f52_4 (Q : Value → AHeap → Prop) : PT := g52_4 Q (f52_3 Q)

def g52_7 (Q : Value → AHeap → Prop) (kb : KB) (vs : List Value) (bs : List (List Value)) (H : AHeap) : Prop :=
 nilK vs <|
 nilX bs <|
 Q (.int .i64 0) H
def f52_7 (Q : Value → AHeap → Prop) : PT := g52_7 Q

def g52_l2 (Q : Value → AHeap → Prop) (F4 F7 : PT) (kb : KB) (vs : List Value) (bs : List (List Value)) (H : AHeap) : Prop :=
 inI .i64 vs fun x0 vs =>
 inI .i64 vs fun x3 vs =>
 nilK vs <|
 nilX bs <|
 bif (decide ((x3 : Int) ≤ 64)) then (
  F4 kb [.int .i64 x0, .int .i64 x3] [] H
 ) else (
  F7 kb [] [] H
 )
def f52_l2 (Q : Value → AHeap → Prop) : PT := g52_l2 Q (f52_4 Q) (f52_7 Q)

/-- kinescope/kinescoperef13.Eighth -/
def g52 (Q : Value → AHeap → Prop) (L2 : PT) (vs : List Value) (H : AHeap) : Prop :=
 inI .i64 vs fun x0 vs =>
 nilK vs <|
 lpW L2 kb0 2 [.int .i64 x0, .int .i64 (-64)] [] H
def f52 (vs : List Value) (H : AHeap) (Q : Value → AHeap → Prop) : Prop := g52 Q (f52_l2 Q) vs H

noncomputable def x52 (Q : Value → AHeap → Prop) (F3 F4 F7 L2 : PT) : Pc := pc Try.prog 36 []
  [(3, ⟨[0, 3], [], []⟩), (4, ⟨[0, 3], [], []⟩), (7, ⟨[], [], []⟩)]
  [(2, ⟨[0, 3], [], []⟩)]
  []
  (shOf [(3, F3), (4, F4), (7, F7)])
  (shOf [(2, L2)])
  [.tmp 2] Q
theorem o52_0 (Q : Value → AHeap → Prop) (F3 F4 L2 : PT) : cutOK (x52 Q F3 F4 (g52_7 Q) L2) (cutAt (bodyOf Try.f52) 0) := by
  refine cutOK_of (F := g52_7 Q) (by kernel_rfl) ?_
  intro kb vs bs H h
  obtain ⟨rfl, g⟩ := deN h
  obtain ⟨rfl, k⟩ := deNX g
  exact Eq.mp (by kernel_rfl) k
theorem o52_1 (Q : Value → AHeap → Prop) (F3 F4 F7 : PT) : cutOK (x52 Q F3 F4 F7 (g52_l2 Q F4 F7)) (cutAt (bodyOf Try.f52) 1) := by
  refine cutOK_of (F := g52_l2 Q F4 F7) (by kernel_rfl) ?_
  intro kb vs bs H h
  obtain ⟨_, _, rfl, h1⟩ := deI h
  obtain ⟨_, _, rfl, h2⟩ := deI h1
  obtain ⟨rfl, g⟩ := deN h2
  obtain ⟨rfl, k⟩ := deNX g
  exact Eq.mp (by kernel_rfl) k
theorem o52_2 (Q : Value → AHeap → Prop) (F3 F7 L2 : PT) : cutOK (x52 Q F3 (g52_4 Q F3) F7 L2) (cutAt (bodyOf Try.f52) 2) := by
  refine cutOK_of (F := g52_4 Q F3) (by kernel_rfl) ?_
  intro kb vs bs H h
  obtain ⟨_, _, rfl, h1⟩ := deI h
  obtain ⟨_, _, rfl, h2⟩ := deI h1
  obtain ⟨rfl, g⟩ := deN h2
  obtain ⟨rfl, k⟩ := deNX g
  exact Eq.mp (by kernel_rfl) k
theorem o52_3 (Q : Value → AHeap → Prop) (F4 F7 L2 : PT) : cutOK (x52 Q (g52_3 Q) F4 F7 L2) (cutAt (bodyOf Try.f52) 3) := by
  refine cutOK_of (F := g52_3 Q) (by kernel_rfl) ?_
  intro kb vs bs H h
  obtain ⟨_, _, rfl, h1⟩ := deI h
  obtain ⟨_, _, rfl, h2⟩ := deI h1
  obtain ⟨rfl, g⟩ := deN h2
  obtain ⟨rfl, k⟩ := deNX g
  exact Eq.mp (by kernel_rfl) k
theorem m52 {Q : Value → AHeap → Prop} (F3 F4 F7 L2 : PT) {vs : List Value} {H : AHeap} (h : g52 Q L2 vs H) : Nat.ble vs.length 36 = true ∧ interp (x52 Q F3 F4 F7 L2) kb0 (bodyOf Try.f52) [] (entry vs H) := by
  obtain ⟨_, _, rfl, h1⟩ := deI h
  obtain ⟨rfl, g⟩ := deN h1
  exact ⟨by kernel_rfl, Eq.mp (by kernel_rfl) g⟩
theorem c52 {vs : List Value} {H : AHeap} {Q : Value → AHeap → Prop} (h : f52 vs H Q) : call Try.prog 52 vs H Q :=
  call_of' noNG (X := x52 Q (f52_3 Q) (f52_4 Q) (f52_7 Q) (f52_l2 Q)) (fn := Try.f52) (by kernel_rfl) (by kernel_rfl) (by kernel_rfl) (by kernel_rfl) (by kernel_rfl) (obl_of (n := 4) (by kernel_rfl) (by kernel_rfl) ⟨o52_0 Q (f52_3 Q) (f52_4 Q) (f52_l2 Q), o52_1 Q (f52_3 Q) (f52_4 Q) (f52_7 Q), o52_2 Q (f52_3 Q) (f52_7 Q) (f52_l2 Q), o52_3 Q (f52_4 Q) (f52_7 Q) (f52_l2 Q), trivial⟩) (m52 (f52_3 Q) (f52_4 Q) (f52_7 Q) (f52_l2 Q) h).1 (m52 (f52_3 Q) (f52_4 Q) (f52_7 Q) (f52_l2 Q) h).2

/-! ## 11 kinescope/kinescopelaw28.may -/

def g11_6 (Q : Value → AHeap → Prop) (kb : KB) (vs : List Value) (bs : List (List Value)) (H : AHeap) : Prop :=
 inI .i64 vs fun x0 vs =>
 inI .i64 vs fun x1 vs =>
 inI .i64 vs fun x2 vs =>
 inA 4 vs fun l13 vs =>
 inI .i64 vs fun x14 vs =>
 nilK vs <|
 inX bs fun y7 bs =>
 nilX bs <|
 kb 2 [.int .i64 x0, .int .i64 x1, .int .i64 x2, .agg ⟨l13⟩, .int .i64 (IntKind.wrap .i64 (x14 + 1))] [y7] H
def f11_6 (Q : Value → AHeap → Prop) : PT := g11_6 Q

def g11_3 (Q : Value → AHeap → Prop) (F6 : PT) (kb : KB) (vs : List Value) (bs : List (List Value)) (H : AHeap) : Prop :=
 inI .i64 vs fun x0 vs =>
 inI .i64 vs fun x1 vs =>
 inI .i64 vs fun x2 vs =>
 inA 4 vs fun l13 vs =>
 inI .i64 vs fun x14 vs =>
 nilK vs <|
 inX bs fun y7 bs =>
 nilX bs <|
 aidx x14 4 fun j16 =>
 rC l13 (j16 * 1) fun r16 i16 =>
 call Try.prog 23 [.complex .f64 r16 i16] H fun r18 H18 =>
 asB r18 fun c18 =>
 bif (!c18) then (
  Q (.bool false) H18
 ) else (
  F6 kb [.int .i64 x0, .int .i64 x1, .int .i64 x2, .agg ⟨l13⟩, .int .i64 x14] [y7] H18
 )
def f11_3 (Q : Value → AHeap → Prop) : PT := g11_3 Q (f11_6 Q)

def g11_7 (Q : Value → AHeap → Prop) (kb : KB) (vs : List Value) (bs : List (List Value)) (H : AHeap) : Prop :=
 inI .i64 vs fun x0 vs =>
 inI .i64 vs fun x1 vs =>
 inI .i64 vs fun x2 vs =>
 nilK vs <|
 inX bs fun y7 bs =>
 nilX bs <|
 rA 4 y7 0 fun l24 =>
 call Try.prog 25 [.agg ⟨l24⟩] H fun r25 H25 =>
 asA 395 r25 fun l25 =>
 call Try.prog 24 [.int .i64 x0, .int .i64 9, .int .i64 x2, .agg ⟨l25⟩] H25 fun r26 H26 =>
 tupK r26 fun l =>
 inSl l fun a26a n26a z26a l_2 =>
 inI .i64 l_2 fun x26b l_3 =>
 nilK l_3 <|
 bif (decide ((x1 : Int) ≤ 0)) then (
  Q (.bool true) H26
 ) else (
  Q (.bool (decide ((x26b : Int) < x1))) H26
 )
def f11_7 (Q : Value → AHeap → Prop) : PT := g11_7 Q

def g11_l2 (Q : Value → AHeap → Prop) (F3 F7 : PT) (kb : KB) (vs : List Value) (bs : List (List Value)) (H : AHeap) : Prop :=
 inI .i64 vs fun x0 vs =>
 inI .i64 vs fun x1 vs =>
 inI .i64 vs fun x2 vs =>
 inA 4 vs fun l13 vs =>
 inI .i64 vs fun x14 vs =>
 nilK vs <|
 inX bs fun y7 bs =>
 nilX bs <|
 bif (decide ((x14 : Int) < 4)) then (
  F3 kb [.int .i64 x0, .int .i64 x1, .int .i64 x2, .agg ⟨l13⟩, .int .i64 x14] [y7] H
 ) else (
  F7 kb [.int .i64 x0, .int .i64 x1, .int .i64 x2] [y7] H
 )
def f11_l2 (Q : Value → AHeap → Prop) : PT := g11_l2 Q (f11_3 Q) (f11_7 Q)

/-- kinescope/kinescopelaw28.may -/
def g11 (Q : Value → AHeap → Prop) (L2 : PT) (vs : List Value) (H : AHeap) : Prop :=
 inI .i64 vs fun x0 vs =>
 inI .i64 vs fun x1 vs =>
 inI .i64 vs fun x2 vs =>
 inA 4 vs fun l3 vs =>
 nilK vs <|
 gd (l3.length = 4) <|
 rA 4 l3 0 fun l13 =>
 lpW L2 kb0 2 [.int .i64 x0, .int .i64 x1, .int .i64 x2, .agg ⟨l13⟩, .int .i64 0] [l3] H
def f11 (vs : List Value) (H : AHeap) (Q : Value → AHeap → Prop) : Prop := g11 Q (f11_l2 Q) vs H

noncomputable def x11 (Q : Value → AHeap → Prop) (F6 F3 F7 L2 : PT) : Pc := pc Try.prog 36 [(7, 7)]
  [(6, ⟨[0, 1, 2, 13, 14], [(7, 7)], [7]⟩), (3, ⟨[0, 1, 2, 13, 14], [(7, 7)], [7]⟩), (7, ⟨[0, 1, 2], [(7, 7)], [7]⟩)]
  [(2, ⟨[0, 1, 2, 13, 14], [(7, 7)], [7]⟩)]
  []
  (shOf [(6, F6), (3, F3), (7, F7)])
  (shOf [(2, L2)])
  [.tmp 8] Q
theorem o11_0 (Q : Value → AHeap → Prop) (F6 F3 L2 : PT) : cutOK (x11 Q F6 F3 (g11_7 Q) L2) (cutAt (bodyOf Try.f11) 0) := by
  refine cutOK_of (F := g11_7 Q) (by kernel_rfl) ?_
  intro kb vs bs H h
  obtain ⟨_, _, rfl, h1⟩ := deI h
  obtain ⟨_, _, rfl, h2⟩ := deI h1
  obtain ⟨_, _, rfl, h3⟩ := deI h2
  obtain ⟨rfl, g⟩ := deN h3
  obtain ⟨_, _, rfl, g1⟩ := deX g
  obtain ⟨rfl, k⟩ := deNX g1
  exact Eq.mp (by kernel_rfl) k
theorem o11_1 (Q : Value → AHeap → Prop) (F6 F3 F7 : PT) : cutOK (x11 Q F6 F3 F7 (g11_l2 Q F3 F7)) (cutAt (bodyOf Try.f11) 1) := by
  refine cutOK_of (F := g11_l2 Q F3 F7) (by kernel_rfl) ?_
  intro kb vs bs H h
  obtain ⟨_, _, rfl, h1⟩ := deI h
  obtain ⟨_, _, rfl, h2⟩ := deI h1
  obtain ⟨_, _, rfl, h3⟩ := deI h2
  obtain ⟨_, _, rfl, h4⟩ := deA h3
  obtain ⟨_, _, rfl, h5⟩ := deI h4
  obtain ⟨rfl, g⟩ := deN h5
  obtain ⟨_, _, rfl, g1⟩ := deX g
  obtain ⟨rfl, k⟩ := deNX g1
  exact Eq.mp (by kernel_rfl) k
theorem o11_2 (Q : Value → AHeap → Prop) (F6 F7 L2 : PT) : cutOK (x11 Q F6 (g11_3 Q F6) F7 L2) (cutAt (bodyOf Try.f11) 2) := by
  refine cutOK_of (F := g11_3 Q F6) (by kernel_rfl) ?_
  intro kb vs bs H h
  obtain ⟨_, _, rfl, h1⟩ := deI h
  obtain ⟨_, _, rfl, h2⟩ := deI h1
  obtain ⟨_, _, rfl, h3⟩ := deI h2
  obtain ⟨_, _, rfl, h4⟩ := deA h3
  obtain ⟨_, _, rfl, h5⟩ := deI h4
  obtain ⟨rfl, g⟩ := deN h5
  obtain ⟨_, _, rfl, g1⟩ := deX g
  obtain ⟨rfl, k⟩ := deNX g1
  exact Eq.mp (by kernel_rfl) k
theorem o11_3 (Q : Value → AHeap → Prop) (F3 F7 L2 : PT) : cutOK (x11 Q (g11_6 Q) F3 F7 L2) (cutAt (bodyOf Try.f11) 3) := by
  refine cutOK_of (F := g11_6 Q) (by kernel_rfl) ?_
  intro kb vs bs H h
  obtain ⟨_, _, rfl, h1⟩ := deI h
  obtain ⟨_, _, rfl, h2⟩ := deI h1
  obtain ⟨_, _, rfl, h3⟩ := deI h2
  obtain ⟨_, _, rfl, h4⟩ := deA h3
  obtain ⟨_, _, rfl, h5⟩ := deI h4
  obtain ⟨rfl, g⟩ := deN h5
  obtain ⟨_, _, rfl, g1⟩ := deX g
  obtain ⟨rfl, k⟩ := deNX g1
  exact Eq.mp (by kernel_rfl) k
theorem m11 {Q : Value → AHeap → Prop} (F6 F3 F7 L2 : PT) {vs : List Value} {H : AHeap} (h : g11 Q L2 vs H) : Nat.ble vs.length 36 = true ∧ interp (x11 Q F6 F3 F7 L2) kb0 (bodyOf Try.f11) [] (entry vs H) := by
  obtain ⟨_, _, rfl, h1⟩ := deI h
  obtain ⟨_, _, rfl, h2⟩ := deI h1
  obtain ⟨_, _, rfl, h3⟩ := deI h2
  obtain ⟨_, _, rfl, h4⟩ := deA h3
  obtain ⟨rfl, g⟩ := deN h4
  exact ⟨by kernel_rfl, Eq.mp (by kernel_rfl) g⟩
theorem c11 {vs : List Value} {H : AHeap} {Q : Value → AHeap → Prop} (h : f11 vs H Q) : call Try.prog 11 vs H Q :=
  call_of' noNG (X := x11 Q (f11_6 Q) (f11_3 Q) (f11_7 Q) (f11_l2 Q)) (fn := Try.f11) (by kernel_rfl) (by kernel_rfl) (by kernel_rfl) (by kernel_rfl) (by kernel_rfl) (obl_of (n := 4) (by kernel_rfl) (by kernel_rfl) ⟨o11_0 Q (f11_6 Q) (f11_3 Q) (f11_l2 Q), o11_1 Q (f11_6 Q) (f11_3 Q) (f11_7 Q), o11_2 Q (f11_6 Q) (f11_7 Q) (f11_l2 Q), o11_3 Q (f11_3 Q) (f11_7 Q) (f11_l2 Q), trivial⟩) (m11 (f11_6 Q) (f11_3 Q) (f11_7 Q) (f11_l2 Q) h).1 (m11 (f11_6 Q) (f11_3 Q) (f11_7 Q) (f11_l2 Q) h).2

end Go.Am
