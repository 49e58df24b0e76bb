/- printed: functions 5 10 14 26 12 8 23 41 42 45 49 50 51 25 30 44 -/
import Derived.Test.YtkidkceaocgnfaaT2
set_option maxRecDepth 100000
set_option linter.all false
namespace Go.Am
open Go.Proofs
/-! ## 5 (kinescope/kinescopelaw06.Small).Light -/

/-- (kinescope/kinescopelaw06.Small).Light -/
def g5 (Q : Value → AHeap → Prop) (vs : List Value) (H : AHeap) : Prop :=
 inA 8 vs fun l0 vs =>
 nilK vs <|
 gd (l0.length = 8) <|
 rSl l0 7 fun a4 n4 z4 =>
 Q (.bool (decide (((n4 : Int) : Int) ≤ 2000))) H
def f5 (vs : List Value) (H : AHeap) (Q : Value → AHeap → Prop) : Prop := g5 Q vs H

noncomputable def x5 (Q : Value → AHeap → Prop) : Pc := pc Try.prog 7 [(1, 1), (3, 1)]
  []
  []
  []
  (shOf [])
  (shOf [])
  [.tmp 2] Q
theorem m5 {Q : Value → AHeap → Prop} {vs : List Value} {H : AHeap} (h : g5 Q vs H) : Nat.ble vs.length 7 = true ∧ interp (x5 Q) kb0 (bodyOf Try.f5) [] (entry vs H) := by
  obtain ⟨_, _, rfl, h1⟩ := deA h
  obtain ⟨rfl, g⟩ := deN h1
  exact ⟨by kernel_rfl, Eq.mp (by kernel_rfl) g⟩
theorem c5 {vs : List Value} {H : AHeap} {Q : Value → AHeap → Prop} (h : f5 vs H Q) : call Try.prog 5 vs H Q :=
  call_of' noNG (X := x5 Q) (fn := Try.f5) (by kernel_rfl) (by kernel_rfl) (by kernel_rfl) (by kernel_rfl) (by kernel_rfl) (obl_of (n := 0) (by kernel_rfl) (by kernel_rfl) trivial) (m5 h).1 (m5 h).2

/-! ## 10 kinescope/comp.All -/

/-- kinescope/comp.All -/
def g10 (Q : Value → AHeap → Prop) (vs : List Value) (H : AHeap) : Prop :=
 inC vs fun r0 i0 vs =>
 nilK vs <|
 Q (.agg ⟨[.complex .f64 r0 i0, .complex .f64 r0 i0, .complex .f64 r0 i0, .complex .f64 r0 i0]⟩) H
def f10 (vs : List Value) (H : AHeap) (Q : Value → AHeap → Prop) : Prop := g10 Q vs H

noncomputable def x10 (Q : Value → AHeap → Prop) : Pc := pc Try.prog 8 [(2, 2)]
  []
  []
  []
  (shOf [])
  (shOf [])
  [.cell 2 37] Q
theorem m10 {Q : Value → AHeap → Prop} {vs : List Value} {H : AHeap} (h : g10 Q vs H) : Nat.ble vs.length 8 = true ∧ interp (x10 Q) kb0 (bodyOf Try.f10) [] (entry vs H) := by
  obtain ⟨_, _, _, rfl, h1⟩ := deC h
  obtain ⟨rfl, g⟩ := deN h1
  exact ⟨by kernel_rfl, Eq.mp (by kernel_rfl) g⟩
theorem c10 {vs : List Value} {H : AHeap} {Q : Value → AHeap → Prop} (h : f10 vs H Q) : call Try.prog 10 vs H Q :=
  call_of' noNG (X := x10 Q) (fn := Try.f10) (by kernel_rfl) (by kernel_rfl) (by kernel_rfl) (by kernel_rfl) (by kernel_rfl) (obl_of (n := 0) (by kernel_rfl) (by kernel_rfl) trivial) (m10 h).1 (m10 h).2

/-! ## 14 kinescope/vec.Of -/

/-- kinescope/vec.Of -/
def g14 (Q : Value → AHeap → Prop) (vs : List Value) (H : AHeap) : Prop :=
 inI .i64 vs fun x0 vs =>
 inI .i64 vs fun x1 vs =>
 nilK vs <|
 Q (.complex .f64 (FloatKind.f64.nearest (x0 : Int)) (FloatKind.f64.nearest (x1 : Int))) H
def f14 (vs : List Value) (H : AHeap) (Q : Value → AHeap → Prop) : Prop := g14 Q vs H

noncomputable def x14 (Q : Value → AHeap → Prop) : Pc := pc Try.prog 10 []
  []
  []
  []
  (shOf [])
  (shOf [])
  [.tmp 4] Q
theorem m14 {Q : Value → AHeap → Prop} {vs : List Value} {H : AHeap} (h : g14 Q vs H) : Nat.ble vs.length 10 = true ∧ interp (x14 Q) kb0 (bodyOf Try.f14) [] (entry vs H) := by
  obtain ⟨_, _, rfl, h1⟩ := deI h
  obtain ⟨_, _, rfl, h2⟩ := deI h1
  obtain ⟨rfl, g⟩ := deN h2
  exact ⟨by kernel_rfl, Eq.mp (by kernel_rfl) g⟩
theorem c14 {vs : List Value} {H : AHeap} {Q : Value → AHeap → Prop} (h : f14 vs H Q) : call Try.prog 14 vs H Q :=
  call_of' noNG (X := x14 Q) (fn := Try.f14) (by kernel_rfl) (by kernel_rfl) (by kernel_rfl) (by kernel_rfl) (by kernel_rfl) (obl_of (n := 0) (by kernel_rfl) (by kernel_rfl) trivial) (m14 h).1 (m14 h).2

/-! ## 26 kinescope/vec.whole -/

def g26_7 (Q : Value → AHeap → Prop) (kb : KB) (vs : List Value) (bs : List (List Value)) (H : AHeap) : Prop :=
 inF vs fun f0 vs =>
 nilK vs <|
 nilX bs <|
 f2i .i64 f0 fun x14 =>
 Q (.int .i64 x14) H
def f26_7 (Q : Value → AHeap → Prop) : PT := g26_7 Q

/-- kinescope/vec.whole -/
def g26 (Q : Value → AHeap → Prop) (F7 : PT) (vs : List Value) (H : AHeap) : Prop :=
 inF vs fun f0 vs =>
 nilK vs <|
 bif (!fEq .f64 f0 f0) then (
  Q (.int .i64 0) H
 ) else (
  bif (fGt .f64 f0 4634204016564240384) then (
   Q (.int .i64 64) H
  ) else (
   bif (fLt .f64 f0 13857576053419016192) then (
    Q (.int .i64 (-64)) H
   ) else (
    F7 kb0 [.float .f64 f0] [] H
   )
  )
 )
def f26 (vs : List Value) (H : AHeap) (Q : Value → AHeap → Prop) : Prop := g26 Q (f26_7 Q) vs H

noncomputable def x26 (Q : Value → AHeap → Prop) (F7 : PT) : Pc := pc Try.prog 15 []
  [(7, ⟨[0], [], []⟩)]
  []
  []
  (shOf [(7, F7)])
  (shOf [])
  [.tmp 2] Q
theorem o26_0 (Q : Value → AHeap → Prop) : cutOK (x26 Q (g26_7 Q)) (cutAt (bodyOf Try.f26) 0) := by
  refine cutOK_of (F := g26_7 Q) (by kernel_rfl) ?_
  intro kb vs bs H h
  obtain ⟨_, _, rfl, h1⟩ := deF h
  obtain ⟨rfl, g⟩ := deN h1
  obtain ⟨rfl, k⟩ := deNX g
  exact Eq.mp (by kernel_rfl) k
theorem m26 {Q : Value → AHeap → Prop} (F7 : PT) {vs : List Value} {H : AHeap} (h : g26 Q F7 vs H) : Nat.ble vs.length 15 = true ∧ interp (x26 Q F7) kb0 (bodyOf Try.f26) [] (entry vs H) := by
  obtain ⟨_, _, rfl, h1⟩ := deF h
  obtain ⟨rfl, g⟩ := deN h1
  exact ⟨by kernel_rfl, Eq.mp (by kernel_rfl) g⟩
theorem c26 {vs : List Value} {H : AHeap} {Q : Value → AHeap → Prop} (h : f26 vs H Q) : call Try.prog 26 vs H Q :=
  call_of' noNG (X := x26 Q (f26_7 Q)) (fn := Try.f26) (by kernel_rfl) (by kernel_rfl) (by kernel_rfl) (by kernel_rfl) (by kernel_rfl) (obl_of (n := 1) (by kernel_rfl) (by kernel_rfl) ⟨o26_0 Q, trivial⟩) (m26 (f26_7 Q) h).1 (m26 (f26_7 Q) h).2

/-! ## 12 kinescope/vec.Parts -/

/-- kinescope/vec.Parts -/
def g12 (Q : Value → AHeap → Prop) (vs : List Value) (H : AHeap) : Prop :=
 inC vs fun r0 i0 vs =>
 nilK vs <|
 call Try.prog 26 [.float .f64 r0] H fun r6 H6 =>
 asI .i64 r6 fun x6 =>
 call Try.prog 26 [.float .f64 i0] H6 fun r9 H9 =>
 asI .i64 r9 fun x9 =>
 Q (.tuple ⟨[.int .i64 x6, .int .i64 x9]⟩) H9
def f12 (vs : List Value) (H : AHeap) (Q : Value → AHeap → Prop) : Prop := g12 Q vs H

noncomputable def x12 (Q : Value → AHeap → Prop) : Pc := pc Try.prog 10 []
  []
  []
  []
  (shOf [])
  (shOf [])
  [.tmp 2, .tmp 3] Q
theorem m12 {Q : Value → AHeap → Prop} {vs : List Value} {H : AHeap} (h : g12 Q vs H) : Nat.ble vs.length 10 = true ∧ interp (x12 Q) kb0 (bodyOf Try.f12) [] (entry vs H) := by
  obtain ⟨_, _, _, rfl, h1⟩ := deC h
  obtain ⟨rfl, g⟩ := deN h1
  exact ⟨by kernel_rfl, Eq.mp (by kernel_rfl) g⟩
theorem c12 {vs : List Value} {H : AHeap} {Q : Value → AHeap → Prop} (h : f12 vs H Q) : call Try.prog 12 vs H Q :=
  call_of' noNG (X := x12 Q) (fn := Try.f12) (by kernel_rfl) (by kernel_rfl) (by kernel_rfl) (by kernel_rfl) (by kernel_rfl) (obl_of (n := 0) (by kernel_rfl) (by kernel_rfl) trivial) (m12 h).1 (m12 h).2

/-! ## 8 kinescope/kinescopelaw12.Small -/

/-- kinescope/kinescopelaw12.Small -/
def g8 (Q : Value → AHeap → Prop) (vs : List Value) (H : AHeap) : Prop :=
 inI .i8 vs fun x0 vs =>
 inI .i8 vs fun x1 vs =>
 nilK vs <|
 call Try.prog 14 [.int .i64 ((IntKind.wrap .i64 x0).tmod 32), .int .i64 ((IntKind.wrap .i64 x1).tmod 32)] H fun r11 H11 =>
 asC r11 fun r11_2 i11 =>
 Q (.complex .f64 r11_2 i11) H11
def f8 (vs : List Value) (H : AHeap) (Q : Value → AHeap → Prop) : Prop := g8 Q vs H

noncomputable def x8 (Q : Value → AHeap → Prop) : Pc := pc Try.prog 12 []
  []
  []
  []
  (shOf [])
  (shOf [])
  [.tmp 4] Q
theorem m8 {Q : Value → AHeap → Prop} {vs : List Value} {H : AHeap} (h : g8 Q vs H) : Nat.ble vs.length 12 = true ∧ interp (x8 Q) kb0 (bodyOf Try.f8) [] (entry vs H) := by
  obtain ⟨_, _, rfl, h1⟩ := deI h
  obtain ⟨_, _, rfl, h2⟩ := deI h1
  obtain ⟨rfl, g⟩ := deN h2
  exact ⟨by kernel_rfl, Eq.mp (by kernel_rfl) g⟩
theorem c8 {vs : List Value} {H : AHeap} {Q : Value → AHeap → Prop} (h : f8 vs H Q) : call Try.prog 8 vs H Q :=
  call_of' noNG (X := x8 Q) (fn := Try.f8) (by kernel_rfl) (by kernel_rfl) (by kernel_rfl) (by kernel_rfl) (by kernel_rfl) (obl_of (n := 0) (by kernel_rfl) (by kernel_rfl) trivial) (m8 h).1 (m8 h).2

/-! ## 23 kinescope/vec.Right -/

/-- kinescope/vec.Right -/
def g23 (Q : Value → AHeap → Prop) (vs : List Value) (H : AHeap) : Prop :=
 inC vs fun r0 i0 vs =>
 nilK vs <|
 call Try.prog 12 [.complex .f64 r0 i0] H fun r7 H7 =>
 tupK r7 fun l =>
 inI .i64 l fun x7a l_2 =>
 inI .i64 l_2 fun x7b l_3 =>
 nilK l_3 <|
 call Try.prog 14 [.int .i64 x7a, .int .i64 x7b] H7 fun r12 H12 =>
 asC r12 fun r12_2 i12 =>
 bif (fEq .f64 r12_2 r0 && fEq .f64 i12 i0) then (
  bif (decide (((mxI x7a (IntKind.wrap .i64 (0 - x7a))) : Int) ≤ 31)) then (
   Q (.bool (decide (((mxI x7b (IntKind.wrap .i64 (0 - x7b))) : Int) ≤ 31))) H12
  ) else (
   Q (.bool false) H12
  )
 ) else (
  Q (.bool false) H12
 )
def f23 (vs : List Value) (H : AHeap) (Q : Value → AHeap → Prop) : Prop := g23 Q vs H

noncomputable def x23 (Q : Value → AHeap → Prop) : Pc := pc Try.prog 29 []
  []
  []
  []
  (shOf [])
  (shOf [])
  [.tmp 2] Q
theorem m23 {Q : Value → AHeap → Prop} {vs : List Value} {H : AHeap} (h : g23 Q vs H) : Nat.ble vs.length 29 = true ∧ interp (x23 Q) kb0 (bodyOf Try.f23) [] (entry vs H) := by
  obtain ⟨_, _, _, rfl, h1⟩ := deC h
  obtain ⟨rfl, g⟩ := deN h1
  exact ⟨by kernel_rfl, Eq.mp (by kernel_rfl) g⟩
theorem c23 {vs : List Value} {H : AHeap} {Q : Value → AHeap → Prop} (h : f23 vs H Q) : call Try.prog 23 vs H Q :=
  call_of' noNG (X := x23 Q) (fn := Try.f23) (by kernel_rfl) (by kernel_rfl) (by kernel_rfl) (by kernel_rfl) (by kernel_rfl) (obl_of (n := 0) (by kernel_rfl) (by kernel_rfl) trivial) (m23 h).1 (m23 h).2

/-! ## 41 kinescope/kinescoperef13.floor -/

def g41_4 (Q : Value → AHeap → Prop) (kb : KB) (vs : List Value) (bs : List (List Value)) (H : AHeap) : Prop :=
 inI .i64 vs fun x0 vs =>
 inI .i64 vs fun x4 vs =>
 nilK vs <|
 nilX bs <|
 Q (.tuple ⟨[.int .i64 (IntKind.wrap .i64 ((IntKind.wrap .i64 (x0 - x4)).tdiv 2)), .int .i64 x4]⟩) H
def f41_4 (Q : Value → AHeap → Prop) : PT := g41_4 Q

/-- kinescope/kinescoperef13.floor -/
def g41 (Q : Value → AHeap → Prop) (F4 : PT) (vs : List Value) (H : AHeap) : Prop :=
 inI .i64 vs fun x0 vs =>
 nilK vs <|
 bif (decide (((x0.tmod 2) : Int) < 0)) then (
  F4 kb0 [.int .i64 x0, .int .i64 1] [] H
 ) else (
  F4 kb0 [.int .i64 x0, .int .i64 (x0.tmod 2)] [] H
 )
def f41 (vs : List Value) (H : AHeap) (Q : Value → AHeap → Prop) : Prop := g41 Q (f41_4 Q) vs H

noncomputable def x41 (Q : Value → AHeap → Prop) (F4 : PT) : Pc := pc Try.prog 14 []
  [(4, ⟨[0, 4], [], []⟩)]
  []
  []
  (shOf [(4, F4)])
  (shOf [])
  [.tmp 2, .tmp 3] Q
theorem o41_0 (Q : Value → AHeap → Prop) : cutOK (x41 Q (g41_4 Q)) (cutAt (bodyOf Try.f41) 0) := by
  refine cutOK_of (F := g41_4 Q) (by kernel_rfl) ?_
  intro kb vs bs H h
  obtain ⟨_, _, rfl, h1⟩ := deI h
  obtain ⟨_, _, rfl, h2⟩ := deI h1
  obtain ⟨rfl, g⟩ := deN h2
  obtain ⟨rfl, k⟩ := deNX g
  exact Eq.mp (by kernel_rfl) k
theorem m41 {Q : Value → AHeap → Prop} (F4 : PT) {vs : List Value} {H : AHeap} (h : g41 Q F4 vs H) : Nat.ble vs.length 14 = true ∧ interp (x41 Q F4) kb0 (bodyOf Try.f41) [] (entry vs H) := by
  obtain ⟨_, _, rfl, h1⟩ := deI h
  obtain ⟨rfl, g⟩ := deN h1
  exact ⟨by kernel_rfl, Eq.mp (by kernel_rfl) g⟩
theorem c41 {vs : List Value} {H : AHeap} {Q : Value → AHeap → Prop} (h : f41 vs H Q) : call Try.prog 41 vs H Q :=
  call_of' noNG (X := x41 Q (f41_4 Q)) (fn := Try.f41) (by kernel_rfl) (by kernel_rfl) (by kernel_rfl) (by kernel_rfl) (by kernel_rfl) (obl_of (n := 1) (by kernel_rfl) (by kernel_rfl) ⟨o41_0 Q, trivial⟩) (m41 (f41_4 Q) h).1 (m41 (f41_4 Q) h).2

/-! ## 42 kinescope/kinescoperef13.inside -/

def g42_5 (Q : Value → AHeap → Prop) (kb : KB) (vs : List Value) (bs : List (List Value)) (H : AHeap) : Prop :=
 inI .i64 vs fun x0 vs =>
 nilK vs <|
 nilX bs <|
 Q (.int .i64 x0) H
def f42_5 (Q : Value → AHeap → Prop) : PT := g42_5 Q

def g42_3 (Q : Value → AHeap → Prop) (F5 : PT) (kb : KB) (vs : List Value) (bs : List (List Value)) (H : AHeap) : Prop :=
 inI .i64 vs fun x0 vs =>
 inI .i64 vs fun x1 vs =>
 nilK vs <|
 nilX bs <|
 bif (decide ((x0 : Int) > (IntKind.wrap .i64 (x1 - 1)))) then (
  Q (.int .i64 (IntKind.wrap .i64 (x1 - 1))) H
 ) else (
  F5 kb [.int .i64 x0] [] H
 )
def f42_3 (Q : Value → AHeap → Prop) : PT := g42_3 Q (f42_5 Q)

/-- kinescope/kinescoperef13.inside -/
def g42 (Q : Value → AHeap → Prop) (F3 : PT) (vs : List Value) (H : AHeap) : Prop :=
 inI .i64 vs fun x0 vs =>
 inI .i64 vs fun x1 vs =>
 nilK vs <|
 bif (decide ((x0 : Int) < 0)) then (
  Q (.int .i64 0) H
 ) else (
  F3 kb0 [.int .i64 x0, .int .i64 x1] [] H
 )
def f42 (vs : List Value) (H : AHeap) (Q : Value → AHeap → Prop) : Prop := g42 Q (f42_3 Q) vs H

noncomputable def x42 (Q : Value → AHeap → Prop) (F5 F3 : PT) : Pc := pc Try.prog 14 []
  [(5, ⟨[0], [], []⟩), (3, ⟨[0, 1], [], []⟩)]
  []
  []
  (shOf [(5, F5), (3, F3)])
  (shOf [])
  [.tmp 4] Q
theorem o42_0 (Q : Value → AHeap → Prop) (F5 : PT) : cutOK (x42 Q F5 (g42_3 Q F5)) (cutAt (bodyOf Try.f42) 0) := by
  refine cutOK_of (F := g42_3 Q F5) (by kernel_rfl) ?_
  intro kb vs bs H h
  obtain ⟨_, _, rfl, h1⟩ := deI h
  obtain ⟨_, _, rfl, h2⟩ := deI h1
  obtain ⟨rfl, g⟩ := deN h2
  obtain ⟨rfl, k⟩ := deNX g
  exact Eq.mp (by kernel_rfl) k
theorem o42_1 (Q : Value → AHeap → Prop) (F3 : PT) : cutOK (x42 Q (g42_5 Q) F3) (cutAt (bodyOf Try.f42) 1) := by
  refine cutOK_of (F := g42_5 Q) (by kernel_rfl) ?_
  intro kb vs bs H h
  obtain ⟨_, _, rfl, h1⟩ := deI h
  obtain ⟨rfl, g⟩ := deN h1
  obtain ⟨rfl, k⟩ := deNX g
  exact Eq.mp (by kernel_rfl) k
theorem m42 {Q : Value → AHeap → Prop} (F5 F3 : PT) {vs : List Value} {H : AHeap} (h : g42 Q F3 vs H) : Nat.ble vs.length 14 = true ∧ interp (x42 Q F5 F3) kb0 (bodyOf Try.f42) [] (entry vs H) := by
  obtain ⟨_, _, rfl, h1⟩ := deI h
  obtain ⟨_, _, rfl, h2⟩ := deI h1
  obtain ⟨rfl, g⟩ := deN h2
  exact ⟨by kernel_rfl, Eq.mp (by kernel_rfl) g⟩
theorem c42 {vs : List Value} {H : AHeap} {Q : Value → AHeap → Prop} (h : f42 vs H Q) : call Try.prog 42 vs H Q :=
  call_of' noNG (X := x42 Q (f42_5 Q) (f42_3 Q)) (fn := Try.f42) (by kernel_rfl) (by kernel_rfl) (by kernel_rfl) (by kernel_rfl) (by kernel_rfl) (obl_of (n := 2) (by kernel_rfl) (by kernel_rfl) ⟨o42_0 Q (f42_5 Q), o42_1 Q (f42_3 Q), trivial⟩) (m42 (f42_5 Q) (f42_3 Q) h).1 (m42 (f42_5 Q) (f42_3 Q) h).2

/-! ## 45 (kinescope/comp.Vectors).Colour -/

/-- (kinescope/comp.Vectors).Colour -/
def g45 (Q : Value → AHeap → Prop) (vs : List Value) (H : AHeap) : Prop :=
 inA 4 vs fun l0 vs =>
 nilK vs <|
 gd (l0.length = 4) <|
 rA 4 l0 0 fun l6 =>
 call Try.prog 49 [.agg ⟨l6⟩] H fun r7 H7 =>
 tupK r7 fun l =>
 inI .i64 l fun x7a l_2 =>
 inI .i64 l_2 fun x7b l_3 =>
 nilK l_3 <|
 call Try.prog 50 [.int .i64 x7a] H7 fun r11 H11 =>
 asI .i64 r11 fun x11 =>
 call Try.prog 50 [.int .i64 x7b] H11 fun r13 H13 =>
 asI .i64 r13 fun x13 =>
 call Try.prog 14 [.int .i64 x11, .int .i64 x13] H13 fun r14 H14 =>
 asC r14 fun r14_2 i14 =>
 Q (.complex .f64 r14_2 i14) H14
def f45 (vs : List Value) (H : AHeap) (Q : Value → AHeap → Prop) : Prop := g45 Q vs H

noncomputable def x45 (Q : Value → AHeap → Prop) : Pc := pc Try.prog 15 [(1, 1)]
  []
  []
  []
  (shOf [])
  (shOf [])
  [.tmp 2] Q
theorem m45 {Q : Value → AHeap → Prop} {vs : List Value} {H : AHeap} (h : g45 Q vs H) : Nat.ble vs.length 15 = true ∧ interp (x45 Q) kb0 (bodyOf Try.f45) [] (entry vs H) := by
  obtain ⟨_, _, rfl, h1⟩ := deA h
  obtain ⟨rfl, g⟩ := deN h1
  exact ⟨by kernel_rfl, Eq.mp (by kernel_rfl) g⟩
theorem c45 {vs : List Value} {H : AHeap} {Q : Value → AHeap → Prop} (h : f45 vs H Q) : call Try.prog 45 vs H Q :=
  call_of' noNG (X := x45 Q) (fn := Try.f45) (by kernel_rfl) (by kernel_rfl) (by kernel_rfl) (by kernel_rfl) (by kernel_rfl) (obl_of (n := 0) (by kernel_rfl) (by kernel_rfl) trivial) (m45 h).1 (m45 h).2

/-! ## 49 kinescope/vec.Parts4 -/

def g49_6 (Q : Value → AHeap → Prop) (kb : KB) (vs : List Value) (bs : List (List Value)) (H : AHeap) : Prop :=
 inI .i64 vs fun x2 vs =>
 inI .i64 vs fun x3 vs =>
 inA 4 vs fun l8 vs =>
 inI .i64 vs fun x9 vs =>
 nilK vs <|
 nilX bs <|
 kb 2 [.int .i64 x2, .int .i64 x3, .agg ⟨l8⟩, .int .i64 (IntKind.wrap .i64 (x9 + 1))] [] H
def f49_6 (Q : Value → AHeap → Prop) : PT := g49_6 Q

def g49_3 (Q : Value → AHeap → Prop) (F6 : PT) (kb : KB) (vs : List Value) (bs : List (List Value)) (H : AHeap) : Prop :=
 inI .i64 vs fun x2 vs =>
 inI .i64 vs fun x3 vs =>
 inA 4 vs fun l8 vs =>
 inI .i64 vs fun x9 vs =>
 nilK vs <|
 nilX bs <|
 aidx x9 4 fun j11 =>
 rC l8 (j11 * 1) fun r11 i11 =>
 call Try.prog 12 [.complex .f64 r11 i11] H fun r14 H14 =>
 tupK r14 fun l =>
 inI .i64 l fun x14a l_2 =>
 inI .i64 l_2 fun x14b l_3 =>
 nilK l_3 <|
 F6 kb [.int .i64 (IntKind.wrap .i64 (x2 + x14a)), .int .i64 (IntKind.wrap .i64 (x3 + x14b)), .agg ⟨l8⟩, .int .i64 x9] [] H14
def f49_3 (Q : Value → AHeap → Prop) : PT := g49_3 Q (f49_6 Q)

def g49_7 (Q : Value → AHeap → Prop) (kb : KB) (vs : List Value) (bs : List (List Value)) (H : AHeap) : Prop :=
 inI .i64 vs fun x2 vs =>
 inI .i64 vs fun x3 vs =>
 nilK vs <|
 nilX bs <|
 Q (.tuple ⟨[.int .i64 x2, .int .i64 x3]⟩) H
def f49_7 (Q : Value → AHeap → Prop) : PT := g49_7 Q

def g49_l2 (Q : Value → AHeap → Prop) (F3 F7 : PT) (kb : KB) (vs : List Value) (bs : List (List Value)) (H : AHeap) : Prop :=
 inI .i64 vs fun x2 vs =>
 inI .i64 vs fun x3 vs =>
 inA 4 vs fun l8 vs =>
 inI .i64 vs fun x9 vs =>
 nilK vs <|
 nilX bs <|
 bif (decide ((x9 : Int) < 4)) then (
  F3 kb [.int .i64 x2, .int .i64 x3, .agg ⟨l8⟩, .int .i64 x9] [] H
 ) else (
  F7 kb [.int .i64 x2, .int .i64 x3] [] H
 )
def f49_l2 (Q : Value → AHeap → Prop) : PT := g49_l2 Q (f49_3 Q) (f49_7 Q)

/-- kinescope/vec.Parts4 -/
def g49 (Q : Value → AHeap → Prop) (L2 : PT) (vs : List Value) (H : AHeap) : Prop :=
 inA 4 vs fun l0 vs =>
 nilK vs <|
 gd (l0.length = 4) <|
 rA 4 l0 0 fun l8 =>
 lpW L2 kb0 2 [.int .i64 0, .int .i64 0, .agg ⟨l8⟩, .int .i64 0] [] H
def f49 (vs : List Value) (H : AHeap) (Q : Value → AHeap → Prop) : Prop := g49 Q (f49_l2 Q) vs H

noncomputable def x49 (Q : Value → AHeap → Prop) (F6 F3 F7 L2 : PT) : Pc := pc Try.prog 26 [(1, 1)]
  [(6, ⟨[2, 3, 8, 9], [], []⟩), (3, ⟨[2, 3, 8, 9], [], []⟩), (7, ⟨[2, 3], [], []⟩)]
  [(2, ⟨[2, 3, 8, 9], [], []⟩)]
  []
  (shOf [(6, F6), (3, F3), (7, F7)])
  (shOf [(2, L2)])
  [.tmp 2, .tmp 3] Q
theorem o49_0 (Q : Value → AHeap → Prop) (F6 F3 L2 : PT) : cutOK (x49 Q F6 F3 (g49_7 Q) L2) (cutAt (bodyOf Try.f49) 0) := by
  refine cutOK_of (F := g49_7 Q) (by kernel_rfl) ?_
  intro kb vs bs H h
  obtain ⟨_, _, rfl, h1⟩ := deI h
  obtain ⟨_, _, rfl, h2⟩ := deI h1
  obtain ⟨rfl, g⟩ := deN h2
  obtain ⟨rfl, k⟩ := deNX g
  exact Eq.mp (by kernel_rfl) k
theorem o49_1 (Q : Value → AHeap → Prop) (F6 F3 F7 : PT) : cutOK (x49 Q F6 F3 F7 (g49_l2 Q F3 F7)) (cutAt (bodyOf Try.f49) 1) := by
  refine cutOK_of (F := g49_l2 Q F3 F7) (by kernel_rfl) ?_
  intro kb vs bs H h
  obtain ⟨_, _, rfl, h1⟩ := deI h
  obtain ⟨_, _, rfl, h2⟩ := deI h1
  obtain ⟨_, _, rfl, h3⟩ := deA h2
  obtain ⟨_, _, rfl, h4⟩ := deI h3
  obtain ⟨rfl, g⟩ := deN h4
  obtain ⟨rfl, k⟩ := deNX g
  exact Eq.mp (by kernel_rfl) k
theorem o49_2 (Q : Value → AHeap → Prop) (F6 F7 L2 : PT) : cutOK (x49 Q F6 (g49_3 Q F6) F7 L2) (cutAt (bodyOf Try.f49) 2) := by
  refine cutOK_of (F := g49_3 Q F6) (by kernel_rfl) ?_
  intro kb vs bs H h
  obtain ⟨_, _, rfl, h1⟩ := deI h
  obtain ⟨_, _, rfl, h2⟩ := deI h1
  obtain ⟨_, _, rfl, h3⟩ := deA h2
  obtain ⟨_, _, rfl, h4⟩ := deI h3
  obtain ⟨rfl, g⟩ := deN h4
  obtain ⟨rfl, k⟩ := deNX g
  exact Eq.mp (by kernel_rfl) k
theorem o49_3 (Q : Value → AHeap → Prop) (F3 F7 L2 : PT) : cutOK (x49 Q (g49_6 Q) F3 F7 L2) (cutAt (bodyOf Try.f49) 3) := by
  refine cutOK_of (F := g49_6 Q) (by kernel_rfl) ?_
  intro kb vs bs H h
  obtain ⟨_, _, rfl, h1⟩ := deI h
  obtain ⟨_, _, rfl, h2⟩ := deI h1
  obtain ⟨_, _, rfl, h3⟩ := deA h2
  obtain ⟨_, _, rfl, h4⟩ := deI h3
  obtain ⟨rfl, g⟩ := deN h4
  obtain ⟨rfl, k⟩ := deNX g
  exact Eq.mp (by kernel_rfl) k
theorem m49 {Q : Value → AHeap → Prop} (F6 F3 F7 L2 : PT) {vs : List Value} {H : AHeap} (h : g49 Q L2 vs H) : Nat.ble vs.length 26 = true ∧ interp (x49 Q F6 F3 F7 L2) kb0 (bodyOf Try.f49) [] (entry vs H) := by
  obtain ⟨_, _, rfl, h1⟩ := deA h
  obtain ⟨rfl, g⟩ := deN h1
  exact ⟨by kernel_rfl, Eq.mp (by kernel_rfl) g⟩
theorem c49 {vs : List Value} {H : AHeap} {Q : Value → AHeap → Prop} (h : f49 vs H Q) : call Try.prog 49 vs H Q :=
  call_of' noNG (X := x49 Q (f49_6 Q) (f49_3 Q) (f49_7 Q) (f49_l2 Q)) (fn := Try.f49) (by kernel_rfl) (by kernel_rfl) (by kernel_rfl) (by kernel_rfl) (by kernel_rfl) (obl_of (n := 4) (by kernel_rfl) (by kernel_rfl) ⟨o49_0 Q (f49_6 Q) (f49_3 Q) (f49_l2 Q), o49_1 Q (f49_6 Q) (f49_3 Q) (f49_7 Q), o49_2 Q (f49_6 Q) (f49_7 Q) (f49_l2 Q), o49_3 Q (f49_3 Q) (f49_7 Q) (f49_l2 Q), trivial⟩) (m49 (f49_6 Q) (f49_3 Q) (f49_7 Q) (f49_l2 Q) h).1 (m49 (f49_6 Q) (f49_3 Q) (f49_7 Q) (f49_l2 Q) h).2

/-! ## 50 kinescope/comp.nearest -/

def g50_3 (Q : Value → AHeap → Prop) (kb : KB) (vs : List Value) (bs : List (List Value)) (H : AHeap) : Prop :=
 inI .i64 vs fun x0 vs =>
 nilK vs <|
 nilX bs <|
 Q (.int .i64 (IntKind.wrap .i64 ((IntKind.wrap .i64 (x0 + 4)).tdiv 8))) H
def f50_3 (Q : Value → AHeap → Prop) : PT := g50_3 Q

/-- kinescope/comp.nearest -/
def g50 (Q : Value → AHeap → Prop) (F3 : PT) (vs : List Value) (H : AHeap) : Prop :=
 inI .i64 vs fun x0 vs =>
 nilK vs <|
 bif (decide ((x0 : Int) < 0)) then (
  Q (.int .i64 (IntKind.wrap .i64 (0 - (IntKind.wrap .i64 ((IntKind.wrap .i64 (4 - x0)).tdiv 8))))) H
 ) else (
  F3 kb0 [.int .i64 x0] [] H
 )
def f50 (vs : List Value) (H : AHeap) (Q : Value → AHeap → Prop) : Prop := g50 Q (f50_3 Q) vs H

noncomputable def x50 (Q : Value → AHeap → Prop) (F3 : PT) : Pc := pc Try.prog 12 []
  [(3, ⟨[0], [], []⟩)]
  []
  []
  (shOf [(3, F3)])
  (shOf [])
  [.tmp 2] Q
theorem o50_0 (Q : Value → AHeap → Prop) : cutOK (x50 Q (g50_3 Q)) (cutAt (bodyOf Try.f50) 0) := by
  refine cutOK_of (F := g50_3 Q) (by kernel_rfl) ?_
  intro kb vs bs H h
  obtain ⟨_, _, rfl, h1⟩ := deI h
  obtain ⟨rfl, g⟩ := deN h1
  obtain ⟨rfl, k⟩ := deNX g
  exact Eq.mp (by kernel_rfl) k
theorem m50 {Q : Value → AHeap → Prop} (F3 : PT) {vs : List Value} {H : AHeap} (h : g50 Q F3 vs H) : Nat.ble vs.length 12 = true ∧ interp (x50 Q F3) kb0 (bodyOf Try.f50) [] (entry vs H) := by
  obtain ⟨_, _, rfl, h1⟩ := deI h
  obtain ⟨rfl, g⟩ := deN h1
  exact ⟨by kernel_rfl, Eq.mp (by kernel_rfl) g⟩
theorem c50 {vs : List Value} {H : AHeap} {Q : Value → AHeap → Prop} (h : f50 vs H Q) : call Try.prog 50 vs H Q :=
  call_of' noNG (X := x50 Q (f50_3 Q)) (fn := Try.f50) (by kernel_rfl) (by kernel_rfl) (by kernel_rfl) (by kernel_rfl) (by kernel_rfl) (obl_of (n := 1) (by kernel_rfl) (by kernel_rfl) ⟨o50_0 Q, trivial⟩) (m50 (f50_3 Q) h).1 (m50 (f50_3 Q) h).2

/-! ## 51 kinescope/interp.half -/

/-- kinescope/interp.half -/
def g51 (Q : Value → AHeap → Prop) (vs : List Value) (H : AHeap) : Prop :=
 inI .i64 vs fun x0 vs =>
 nilK vs <|
 Q (.tuple ⟨[.int .i64 (shrI .i64 x0 1), .int .i64 (andI .i64 x0 1)]⟩) H
def f51 (vs : List Value) (H : AHeap) (Q : Value → AHeap → Prop) : Prop := g51 Q vs H

noncomputable def x51 (Q : Value → AHeap → Prop) : Pc := pc Try.prog 8 []
  []
  []
  []
  (shOf [])
  (shOf [])
  [.tmp 2, .tmp 3] Q
theorem m51 {Q : Value → AHeap → Prop} {vs : List Value} {H : AHeap} (h : g51 Q vs H) : Nat.ble vs.length 8 = true ∧ interp (x51 Q) kb0 (bodyOf Try.f51) [] (entry vs H) := by
  obtain ⟨_, _, rfl, h1⟩ := deI h
  obtain ⟨rfl, g⟩ := deN h1
  exact ⟨by kernel_rfl, Eq.mp (by kernel_rfl) g⟩
theorem c51 {vs : List Value} {H : AHeap} {Q : Value → AHeap → Prop} (h : f51 vs H Q) : call Try.prog 51 vs H Q :=
  call_of' noNG (X := x51 Q) (fn := Try.f51) (by kernel_rfl) (by kernel_rfl) (by kernel_rfl) (by kernel_rfl) (by kernel_rfl) (obl_of (n := 0) (by kernel_rfl) (by kernel_rfl) trivial) (m51 h).1 (m51 h).2

/-! ## 25 kinescope/kinescopelaw14.Ref -/

def g25_6 (Q : Value → AHeap → Prop) (kb : KB) (vs : List Value) (bs : List (List Value)) (H : AHeap) : Prop :=
 inA 4 vs fun l6 vs =>
 inI .i64 vs fun x7 vs =>
 nilK vs <|
 inX bs fun y2 bs =>
 inX bs fun y3 bs =>
 nilX bs <|
 kb 3 [.agg ⟨l6⟩, .int .i64 (IntKind.wrap .i64 (x7 + 1))] [y2, y3] H
def f25_6 (Q : Value → AHeap → Prop) : PT := g25_6 Q

def g25_4 (Q : Value → AHeap → Prop) (F6 : PT) (kb : KB) (vs : List Value) (bs : List (List Value)) (H : AHeap) : Prop :=
 inA 4 vs fun l6 vs =>
 inI .i64 vs fun x7 vs =>
 nilK vs <|
 inX bs fun y2 bs =>
 inX bs fun y3 bs =>
 nilX bs <|
 aidx x7 4 fun j10 =>
 rC l6 (j10 * 1) fun r10 i10 =>
 call Try.prog 12 [.complex .f64 r10 i10] H fun r15 H15 =>
 tupK r15 fun l =>
 inI .i64 l fun x15a l_2 =>
 inI .i64 l_2 fun x15b l_3 =>
 nilK l_3 <|
 aidx x7 4 fun j19 =>
 gd (3 + j19 * 1 < y3.length) <|
 aidx x7 4 fun j21 =>
 gd (7 + j21 * 1 < List.length (α := Value) (List.set y3 (3 + j19 * 1) (.int .i64 x15a))) <|
 F6 kb [.agg ⟨l6⟩, .int .i64 x7] [y2, (List.set (List.set y3 (3 + j19 * 1) (.int .i64 x15a)) (7 + j21 * 1) (.int .i64 x15b))] H15
def f25_4 (Q : Value → AHeap → Prop) : PT := g25_4 Q (f25_6 Q)

def g25_7 (Q : Value → AHeap → Prop) (kb : KB) (vs : List Value) (bs : List (List Value)) (H : AHeap) : Prop :=
 nilK vs <|
 inX bs fun y2 bs =>
 inX bs fun y3 bs =>
 nilX bs <|
 rA 395 y3 0 fun l23 =>
 gd (l23.length = 395 ∧ 0 + 395 ≤ y2.length) <|
 rA 395 (stC y2 0 l23) 0 fun l =>
 Q (.agg ⟨l⟩) H
def f25_7 (Q : Value → AHeap → Prop) : PT := g25_7 Q

def g25_l3 (Q : Value → AHeap → Prop) (F4 F7 : PT) (kb : KB) (vs : List Value) (bs : List (List Value)) (H : AHeap) : Prop :=
 inA 4 vs fun l6 vs =>
 inI .i64 vs fun x7 vs =>
 nilK vs <|
 inX bs fun y2 bs =>
 inX bs fun y3 bs =>
 nilX bs <|
 bif (decide ((x7 : Int) < 4)) then (
  F4 kb [.agg ⟨l6⟩, .int .i64 x7] [y2, y3] H
 ) else (
  F7 kb [] [y2, y3] H
 )
def f25_l3 (Q : Value → AHeap → Prop) : PT := g25_l3 Q (f25_4 Q) (f25_7 Q)

/-- kinescope/kinescopelaw14.Ref -/
def g25 (Q : Value → AHeap → Prop) (L3 : PT) (vs : List Value) (H : AHeap) : Prop :=
 inA 4 vs fun l0 vs =>
 nilK vs <|
 gd (l0.length = 4) <|
 rA 4 l0 0 fun l6 =>
 lpW L3 kb0 3 [.agg ⟨l6⟩, .int .i64 0] [[.bool false, .bool false, .int .i64 0, .int .i64 0, .int .i64 0, .int .i64 0, .int .i64 0, .int .i64 0, .int .i64 0, .int .i64 0, .int .i64 0, .int .i64 0, .int .i64 0, .int .i64 0, .int .i64 0, .int .i64 0, .int .i64 0, .int .i64 0, .int .i64 0, .int .i64 0, .int .i64 0, .int .i64 0, .int .i64 0, .int .i64 0, .int .i64 0, .int .i64 0, .int .i64 0, .int .i64 0, .int .i64 0, .int .i64 0, .int .i64 0, .int .i64 0, .int .i64 0, .int .i64 0, .int .i64 0, .int .i64 0, .int .i64 0, .int .i64 0, .int .i64 0, .int .i64 0, .int .i64 0, .int .i64 0, .int .i64 0, .int .i64 0, .int .i64 0, .int .i64 0, .int .i64 0, .int .i64 0, .int .i64 0, .int .i64 0, .int .i64 0, .int .i64 0, .int .i64 0, .int .i64 0, .int .i64 0, .int .i64 0, .int .i64 0, .int .i64 0, .int .i64 0, .int .i64 0, .int .i64 0, .int .i64 0, .int .i64 0, .int .i64 0, .int .i64 0, .int .i64 0, .int .i64 0, .int .i64 0, .int .i64 0, .int .i64 0, .int .i64 0, .int .i64 0, .int .i64 0, .int .i64 0, .int .i64 0, .int .i64 0, .int .i64 0, .int .i64 0, .int .i64 0, .int .i64 0, .int .i64 0, .int .i64 0, .int .i64 0, .int .i64 0, .int .i64 0, .int .i64 0, .int .i64 0, .int .i64 0, .int .i64 0, .int .i64 0, .int .i64 0, .int .i64 0, .int .i64 0, .int .i64 0, .int .i64 0, .int .i64 0, .int .i64 0, .int .i64 0, .int .i64 0, .int .i64 0, .int .i64 0, .int .i64 0, .int .i64 0, .int .i64 0, .int .i64 0, .int .i64 0, .int .i64 0, .int .i64 0, .int .i64 0, .int .i64 0, .int .i64 0, .int .i64 0, .int .i64 0, .int .i64 0, .int .i64 0, .int .i64 0, .int .i64 0, .int .i64 0, .int .i64 0, .int .i64 0, .int .i64 0, .int .i64 0, .int .i64 0, .int .i64 0, .int .i64 0, .int .i64 0, .int .i64 0, .int .i64 0, .int .i64 0, .int .i64 0, .int .i64 0, .int .i64 0, .int .i64 0, .int .i64 0, .int .i64 0, .int .i64 0, .int .i64 0, .int .i64 0, .int .i64 0, .int .i64 0, .int .i64 0, .int .i64 0, .int .i64 0, .int .i64 0, .int .i64 0, .int .i64 0, .int .i64 0, .int .i64 0, .int .i64 0, .int .i64 0, .int .i64 0, .int .i64 0, .int .i64 0, .int .i64 0, .int .i64 0, .int .i64 0, .int .i64 0, .int .i64 0, .int .i64 0, .int .i64 0, .int .i64 0, .int .i64 0, .int .i64 0, .int .i64 0, .int .i64 0, .int .i64 0, .int .i64 0, .int .i64 0, .int .i64 0, .int .i64 0, .int .i64 0, .int .i64 0, .int .i64 0, .int .i64 0, .int .i64 0, .int .i64 0, .int .i64 0, .int .i64 0, .int .i64 0, .int .i64 0, .int .i64 0, .int .i64 0, .int .i64 0, .int .i64 0, .int .i64 0, .int .i64 0, .int .i64 0, .int .i64 0, .int .i64 0, .int .i64 0, .int .i64 0, .int .i64 0, .int .i64 0, .int .i64 0, .int .i64 0, .int .i64 0, .int .i64 0, .int .i64 0, .int .i64 0, .int .i64 0, .int .i64 0, .int .i64 0, .int .i64 0, .int .i64 0, .int .i64 0, .int .i64 0, .int .i64 0, .int .i64 0, .int .i64 0, .int .i64 0, .int .i64 0, .int .i64 0, .int .i64 0, .int .i64 0, .int .i64 0, .int .i64 0, .int .i64 0, .int .i64 0, .int .i64 0, .int .i64 0, .int .i64 0, .int .i64 0, .int .i64 0, .int .i64 0, .int .i64 0, .int .i64 0, .int .i64 0, .int .i64 0, .int .i64 0, .int .i64 0, .int .i64 0, .int .i64 0, .int .i64 0, .int .i64 0, .int .i64 0, .int .i64 0, .int .i64 0, .int .i64 0, .int .i64 0, .int .i64 0, .int .i64 0, .int .i64 0, .int .i64 0, .int .i64 0, .int .i64 0, .int .i64 0, .int .i64 0, .int .i64 0, .int .i64 0, .int .i64 0, .int .i64 0, .int .i64 0, .int .i64 0, .int .i64 0, .int .i64 0, .int .i64 0, .int .i64 0, .int .i64 0, .int .i64 0, .int .i64 0, .int .i64 0, .int .i64 0, .int .i64 0, .int .i64 0, .int .i64 0, .int .i64 0, .int .i64 0, .int .i64 0, .int .i64 0, .int .i64 0, .int .i64 0, .int .i64 0, .int .i64 0, .int .i64 0, .int .i64 0, .int .i64 0, .int .i64 0, .int .i64 0, .int .i64 0, .int .i64 0, .int .i64 0, .int .i64 0, .int .i64 0, .int .i64 0, .int .i64 0, .int .i64 0, .int .i64 0, .int .i64 0, .int .i64 0, .int .i64 0, .int .i64 0, .int .i64 0, .int .i64 0, .int .i64 0, .int .i64 0, .int .i64 0, .int .i64 0, .int .i64 0, .int .i64 0, .int .i64 0, .int .i64 0, .int .i64 0, .int .i64 0, .int .i64 0, .int .i64 0, .int .i64 0, .int .i64 0, .int .i64 0, .int .i64 0, .int .i64 0, .int .i64 0, .int .i64 0, .int .i64 0, .int .i64 0, .int .i64 0, .int .i64 0, .int .i64 0, .int .i64 0, .int .i64 0, .int .i64 0, .int .i64 0, .int .i64 0, .int .i64 0, .int .i64 0, .int .i64 0, .int .i64 0, .int .i64 0, .int .i64 0, .int .i64 0, .int .i64 0, .int .i64 0, .int .i64 0, .int .i64 0, .int .i64 0, .int .i64 0, .int .i64 0, .int .i64 0, .int .i64 0, .int .i64 0, .int .i64 0, .int .i64 0, .int .i64 0, .int .i64 0, .int .i64 0, .int .i64 0, .int .i64 0, .int .i64 0, .int .i64 0, .int .i64 0, .int .i64 0, .int .i64 0, .int .i64 0, .int .i64 0, .int .i64 0, .int .i64 0, .int .i64 0, .int .i64 0, .int .i64 0, .int .i64 0, .int .i64 0, .int .i64 0, .int .i64 0, .int .i64 0, .int .i64 0, .int .i64 0, .int .i64 0, .int .i64 0, .int .i64 0, .int .i64 0, .int .i64 0, .int .i64 0, .int .i64 0, .int .i64 0, .int .i64 0, .int .i64 0, .int .i64 0, .int .i64 0, .int .i64 0, .int .i64 0, .int .i64 0, .int .i64 0, .int .i64 0, .int .i64 0, .int .i64 0, .int .i64 0, .int .i64 0, .int .i64 0, .int .i64 0, .int .i64 0, .int .i64 0, .int .i64 0, .int .i64 0, .int .i64 0, .int .i64 0, .int .i64 0], [.bool false, .bool false, .int .i64 0, .int .i64 0, .int .i64 0, .int .i64 0, .int .i64 0, .int .i64 0, .int .i64 0, .int .i64 0, .int .i64 0, .int .i64 0, .int .i64 0, .int .i64 0, .int .i64 0, .int .i64 0, .int .i64 0, .int .i64 0, .int .i64 0, .int .i64 0, .int .i64 0, .int .i64 0, .int .i64 0, .int .i64 0, .int .i64 0, .int .i64 0, .int .i64 0, .int .i64 0, .int .i64 0, .int .i64 0, .int .i64 0, .int .i64 0, .int .i64 0, .int .i64 0, .int .i64 0, .int .i64 0, .int .i64 0, .int .i64 0, .int .i64 0, .int .i64 0, .int .i64 0, .int .i64 0, .int .i64 0, .int .i64 0, .int .i64 0, .int .i64 0, .int .i64 0, .int .i64 0, .int .i64 0, .int .i64 0, .int .i64 0, .int .i64 0, .int .i64 0, .int .i64 0, .int .i64 0, .int .i64 0, .int .i64 0, .int .i64 0, .int .i64 0, .int .i64 0, .int .i64 0, .int .i64 0, .int .i64 0, .int .i64 0, .int .i64 0, .int .i64 0, .int .i64 0, .int .i64 0, .int .i64 0, .int .i64 0, .int .i64 0, .int .i64 0, .int .i64 0, .int .i64 0, .int .i64 0, .int .i64 0, .int .i64 0, .int .i64 0, .int .i64 0, .int .i64 0, .int .i64 0, .int .i64 0, .int .i64 0, .int .i64 0, .int .i64 0, .int .i64 0, .int .i64 0, .int .i64 0, .int .i64 0, .int .i64 0, .int .i64 0, .int .i64 0, .int .i64 0, .int .i64 0, .int .i64 0, .int .i64 0, .int .i64 0, .int .i64 0, .int .i64 0, .int .i64 0, .int .i64 0, .int .i64 0, .int .i64 0, .int .i64 0, .int .i64 0, .int .i64 0, .int .i64 0, .int .i64 0, .int .i64 0, .int .i64 0, .int .i64 0, .int .i64 0, .int .i64 0, .int .i64 0, .int .i64 0, .int .i64 0, .int .i64 0, .int .i64 0, .int .i64 0, .int .i64 0, .int .i64 0, .int .i64 0, .int .i64 0, .int .i64 0, .int .i64 0, .int .i64 0, .int .i64 0, .int .i64 0, .int .i64 0, .int .i64 0, .int .i64 0, .int .i64 0, .int .i64 0, .int .i64 0, .int .i64 0, .int .i64 0, .int .i64 0, .int .i64 0, .int .i64 0, .int .i64 0, .int .i64 0, .int .i64 0, .int .i64 0, .int .i64 0, .int .i64 0, .int .i64 0, .int .i64 0, .int .i64 0, .int .i64 0, .int .i64 0, .int .i64 0, .int .i64 0, .int .i64 0, .int .i64 0, .int .i64 0, .int .i64 0, .int .i64 0, .int .i64 0, .int .i64 0, .int .i64 0, .int .i64 0, .int .i64 0, .int .i64 0, .int .i64 0, .int .i64 0, .int .i64 0, .int .i64 0, .int .i64 0, .int .i64 0, .int .i64 0, .int .i64 0, .int .i64 0, .int .i64 0, .int .i64 0, .int .i64 0, .int .i64 0, .int .i64 0, .int .i64 0, .int .i64 0, .int .i64 0, .int .i64 0, .int .i64 0, .int .i64 0, .int .i64 0, .int .i64 0, .int .i64 0, .int .i64 0, .int .i64 0, .int .i64 0, .int .i64 0, .int .i64 0, .int .i64 0, .int .i64 0, .int .i64 0, .int .i64 0, .int .i64 0, .int .i64 0, .int .i64 0, .int .i64 0, .int .i64 0, .int .i64 0, .int .i64 0, .int .i64 0, .int .i64 0, .int .i64 0, .int .i64 0, .int .i64 0, .int .i64 0, .int .i64 0, .int .i64 0, .int .i64 0, .int .i64 0, .int .i64 0, .int .i64 0, .int .i64 0, .int .i64 0, .int .i64 0, .int .i64 0, .int .i64 0, .int .i64 0, .int .i64 0, .int .i64 0, .int .i64 0, .int .i64 0, .int .i64 0, .int .i64 0, .int .i64 0, .int .i64 0, .int .i64 0, .int .i64 0, .int .i64 0, .int .i64 0, .int .i64 0, .int .i64 0, .int .i64 0, .int .i64 0, .int .i64 0, .int .i64 0, .int .i64 0, .int .i64 0, .int .i64 0, .int .i64 0, .int .i64 0, .int .i64 0, .int .i64 0, .int .i64 0, .int .i64 0, .int .i64 0, .int .i64 0, .int .i64 0, .int .i64 0, .int .i64 0, .int .i64 0, .int .i64 0, .int .i64 0, .int .i64 0, .int .i64 0, .int .i64 0, .int .i64 0, .int .i64 0, .int .i64 0, .int .i64 0, .int .i64 0, .int .i64 0, .int .i64 0, .int .i64 0, .int .i64 0, .int .i64 0, .int .i64 0, .int .i64 0, .int .i64 0, .int .i64 0, .int .i64 0, .int .i64 0, .int .i64 0, .int .i64 0, .int .i64 0, .int .i64 0, .int .i64 0, .int .i64 0, .int .i64 0, .int .i64 0, .int .i64 0, .int .i64 0, .int .i64 0, .int .i64 0, .int .i64 0, .int .i64 0, .int .i64 0, .int .i64 0, .int .i64 0, .int .i64 0, .int .i64 0, .int .i64 0, .int .i64 0, .int .i64 0, .int .i64 0, .int .i64 0, .int .i64 0, .int .i64 0, .int .i64 0, .int .i64 0, .int .i64 0, .int .i64 0, .int .i64 0, .int .i64 0, .int .i64 0, .int .i64 0, .int .i64 0, .int .i64 0, .int .i64 0, .int .i64 0, .int .i64 0, .int .i64 0, .int .i64 0, .int .i64 0, .int .i64 0, .int .i64 0, .int .i64 0, .int .i64 0, .int .i64 0, .int .i64 0, .int .i64 0, .int .i64 0, .int .i64 0, .int .i64 0, .int .i64 0, .int .i64 0, .int .i64 0, .int .i64 0, .int .i64 0, .int .i64 0, .int .i64 0, .int .i64 0, .int .i64 0, .int .i64 0, .int .i64 0, .int .i64 0, .int .i64 0, .int .i64 0, .int .i64 0, .int .i64 0, .int .i64 0, .int .i64 0, .int .i64 0, .int .i64 0, .int .i64 0, .int .i64 0, .int .i64 0, .int .i64 0, .int .i64 0, .int .i64 0, .int .i64 0, .int .i64 0, .int .i64 0, .int .i64 0, .int .i64 0, .int .i64 0, .int .i64 0, .int .i64 0, .int .i64 0, .int .i64 0, .int .i64 0, .int .i64 0, .int .i64 0, .int .i64 0, .int .i64 0, .int .i64 0, .int .i64 0, .int .i64 0, .int .i64 0, .int .i64 0, .int .i64 0, .int .i64 0, .int .i64 0, .int .i64 0, .int .i64 0, .int .i64 0, .int .i64 0, .int .i64 0, .int .i64 0, .int .i64 0, .int .i64 0, .int .i64 0, .int .i64 0, .int .i64 0, .int .i64 0, .int .i64 0, .int .i64 0, .int .i64 0, .int .i64 0, .int .i64 0, .int .i64 0, .int .i64 0, .int .i64 0]] H
def f25 (vs : List Value) (H : AHeap) (Q : Value → AHeap → Prop) : Prop := g25 Q (f25_l3 Q) vs H

noncomputable def x25 (Q : Value → AHeap → Prop) (F6 F4 F7 L3 : PT) : Pc := pc Try.prog 24 [(1, 1), (2, 2), (3, 3), (18, 3), (19, 3), (20, 3), (21, 3)]
  [(6, ⟨[6, 7], [(2, 2), (3, 3)], [2, 3]⟩), (4, ⟨[6, 7], [(2, 2), (3, 3)], [2, 3]⟩), (7, ⟨[], [(2, 2), (3, 3)], [2, 3]⟩)]
  [(3, ⟨[6, 7], [(2, 2), (3, 3)], [2, 3]⟩)]
  []
  (shOf [(6, F6), (4, F4), (7, F7)])
  (shOf [(3, L3)])
  [.cell 2 66] Q
theorem o25_0 (Q : Value → AHeap → Prop) (F6 F4 L3 : PT) : cutOK (x25 Q F6 F4 (g25_7 Q) L3) (cutAt (bodyOf Try.f25) 0) := by
  refine cutOK_of (F := g25_7 Q) (by kernel_rfl) ?_
  intro kb vs bs H h
  obtain ⟨rfl, g⟩ := deN h
  obtain ⟨_, _, rfl, g1⟩ := deX g
  obtain ⟨_, _, rfl, g2⟩ := deX g1
  obtain ⟨rfl, k⟩ := deNX g2
  exact Eq.mp (by kernel_rfl) k
theorem o25_1 (Q : Value → AHeap → Prop) (F6 F4 F7 : PT) : cutOK (x25 Q F6 F4 F7 (g25_l3 Q F4 F7)) (cutAt (bodyOf Try.f25) 1) := by
  refine cutOK_of (F := g25_l3 Q F4 F7) (by kernel_rfl) ?_
  intro kb vs bs H h
  obtain ⟨_, _, rfl, h1⟩ := deA h
  obtain ⟨_, _, rfl, h2⟩ := deI h1
  obtain ⟨rfl, g⟩ := deN h2
  obtain ⟨_, _, rfl, g1⟩ := deX g
  obtain ⟨_, _, rfl, g2⟩ := deX g1
  obtain ⟨rfl, k⟩ := deNX g2
  exact Eq.mp (by kernel_rfl) k
theorem o25_2 (Q : Value → AHeap → Prop) (F6 F7 L3 : PT) : cutOK (x25 Q F6 (g25_4 Q F6) F7 L3) (cutAt (bodyOf Try.f25) 2) := by
  refine cutOK_of (F := g25_4 Q F6) (by kernel_rfl) ?_
  intro kb vs bs H h
  obtain ⟨_, _, rfl, h1⟩ := deA h
  obtain ⟨_, _, rfl, h2⟩ := deI h1
  obtain ⟨rfl, g⟩ := deN h2
  obtain ⟨_, _, rfl, g1⟩ := deX g
  obtain ⟨_, _, rfl, g2⟩ := deX g1
  obtain ⟨rfl, k⟩ := deNX g2
  exact Eq.mp (by kernel_rfl) k
theorem o25_3 (Q : Value → AHeap → Prop) (F4 F7 L3 : PT) : cutOK (x25 Q (g25_6 Q) F4 F7 L3) (cutAt (bodyOf Try.f25) 3) := by
  refine cutOK_of (F := g25_6 Q) (by kernel_rfl) ?_
  intro kb vs bs H h
  obtain ⟨_, _, rfl, h1⟩ := deA h
  obtain ⟨_, _, rfl, h2⟩ := deI h1
  obtain ⟨rfl, g⟩ := deN h2
  obtain ⟨_, _, rfl, g1⟩ := deX g
  obtain ⟨_, _, rfl, g2⟩ := deX g1
  obtain ⟨rfl, k⟩ := deNX g2
  exact Eq.mp (by kernel_rfl) k
theorem m25 {Q : Value → AHeap → Prop} (F6 F4 F7 L3 : PT) {vs : List Value} {H : AHeap} (h : g25 Q L3 vs H) : Nat.ble vs.length 24 = true ∧ interp (x25 Q F6 F4 F7 L3) kb0 (bodyOf Try.f25) [] (entry vs H) := by
  obtain ⟨_, _, rfl, h1⟩ := deA h
  obtain ⟨rfl, g⟩ := deN h1
  exact ⟨by kernel_rfl, Eq.mp (by kernel_rfl) g⟩
theorem c25 {vs : List Value} {H : AHeap} {Q : Value → AHeap → Prop} (h : f25 vs H Q) : call Try.prog 25 vs H Q :=
  call_of' noNG (X := x25 Q (f25_6 Q) (f25_4 Q) (f25_7 Q) (f25_l3 Q)) (fn := Try.f25) (by kernel_rfl) (by kernel_rfl) (by kernel_rfl) (by kernel_rfl) (by kernel_rfl) (obl_of (n := 4) (by kernel_rfl) (by kernel_rfl) ⟨o25_0 Q (f25_6 Q) (f25_4 Q) (f25_l3 Q), o25_1 Q (f25_6 Q) (f25_4 Q) (f25_7 Q), o25_2 Q (f25_6 Q) (f25_7 Q) (f25_l3 Q), o25_3 Q (f25_4 Q) (f25_7 Q) (f25_l3 Q), trivial⟩) (m25 (f25_6 Q) (f25_4 Q) (f25_7 Q) (f25_l3 Q) h).1 (m25 (f25_6 Q) (f25_4 Q) (f25_7 Q) (f25_l3 Q) h).2

/-! ## 30 (kinescope/kinescoperef13.Plane).Between -/

def g30_9 (Q : Value → AHeap → Prop) (kb : KB) (vs : List Value) (bs : List (List Value)) (H : AHeap) : Prop :=
 inB vs fun c3 vs =>
 inI .i64 vs fun x9 vs =>
 inI .i64 vs fun x10 vs =>
 inI .i64 vs fun x11 vs =>
 inI .i64 vs fun x12 vs =>
 inI .i64 vs fun x13 vs =>
 inI .i64 vs fun x14 vs =>
 inI .i64 vs fun x15 vs =>
 inI .i64 vs fun x16 vs =>
 nilK vs <|
 inX bs fun y4 bs =>
 nilX bs <|
 kb 8 [.bool c3, .int .i64 x9, .int .i64 x10, .int .i64 x11, .int .i64 x12, .int .i64 x13, .int .i64 x14, .int .i64 x15, .int .i64 (IntKind.wrap .i64 (x16 + 1))] [y4] H
def f30_9 (Q : Value → AHeap → Prop) : PT := g30_9 Q

def g30_10 (Q : Value → AHeap → Prop) (F9 : PT) (kb : KB) (vs : List Value) (bs : List (List Value)) (H : AHeap) : Prop :=
 inB vs fun c3 vs =>
 inI .i64 vs fun x9 vs =>
 inI .i64 vs fun x10 vs =>
 inI .i64 vs fun x11 vs =>
 inI .i64 vs fun x12 vs =>
 inI .i64 vs fun x13 vs =>
 inI .i64 vs fun x14 vs =>
 inI .i64 vs fun x15 vs =>
 inI .i64 vs fun x16 vs =>
 nilK vs <|
 inX bs fun y4 bs =>
 nilX bs <|
 rA 3 y4 0 fun l39 =>
 call Try.prog 44 [.agg ⟨l39⟩, .int .i64 (IntKind.wrap .i64 (x9 + x16)), .int .i64 (IntKind.wrap .i64 (x11 + x15))] H fun r46 H46 =>
 asI .i64 r46 fun x46 =>
 F9 kb [.bool c3, .int .i64 x9, .int .i64 x10, .int .i64 x11, .int .i64 x12, .int .i64 (IntKind.wrap .i64 (x13 + x46)), .int .i64 (IntKind.wrap .i64 (x14 + 1)), .int .i64 x15, .int .i64 x16] [y4] H46
def f30_10 (Q : Value → AHeap → Prop) : PT := g30_10 Q (f30_9 Q)

def g30_6 (Q : Value → AHeap → Prop) (kb : KB) (vs : List Value) (bs : List (List Value)) (H : AHeap) : Prop :=
 inB vs fun c3 vs =>
 inI .i64 vs fun x9 vs =>
 inI .i64 vs fun x10 vs =>
 inI .i64 vs fun x11 vs =>
 inI .i64 vs fun x12 vs =>
 inI .i64 vs fun x13 vs =>
 inI .i64 vs fun x14 vs =>
 inI .i64 vs fun x15 vs =>
 nilK vs <|
 inX bs fun y4 bs =>
 nilX bs <|
 kb 5 [.bool c3, .int .i64 x9, .int .i64 x10, .int .i64 x11, .int .i64 x12, .int .i64 x13, .int .i64 x14, .int .i64 (IntKind.wrap .i64 (x15 + 1))] [y4] H
def f30_6 (Q : Value → AHeap → Prop) : PT := g30_6 Q

def g30_l8 (Q : Value → AHeap → Prop) (F6 F10 : PT) (kb : KB) (vs : List Value) (bs : List (List Value)) (H : AHeap) : Prop :=
 inB vs fun c3 vs =>
 inI .i64 vs fun x9 vs =>
 inI .i64 vs fun x10 vs =>
 inI .i64 vs fun x11 vs =>
 inI .i64 vs fun x12 vs =>
 inI .i64 vs fun x13 vs =>
 inI .i64 vs fun x14 vs =>
 inI .i64 vs fun x15 vs =>
 inI .i64 vs fun x16 vs =>
 nilK vs <|
 inX bs fun y4 bs =>
 nilX bs <|
 bif (decide ((x16 : Int) ≤ x10)) then (
  F10 kb [.bool c3, .int .i64 x9, .int .i64 x10, .int .i64 x11, .int .i64 x12, .int .i64 x13, .int .i64 x14, .int .i64 x15, .int .i64 x16] [y4] H
 ) else (
  F6 kb [.bool c3, .int .i64 x9, .int .i64 x10, .int .i64 x11, .int .i64 x12, .int .i64 x13, .int .i64 x14, .int .i64 x15] [y4] H
 )
def f30_l8 (Q : Value → AHeap → Prop) : PT := g30_l8 Q (f30_6 Q) (f30_10 Q)

def g30_7 (Q : Value → AHeap → Prop) (L8 : PT) (kb : KB) (vs : List Value) (bs : List (List Value)) (H : AHeap) : Prop :=
 inB vs fun c3 vs =>
 inI .i64 vs fun x9 vs =>
 inI .i64 vs fun x10 vs =>
 inI .i64 vs fun x11 vs =>
 inI .i64 vs fun x12 vs =>
 inI .i64 vs fun x13 vs =>
 inI .i64 vs fun x14 vs =>
 inI .i64 vs fun x15 vs =>
 nilK vs <|
 inX bs fun y4 bs =>
 nilX bs <|
 lpW L8 kb 8 [.bool c3, .int .i64 x9, .int .i64 x10, .int .i64 x11, .int .i64 x12, .int .i64 x13, .int .i64 x14, .int .i64 x15, .int .i64 0] [y4] H
def f30_7 (Q : Value → AHeap → Prop) : PT := g30_7 Q (f30_l8 Q)

def g30_15 (Q : Value → AHeap → Prop) (kb : KB) (vs : List Value) (bs : List (List Value)) (H : AHeap) : Prop :=
 inI .i64 vs fun x13 vs =>
 inI .i64 vs fun x14 vs =>
 inI .i64 vs fun x17 vs =>
 nilK vs <|
 nilX bs <|
 nz x14 <|
 Q (.int .i64 (IntKind.wrap .i64 ((IntKind.wrap .i64 (x13 + x17)).tdiv x14))) H
def f30_15 (Q : Value → AHeap → Prop) : PT := g30_15 Q

def g30_12 (Q : Value → AHeap → Prop) (F15 : PT) (kb : KB) (vs : List Value) (bs : List (List Value)) (H : AHeap) : Prop :=
 inB vs fun c3 vs =>
 inI .i64 vs fun x13 vs =>
 inI .i64 vs fun x14 vs =>
 nilK vs <|
 nilX bs <|
 bif c3 then (
  bif (decide ((x14 : Int) > 1)) then (
   F15 kb [.int .i64 x13, .int .i64 x14, .int .i64 (IntKind.wrap .i64 ((IntKind.wrap .i64 (x14.tdiv 2)) - 1))] [] H
  ) else (
   F15 kb [.int .i64 x13, .int .i64 x14, .int .i64 (IntKind.wrap .i64 (x14.tdiv 2))] [] H
  )
 ) else (
  F15 kb [.int .i64 x13, .int .i64 x14, .int .i64 (IntKind.wrap .i64 (x14.tdiv 2))] [] H
 )
def f30_12 (Q : Value → AHeap → Prop) : PT := g30_12 Q (f30_15 Q)

def g30_l5 (Q : Value → AHeap → Prop) (F7 F12 : PT) (kb : KB) (vs : List Value) (bs : List (List Value)) (H : AHeap) : Prop :=
 inB vs fun c3 vs =>
 inI .i64 vs fun x9 vs =>
 inI .i64 vs fun x10 vs =>
 inI .i64 vs fun x11 vs =>
 inI .i64 vs fun x12 vs =>
 inI .i64 vs fun x13 vs =>
 inI .i64 vs fun x14 vs =>
 inI .i64 vs fun x15 vs =>
 nilK vs <|
 inX bs fun y4 bs =>
 nilX bs <|
 bif (decide ((x15 : Int) ≤ x12)) then (
  F7 kb [.bool c3, .int .i64 x9, .int .i64 x10, .int .i64 x11, .int .i64 x12, .int .i64 x13, .int .i64 x14, .int .i64 x15] [y4] H
 ) else (
  F12 kb [.bool c3, .int .i64 x13, .int .i64 x14] [] H
 )
def f30_l5 (Q : Value → AHeap → Prop) : PT := g30_l5 Q (f30_7 Q) (f30_12 Q)

/-- (kinescope/kinescoperef13.Plane).Between -/
def g30 (Q : Value → AHeap → Prop) (L5 : PT) (vs : List Value) (H : AHeap) : Prop :=
 inA 3 vs fun l0 vs =>
 inI .i64 vs fun x1 vs =>
 inI .i64 vs fun x2 vs =>
 inB vs fun c3 vs =>
 nilK vs <|
 gd (l0.length = 3) <|
 call Try.prog 41 [.int .i64 x1] H fun r20 H20 =>
 tupK r20 fun l =>
 inI .i64 l fun x20a l_2 =>
 inI .i64 l_2 fun x20b l_3 =>
 nilK l_3 <|
 call Try.prog 41 [.int .i64 x2] H20 fun r25 H25 =>
 tupK r25 fun l_4 =>
 inI .i64 l_4 fun x25a l_5 =>
 inI .i64 l_5 fun x25b l_6 =>
 nilK l_6 <|
 lpW L5 kb0 5 [.bool c3, .int .i64 x20a, .int .i64 x20b, .int .i64 x25a, .int .i64 x25b, .int .i64 0, .int .i64 0, .int .i64 0] [l0] H25
def f30 (vs : List Value) (H : AHeap) (Q : Value → AHeap → Prop) : Prop := g30 Q (f30_l5 Q) vs H

noncomputable def x30 (Q : Value → AHeap → Prop) (F9 F10 F6 F7 F15 F12 L8 L5 : PT) : Pc := pc Try.prog 64 [(4, 4)]
  [(9, ⟨[3, 9, 10, 11, 12, 13, 14, 15, 16], [(4, 4)], [4]⟩), (10, ⟨[3, 9, 10, 11, 12, 13, 14, 15, 16], [(4, 4)], [4]⟩), (6, ⟨[3, 9, 10, 11, 12, 13, 14, 15], [(4, 4)], [4]⟩), (7, ⟨[3, 9, 10, 11, 12, 13, 14, 15], [(4, 4)], [4]⟩), (15, ⟨[13, 14, 17], [], []⟩), (12, ⟨[3, 13, 14], [], []⟩)]
  [(8, ⟨[3, 9, 10, 11, 12, 13, 14, 15, 16], [(4, 4)], [4]⟩), (5, ⟨[3, 9, 10, 11, 12, 13, 14, 15], [(4, 4)], [4]⟩)]
  []
  (shOf [(9, F9), (10, F10), (6, F6), (7, F7), (15, F15), (12, F12)])
  (shOf [(8, L8), (5, L5)])
  [.tmp 8] Q
theorem o30_0 (Q : Value → AHeap → Prop) (F9 F10 F6 F7 F15 L8 L5 : PT) : cutOK (x30 Q F9 F10 F6 F7 F15 (g30_12 Q F15) L8 L5) (cutAt (bodyOf Try.f30) 0) := by
  refine cutOK_of (F := g30_12 Q F15) (by kernel_rfl) ?_
  intro kb vs bs H h
  obtain ⟨_, _, rfl, h1⟩ := deB h
  obtain ⟨_, _, rfl, h2⟩ := deI h1
  obtain ⟨_, _, rfl, h3⟩ := deI h2
  obtain ⟨rfl, g⟩ := deN h3
  obtain ⟨rfl, k⟩ := deNX g
  exact Eq.mp (by kernel_rfl) k
theorem o30_1 (Q : Value → AHeap → Prop) (F9 F10 F6 F7 F15 F12 L8 : PT) : cutOK (x30 Q F9 F10 F6 F7 F15 F12 L8 (g30_l5 Q F7 F12)) (cutAt (bodyOf Try.f30) 1) := by
  refine cutOK_of (F := g30_l5 Q F7 F12) (by kernel_rfl) ?_
  intro kb vs bs H h
  obtain ⟨_, _, rfl, h1⟩ := deB h
  obtain ⟨_, _, rfl, h2⟩ := deI h1
  obtain ⟨_, _, rfl, h3⟩ := deI h2
  obtain ⟨_, _, rfl, h4⟩ := deI h3
  obtain ⟨_, _, rfl, h5⟩ := deI h4
  obtain ⟨_, _, rfl, h6⟩ := deI h5
  obtain ⟨_, _, rfl, h7⟩ := deI h6
  obtain ⟨_, _, rfl, h8⟩ := deI h7
  obtain ⟨rfl, g⟩ := deN h8
  obtain ⟨_, _, rfl, g1⟩ := deX g
  obtain ⟨rfl, k⟩ := deNX g1
  exact Eq.mp (by kernel_rfl) k
theorem o30_2 (Q : Value → AHeap → Prop) (F9 F10 F6 F15 F12 L8 L5 : PT) : cutOK (x30 Q F9 F10 F6 (g30_7 Q L8) F15 F12 L8 L5) (cutAt (bodyOf Try.f30) 2) := by
  refine cutOK_of (F := g30_7 Q L8) (by kernel_rfl) ?_
  intro kb vs bs H h
  obtain ⟨_, _, rfl, h1⟩ := deB h
  obtain ⟨_, _, rfl, h2⟩ := deI h1
  obtain ⟨_, _, rfl, h3⟩ := deI h2
  obtain ⟨_, _, rfl, h4⟩ := deI h3
  obtain ⟨_, _, rfl, h5⟩ := deI h4
  obtain ⟨_, _, rfl, h6⟩ := deI h5
  obtain ⟨_, _, rfl, h7⟩ := deI h6
  obtain ⟨_, _, rfl, h8⟩ := deI h7
  obtain ⟨rfl, g⟩ := deN h8
  obtain ⟨_, _, rfl, g1⟩ := deX g
  obtain ⟨rfl, k⟩ := deNX g1
  exact Eq.mp (by kernel_rfl) k
theorem o30_3 (Q : Value → AHeap → Prop) (F9 F10 F7 F15 F12 L8 L5 : PT) : cutOK (x30 Q F9 F10 (g30_6 Q) F7 F15 F12 L8 L5) (cutAt (bodyOf Try.f30) 3) := by
  refine cutOK_of (F := g30_6 Q) (by kernel_rfl) ?_
  intro kb vs bs H h
  obtain ⟨_, _, rfl, h1⟩ := deB h
  obtain ⟨_, _, rfl, h2⟩ := deI h1
  obtain ⟨_, _, rfl, h3⟩ := deI h2
  obtain ⟨_, _, rfl, h4⟩ := deI h3
  obtain ⟨_, _, rfl, h5⟩ := deI h4
  obtain ⟨_, _, rfl, h6⟩ := deI h5
  obtain ⟨_, _, rfl, h7⟩ := deI h6
  obtain ⟨_, _, rfl, h8⟩ := deI h7
  obtain ⟨rfl, g⟩ := deN h8
  obtain ⟨_, _, rfl, g1⟩ := deX g
  obtain ⟨rfl, k⟩ := deNX g1
  exact Eq.mp (by kernel_rfl) k
theorem o30_4 (Q : Value → AHeap → Prop) (F9 F10 F6 F7 F15 F12 L5 : PT) : cutOK (x30 Q F9 F10 F6 F7 F15 F12 (g30_l8 Q F6 F10) L5) (cutAt (bodyOf Try.f30) 4) := by
  refine cutOK_of (F := g30_l8 Q F6 F10) (by kernel_rfl) ?_
  intro kb vs bs H h
  obtain ⟨_, _, rfl, h1⟩ := deB h
  obtain ⟨_, _, rfl, h2⟩ := deI h1
  obtain ⟨_, _, rfl, h3⟩ := deI h2
  obtain ⟨_, _, rfl, h4⟩ := deI h3
  obtain ⟨_, _, rfl, h5⟩ := deI h4
  obtain ⟨_, _, rfl, h6⟩ := deI h5
  obtain ⟨_, _, rfl, h7⟩ := deI h6
  obtain ⟨_, _, rfl, h8⟩ := deI h7
  obtain ⟨_, _, rfl, h9⟩ := deI h8
  obtain ⟨rfl, g⟩ := deN h9
  obtain ⟨_, _, rfl, g1⟩ := deX g
  obtain ⟨rfl, k⟩ := deNX g1
  exact Eq.mp (by kernel_rfl) k
theorem o30_5 (Q : Value → AHeap → Prop) (F9 F6 F7 F15 F12 L8 L5 : PT) : cutOK (x30 Q F9 (g30_10 Q F9) F6 F7 F15 F12 L8 L5) (cutAt (bodyOf Try.f30) 5) := by
  refine cutOK_of (F := g30_10 Q F9) (by kernel_rfl) ?_
  intro kb vs bs H h
  obtain ⟨_, _, rfl, h1⟩ := deB h
  obtain ⟨_, _, rfl, h2⟩ := deI h1
  obtain ⟨_, _, rfl, h3⟩ := deI h2
  obtain ⟨_, _, rfl, h4⟩ := deI h3
  obtain ⟨_, _, rfl, h5⟩ := deI h4
  obtain ⟨_, _, rfl, h6⟩ := deI h5
  obtain ⟨_, _, rfl, h7⟩ := deI h6
  obtain ⟨_, _, rfl, h8⟩ := deI h7
  obtain ⟨_, _, rfl, h9⟩ := deI h8
  obtain ⟨rfl, g⟩ := deN h9
  obtain ⟨_, _, rfl, g1⟩ := deX g
  obtain ⟨rfl, k⟩ := deNX g1
  exact Eq.mp (by kernel_rfl) k
theorem o30_6 (Q : Value → AHeap → Prop) (F10 F6 F7 F15 F12 L8 L5 : PT) : cutOK (x30 Q (g30_9 Q) F10 F6 F7 F15 F12 L8 L5) (cutAt (bodyOf Try.f30) 6) := by
  refine cutOK_of (F := g30_9 Q) (by kernel_rfl) ?_
  intro kb vs bs H h
  obtain ⟨_, _, rfl, h1⟩ := deB h
  obtain ⟨_, _, rfl, h2⟩ := deI h1
  obtain ⟨_, _, rfl, h3⟩ := deI h2
  obtain ⟨_, _, rfl, h4⟩ := deI h3
  obtain ⟨_, _, rfl, h5⟩ := deI h4
  obtain ⟨_, _, rfl, h6⟩ := deI h5
  obtain ⟨_, _, rfl, h7⟩ := deI h6
  obtain ⟨_, _, rfl, h8⟩ := deI h7
  obtain ⟨_, _, rfl, h9⟩ := deI h8
  obtain ⟨rfl, g⟩ := deN h9
  obtain ⟨_, _, rfl, g1⟩ := deX g
  obtain ⟨rfl, k⟩ := deNX g1
  exact Eq.mp (by kernel_rfl) k
theorem o30_7 (Q : Value → AHeap → Prop) (F9 F10 F6 F7 F12 L8 L5 : PT) : cutOK (x30 Q F9 F10 F6 F7 (g30_15 Q) F12 L8 L5) (cutAt (bodyOf Try.f30) 7) := by
  refine cutOK_of (F := g30_15 Q) (by kernel_rfl) ?_
  intro kb vs bs H h
  obtain ⟨_, _, rfl, h1⟩ := deI h
  obtain ⟨_, _, rfl, h2⟩ := deI h1
  obtain ⟨_, _, rfl, h3⟩ := deI h2
  obtain ⟨rfl, g⟩ := deN h3
  obtain ⟨rfl, k⟩ := deNX g
  exact Eq.mp (by kernel_rfl) k
theorem m30 {Q : Value → AHeap → Prop} (F9 F10 F6 F7 F15 F12 L8 L5 : PT) {vs : List Value} {H : AHeap} (h : g30 Q L5 vs H) : Nat.ble vs.length 64 = true ∧ interp (x30 Q F9 F10 F6 F7 F15 F12 L8 L5) kb0 (bodyOf Try.f30) [] (entry vs H) := by
  obtain ⟨_, _, rfl, h1⟩ := deA h
  obtain ⟨_, _, rfl, h2⟩ := deI h1
  obtain ⟨_, _, rfl, h3⟩ := deI h2
  obtain ⟨_, _, rfl, h4⟩ := deB h3
  obtain ⟨rfl, g⟩ := deN h4
  exact ⟨by kernel_rfl, Eq.mp (by kernel_rfl) g⟩
theorem c30 {vs : List Value} {H : AHeap} {Q : Value → AHeap → Prop} (h : f30 vs H Q) : call Try.prog 30 vs H Q :=
  call_of' noNG (X := x30 Q (f30_9 Q) (f30_10 Q) (f30_6 Q) (f30_7 Q) (f30_15 Q) (f30_12 Q) (f30_l8 Q) (f30_l5 Q)) (fn := Try.f30) (by kernel_rfl) (by kernel_rfl) (by kernel_rfl) (by kernel_rfl) (by kernel_rfl) (obl_of (n := 8) (by kernel_rfl) (by kernel_rfl) ⟨o30_0 Q (f30_9 Q) (f30_10 Q) (f30_6 Q) (f30_7 Q) (f30_15 Q) (f30_l8 Q) (f30_l5 Q), o30_1 Q (f30_9 Q) (f30_10 Q) (f30_6 Q) (f30_7 Q) (f30_15 Q) (f30_12 Q) (f30_l8 Q), o30_2 Q (f30_9 Q) (f30_10 Q) (f30_6 Q) (f30_15 Q) (f30_12 Q) (f30_l8 Q) (f30_l5 Q), o30_3 Q (f30_9 Q) (f30_10 Q) (f30_7 Q) (f30_15 Q) (f30_12 Q) (f30_l8 Q) (f30_l5 Q), o30_4 Q (f30_9 Q) (f30_10 Q) (f30_6 Q) (f30_7 Q) (f30_15 Q) (f30_12 Q) (f30_l5 Q), o30_5 Q (f30_9 Q) (f30_6 Q) (f30_7 Q) (f30_15 Q) (f30_12 Q) (f30_l8 Q) (f30_l5 Q), o30_6 Q (f30_10 Q) (f30_6 Q) (f30_7 Q) (f30_15 Q) (f30_12 Q) (f30_l8 Q) (f30_l5 Q), o30_7 Q (f30_9 Q) (f30_10 Q) (f30_6 Q) (f30_7 Q) (f30_12 Q) (f30_l8 Q) (f30_l5 Q), trivial⟩) (m30 (f30_9 Q) (f30_10 Q) (f30_6 Q) (f30_7 Q) (f30_15 Q) (f30_12 Q) (f30_l8 Q) (f30_l5 Q) h).1 (m30 (f30_9 Q) (f30_10 Q) (f30_6 Q) (f30_7 Q) (f30_15 Q) (f30_12 Q) (f30_l8 Q) (f30_l5 Q) h).2

/-! ## 44 (kinescope/kinescoperef13.Plane).At -/

def g44_9 (Q : Value → AHeap → Prop) (kb : KB) (vs : List Value) (bs : List (List Value)) (H : AHeap) : Prop :=
 inI .i64 vs fun x1 vs =>
 inI .i64 vs fun x2 vs =>
 nilK vs <|
 inX bs fun y3 bs =>
 nilX bs <|
 rSl y3 2 fun a28 n28 z28 =>
 rI .i64 y3 0 fun x31 =>
 hp a28 fun b35 o35 =>
 aidx (IntKind.wrap .i64 ((IntKind.wrap .i64 (x2 * x31)) + x1)) n28 fun j35 =>
 rdH H b35 fun y36 =>
 rI .u8 y36 (o35 + j35 * 1) fun x36 =>
 Q (.int .i64 (IntKind.wrap .i64 x36)) H
def f44_9 (Q : Value → AHeap → Prop) : PT := g44_9 Q

def g44_7 (Q : Value → AHeap → Prop) (F9 : PT) (kb : KB) (vs : List Value) (bs : List (List Value)) (H : AHeap) : Prop :=
 inI .i64 vs fun x1 vs =>
 inI .i64 vs fun x2 vs =>
 nilK vs <|
 inX bs fun y3 bs =>
 nilX bs <|
 rI .i64 y3 1 fun x21 =>
 bif (decide ((x2 : Int) > (IntKind.wrap .i64 (x21 - 1)))) then (
  rI .i64 y3 1 fun x25 =>
  F9 kb [.int .i64 x1, .int .i64 (IntKind.wrap .i64 (x25 - 1))] [y3] H
 ) else (
  F9 kb [.int .i64 x1, .int .i64 x2] [y3] H
 )
def f44_7 (Q : Value → AHeap → Prop) : PT := g44_7 Q (f44_9 Q)

def g44_5 (Q : Value → AHeap → Prop) (F7 : PT) (kb : KB) (vs : List Value) (bs : List (List Value)) (H : AHeap) : Prop :=
 inI .i64 vs fun x1 vs =>
 inI .i64 vs fun x2 vs =>
 nilK vs <|
 inX bs fun y3 bs =>
 nilX bs <|
 bif (decide ((x2 : Int) < 0)) then (
  F7 kb [.int .i64 x1, .int .i64 0] [y3] H
 ) else (
  F7 kb [.int .i64 x1, .int .i64 x2] [y3] H
 )
def f44_5 (Q : Value → AHeap → Prop) : PT := g44_5 Q (f44_7 Q)

def g44_3 (Q : Value → AHeap → Prop) (F5 : PT) (kb : KB) (vs : List Value) (bs : List (List Value)) (H : AHeap) : Prop :=
 inI .i64 vs fun x1 vs =>
 inI .i64 vs fun x2 vs =>
 nilK vs <|
 inX bs fun y3 bs =>
 nilX bs <|
 rI .i64 y3 0 fun x11 =>
 bif (decide ((x1 : Int) > (IntKind.wrap .i64 (x11 - 1)))) then (
  rI .i64 y3 0 fun x15 =>
  F5 kb [.int .i64 (IntKind.wrap .i64 (x15 - 1)), .int .i64 x2] [y3] H
 ) else (
  F5 kb [.int .i64 x1, .int .i64 x2] [y3] H
 )
def f44_3 (Q : Value → AHeap → Prop) : PT := g44_3 Q (f44_5 Q)

/-- (kinescope/kinescoperef13.Plane).At -/
def g44 (Q : Value → AHeap → Prop) (F3 : PT) (vs : List Value) (H : AHeap) : Prop :=
 inA 3 vs fun l0 vs =>
 inI .i64 vs fun x1 vs =>
 inI .i64 vs fun x2 vs =>
 nilK vs <|
 gd (l0.length = 3) <|
 bif (decide ((x1 : Int) < 0)) then (
  F3 kb0 [.int .i64 0, .int .i64 x2] [l0] H
 ) else (
  F3 kb0 [.int .i64 x1, .int .i64 x2] [l0] H
 )
def f44 (vs : List Value) (H : AHeap) (Q : Value → AHeap → Prop) : Prop := g44 Q (f44_3 Q) vs H

noncomputable def x44 (Q : Value → AHeap → Prop) (F9 F7 F5 F3 : PT) : Pc := pc Try.prog 38 [(3, 3), (10, 3), (14, 3), (20, 3), (24, 3), (27, 3), (30, 3)]
  [(9, ⟨[1, 2], [(3, 3)], [3]⟩), (7, ⟨[1, 2], [(3, 3)], [3]⟩), (5, ⟨[1, 2], [(3, 3)], [3]⟩), (3, ⟨[1, 2], [(3, 3)], [3]⟩)]
  []
  []
  (shOf [(9, F9), (7, F7), (5, F5), (3, F3)])
  (shOf [])
  [.tmp 6] Q
theorem o44_0 (Q : Value → AHeap → Prop) (F9 F7 F5 : PT) : cutOK (x44 Q F9 F7 F5 (g44_3 Q F5)) (cutAt (bodyOf Try.f44) 0) := by
  refine cutOK_of (F := g44_3 Q F5) (by kernel_rfl) ?_
  intro kb vs bs H h
  obtain ⟨_, _, rfl, h1⟩ := deI h
  obtain ⟨_, _, rfl, h2⟩ := deI h1
  obtain ⟨rfl, g⟩ := deN h2
  obtain ⟨_, _, rfl, g1⟩ := deX g
  obtain ⟨rfl, k⟩ := deNX g1
  exact Eq.mp (by kernel_rfl) k
theorem o44_1 (Q : Value → AHeap → Prop) (F9 F7 F3 : PT) : cutOK (x44 Q F9 F7 (g44_5 Q F7) F3) (cutAt (bodyOf Try.f44) 1) := by
  refine cutOK_of (F := g44_5 Q F7) (by kernel_rfl) ?_
  intro kb vs bs H h
  obtain ⟨_, _, rfl, h1⟩ := deI h
  obtain ⟨_, _, rfl, h2⟩ := deI h1
  obtain ⟨rfl, g⟩ := deN h2
  obtain ⟨_, _, rfl, g1⟩ := deX g
  obtain ⟨rfl, k⟩ := deNX g1
  exact Eq.mp (by kernel_rfl) k
theorem o44_2 (Q : Value → AHeap → Prop) (F9 F5 F3 : PT) : cutOK (x44 Q F9 (g44_7 Q F9) F5 F3) (cutAt (bodyOf Try.f44) 2) := by
  refine cutOK_of (F := g44_7 Q F9) (by kernel_rfl) ?_
  intro kb vs bs H h
  obtain ⟨_, _, rfl, h1⟩ := deI h
  obtain ⟨_, _, rfl, h2⟩ := deI h1
  obtain ⟨rfl, g⟩ := deN h2
  obtain ⟨_, _, rfl, g1⟩ := deX g
  obtain ⟨rfl, k⟩ := deNX g1
  exact Eq.mp (by kernel_rfl) k
theorem o44_3 (Q : Value → AHeap → Prop) (F7 F5 F3 : PT) : cutOK (x44 Q (g44_9 Q) F7 F5 F3) (cutAt (bodyOf Try.f44) 3) := by
  refine cutOK_of (F := g44_9 Q) (by kernel_rfl) ?_
  intro kb vs bs H h
  obtain ⟨_, _, rfl, h1⟩ := deI h
  obtain ⟨_, _, rfl, h2⟩ := deI h1
  obtain ⟨rfl, g⟩ := deN h2
  obtain ⟨_, _, rfl, g1⟩ := deX g
  obtain ⟨rfl, k⟩ := deNX g1
  exact Eq.mp (by kernel_rfl) k
theorem m44 {Q : Value → AHeap → Prop} (F9 F7 F5 F3 : PT) {vs : List Value} {H : AHeap} (h : g44 Q F3 vs H) : Nat.ble vs.length 38 = true ∧ interp (x44 Q F9 F7 F5 F3) kb0 (bodyOf Try.f44) [] (entry vs H) := by
  obtain ⟨_, _, rfl, h1⟩ := deA h
  obtain ⟨_, _, rfl, h2⟩ := deI h1
  obtain ⟨_, _, rfl, h3⟩ := deI h2
  obtain ⟨rfl, g⟩ := deN h3
  exact ⟨by kernel_rfl, Eq.mp (by kernel_rfl) g⟩
theorem c44 {vs : List Value} {H : AHeap} {Q : Value → AHeap → Prop} (h : f44 vs H Q) : call Try.prog 44 vs H Q :=
  call_of' noNG (X := x44 Q (f44_9 Q) (f44_7 Q) (f44_5 Q) (f44_3 Q)) (fn := Try.f44) (by kernel_rfl) (by kernel_rfl) (by kernel_rfl) (by kernel_rfl) (by kernel_rfl) (obl_of (n := 4) (by kernel_rfl) (by kernel_rfl) ⟨o44_0 Q (f44_9 Q) (f44_7 Q) (f44_5 Q), o44_1 Q (f44_9 Q) (f44_7 Q) (f44_3 Q), o44_2 Q (f44_9 Q) (f44_5 Q) (f44_3 Q), o44_3 Q (f44_7 Q) (f44_5 Q) (f44_3 Q), trivial⟩) (m44 (f44_9 Q) (f44_7 Q) (f44_5 Q) (f44_3 Q) h).1 (m44 (f44_9 Q) (f44_7 Q) (f44_5 Q) (f44_3 Q) h).2

end Go.Am
