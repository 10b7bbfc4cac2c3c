import Derived.Test.YtcdajekafnggkaaGreatDoorProg
import Derived.Laws.Strings
import Derived.Test.YtcdajekafnggkaaGreatDoorRows
import Derived.LaidLaws
import Derived.Lay
import Derived.Stop.LaidErr
import Derived.Lib.LaidTab
import Derived.ChangeVars
import Derived.MakeChecks
import Derived.Laws.Externs
import Derived.Lib.Overlaps
import Derived.Test.YtcdajekafnggkaaGreatDoorM1IndexScript
import Derived.Test.YtcdajekafnggkaaGreatDoorM2IndexScript
set_option linter.unusedVariables false
set_option maxRecDepth 8000
set_option maxHeartbeats 2000000
namespace Go.Proofs.YtcdajekafnggkaaGreatDoor
open Go.Px
def prefix_Has_b1 (R : RT) (x4 : Bool) (I : IMem) (S : SH) : Prop :=
  R (.bool x4) I S
def prefix_Has (R : RT) (u0 : ByteArray) (u1 : Int) (u2 : ByteArray) (I : IMem) (S : SH) : Prop :=
  ∀ b2 : Nat,
  ∃ u3, Cell I ((b2, .cells #[.string u0, .int .i64 u1] 33 (0, 0)) :: S) ⟨b2, 1, none⟩ (.int .i64 u3) ∧
  Runs Tryz.prog 29 #[.string u2, .int .i64 u3] I ((b2, .cells #[.string u0, .int .i64 u1] 33 (0, 0)) :: S) fun v I1 S1 => ∃ u4 u5 u6, v = .tuple #[.agg #[.string u4, .int .i64 u5], .bool u6] ∧
  ∀ b5 : Nat,
  StP ((b5, .cells #[.string ⟨#[]⟩, .int .i64 0] 33 (0, 0)) :: S1) ⟨b5, 0, none⟩ [.string u4, .int .i64 u5] fun S1' =>
  bcase u6
    (∃ u7, Cell I1 S1' ⟨b2, 0, none⟩ (.string u7) ∧
    ∃ u8, Cell I1 S1' ⟨b2, 1, none⟩ (.int .i64 u8) ∧
    Runs Tryz.prog 48 #[.agg #[.string u7, .int .i64 u8]] I1 S1' fun v' I1' S1'' => ∃ u9, v' = .bool u9 ∧
    bcase u9
      (∃ ua, Cell I1' S1'' ⟨b5, 0, none⟩ (.string ua) ∧
      ∃ ub, Cell I1' S1'' ⟨b5, 1, none⟩ (.int .i64 ub) ∧
      ∃ uc, Cell I1' S1'' ⟨b2, 0, none⟩ (.string uc) ∧
      ∃ ud, Cell I1' S1'' ⟨b2, 1, none⟩ (.int .i64 ud) ∧
      prefix_Has_b1 R (((ua : ByteArray) == (uc : ByteArray)) && (((ub : Int) == (ud : Int)) && true)) I1' S1'')
      (prefix_Has_b1 R false I1' S1''))
    (prefix_Has_b1 R false I1 S1')
theorem prefix_Has_fn (R : RT) (u0 : ByteArray) (u1 : Int) (u2 : ByteArray) (I : IMem) (S : SH) (h : prefix_Has R u0 u1 u2 I S) : Runs Tryz.prog 36 #[.agg #[.string u0, .int .i64 u1], .string u2] I S R := by
  refine Runs.of_wp (c := cd Tryz.f36) Tryz.func36 (by kernel_rfl) (by kernel_rfl) ?_
  refine cO 3 [kB 4] (prefix_Has_b1 R) h fun _ _ _ _ _ h => ?_
  exact pS h
abbrev prefix_Key_t3 := Addr → Addr → Int → Int → PR
def prefix_Key_b4 (R : RT) (x3 : Addr) (I : IMem) (S : SH) : Prop :=
  Runs Tryz.prog 41 #[.pointer (some x3)] I S fun v I1 S1 => ∃ u0, v = .string u0 ∧
  R (.string u0) I1 S1
def prefix_Key_l3 (g3 : prefix_Key_t3) (R : RT) (x1 x3 : Addr) (x9 x10 : Int) (I : IMem) (S : SH) : Prop :=
  bcase (decide (x10 < x9))
    (∃ u0, Cell I S x1 (.string u0) ∧
    Runs Tryz.prog 49 #[.string u0, .int .i64 x10] I S fun v I1 S1 => ∃ u1, v = .int .u8 u1 ∧
    Runs Tryz.prog 38 #[.pointer (some x3), .int .u8 (IntKind.wrap .u8 ((48 : Int) + u1))] I1 S1 fun v' I1' S1' => ∃ u2, v' = u2 ∧
    g3 x1 x3 x9 (IntKind.wrap .i64 (x10 + (1 : Int))) I1' S1')
    (prefix_Key_b4 R x3 I S)
def prefix_Key_b2 (R : RT) (x1 x3 : Addr) (x9 x10 : Int) (I : IMem) (S : SH) : Prop :=
  ∃ (Inv : Nat → prefix_Key_t3) (m : Nat), Inv m x1 x3 x9 x10 I S ∧
    ∀ (m : Nat) (x1 x3 : Addr) (x9 x10 : Int) (J : IMem) (T : SH), I.le J → Inv m x1 x3 x9 x10 J T →
      prefix_Key_l3 (fun x1 x3 x9 x10 I S => ∃ m', m' < m ∧ Inv m' x1 x3 x9 x10 I S) R x1 x3 x9 x10 J T
def prefix_Key_b1 (R : RT) (x1 x3 : Addr) (I : IMem) (S : SH) : Prop :=
  ∃ u0, Cell I S (x1.add 1) (.int .i64 u0) ∧
  prefix_Key_b2 R x1 x3 u0 0 I S
def prefix_Key (R : RT) (u0 : ByteArray) (u1 : Int) (I : IMem) (S : SH) : Prop :=
  ∀ b1 : Nat,
  ∃ u2, Cell I ((b1, .cells #[.string u0, .int .i64 u1] 33 (0, 0)) :: S) ⟨b1, 0, none⟩ (.string u2) ∧
  ∃ u3, Cell I ((b1, .cells #[.string u0, .int .i64 u1] 33 (0, 0)) :: S) ⟨b1, 1, none⟩ (.int .i64 u3) ∧
  Runs Tryz.prog 48 #[.agg #[.string u2, .int .i64 u3]] I ((b1, .cells #[.string u0, .int .i64 u1] 33 (0, 0)) :: S) fun v I1 S1 => ∃ u4, v = .bool u4 ∧
  bcase (!u4)
    (R (.string ⟨#[]⟩) I1 S1)
    (∀ b3 : Nat,
    prefix_Key_b1 R ⟨b1, 0, none⟩ ⟨b3, 0, none⟩ I1 ((b3, .cells #[.pointer none, .slice none 0 0] 83 (0, 0)) :: S1))
theorem prefix_Key_fn (R : RT) (u0 : ByteArray) (u1 : Int) (I : IMem) (S : SH) (h : prefix_Key R u0 u1 I S) : Runs Tryz.prog 22 #[.agg #[.string u0, .int .i64 u1]] I S R := by
  refine Runs.of_wp (c := cd Tryz.f22) Tryz.func22 (by kernel_rfl) (by kernel_rfl) ?_
  refine cO 3 [kA 1, kA 3] (prefix_Key_b1 R) h fun _ _ _ _ _ _ h => ?_
  refine sO [kA 3] (prefix_Key_b4 R) ?_ fun _ _ _ _ _ h => ?_
  · refine cO 1 [kA 1, kA 3, kI .i64 9, kI .i64 10] (prefix_Key_b2 R) h fun _ _ _ _ _ _ _ _ h => ?_
    refine bK ?_
    obtain ⟨Vg3, mg3, h, hr⟩ := h
    refine lO [kA 1, kA 3, kI .i64 9, kI .i64 10] Vg3 mg3 h fun mg3 _ I S hle x1 x3 x9 x10 h => ?_
    have h := hr mg3 x1 x3 x9 x10 I S hle h
    exact pS h
  exact pS h
def prefix_bit (R : RT) (u0 : ByteArray) (u1 : Int) (I : IMem) (S : SH) : Prop :=
  ∃ u2 : UInt8, (0 : Int) ≤ (IntKind.wrap .i64 (u1.tdiv (8 : Int))) ∧ u0[(IntKind.wrap .i64 (u1.tdiv (8 : Int))).toNat]? = some u2 ∧
  bcase (decide ((IntKind.wrap .i64 ((7 : Int) - (u1.tmod (8 : Int)))) < 0)) False (R (.int .u8 (iand .u8 ((u2.toNat : Int).fdiv (2 ^ (min (IntKind.wrap .i64 ((7 : Int) - (u1.tmod (8 : Int)))).toNat (IntKind.bits .u8)))) (1 : Int))) I S)
theorem prefix_bit_fn (R : RT) (u0 : ByteArray) (u1 : Int) (I : IMem) (S : SH) (h : prefix_bit R u0 u1 I S) : Runs Tryz.prog 49 #[.string u0, .int .i64 u1] I S R := by
  refine Runs.of_wp (c := cd Tryz.f49) Tryz.func49 (by kernel_rfl) (by kernel_rfl) ?_
  exact pS h
def table_Table_Put_b4 (R : RT) (x0 : OA) (x1 : ByteArray) (x2 x7 : Int) (x8 : Bool) (I : IMem) (S : SH) : Prop :=
  ptrP x0 fun u0 =>
  ∃ u1 u1n u1c, Cell I S u0 (.slice u1 u1n u1c) ∧
  ptrP u1 fun u2 => (0 : Int) ≤ x7 ∧ x7 < (u1n : Int) ∧
  StP S (u2.add (x7.toNat * 4)) [.string x1, .int .i64 x2, .bool true, .bool false] fun S1 =>
  R (.bool (!x8)) I S1
def table_Table_Put_b3 (R : RT) (x0 : OA) (x1 : ByteArray) (x2 : Int) (I : IMem) (S : SH) : Prop :=
  Runs Tryz.prog 50 #[.pointer x0, .string x1] I S fun v I1 S1 => ∃ u0 u1, v = .tuple #[.int .i64 u0, .bool u1] ∧
  bcase (!u1)
    (ptrP x0 fun u2 =>
    ∃ u3, Cell I1 S1 (u2.add 1) (.int .i64 u3) ∧
    ptrP x0 fun u4 =>
    StP S1 (u4.add 1) [.int .i64 (IntKind.wrap .i64 (u3 + (1 : Int)))] fun S1' =>
    ptrP x0 fun u5 =>
    ∃ u6 u6n u6c, Cell I1 S1' u5 (.slice u6 u6n u6c) ∧
    ptrP u6 fun u7 => (0 : Int) ≤ u0 ∧ u0 < (u6n : Int) ∧
    ∃ u8, Cell I1 S1' ((u7.add (u0.toNat * 4)).add 3) (.bool u8) ∧
    bcase (!u8)
      (ptrP x0 fun u9 =>
      ∃ ua, Cell I1 S1' (u9.add 2) (.int .i64 ua) ∧
      ptrP x0 fun ub =>
      StP S1' (ub.add 2) [.int .i64 (IntKind.wrap .i64 (ua + (1 : Int)))] fun S1'' =>
      table_Table_Put_b4 R x0 x1 x2 u0 u1 I1 S1'')
      (table_Table_Put_b4 R x0 x1 x2 u0 u1 I1 S1'))
    (table_Table_Put_b4 R x0 x1 x2 u0 u1 I1 S1)
def table_Table_Put_b2 (R : RT) (x0 : OA) (x1 : ByteArray) (x2 : Int) (x20 : Bool) (I : IMem) (S : SH) : Prop :=
  bcase x20
    (Runs Tryz.prog 53 #[.pointer x0] I S fun v I1 S1 => v = .tuple #[] ∧
    table_Table_Put_b3 R x0 x1 x2 I1 S1)
    (table_Table_Put_b3 R x0 x1 x2 I S)
def table_Table_Put_b1 (R : RT) (x0 : OA) (x1 : ByteArray) (x2 : Int) (I : IMem) (S : SH) : Prop :=
  ptrP x0 fun u0 =>
  ∃ u1, Cell I S (u0.add 2) (.int .i64 u1) ∧
  ptrP x0 fun u2 =>
  ∃ u3 u3n u3c, Cell I S u2 (.slice u3 u3n u3c) ∧
  table_Table_Put_b2 R x0 x1 x2 (decide ((IntKind.wrap .i64 ((2 : Int) * (IntKind.wrap .i64 (u1 + (1 : Int))))) > (u3n : Int))) I S
def table_Table_Put (R : RT) (u0 : OA) (u1 : ByteArray) (u2 : Int) (I : IMem) (S : SH) : Prop :=
  table_Table_Put_b1 R u0 u1 u2 I S
theorem table_Table_Put_fn (R : RT) (u0 : OA) (u1 : ByteArray) (u2 : Int) (I : IMem) (S : SH) (h : table_Table_Put R u0 u1 u2 I S) : Runs Tryz.prog 26 #[.pointer u0, .string u1, .int .i64 u2] I S R := by
  refine Runs.of_wp (c := cd Tryz.f26) Tryz.func26 (by kernel_rfl) (by kernel_rfl) ?_
  refine cO 1 [kP 0, kS 1, kI .i64 2] (table_Table_Put_b1 R) h fun _ _ _ _ _ _ _ h => ?_
  refine sO [kP 0, kS 1, kI .i64 2] (table_Table_Put_b3 R) ?_ fun _ _ _ _ _ _ _ h => ?_
  · refine sO [kP 0, kS 1, kI .i64 2, kB 20] (table_Table_Put_b2 R) (qT h) fun _ _ _ _ _ _ _ _ h => ?_
    exact pS h
  refine cO 2 [kP 0, kS 1, kI .i64 2, kI .i64 7, kB 8] (table_Table_Put_b4 R) h fun _ _ _ _ _ _ _ _ _ h => ?_
  exact pS h
def table_Table_Get (R : RT) (u0 : OA) (u1 : ByteArray) (I : IMem) (S : SH) : Prop :=
  ptrP u0 fun u2 =>
  ∃ u3 u3n u3c, Cell I S u2 (.slice u3 u3n u3c) ∧
  bcase ((u3n : Int) == (0 : Int))
    (R (.tuple #[.int .i64 0, .bool false]) I S)
    (Runs Tryz.prog 50 #[.pointer u0, .string u1] I S fun v I1 S1 => ∃ u4 u5, v = .tuple #[.int .i64 u4, .bool u5] ∧
    bcase (!u5)
      (R (.tuple #[.int .i64 0, .bool false]) I1 S1)
      (ptrP u0 fun u6 =>
      ∃ u7 u7n u7c, Cell I1 S1 u6 (.slice u7 u7n u7c) ∧
      ptrP u7 fun u8 => (0 : Int) ≤ u4 ∧ u4 < (u7n : Int) ∧
      ∃ u9, Cell I1 S1 ((u8.add (u4.toNat * 4)).add 1) (.int .i64 u9) ∧
      R (.tuple #[.int .i64 u9, .bool true]) I1 S1))
theorem table_Table_Get_fn (R : RT) (u0 : OA) (u1 : ByteArray) (I : IMem) (S : SH) (h : table_Table_Get R u0 u1 I S) : Runs Tryz.prog 30 #[.pointer u0, .string u1] I S R := by
  refine Runs.of_wp (c := cd Tryz.f30) Tryz.func30 (by kernel_rfl) (by kernel_rfl) ?_
  exact pS h
def table_Table_Del_b1 (R : RT) (x6 : Bool) (I : IMem) (S : SH) : Prop :=
  R (.bool x6) I S
def table_Table_Del (R : RT) (u0 : OA) (u1 : ByteArray) (I : IMem) (S : SH) : Prop :=
  ptrP u0 fun u2 =>
  ∃ u3 u3n u3c, Cell I S u2 (.slice u3 u3n u3c) ∧
  bcase ((u3n : Int) == (0 : Int))
    (R (.bool false) I S)
    (Runs Tryz.prog 50 #[.pointer u0, .string u1] I S fun v I1 S1 => ∃ u4 u5, v = .tuple #[.int .i64 u4, .bool u5] ∧
    bcase u5
      (ptrP u0 fun u6 =>
      ∃ u7 u7n u7c, Cell I1 S1 u6 (.slice u7 u7n u7c) ∧
      ptrP u7 fun u8 => (0 : Int) ≤ u4 ∧ u4 < (u7n : Int) ∧
      StP S1 (u8.add (u4.toNat * 4)) [.string ⟨#[]⟩, .int .i64 0, .bool false, .bool true] fun S1' =>
      ptrP u0 fun u9 =>
      ∃ ua, Cell I1 S1' (u9.add 1) (.int .i64 ua) ∧
      ptrP u0 fun ub =>
      StP S1' (ub.add 1) [.int .i64 (IntKind.wrap .i64 (ua - (1 : Int)))] fun S1'' =>
      table_Table_Del_b1 R u5 I1 S1'')
      (table_Table_Del_b1 R u5 I1 S1))
theorem table_Table_Del_fn (R : RT) (u0 : OA) (u1 : ByteArray) (I : IMem) (S : SH) (h : table_Table_Del R u0 u1 I S) : Runs Tryz.prog 23 #[.pointer u0, .string u1] I S R := by
  refine Runs.of_wp (c := cd Tryz.f23) Tryz.func23 (by kernel_rfl) (by kernel_rfl) ?_
  refine cO 4 [kB 6] (table_Table_Del_b1 R) h fun _ _ _ _ _ h => ?_
  exact pS h
def table_Table_Len (R : RT) (u0 : OA) (I : IMem) (S : SH) : Prop :=
  ptrP u0 fun u1 =>
  ∃ u2, Cell I S (u1.add 1) (.int .i64 u2) ∧
  R (.int .i64 u2) I S
theorem table_Table_Len_fn (R : RT) (u0 : OA) (I : IMem) (S : SH) (h : table_Table_Len R u0 I S) : Runs Tryz.prog 27 #[.pointer u0] I S R := by
  refine Runs.of_wp (c := cd Tryz.f27) Tryz.func27 (by kernel_rfl) (by kernel_rfl) ?_
  exact pS h
abbrev table_Table_grow_t4 := OA → OA → Nat → Nat → Int → Int → PR
def table_Table_grow_b8 (g4 : table_Table_grow_t4) (R : RT) (x0 x28 : OA) (x28n x28c : Nat) (x29 x30 : Int) (I : IMem) (S : SH) : Prop :=
  g4 x0 x28 x28n x28c x29 (IntKind.wrap .i64 (x30 + (1 : Int))) I S
def table_Table_grow_b7 (g4 : table_Table_grow_t4) (R : RT) (x0 : OA) (x4 : Addr) (x5 : Int) (x28 : OA) (x28n x28c : Nat) (x29 x30 : Int) (I : IMem) (S : SH) : Prop :=
  ptrP x0 fun u0 =>
  ∃ u1 u1n u1c, Cell I S u0 (.slice u1 u1n u1c) ∧
  ∃ u2, Cell I S x4 (.string u2) ∧
  ∃ u3, Cell I S (x4.add 1) (.int .i64 u3) ∧
  ∃ u4, Cell I S (x4.add 2) (.bool u4) ∧
  ∃ u5, Cell I S (x4.add 3) (.bool u5) ∧
  ptrP u1 fun u6 => (0 : Int) ≤ x5 ∧ x5 < (u1n : Int) ∧
  StP S (u6.add (x5.toNat * 4)) [.string u2, .int .i64 u3, .bool u4, .bool u5] fun S1 =>
  table_Table_grow_b8 g4 R x0 x28 x28n x28c x29 x30 I S1
def table_Table_grow_b6 (g4 : table_Table_grow_t4) (R : RT) (x0 : OA) (x4 : Addr) (x28 : OA) (x28n x28c : Nat) (x29 x30 : Int) (x35 : Bool) (I : IMem) (S : SH) : Prop :=
  bcase x35
    (∃ u0, Cell I S x4 (.string u0) ∧
    Runs Tryz.prog 50 #[.pointer x0, .string u0] I S fun v I1 S1 => ∃ u1 u2, v = .tuple #[.int .i64 u1, .bool u2] ∧
    table_Table_grow_b7 g4 R x0 x4 u1 x28 x28n x28c x29 x30 I1 S1)
    (table_Table_grow_b8 g4 R x0 x28 x28n x28c x29 x30 I S)
def table_Table_grow_b5 (g4 : table_Table_grow_t4) (R : RT) (x0 x28 : OA) (x28n x28c : Nat) (x29 x30 : Int) (I : IMem) (S : SH) : Prop :=
  ptrP x28 fun u0 => (0 : Int) ≤ x30 ∧ x30 < (x28n : Int) ∧
  ∃ u1, Cell I S (u0.add (x30.toNat * 4)) (.string u1) ∧
  ∃ u2, Cell I S ((u0.add (x30.toNat * 4)).add 1) (.int .i64 u2) ∧
  ∃ u3, Cell I S ((u0.add (x30.toNat * 4)).add 2) (.bool u3) ∧
  ∃ u4, Cell I S ((u0.add (x30.toNat * 4)).add 3) (.bool u4) ∧
  ∀ b4 : Nat,
  StP ((b4, .cells #[.string ⟨#[]⟩, .int .i64 0, .bool false, .bool false] 106 (0, 0)) :: S) ⟨b4, 0, none⟩ [.string u1, .int .i64 u2, .bool u3, .bool u4] fun S1 =>
  ∃ u5, Cell I S1 ⟨b4, 2, none⟩ (.bool u5) ∧
  table_Table_grow_b6 g4 R x0 ⟨b4, 0, none⟩ x28 x28n x28c x29 x30 u5 I S1
def table_Table_grow_l4 (g4 : table_Table_grow_t4) (R : RT) (x0 x28 : OA) (x28n x28c : Nat) (x29 x30 : Int) (I : IMem) (S : SH) : Prop :=
  bcase (decide (x30 < x29))
    (table_Table_grow_b5 g4 R x0 x28 x28n x28c x29 x30 I S)
    (R (.tuple #[]) I S)
def table_Table_grow_b3 (R : RT) (x0 x28 : OA) (x28n x28c : Nat) (x29 x30 : Int) (I : IMem) (S : SH) : Prop :=
  ∃ (Inv : Nat → table_Table_grow_t4) (m : Nat), Inv m x0 x28 x28n x28c x29 x30 I S ∧
    ∀ (m : Nat) (x0 x28 : OA) (x28n x28c : Nat) (x29 x30 : Int) (J : IMem) (T : SH), I.le J → Inv m x0 x28 x28n x28c x29 x30 J T →
      table_Table_grow_l4 (fun x0 x28 x28n x28c x29 x30 I S => ∃ m', m' < m ∧ Inv m' x0 x28 x28n x28c x29 x30 I S) R x0 x28 x28n x28c x29 x30 J T
def table_Table_grow_b2 (R : RT) (x0 x2 : OA) (x2n x2c : Nat) (I : IMem) (S : SH) : Prop :=
  table_Table_grow_b3 R x0 x2 x2n x2c (x2n : Int) 0 I S
def table_Table_grow_b1 (R : RT) (x0 x2 : OA) (x2n x2c : Nat) (I : IMem) (S : SH) : Prop :=
  ptrP x0 fun u0 =>
  ∃ u1, Cell I S (u0.add 1) (.int .i64 u1) ∧
  ptrP x0 fun u2 =>
  ∃ u3, Cell I S (u2.add 1) (.int .i64 u3) ∧
  (0 : Int) ≤ (if (IntKind.wrap .i64 ((4 : Int) * u1)) > (8 : Int) then (IntKind.wrap .i64 ((4 : Int) * u1)) else (8 : Int)) ∧ (if (IntKind.wrap .i64 ((4 : Int) * u1)) > (8 : Int) then (IntKind.wrap .i64 ((4 : Int) * u1)) else (8 : Int)) ≤ (if (IntKind.wrap .i64 ((4 : Int) * u1)) > (8 : Int) then (IntKind.wrap .i64 ((4 : Int) * u1)) else (8 : Int)) ∧ (if (IntKind.wrap .i64 ((4 : Int) * u1)) > (8 : Int) then (IntKind.wrap .i64 ((4 : Int) * u1)) else (8 : Int)) ≤ 9223372036854775807 ∧ (32 : Int) * (if (IntKind.wrap .i64 ((4 : Int) * u1)) > (8 : Int) then (IntKind.wrap .i64 ((4 : Int) * u1)) else (8 : Int)) ≤ 281474976710656 ∧ ∀ b19 : Nat,
  Keep I S I ((b19, .cells (repV (if (IntKind.wrap .i64 ((4 : Int) * u1)) > (8 : Int) then (IntKind.wrap .i64 ((4 : Int) * u1)) else (8 : Int)).toNat [.string ⟨#[]⟩, .int .i64 0, .bool false, .bool false]).toArray 106 (0, 0)) :: S) ∧
  ptrP x0 fun u4 =>
  StP ((b19, .cells (repV (if (IntKind.wrap .i64 ((4 : Int) * u1)) > (8 : Int) then (IntKind.wrap .i64 ((4 : Int) * u1)) else (8 : Int)).toNat [.string ⟨#[]⟩, .int .i64 0, .bool false, .bool false]).toArray 106 (0, 0)) :: S) u4 [.slice (some ⟨b19, 0, none⟩) ((if (IntKind.wrap .i64 ((4 : Int) * u1)) > (8 : Int) then (IntKind.wrap .i64 ((4 : Int) * u1)) else (8 : Int)).toNat) ((if (IntKind.wrap .i64 ((4 : Int) * u1)) > (8 : Int) then (IntKind.wrap .i64 ((4 : Int) * u1)) else (8 : Int)).toNat)] fun S1 =>
  ptrP x0 fun u5 =>
  StP S1 (u5.add 2) [.int .i64 u3] fun S1' =>
  table_Table_grow_b2 R x0 x2 x2n x2c I S1'
def table_Table_grow (R : RT) (u0 : OA) (I : IMem) (S : SH) : Prop :=
  ptrP u0 fun u1 =>
  ∃ u2 u2n u2c, Cell I S u1 (.slice u2 u2n u2c) ∧
  table_Table_grow_b1 R u0 u2 u2n u2c I S
theorem table_Table_grow_fn (R : RT) (u0 : OA) (I : IMem) (S : SH) (h : table_Table_grow R u0 I S) : Runs Tryz.prog 53 #[.pointer u0] I S R := by
  refine Runs.of_wp (c := cd Tryz.f53) Tryz.func53 (by kernel_rfl) (by kernel_rfl) ?_
  refine cO 1 [kP 0, kL 2] (table_Table_grow_b1 R) h fun _ _ _ _ _ _ _ _ h => ?_
  refine sO [kP 0, kL 2] (table_Table_grow_b2 R) (dR (tk 8 0 (tk 4 9 (.step 8 (.take 13 (.take 14 (.step 15 (.take 16 (.take 17 (.step 18 .done))))))))) [8, 15, 18] h) fun _ _ _ _ _ _ _ _ h => ?_
  refine cO 1 [kP 0, kL 28, kI .i64 29, kI .i64 30] (table_Table_grow_b3 R) h fun _ _ _ _ _ _ _ _ _ _ h => ?_
  refine bK ?_
  obtain ⟨Vg4, mg4, h, hr⟩ := h
  refine lO [kP 0, kL 28, kI .i64 29, kI .i64 30] Vg4 mg4 h fun mg4 _ I S hle x0 x28 x28n x28c x29 x30 h => ?_
  have h := hr mg4 x0 x28 x28n x28c x29 x30 I S hle h
  refine cO 2 [kP 0, kL 28, kI .i64 29, kI .i64 30] (table_Table_grow_b5 (fun x0 x28 x28n x28c x29 x30 I S => ∃ m', m' < mg4 ∧ Vg4 m' x0 x28 x28n x28c x29 x30 I S) R) h fun _ _ _ _ _ _ _ _ _ _ h => ?_
  refine sO [kP 0, kL 28, kI .i64 29, kI .i64 30] (table_Table_grow_b8 (fun x0 x28 x28n x28c x29 x30 I S => ∃ m', m' < mg4 ∧ Vg4 m' x0 x28 x28n x28c x29 x30 I S) R) ?_ fun _ _ _ _ _ _ _ _ _ _ h => ?_
  · refine bK ?_
    refine cO 2 [kP 0, kA 4, kL 28, kI .i64 29, kI .i64 30, kB 35] (table_Table_grow_b6 (fun x0 x28 x28n x28c x29 x30 I S => ∃ m', m' < mg4 ∧ Vg4 m' x0 x28 x28n x28c x29 x30 I S) R) h fun _ _ _ _ _ _ _ _ _ _ _ _ h => ?_
    refine cD h (fun h => ?_) fun h => pS h
    refine cO 1 [kP 0, kA 4, kI .i64 5, kL 28, kI .i64 29, kI .i64 30] (table_Table_grow_b7 (fun x0 x28 x28n x28c x29 x30 I S => ∃ m', m' < mg4 ∧ Vg4 m' x0 x28 x28n x28c x29 x30 I S) R) h fun _ _ _ _ _ _ _ _ _ _ _ _ h => ?_
    exact dR (tk 7 0 (.step 7 .done)) [7] h
  exact pS h
abbrev table_Table_find_t2 := OA → ByteArray → Int → Int → PR
def table_Table_find_b6 (g2 : table_Table_find_t2) (R : RT) (x0 : OA) (x1 : ByteArray) (x6 x7 : Int) (I : IMem) (S : SH) : Prop :=
  ptrP x0 fun u0 =>
  ∃ u1 u1n u1c, Cell I S u0 (.slice u1 u1n u1c) ∧
  bcase (decide ((u1n : Int) = 0)) False (0 = 0 ∧ g2 x0 x1 ((IntKind.wrap .i64 (x6 + (1 : Int))).tmod (u1n : Int)) x7 I S)
def table_Table_find_b8 (g2 : table_Table_find_t2) (R : RT) (x0 : OA) (x1 : ByteArray) (x6 x7 : Int) (x55 : Bool) (I : IMem) (S : SH) : Prop :=
  bcase x55
    (R (.tuple #[.int .i64 x7, .bool false]) I S)
    (table_Table_find_b6 g2 R x0 x1 x6 x7 I S)
def table_Table_find_b7 (g2 : table_Table_find_t2) (R : RT) (x0 : OA) (x1 : ByteArray) (x6 x7 : Int) (x8 : Addr) (x41 : Bool) (I : IMem) (S : SH) : Prop :=
  bcase x41
    (R (.tuple #[.int .i64 x6, .bool false]) I S)
    (∃ u0, Cell I S (x8.add 2) (.bool u0) ∧
    bcase (!u0)
      (∃ u1, Cell I S (x8.add 3) (.bool u1) ∧
      table_Table_find_b8 g2 R x0 x1 x6 x7 (!u1) I S)
      (table_Table_find_b8 g2 R x0 x1 x6 x7 false I S))
def table_Table_find_b5 (g2 : table_Table_find_t2) (R : RT) (x0 : OA) (x1 : ByteArray) (x6 x7 : Int) (x8 : Addr) (x33 : Bool) (I : IMem) (S : SH) : Prop :=
  bcase x33
    (table_Table_find_b6 g2 R x0 x1 x6 x6 I S)
    (∃ u0, Cell I S (x8.add 2) (.bool u0) ∧
    bcase (!u0)
      (∃ u1, Cell I S (x8.add 3) (.bool u1) ∧
      bcase (!u1)
        (table_Table_find_b7 g2 R x0 x1 x6 x7 x8 (decide (x7 < (0 : Int))) I S)
        (table_Table_find_b7 g2 R x0 x1 x6 x7 x8 false I S))
      (table_Table_find_b7 g2 R x0 x1 x6 x7 x8 false I S))
def table_Table_find_b4 (g2 : table_Table_find_t2) (R : RT) (x0 : OA) (x1 : ByteArray) (x6 x7 : Int) (x8 : Addr) (x23 : Bool) (I : IMem) (S : SH) : Prop :=
  bcase x23
    (R (.tuple #[.int .i64 x6, .bool true]) I S)
    (∃ u0, Cell I S (x8.add 3) (.bool u0) ∧
    bcase u0
      (table_Table_find_b5 g2 R x0 x1 x6 x7 x8 (decide (x7 < (0 : Int))) I S)
      (table_Table_find_b5 g2 R x0 x1 x6 x7 x8 false I S))
def table_Table_find_b3 (g2 : table_Table_find_t2) (R : RT) (x0 : OA) (x1 : ByteArray) (x6 x7 : Int) (x8 : Addr) (I : IMem) (S : SH) : Prop :=
  ∃ u0, Cell I S (x8.add 2) (.bool u0) ∧
  bcase u0
    (∃ u1, Cell I S x8 (.string u1) ∧
    table_Table_find_b4 g2 R x0 x1 x6 x7 x8 (u1.toList == x1.toList) I S)
    (table_Table_find_b4 g2 R x0 x1 x6 x7 x8 false I S)
def table_Table_find_l2 (g2 : table_Table_find_t2) (R : RT) (x0 : OA) (x1 : ByteArray) (x6 x7 : Int) (I : IMem) (S : SH) : Prop :=
  ptrP x0 fun u0 =>
  ∃ u1 u1n u1c, Cell I S u0 (.slice u1 u1n u1c) ∧
  ptrP u1 fun u2 => (0 : Int) ≤ x6 ∧ x6 < (u1n : Int) ∧
  ∃ u3, Cell I S (u2.add (x6.toNat * 4)) (.string u3) ∧
  ∃ u4, Cell I S ((u2.add (x6.toNat * 4)).add 1) (.int .i64 u4) ∧
  ∃ u5, Cell I S ((u2.add (x6.toNat * 4)).add 2) (.bool u5) ∧
  ∃ u6, Cell I S ((u2.add (x6.toNat * 4)).add 3) (.bool u6) ∧
  ∀ b8 : Nat,
  StP ((b8, .cells #[.string ⟨#[]⟩, .int .i64 0, .bool false, .bool false] 106 (0, 0)) :: S) ⟨b8, 0, none⟩ [.string u3, .int .i64 u4, .bool u5, .bool u6] fun S1 =>
  table_Table_find_b3 g2 R x0 x1 x6 x7 ⟨b8, 0, none⟩ I S1
def table_Table_find_b1 (R : RT) (x0 : OA) (x1 : ByteArray) (I : IMem) (S : SH) : Prop :=
  ∃ Inv : Nat → table_Table_find_t2,
    (ptrP x0 fun u0 =>
  ∃ u1 u1n u1c, Cell I S u0 (.slice u1 u1n u1c) ∧
  Runs Tryz.prog 63 #[.string x1, .int .i64 (u1n : Int)] I S fun v I1 S1 => ∃ u2, v = .int .i64 u2 ∧
  ∃ m, Inv m x0 x1 u2 (-1) I1 S1) ∧
    ∀ (m : Nat) (x0 : OA) (x1 : ByteArray) (x6 x7 : Int) (J : IMem) (T : SH), I.le J → Inv m x0 x1 x6 x7 J T →
      table_Table_find_l2 (fun x0 x1 x6 x7 I S => ∃ m', m' < m ∧ Inv m' x0 x1 x6 x7 I S) R x0 x1 x6 x7 J T
def table_Table_find (R : RT) (u0 : OA) (u1 : ByteArray) (I : IMem) (S : SH) : Prop :=
  table_Table_find_b1 R u0 u1 I S
theorem table_Table_find_fn (R : RT) (u0 : OA) (u1 : ByteArray) (I : IMem) (S : SH) (h : table_Table_find R u0 u1 I S) : Runs Tryz.prog 50 #[.pointer u0, .string u1] I S R := by
  refine Runs.of_wp (c := cd Tryz.f50) Tryz.func50 (by kernel_rfl) (by kernel_rfl) ?_
  refine cO 1 [kP 0, kS 1] (table_Table_find_b1 R) h fun _ _ _ _ _ _ h => ?_
  obtain ⟨Vg2, h, hr⟩ := h
  refine WP.scope' 1 0 (by kernel_rfl) (by kernel_rfl) (by kernel_rfl) (fun mg2 => rd [kP 0, kS 1, kI .i64 6, kI .i64 7] (Vg2 mg2)) (cast (by kernel_rfl) h) fun mg2 _ I S hle h => op h fun x0 x1 x6 x7 h => ?_
  have h := hr mg2 x0 x1 x6 x7 I S hle h
  refine cO 1 [kP 0, kS 1, kI .i64 6, kI .i64 7, kA 8] (table_Table_find_b3 (fun x0 x1 x6 x7 I S => ∃ m', m' < mg2 ∧ Vg2 m' x0 x1 x6 x7 I S) R) h fun _ _ _ _ _ _ _ _ _ h => ?_
  refine sO [kP 0, kS 1, kI .i64 6, kI .i64 7] (table_Table_find_b6 (fun x0 x1 x6 x7 I S => ∃ m', m' < mg2 ∧ Vg2 m' x0 x1 x6 x7 I S) R) ?_ fun _ _ _ _ _ _ _ _ h => ?_
  · refine bK ?_
    refine cO 1 [kP 0, kS 1, kI .i64 6, kI .i64 7, kA 8, kB 23] (table_Table_find_b4 (fun x0 x1 x6 x7 I S => ∃ m', m' < mg2 ∧ Vg2 m' x0 x1 x6 x7 I S) R) h fun _ _ _ _ _ _ _ _ _ _ h => ?_
    refine cD h (fun h => pS h) fun h => ?_
    refine cO 1 [kP 0, kS 1, kI .i64 6, kI .i64 7, kA 8, kB 33] (table_Table_find_b5 (fun x0 x1 x6 x7 I S => ∃ m', m' < mg2 ∧ Vg2 m' x0 x1 x6 x7 I S) R) h fun _ _ _ _ _ _ _ _ _ _ h => ?_
    refine cD h (fun h => pS h) fun h => ?_
    refine cO 1 [kP 0, kS 1, kI .i64 6, kI .i64 7, kA 8, kB 41] (table_Table_find_b7 (fun x0 x1 x6 x7 I S => ∃ m', m' < mg2 ∧ Vg2 m' x0 x1 x6 x7 I S) R) h fun _ _ _ _ _ _ _ _ _ _ h => ?_
    refine cD h (fun h => pS h) fun h => ?_
    refine cO 1 [kP 0, kS 1, kI .i64 6, kI .i64 7, kB 55] (table_Table_find_b8 (fun x0 x1 x6 x7 I S => ∃ m', m' < mg2 ∧ Vg2 m' x0 x1 x6 x7 I S) R) h fun _ _ _ _ _ _ _ _ _ h => ?_
    exact pS h
  exact pS h
abbrev table_Hash_t3 := ByteArray → Int → Int → Int → Int → PR
def table_Hash_b4 (R : RT) (x1 x5 : Int) (I : IMem) (S : SH) : Prop :=
  bcase (decide ((IntKind.wrap .u64 (if x1 > (1 : Int) then x1 else (1 : Int))) = 0)) False (R (.int .i64 (IntKind.wrap .i64 ((IntKind.wrap .u64 x5).tmod (IntKind.wrap .u64 (if x1 > (1 : Int) then x1 else (1 : Int)))))) I S)
def table_Hash_l3 (g3 : table_Hash_t3) (R : RT) (x0 : ByteArray) (x1 x5 x8 x9 : Int) (I : IMem) (S : SH) : Prop :=
  bcase (decide (x9 < x8))
    (∃ u0 : UInt8, (0 : Int) ≤ x9 ∧ x0[x9.toNat]? = some u0 ∧
    g3 x0 x1 (IntKind.wrap .u32 ((IntKind.wrap .u32 (x5 * (31 : Int))) + (IntKind.wrap .u32 (u0.toNat : Int)))) x8 (IntKind.wrap .i64 (x9 + (1 : Int))) I S)
    (table_Hash_b4 R x1 x5 I S)
def table_Hash_b2 (R : RT) (x0 : ByteArray) (x1 x5 x8 x9 : Int) (I : IMem) (S : SH) : Prop :=
  ∃ (Inv : Nat → table_Hash_t3) (m : Nat), Inv m x0 x1 x5 x8 x9 I S ∧
    ∀ (m : Nat) (x0 : ByteArray) (x1 x5 x8 x9 : Int) (J : IMem) (T : SH), I.le J → Inv m x0 x1 x5 x8 x9 J T →
      table_Hash_l3 (fun x0 x1 x5 x8 x9 I S => ∃ m', m' < m ∧ Inv m' x0 x1 x5 x8 x9 I S) R x0 x1 x5 x8 x9 J T
def table_Hash_b1 (R : RT) (x0 : ByteArray) (x1 x5 : Int) (I : IMem) (S : SH) : Prop :=
  table_Hash_b2 R x0 x1 x5 (x0.size : Int) 0 I S
def table_Hash (R : RT) (u0 : ByteArray) (u1 : Int) (I : IMem) (S : SH) : Prop :=
  table_Hash_b1 R u0 u1 17 I S
theorem table_Hash_fn (R : RT) (u0 : ByteArray) (u1 : Int) (I : IMem) (S : SH) (h : table_Hash R u0 u1 I S) : Runs Tryz.prog 63 #[.string u0, .int .i64 u1] I S R := by
  refine Runs.of_wp (c := cd Tryz.f63) Tryz.func63 (by kernel_rfl) (by kernel_rfl) ?_
  refine cO 2 [kS 0, kI .i64 1, kI .u32 5] (table_Hash_b1 R) h fun _ _ _ _ _ _ _ h => ?_
  refine sO [kI .i64 1, kI .u32 5] (table_Hash_b4 R) ?_ fun _ _ _ _ _ _ h => ?_
  · refine cO 1 [kS 0, kI .i64 1, kI .u32 5, kI .i64 8, kI .i64 9] (table_Hash_b2 R) h fun _ _ _ _ _ _ _ _ _ h => ?_
    refine bK ?_
    obtain ⟨Vg3, mg3, h, hr⟩ := h
    refine lO [kS 0, kI .i64 1, kI .u32 5, kI .i64 8, kI .i64 9] Vg3 mg3 h fun mg3 _ I S hle x0 x1 x5 x8 x9 h => ?_
    have h := hr mg3 x0 x1 x5 x8 x9 I S hle h
    exact pS h
  exact pS h
abbrev trie_Trie_Put_t2 := OA → ByteArray → Int → OA → PR
def trie_Trie_Put_b6 (g2 : trie_Trie_Put_t2) (R : RT) (x0 : OA) (x1 : ByteArray) (x2 : Int) (x7 x8 : OA) (x9 : Int) (x10 : OA) (I : IMem) (S : SH) : Prop :=
  ptrP x8 fun u0 =>
  ∃ u1, Cell I S u0 (.string u1) ∧
  (0 : Int) ≤ x9 ∧ x9 ≤ ((u1.size : Nat) : Int) ∧
  ptrP x8 fun u2 =>
  StP S u2 [.string (u1.extract x9.toNat u1.size)] fun S1 =>
  ptrP x7 fun u3 =>
  StP S1 u3 [.pointer x10] fun S1' =>
  g2 x0 x1 x2 x7 I S1'
def trie_Trie_Put_b5 (g2 : trie_Trie_Put_t2) (R : RT) (x0 : OA) (x1 : ByteArray) (x2 : Int) (x7 x8 : OA) (x9 : Int) (x10 : OA) (I : IMem) (S : SH) : Prop :=
  ptrP x8 fun u0 =>
  ∃ u1, Cell I S u0 (.string u1) ∧
  ∃ u2 : UInt8, (0 : Int) ≤ x9 ∧ u1[x9.toNat]? = some u2 ∧
  ptrP x10 fun u3 =>
  (0 : Int) ≤ (IntKind.wrap .u8 ((u2.toNat : Int) - (48 : Int))) ∧ (IntKind.wrap .u8 ((u2.toNat : Int) - (48 : Int))) < ((2 : Nat) : Int) ∧
  StP S ((u3.add 3).add ((IntKind.wrap .u8 ((u2.toNat : Int) - (48 : Int))).toNat * 1)) [.pointer x8] fun S1 =>
  trie_Trie_Put_b6 g2 R x0 x1 x2 x7 x8 x9 x10 I S1
def trie_Trie_Put_b9 (g2 : trie_Trie_Put_t2) (R : RT) (x2 : Int) (x8 : OA) (x11 : Bool) (I : IMem) (S : SH) : Prop :=
  ptrP x8 fun u0 =>
  StP S (u0.add 1) [.bool true] fun S1 =>
  ptrP x8 fun u1 =>
  StP S1 (u1.add 2) [.int .i64 x2] fun S1' =>
  R (.bool x11) I S1'
def trie_Trie_Put_b10 (g2 : trie_Trie_Put_t2) (R : RT) (x0 : OA) (x1 : ByteArray) (x2 : Int) (x8 : OA) (x9 : Int) (I : IMem) (S : SH) : Prop :=
  ∃ u0 : UInt8, (0 : Int) ≤ x9 ∧ x1[x9.toNat]? = some u0 ∧
  ptrP x8 fun u1 =>
  (0 : Int) ≤ (IntKind.wrap .u8 ((u0.toNat : Int) - (48 : Int))) ∧ (IntKind.wrap .u8 ((u0.toNat : Int) - (48 : Int))) < ((2 : Nat) : Int) ∧
  (0 : Int) ≤ x9 ∧ x9 ≤ ((x1.size : Nat) : Int) ∧
  g2 x0 (x1.extract x9.toNat x1.size) x2 (some ((u1.add 3).add ((IntKind.wrap .u8 ((u0.toNat : Int) - (48 : Int))).toNat * 1))) I S
def trie_Trie_Put_b8 (g2 : trie_Trie_Put_t2) (R : RT) (x0 : OA) (x1 : ByteArray) (x2 : Int) (x8 : OA) (x9 : Int) (x84 : Bool) (I : IMem) (S : SH) : Prop :=
  bcase x84
    (ptrP x8 fun u0 =>
    ∃ u1, Cell I S (u0.add 1) (.bool u1) ∧
    bcase (!u1)
      (ptrP x0 fun u2 =>
      ∃ u3, Cell I S (u2.add 1) (.int .i64 u3) ∧
      ptrP x0 fun u4 =>
      StP S (u4.add 1) [.int .i64 (IntKind.wrap .i64 (u3 + (1 : Int)))] fun S1 =>
      trie_Trie_Put_b9 g2 R x2 x8 (!u1) I S1)
      (trie_Trie_Put_b9 g2 R x2 x8 (!u1) I S))
    (trie_Trie_Put_b10 g2 R x0 x1 x2 x8 x9 I S)
def trie_Trie_Put_b7 (g2 : trie_Trie_Put_t2) (R : RT) (x0 : OA) (x1 : ByteArray) (x2 : Int) (x8 : OA) (x9 : Int) (I : IMem) (S : SH) : Prop :=
  trie_Trie_Put_b8 g2 R x0 x1 x2 x8 x9 (x9 == (x1.size : Int)) I S
def trie_Trie_Put_b4 (g2 : trie_Trie_Put_t2) (R : RT) (x0 : OA) (x1 : ByteArray) (x2 : Int) (x7 x8 : OA) (x9 : Int) (x48 : Bool) (I : IMem) (S : SH) : Prop :=
  bcase x48
    (ptrP x8 fun u0 =>
    ∃ u1, Cell I S u0 (.string u1) ∧
    (0 : Int) ≤ x9 ∧ x9 ≤ ((u1.size : Nat) : Int) ∧
    ∀ b56 : Nat,
    trie_Trie_Put_b5 g2 R x0 x1 x2 x7 x8 x9 (some ⟨b56, 0, none⟩) I ((b56, .cells #[.string (u1.extract 0 x9.toNat), .bool false, .int .i64 0, .pointer none, .pointer none] 110 (0, 0)) :: S))
    (trie_Trie_Put_b7 g2 R x0 x1 x2 x8 x9 I S)
def trie_Trie_Put_b3 (g2 : trie_Trie_Put_t2) (R : RT) (x0 : OA) (x1 : ByteArray) (x2 : Int) (x7 x8 : OA) (x9 : Int) (I : IMem) (S : SH) : Prop :=
  ptrP x8 fun u0 =>
  ∃ u1, Cell I S u0 (.string u1) ∧
  trie_Trie_Put_b4 g2 R x0 x1 x2 x7 x8 x9 (decide (x9 < (u1.size : Int))) I S
def trie_Trie_Put_l2 (g2 : trie_Trie_Put_t2) (R : RT) (x0 : OA) (x1 : ByteArray) (x2 : Int) (x7 : OA) (I : IMem) (S : SH) : Prop :=
  ptrP x7 fun u0 =>
  ∃ u1, Cell I S u0 (.pointer u1) ∧
  bcase ((u1 : Option Addr).isNone)
    (∀ b27 : Nat,
    ptrP x7 fun u2 =>
    StP ((b27, .cells #[.string x1, .bool true, .int .i64 x2, .pointer none, .pointer none] 110 (0, 0)) :: S) u2 [.pointer (some ⟨b27, 0, none⟩)] fun S1 =>
    ptrP x0 fun u3 =>
    ∃ u4, Cell I S1 (u3.add 1) (.int .i64 u4) ∧
    ptrP x0 fun u5 =>
    StP S1 (u5.add 1) [.int .i64 (IntKind.wrap .i64 (u4 + (1 : Int)))] fun S1' =>
    R (.bool true) I S1')
    (ptrP u1 fun u6 =>
    ∃ u7, Cell I S u6 (.string u7) ∧
    Runs Tryz.prog 52 #[.string u7, .string x1] I S fun v I1 S1'' => ∃ u8, v = .int .i64 u8 ∧
    trie_Trie_Put_b3 g2 R x0 x1 x2 x7 u1 u8 I1 S1'')
def trie_Trie_Put_b1 (R : RT) (x0 : OA) (x1 : ByteArray) (x2 : Int) (x7 : OA) (I : IMem) (S : SH) : Prop :=
  ∃ (Inv : Nat → trie_Trie_Put_t2) (m : Nat), Inv m x0 x1 x2 x7 I S ∧
    ∀ (m : Nat) (x0 : OA) (x1 : ByteArray) (x2 : Int) (x7 : OA) (J : IMem) (T : SH), I.le J → Inv m x0 x1 x2 x7 J T →
      trie_Trie_Put_l2 (fun x0 x1 x2 x7 I S => ∃ m', m' < m ∧ Inv m' x0 x1 x2 x7 I S) R x0 x1 x2 x7 J T
def trie_Trie_Put (R : RT) (u0 : OA) (u1 : ByteArray) (u2 : Int) (I : IMem) (S : SH) : Prop :=
  Runs Tryz.prog 51 #[.string u1] I S fun v I1 S1 => ∃ u3, v = .bool u3 ∧
  bcase (!u3)
    (R (.bool false) I1 S1)
    (ptrP u0 fun u4 =>
    trie_Trie_Put_b1 R u0 u1 u2 (some u4) I1 S1)
theorem trie_Trie_Put_fn (R : RT) (u0 : OA) (u1 : ByteArray) (u2 : Int) (I : IMem) (S : SH) (h : trie_Trie_Put R u0 u1 u2 I S) : Runs Tryz.prog 25 #[.pointer u0, .string u1, .int .i64 u2] I S R := by
  refine Runs.of_wp (c := cd Tryz.f25) Tryz.func25 (by kernel_rfl) (by kernel_rfl) ?_
  refine cO 3 [kP 0, kS 1, kI .i64 2, kP 7] (trie_Trie_Put_b1 R) h fun _ _ _ _ _ _ _ _ h => ?_
  refine bK ?_
  obtain ⟨Vg2, mg2, h, hr⟩ := h
  refine lO [kP 0, kS 1, kI .i64 2, kP 7] Vg2 mg2 h fun mg2 _ I S hle x0 x1 x2 x7 h => ?_
  have h := hr mg2 x0 x1 x2 x7 I S hle h
  refine bK ?_
  refine cO 3 [kP 0, kS 1, kI .i64 2, kP 7, kP 8, kI .i64 9] (trie_Trie_Put_b3 (fun x0 x1 x2 x7 I S => ∃ m', m' < mg2 ∧ Vg2 m' x0 x1 x2 x7 I S) R) h fun _ _ _ _ _ _ _ _ _ _ h => ?_
  refine sO [kP 0, kS 1, kI .i64 2, kP 8, kI .i64 9] (trie_Trie_Put_b7 (fun x0 x1 x2 x7 I S => ∃ m', m' < mg2 ∧ Vg2 m' x0 x1 x2 x7 I S) R) ?_ fun _ _ _ _ _ _ _ _ _ h => ?_
  · refine cO 1 [kP 0, kS 1, kI .i64 2, kP 7, kP 8, kI .i64 9, kB 48] (trie_Trie_Put_b4 (fun x0 x1 x2 x7 I S => ∃ m', m' < mg2 ∧ Vg2 m' x0 x1 x2 x7 I S) R) h fun _ _ _ _ _ _ _ _ _ _ _ h => ?_
    refine cD h (fun h => ?_) fun h => pS h
    refine cO 1 [kP 0, kS 1, kI .i64 2, kP 7, kP 8, kI .i64 9, kP 10] (trie_Trie_Put_b5 (fun x0 x1 x2 x7 I S => ∃ m', m' < mg2 ∧ Vg2 m' x0 x1 x2 x7 I S) R) h fun _ _ _ _ _ _ _ _ _ _ _ h => ?_
    refine sO [kP 0, kS 1, kI .i64 2, kP 7, kP 8, kI .i64 9, kP 10] (trie_Trie_Put_b6 (fun x0 x1 x2 x7 I S => ∃ m', m' < mg2 ∧ Vg2 m' x0 x1 x2 x7 I S) R) (dR (tk 12 0 (.step 12 .done)) [12] h) fun _ _ _ _ _ _ _ _ _ _ _ h => ?_
    exact pS h
  refine sO [kP 0, kS 1, kI .i64 2, kP 8, kI .i64 9] (trie_Trie_Put_b10 (fun x0 x1 x2 x7 I S => ∃ m', m' < mg2 ∧ Vg2 m' x0 x1 x2 x7 I S) R) ?_ fun _ _ _ _ _ _ _ _ _ h => ?_
  · refine cO 1 [kP 0, kS 1, kI .i64 2, kP 8, kI .i64 9, kB 84] (trie_Trie_Put_b8 (fun x0 x1 x2 x7 I S => ∃ m', m' < mg2 ∧ Vg2 m' x0 x1 x2 x7 I S) R) h fun _ _ _ _ _ _ _ _ _ _ h => ?_
    refine cD h (fun h => ?_) fun h => pS h
    refine cO 2 [kI .i64 2, kP 8, kB 11] (trie_Trie_Put_b9 (fun x0 x1 x2 x7 I S => ∃ m', m' < mg2 ∧ Vg2 m' x0 x1 x2 x7 I S) R) h fun _ _ _ _ _ _ _ h => ?_
    exact pS h
  exact qT h
abbrev trie_Trie_Longest_t3 := ByteArray → Int → Int → Bool → Int → OA → PR
def trie_Trie_Longest_b6 (R : RT) (x7 x8 : Int) (x9 : Bool) (I : IMem) (S : SH) : Prop :=
  R (.tuple #[.int .i64 x7, .int .i64 x8, .bool x9]) I S
def trie_Trie_Longest_b10 (g3 : trie_Trie_Longest_t3) (R : RT) (x1 : ByteArray) (x7 x8 : Int) (x9 : Bool) (x10 : Int) (x11 : OA) (I : IMem) (S : SH) : Prop :=
  ∃ u0 : UInt8, (0 : Int) ≤ (0 : Int) ∧ x1[(0 : Int).toNat]? = some u0 ∧
  ptrP x11 fun u1 =>
  (0 : Int) ≤ (IntKind.wrap .u8 ((u0.toNat : Int) - (48 : Int))) ∧ (IntKind.wrap .u8 ((u0.toNat : Int) - (48 : Int))) < ((2 : Nat) : Int) ∧
  ∃ u2, Cell I S ((u1.add 3).add ((IntKind.wrap .u8 ((u0.toNat : Int) - (48 : Int))).toNat * 1)) (.pointer u2) ∧
  g3 x1 x7 x8 x9 x10 u2 I S
def trie_Trie_Longest_b9 (g3 : trie_Trie_Longest_t3) (R : RT) (x1 : ByteArray) (x7 x8 : Int) (x9 : Bool) (x10 : Int) (x11 : OA) (I : IMem) (S : SH) : Prop :=
  bcase ((x1.size : Int) == (0 : Int))
    (trie_Trie_Longest_b6 R x7 x8 x9 I S)
    (trie_Trie_Longest_b10 g3 R x1 x7 x8 x9 x10 x11 I S)
def trie_Trie_Longest_b8 (g3 : trie_Trie_Longest_t3) (R : RT) (x1 : ByteArray) (x7 x8 : Int) (x9 : Bool) (x10 : Int) (x11 : OA) (I : IMem) (S : SH) : Prop :=
  ptrP x11 fun u0 =>
  ∃ u1, Cell I S (u0.add 1) (.bool u1) ∧
  bcase u1
    (ptrP x11 fun u2 =>
    ∃ u3, Cell I S (u2.add 2) (.int .i64 u3) ∧
    trie_Trie_Longest_b9 g3 R x1 u3 x10 true x10 x11 I S)
    (trie_Trie_Longest_b9 g3 R x1 x7 x8 x9 x10 x11 I S)
def trie_Trie_Longest_b7 (g3 : trie_Trie_Longest_t3) (R : RT) (x1 : ByteArray) (x7 x8 : Int) (x9 : Bool) (x10 : Int) (x11 : OA) (I : IMem) (S : SH) : Prop :=
  ptrP x11 fun u0 =>
  ∃ u1, Cell I S u0 (.string u1) ∧
  ptrP x11 fun u2 =>
  ∃ u3, Cell I S u2 (.string u3) ∧
  (0 : Int) ≤ (u3.size : Int) ∧ (u3.size : Int) ≤ ((x1.size : Nat) : Int) ∧
  trie_Trie_Longest_b8 g3 R (x1.extract ((u3.size : Int).toNat) x1.size) x7 x8 x9 (IntKind.wrap .i64 (x10 + (u1.size : Int))) x11 I S
def trie_Trie_Longest_b5 (g3 : trie_Trie_Longest_t3) (R : RT) (x1 : ByteArray) (x7 x8 : Int) (x9 : Bool) (x10 : Int) (x11 : OA) (x32 : Bool) (I : IMem) (S : SH) : Prop :=
  bcase x32
    (trie_Trie_Longest_b6 R x7 x8 x9 I S)
    (trie_Trie_Longest_b7 g3 R x1 x7 x8 x9 x10 x11 I S)
def trie_Trie_Longest_b4 (g3 : trie_Trie_Longest_t3) (R : RT) (x1 : ByteArray) (x7 x8 : Int) (x9 : Bool) (x10 : Int) (x11 : OA) (I : IMem) (S : SH) : Prop :=
  ptrP x11 fun u0 =>
  ∃ u1, Cell I S u0 (.string u1) ∧
  ∃ u2, Runs Tryz.prog 52 #[.string u1, .string x1] I S (fun v' _ T => v' = .int .i64 u2 ∧ T = S) ∧
  ptrP x11 fun u3 =>
  ∃ u4, Cell I S u3 (.string u4) ∧
  trie_Trie_Longest_b5 g3 R x1 x7 x8 x9 x10 x11 (decide (u2 < (u4.size : Int))) I S
def trie_Trie_Longest_l3 (g3 : trie_Trie_Longest_t3) (R : RT) (x1 : ByteArray) (x7 x8 : Int) (x9 : Bool) (x10 : Int) (x11 : OA) (I : IMem) (S : SH) : Prop :=
  bcase (!(x11 : Option Addr).isNone)
    (trie_Trie_Longest_b4 g3 R x1 x7 x8 x9 x10 x11 I S)
    (trie_Trie_Longest_b6 R x7 x8 x9 I S)
def trie_Trie_Longest_b2 (R : RT) (x1 : ByteArray) (x7 x8 : Int) (x9 : Bool) (x10 : Int) (x11 : OA) (I : IMem) (S : SH) : Prop :=
  ∃ (Inv : Nat → trie_Trie_Longest_t3) (m : Nat), Inv m x1 x7 x8 x9 x10 x11 I S ∧
    ∀ (m : Nat) (x1 : ByteArray) (x7 x8 : Int) (x9 : Bool) (x10 : Int) (x11 : OA) (J : IMem) (T : SH), I.le J → Inv m x1 x7 x8 x9 x10 x11 J T →
      trie_Trie_Longest_l3 (fun x1 x7 x8 x9 x10 x11 I S => ∃ m', m' < m ∧ Inv m' x1 x7 x8 x9 x10 x11 I S) R x1 x7 x8 x9 x10 x11 J T
def trie_Trie_Longest_b1 (R : RT) (x0 : OA) (x1 : ByteArray) (x7 x8 : Int) (x9 : Bool) (x10 : Int) (I : IMem) (S : SH) : Prop :=
  ptrP x0 fun u0 =>
  ∃ u1, Cell I S u0 (.pointer u1) ∧
  trie_Trie_Longest_b2 R x1 x7 x8 x9 x10 u1 I S
def trie_Trie_Longest (R : RT) (u0 : OA) (u1 : ByteArray) (I : IMem) (S : SH) : Prop :=
  Runs Tryz.prog 51 #[.string u1] I S fun v I1 S1 => ∃ u2, v = .bool u2 ∧
  bcase (!u2)
    (R (.tuple #[.int .i64 0, .int .i64 0, .bool false]) I1 S1)
    (trie_Trie_Longest_b1 R u0 u1 0 0 false 0 I1 S1)
theorem trie_Trie_Longest_fn (R : RT) (u0 : OA) (u1 : ByteArray) (I : IMem) (S : SH) (h : trie_Trie_Longest R u0 u1 I S) : Runs Tryz.prog 34 #[.pointer u0, .string u1] I S R := by
  refine Runs.of_wp (c := cd Tryz.f34) Tryz.func34 (by kernel_rfl) (by kernel_rfl) ?_
  refine cO 4 [kP 0, kS 1, kI .i64 7, kI .i64 8, kB 9, kI .i64 10] (trie_Trie_Longest_b1 R) h fun _ _ _ _ _ _ _ _ _ _ h => ?_
  refine sO [kI .i64 7, kI .i64 8, kB 9] (trie_Trie_Longest_b6 R) ?_ fun _ _ _ _ _ _ _ h => ?_
  · refine cO 1 [kS 1, kI .i64 7, kI .i64 8, kB 9, kI .i64 10, kP 11] (trie_Trie_Longest_b2 R) h fun _ _ _ _ _ _ _ _ _ _ h => ?_
    refine bK ?_
    obtain ⟨Vg3, mg3, h, hr⟩ := h
    refine lO [kS 1, kI .i64 7, kI .i64 8, kB 9, kI .i64 10, kP 11] Vg3 mg3 h fun mg3 _ I S hle x1 x7 x8 x9 x10 x11 h => ?_
    have h := hr mg3 x1 x7 x8 x9 x10 x11 I S hle h
    refine cO 1 [kS 1, kI .i64 7, kI .i64 8, kB 9, kI .i64 10, kP 11] (trie_Trie_Longest_b4 (fun x1 x7 x8 x9 x10 x11 I S => ∃ m', m' < mg3 ∧ Vg3 m' x1 x7 x8 x9 x10 x11 I S) R) h fun _ _ _ _ _ _ _ _ _ _ h => ?_
    refine bK ?_
    refine sO [kS 1, kI .i64 7, kI .i64 8, kB 9, kI .i64 10, kP 11] (trie_Trie_Longest_b7 (fun x1 x7 x8 x9 x10 x11 I S => ∃ m', m' < mg3 ∧ Vg3 m' x1 x7 x8 x9 x10 x11 I S) R) ?_ fun _ _ _ _ _ _ _ _ _ _ h => ?_
    · refine sO [kS 1, kI .i64 7, kI .i64 8, kB 9, kI .i64 10, kP 11, kB 32] (trie_Trie_Longest_b5 (fun x1 x7 x8 x9 x10 x11 I S => ∃ m', m' < mg3 ∧ Vg3 m' x1 x7 x8 x9 x10 x11 I S) R) (qT h) fun _ _ _ _ _ _ _ _ _ _ _ h => ?_
      exact pS h
    refine sO [kS 1, kI .i64 7, kI .i64 8, kB 9, kI .i64 10, kP 11] (trie_Trie_Longest_b8 (fun x1 x7 x8 x9 x10 x11 I S => ∃ m', m' < mg3 ∧ Vg3 m' x1 x7 x8 x9 x10 x11 I S) R) (qT h) fun _ _ _ _ _ _ _ _ _ _ h => ?_
    refine cO 1 [kS 1, kI .i64 7, kI .i64 8, kB 9, kI .i64 10, kP 11] (trie_Trie_Longest_b9 (fun x1 x7 x8 x9 x10 x11 I S => ∃ m', m' < mg3 ∧ Vg3 m' x1 x7 x8 x9 x10 x11 I S) R) h fun _ _ _ _ _ _ _ _ _ _ h => ?_
    refine cO 1 [kS 1, kI .i64 7, kI .i64 8, kB 9, kI .i64 10, kP 11] (trie_Trie_Longest_b10 (fun x1 x7 x8 x9 x10 x11 I S => ∃ m', m' < mg3 ∧ Vg3 m' x1 x7 x8 x9 x10 x11 I S) R) h fun _ _ _ _ _ _ _ _ _ _ h => ?_
    exact qT h
  exact pS h
def trie_Trie_Get_b3 (R : RT) (x6 : Int) (I : IMem) (S : SH) : Prop :=
  R (.tuple #[.int .i64 x6, .bool true]) I S
def trie_Trie_Get_b2 (R : RT) (x6 : Int) (x23 : Bool) (I : IMem) (S : SH) : Prop :=
  bcase x23
    (R (.tuple #[.int .i64 0, .bool false]) I S)
    (trie_Trie_Get_b3 R x6 I S)
def trie_Trie_Get_b1 (R : RT) (x1 : ByteArray) (x6 x7 : Int) (x8 : Bool) (I : IMem) (S : SH) : Prop :=
  bcase (!x8)
    (trie_Trie_Get_b2 R x6 true I S)
    (trie_Trie_Get_b2 R x6 (x7 != (x1.size : Int)) I S)
def trie_Trie_Get (R : RT) (u0 : OA) (u1 : ByteArray) (I : IMem) (S : SH) : Prop :=
  Runs Tryz.prog 34 #[.pointer u0, .string u1] I S fun v I1 S1 => ∃ u2 u3 u4, v = .tuple #[.int .i64 u2, .int .i64 u3, .bool u4] ∧
  trie_Trie_Get_b1 R u1 u2 u3 u4 I1 S1
theorem trie_Trie_Get_fn (R : RT) (u0 : OA) (u1 : ByteArray) (I : IMem) (S : SH) (h : trie_Trie_Get R u0 u1 I S) : Runs Tryz.prog 46 #[.pointer u0, .string u1] I S R := by
  refine Runs.of_wp (c := cd Tryz.f46) Tryz.func46 (by kernel_rfl) (by kernel_rfl) ?_
  refine cO 2 [kS 1, kI .i64 6, kI .i64 7, kB 8] (trie_Trie_Get_b1 R) h fun _ _ _ _ _ _ _ _ h => ?_
  refine sO [kI .i64 6] (trie_Trie_Get_b3 R) ?_ fun _ _ _ _ _ h => ?_
  · refine cO 1 [kI .i64 6, kB 23] (trie_Trie_Get_b2 R) h fun _ _ _ _ _ _ h => ?_
    exact pS h
  exact pS h
def trie_Trie_Del (R : RT) (u0 : OA) (u1 : ByteArray) (I : IMem) (S : SH) : Prop :=
  Runs Tryz.prog 46 #[.pointer u0, .string u1] I S fun v I1 S1 => ∃ u2 u3, v = .tuple #[.int .i64 u2, .bool u3] ∧
  bcase (!u3)
    (R (.bool false) I1 S1)
    (ptrP u0 fun u4 =>
    ∃ u5, Cell I1 S1 u4 (.pointer u5) ∧
    Runs Tryz.prog 47 #[.pointer u5, .string u1] I1 S1 fun v' I1' S1' => ∃ u6, v' = .pointer u6 ∧
    ptrP u0 fun u7 =>
    StP S1' u7 [.pointer u6] fun S1'' =>
    ptrP u0 fun u8 =>
    ∃ u9, Cell I1' S1'' (u8.add 1) (.int .i64 u9) ∧
    ptrP u0 fun ua =>
    StP S1'' (ua.add 1) [.int .i64 (IntKind.wrap .i64 (u9 - (1 : Int)))] fun S1_r3 =>
    R (.bool true) I1' S1_r3)
theorem trie_Trie_Del_fn (R : RT) (u0 : OA) (u1 : ByteArray) (I : IMem) (S : SH) (h : trie_Trie_Del R u0 u1 I S) : Runs Tryz.prog 21 #[.pointer u0, .string u1] I S R := by
  refine Runs.of_wp (c := cd Tryz.f21) Tryz.func21 (by kernel_rfl) (by kernel_rfl) ?_
  exact pS h
def trie_Trie_Len (R : RT) (u0 : OA) (I : IMem) (S : SH) : Prop :=
  ptrP u0 fun u1 =>
  ∃ u2, Cell I S (u1.add 1) (.int .i64 u2) ∧
  R (.int .i64 u2) I S
theorem trie_Trie_Len_fn (R : RT) (u0 : OA) (I : IMem) (S : SH) (h : trie_Trie_Len R u0 I S) : Runs Tryz.prog 28 #[.pointer u0] I S R := by
  refine Runs.of_wp (c := cd Tryz.f28) Tryz.func28 (by kernel_rfl) (by kernel_rfl) ?_
  exact pS h
def trie_without_b6 (R : RT) (x0 : OA) (I : IMem) (S : SH) : Prop :=
  ptrP x0 fun u0 =>
  (0 : Int) ≤ (0 : Int) ∧ (0 : Int) < ((2 : Nat) : Int) ∧
  ∃ u1, Cell I S ((u0.add 3).add ((0 : Int).toNat * 1)) (.pointer u1) ∧
  R (.pointer u1) I S
def trie_without_b8 (R : RT) (x0 : OA) (I : IMem) (S : SH) : Prop :=
  ptrP x0 fun u0 =>
  (0 : Int) ≤ (1 : Int) ∧ (1 : Int) < ((2 : Nat) : Int) ∧
  ∃ u1, Cell I S ((u0.add 3).add ((1 : Int).toNat * 1)) (.pointer u1) ∧
  R (.pointer u1) I S
def trie_without_b9 (R : RT) (I : IMem) (S : SH) : Prop :=
  R (.pointer none) I S
def trie_without_b7 (R : RT) (x0 : OA) (x93 : Bool) (I : IMem) (S : SH) : Prop :=
  bcase x93
    (ptrP x0 fun u0 =>
    (0 : Int) ≤ (1 : Int) ∧ (1 : Int) < ((2 : Nat) : Int) ∧
    ∃ u1, Cell I S ((u0.add 3).add ((1 : Int).toNat * 1)) (.pointer u1) ∧
    ptrP x0 fun u2 =>
    ∃ u3, Cell I S u2 (.string u3) ∧
    ptrP x0 fun u4 =>
    (0 : Int) ≤ (1 : Int) ∧ (1 : Int) < ((2 : Nat) : Int) ∧
    ∃ u5, Cell I S ((u4.add 3).add ((1 : Int).toNat * 1)) (.pointer u5) ∧
    ptrP u5 fun u6 =>
    ∃ u7, Cell I S u6 (.string u7) ∧
    ((u3.size + u7.size : Nat) : Int) ≤ 9223372036854775807 ∧
    ptrP u1 fun u8 =>
    StP S u8 [.string (u3 ++ u7)] fun S1 =>
    trie_without_b8 R x0 I S1)
    (trie_without_b9 R I S)
def trie_without_b5 (R : RT) (x0 : OA) (x61 : Bool) (I : IMem) (S : SH) : Prop :=
  bcase x61
    (ptrP x0 fun u0 =>
    (0 : Int) ≤ (0 : Int) ∧ (0 : Int) < ((2 : Nat) : Int) ∧
    ∃ u1, Cell I S ((u0.add 3).add ((0 : Int).toNat * 1)) (.pointer u1) ∧
    ptrP x0 fun u2 =>
    ∃ u3, Cell I S u2 (.string u3) ∧
    ptrP x0 fun u4 =>
    (0 : Int) ≤ (0 : Int) ∧ (0 : Int) < ((2 : Nat) : Int) ∧
    ∃ u5, Cell I S ((u4.add 3).add ((0 : Int).toNat * 1)) (.pointer u5) ∧
    ptrP u5 fun u6 =>
    ∃ u7, Cell I S u6 (.string u7) ∧
    ((u3.size + u7.size : Nat) : Int) ≤ 9223372036854775807 ∧
    ptrP u1 fun u8 =>
    StP S u8 [.string (u3 ++ u7)] fun S1 =>
    trie_without_b6 R x0 I S1)
    (ptrP x0 fun u9 =>
    (0 : Int) ≤ (1 : Int) ∧ (1 : Int) < ((2 : Nat) : Int) ∧
    ∃ ua, Cell I S ((u9.add 3).add ((1 : Int).toNat * 1)) (.pointer ua) ∧
    trie_without_b7 R x0 (!(ua : Option Addr).isNone) I S)
def trie_without_b4 (R : RT) (x0 : OA) (x39 : Bool) (I : IMem) (S : SH) : Prop :=
  bcase x39
    (R (.pointer x0) I S)
    (ptrP x0 fun u0 =>
    (0 : Int) ≤ (0 : Int) ∧ (0 : Int) < ((2 : Nat) : Int) ∧
    ∃ u1, Cell I S ((u0.add 3).add ((0 : Int).toNat * 1)) (.pointer u1) ∧
    trie_without_b5 R x0 (!(u1 : Option Addr).isNone) I S)
def trie_without_b3 (R : RT) (x0 : OA) (I : IMem) (S : SH) : Prop :=
  ptrP x0 fun u0 =>
  ∃ u1, Cell I S (u0.add 1) (.bool u1) ∧
  bcase u1
    (trie_without_b4 R x0 true I S)
    (ptrP x0 fun u2 =>
    (0 : Int) ≤ (0 : Int) ∧ (0 : Int) < ((2 : Nat) : Int) ∧
    ∃ u3, Cell I S ((u2.add 3).add ((0 : Int).toNat * 1)) (.pointer u3) ∧
    bcase (!(u3 : Option Addr).isNone)
      (ptrP x0 fun u4 =>
      (0 : Int) ≤ (1 : Int) ∧ (1 : Int) < ((2 : Nat) : Int) ∧
      ∃ u5, Cell I S ((u4.add 3).add ((1 : Int).toNat * 1)) (.pointer u5) ∧
      trie_without_b4 R x0 (!(u5 : Option Addr).isNone) I S)
      (trie_without_b4 R x0 false I S))
def trie_without_b10 (R : RT) (x0 : OA) (x5 : ByteArray) (x6 : Int) (I : IMem) (S : SH) : Prop :=
  ptrP x0 fun u0 =>
  (0 : Int) ≤ x6 ∧ x6 < ((2 : Nat) : Int) ∧
  ∃ u1, Cell I S ((u0.add 3).add (x6.toNat * 1)) (.pointer u1) ∧
  ptrP x0 fun u2 =>
  Runs Tryz.prog 47 #[.pointer u1, .string x5] I S fun v I1 S1 => ∃ u3, v = .pointer u3 ∧
  (0 : Int) ≤ x6 ∧ x6 < ((2 : Nat) : Int) ∧
  StP S1 ((u2.add 3).add (x6.toNat * 1)) [.pointer u3] fun S1' =>
  trie_without_b3 R x0 I1 S1'
def trie_without_b2 (R : RT) (x0 : OA) (x5 : ByteArray) (x16 : Bool) (I : IMem) (S : SH) : Prop :=
  bcase x16
    (ptrP x0 fun u0 =>
    StP S (u0.add 1) [.bool false] fun S1 =>
    ptrP x0 fun u1 =>
    StP S1 (u1.add 2) [.int .i64 0] fun S1' =>
    trie_without_b3 R x0 I S1')
    (∃ u2 : UInt8, (0 : Int) ≤ (0 : Int) ∧ x5[(0 : Int).toNat]? = some u2 ∧
    trie_without_b10 R x0 x5 (IntKind.wrap .u8 ((u2.toNat : Int) - (48 : Int))) I S)
def trie_without_b1 (R : RT) (x0 : OA) (x5 : ByteArray) (I : IMem) (S : SH) : Prop :=
  trie_without_b2 R x0 x5 ((x5.size : Int) == (0 : Int)) I S
def trie_without (R : RT) (u0 : OA) (u1 : ByteArray) (I : IMem) (S : SH) : Prop :=
  ptrP u0 fun u2 =>
  ∃ u3, Cell I S u2 (.string u3) ∧
  (0 : Int) ≤ (u3.size : Int) ∧ (u3.size : Int) ≤ ((u1.size : Nat) : Int) ∧
  trie_without_b1 R u0 (u1.extract ((u3.size : Int).toNat) u1.size) I S
theorem trie_without_fn (R : RT) (u0 : OA) (u1 : ByteArray) (I : IMem) (S : SH) (h : trie_without R u0 u1 I S) : Runs Tryz.prog 47 #[.pointer u0, .string u1] I S R := by
  refine Runs.of_wp (c := cd Tryz.f47) Tryz.func47 (by kernel_rfl) (by kernel_rfl) ?_
  refine cO 2 [kP 0, kS 5] (trie_without_b1 R) h fun _ _ _ _ _ _ h => ?_
  refine sO [kP 0] (trie_without_b3 R) ?_ fun _ _ _ _ _ h => ?_
  · refine cO 1 [kP 0, kS 5, kB 16] (trie_without_b2 R) h fun _ _ _ _ _ _ _ h => ?_
    refine cD h (fun h => pS h) fun h => ?_
    refine cO 1 [kP 0, kS 5, kI .u8 6] (trie_without_b10 R) h fun _ _ _ _ _ _ _ h => ?_
    exact dR (tk 9 0 (.take 10 (.take 11 (.step 9 (.take 12 (.step 13 .done)))))) [9, 13] h
  refine sO [] (trie_without_b9 R) ?_ fun _ _ _ _ h => ?_
  · refine bK ?_
    refine cO 1 [kP 0, kB 39] (trie_without_b4 R) h fun _ _ _ _ _ _ h => ?_
    refine cD h (fun h => pS h) fun h => ?_
    refine cO 1 [kP 0, kB 61] (trie_without_b5 R) h fun _ _ _ _ _ _ h => ?_
    refine cD h (fun h => ?_) fun h => ?_
    · refine sO [kP 0] (trie_without_b6 R) (dR (tk 20 0 (.step 20 .done)) [20] h) fun _ _ _ _ _ h => ?_
      exact pS h
    refine cO 1 [kP 0, kB 93] (trie_without_b7 R) h fun _ _ _ _ _ _ h => ?_
    refine cD h (fun h => ?_) fun h => pS h
    refine sO [kP 0] (trie_without_b8 R) (dR (tk 20 0 (.step 20 .done)) [20] h) fun _ _ _ _ _ h => ?_
    exact pS h
  exact pS h
abbrev trie_May_t3 := ByteArray → Int → Int → PR
def trie_May_b6 (g3 : trie_May_t3) (R : RT) (x0 : ByteArray) (x5 x6 : Int) (I : IMem) (S : SH) : Prop :=
  g3 x0 x5 (IntKind.wrap .i64 (x6 + (1 : Int))) I S
def trie_May_b5 (g3 : trie_May_t3) (R : RT) (x0 : ByteArray) (x5 x6 : Int) (x18 : Bool) (I : IMem) (S : SH) : Prop :=
  bcase x18
    (R (.bool false) I S)
    (trie_May_b6 g3 R x0 x5 x6 I S)
def trie_May_b4 (g3 : trie_May_t3) (R : RT) (x0 : ByteArray) (x5 x6 : Int) (I : IMem) (S : SH) : Prop :=
  ∃ u0 : UInt8, (0 : Int) ≤ x6 ∧ x0[x6.toNat]? = some u0 ∧
  bcase ((u0.toNat : Int) != (48 : Int))
    (∃ u1 : UInt8, (0 : Int) ≤ x6 ∧ x0[x6.toNat]? = some u1 ∧
    trie_May_b5 g3 R x0 x5 x6 ((u1.toNat : Int) != (49 : Int)) I S)
    (trie_May_b5 g3 R x0 x5 x6 false I S)
def trie_May_b7 (R : RT) (x0 : ByteArray) (I : IMem) (S : SH) : Prop :=
  R (.bool (decide ((x0.size : Int) ≤ (128 : Int)))) I S
def trie_May_l3 (g3 : trie_May_t3) (R : RT) (x0 : ByteArray) (x5 x6 : Int) (I : IMem) (S : SH) : Prop :=
  bcase (decide (x6 < x5))
    (trie_May_b4 g3 R x0 x5 x6 I S)
    (trie_May_b7 R x0 I S)
def trie_May_b2 (R : RT) (x0 : ByteArray) (x5 x6 : Int) (I : IMem) (S : SH) : Prop :=
  ∃ (Inv : Nat → trie_May_t3) (m : Nat), Inv m x0 x5 x6 I S ∧
    ∀ (m : Nat) (x0 : ByteArray) (x5 x6 : Int) (J : IMem) (T : SH), I.le J → Inv m x0 x5 x6 J T →
      trie_May_l3 (fun x0 x5 x6 I S => ∃ m', m' < m ∧ Inv m' x0 x5 x6 I S) R x0 x5 x6 J T
def trie_May_b1 (R : RT) (x0 : ByteArray) (I : IMem) (S : SH) : Prop :=
  trie_May_b2 R x0 (x0.size : Int) 0 I S
def trie_May (R : RT) (u0 : ByteArray) (I : IMem) (S : SH) : Prop :=
  trie_May_b1 R u0 I S
theorem trie_May_fn (R : RT) (u0 : ByteArray) (I : IMem) (S : SH) (h : trie_May R u0 I S) : Runs Tryz.prog 51 #[.string u0] I S R := by
  refine Runs.of_wp (c := cd Tryz.f51) Tryz.func51 (by kernel_rfl) (by kernel_rfl) ?_
  refine cO 1 [kS 0] (trie_May_b1 R) h fun _ _ _ _ _ h => ?_
  refine sO [kS 0] (trie_May_b7 R) ?_ fun _ _ _ _ _ h => ?_
  · refine cO 1 [kS 0, kI .i64 5, kI .i64 6] (trie_May_b2 R) h fun _ _ _ _ _ _ _ h => ?_
    refine bK ?_
    obtain ⟨Vg3, mg3, h, hr⟩ := h
    refine lO [kS 0, kI .i64 5, kI .i64 6] Vg3 mg3 h fun mg3 _ I S hle x0 x5 x6 h => ?_
    have h := hr mg3 x0 x5 x6 I S hle h
    refine cO 2 [kS 0, kI .i64 5, kI .i64 6] (trie_May_b4 (fun x0 x5 x6 I S => ∃ m', m' < mg3 ∧ Vg3 m' x0 x5 x6 I S) R) h fun _ _ _ _ _ _ _ h => ?_
    refine sO [kS 0, kI .i64 5, kI .i64 6] (trie_May_b6 (fun x0 x5 x6 I S => ∃ m', m' < mg3 ∧ Vg3 m' x0 x5 x6 I S) R) ?_ fun _ _ _ _ _ _ _ h => ?_
    · refine bK ?_
      refine cO 2 [kS 0, kI .i64 5, kI .i64 6, kB 18] (trie_May_b5 (fun x0 x5 x6 I S => ∃ m', m' < mg3 ∧ Vg3 m' x0 x5 x6 I S) R) h fun _ _ _ _ _ _ _ _ h => ?_
      exact pS h
    exact pS h
  exact pS h
abbrev trie_common_t2 := ByteArray → ByteArray → Int → PR
def trie_common_b4 (g2 : trie_common_t2) (R : RT) (x0 x1 : ByteArray) (x5 : Int) (I : IMem) (S : SH) : Prop :=
  g2 x0 x1 (IntKind.wrap .i64 (x5 + (1 : Int))) I S
def trie_common_b5 (R : RT) (x5 : Int) (I : IMem) (S : SH) : Prop :=
  R (.int .i64 x5) I S
def trie_common_b3 (g2 : trie_common_t2) (R : RT) (x0 x1 : ByteArray) (x5 : Int) (x24 : Bool) (I : IMem) (S : SH) : Prop :=
  bcase x24
    (trie_common_b4 g2 R x0 x1 x5 I S)
    (trie_common_b5 R x5 I S)
def trie_common_l2 (g2 : trie_common_t2) (R : RT) (x0 x1 : ByteArray) (x5 : Int) (I : IMem) (S : SH) : Prop :=
  bcase (decide (x5 < (x0.size : Int)))
    (bcase (decide (x5 < (x1.size : Int)))
      (∃ u0 : UInt8, (0 : Int) ≤ x5 ∧ x0[x5.toNat]? = some u0 ∧
      ∃ u1 : UInt8, (0 : Int) ≤ x5 ∧ x1[x5.toNat]? = some u1 ∧
      trie_common_b3 g2 R x0 x1 x5 ((u0.toNat : Int) == (u1.toNat : Int)) I S)
      (trie_common_b3 g2 R x0 x1 x5 false I S))
    (trie_common_b3 g2 R x0 x1 x5 false I S)
def trie_common_b1 (R : RT) (x0 x1 : ByteArray) (x5 : Int) (I : IMem) (S : SH) : Prop :=
  ∃ (Inv : Nat → trie_common_t2) (m : Nat), Inv m x0 x1 x5 I S ∧
    ∀ (m : Nat) (x0 x1 : ByteArray) (x5 : Int) (J : IMem) (T : SH), I.le J → Inv m x0 x1 x5 J T →
      trie_common_l2 (fun x0 x1 x5 I S => ∃ m', m' < m ∧ Inv m' x0 x1 x5 I S) R x0 x1 x5 J T
def trie_common (R : RT) (u0 u1 : ByteArray) (I : IMem) (S : SH) : Prop :=
  trie_common_b1 R u0 u1 0 I S
theorem trie_common_fn (R : RT) (u0 u1 : ByteArray) (I : IMem) (S : SH) (h : trie_common R u0 u1 I S) : Runs Tryz.prog 52 #[.string u0, .string u1] I S R := by
  refine Runs.of_wp (c := cd Tryz.f52) Tryz.func52 (by kernel_rfl) (by kernel_rfl) ?_
  refine cO 2 [kS 0, kS 1, kI .i64 5] (trie_common_b1 R) h fun _ _ _ _ _ _ _ h => ?_
  refine sO [kI .i64 5] (trie_common_b5 R) ?_ fun _ _ _ _ _ h => ?_
  · refine bK ?_
    obtain ⟨Vg2, mg2, h, hr⟩ := h
    refine lO [kS 0, kS 1, kI .i64 5] Vg2 mg2 h fun mg2 _ I S hle x0 x1 x5 h => ?_
    have h := hr mg2 x0 x1 x5 I S hle h
    refine sO [kS 0, kS 1, kI .i64 5] (trie_common_b4 (fun x0 x1 x5 I S => ∃ m', m' < mg2 ∧ Vg2 m' x0 x1 x5 I S) R) ?_ fun _ _ _ _ _ _ _ h => ?_
    · refine sO [kS 0, kS 1, kI .i64 5, kB 24] (trie_common_b3 (fun x0 x1 x5 I S => ∃ m', m' < mg2 ∧ Vg2 m' x0 x1 x5 I S) R) (qT h) fun _ _ _ _ _ _ _ _ h => ?_
      exact pS h
    exact pS h
  exact pS h
end Go.Proofs.YtcdajekafnggkaaGreatDoor
/- Imports alone. -/
/- Words for maps and for bytes that are read as words. -/
namespace Go.Px
set_option linter.unusedVariables false
set_option linter.unusedSectionVars false
set_option linter.unusedSimpArgs false

def byV (s : ByteArray) : Array Value := (s.data.toList.map fun c => Value.int .u8 (c.toNat : Int)).toArray
theorem byV_get (s : ByteArray) (i : Nat) : (byV s)[i]? = (s[i]?).map fun c => Value.int .u8 (c.toNat : Int) := by
  unfold byV
  rw [List.getElem?_toArray, List.getElem?_map]
  congr 1
  by_cases h : i < s.size
  · rw [getElem?_pos s i h, List.getElem?_eq_getElem (by simpa using h)]; rfl
  · rw [getElem?_neg s i h, List.getElem?_eq_none (by simpa using h)]
theorem BytesAt.at0 {I : IMem} {S : SH} {b n : Nat} {e : TypeId} {fz : Nat × Nat} {cs : Array Value} (s : ByteArray) (hn : n = s.size) (h : cs = byV s) : BytesAt I ((b, .cells cs e fz) :: S) (some ⟨b, 0, none⟩) n s := by
  subst hn h
  refine ⟨rfl, fun i c hc => ?_⟩
  rw [add_mk, Nat.zero_add]
  exact Cell.at0 (by rw [byV_get, hc]; rfl)
theorem BytesAt.tl {I : IMem} {S : SH} {p : Option Addr} {n : Nat} {s : ByteArray} {q : Nat × Obj} (h : BytesAt I S p n s) : BytesAt I (q :: S) p n s := by
  cases p with
  | none => exact h
  | some a => exact ⟨h.1, fun i c hc => Cell.tl (h.2 i c hc)⟩

/-! ### maps -/
section
variable {κ υ : Type} [DecidableEq κ]
def look : List (κ × υ) → κ → Nat → Option (Nat × υ)
  | [], _, _ => none
  | (a, v) :: l, k, j => if k = a then some (j, v) else look l k (j + 1)
theorem look_some {k : κ} {v : υ} : ∀ {l : List (κ × υ)} {j i : Nat}, look l k j = some (i, v) → j ≤ i ∧ l[i - j]? = some (k, v)
  | [], j, i, h => by simp [look] at h
  | (a, u) :: l, j, i, h => by
    simp only [look] at h
    split at h
    · rename_i e; subst e
      injection h with h; injection h with h1 h2; subst h1; subst h2
      exact ⟨Nat.le_refl _, by simp⟩
    · obtain ⟨h1, h2⟩ := look_some h
      exact ⟨by omega, by rw [show i - j = (i - (j + 1)) + 1 by omega]; simpa using h2⟩
theorem look_none {k : κ} : ∀ {l : List (κ × υ)} {j : Nat}, look l k j = none → ∀ v, (k, v) ∉ l
  | [], j, h, v => by simp
  | (a, u) :: l, j, h, v => by
    simp only [look] at h
    split at h
    · cases h
    · rename_i e
      intro hm
      rcases List.mem_cons.1 hm with hm | hm
      · injection hm with h1 _; exact e h1
      · exact look_none h v hm
variable (kd : TypeDesc) (ek : κ → Value) (ew : υ → Value)
def KeyOK : Prop := ∀ a b : κ, Instr.sameNow kd (ek a) (ek b) = some (decide (a = b))
variable {kd ek ew}
theorem findNow_look (hk : KeyOK kd ek) (k : κ) : ∀ (l : List (κ × υ)) (es : List MapEntry) (j : Nat), es.map (fun e => (e.key, e.val)) = l.map (fun p => (ek p.1, ew p.2)) →
    Instr.findNow kd (ek k) es j = some ((look l k j).map fun p => (p.1, ew p.2))
  | [], [], j, _ => rfl
  | [], e :: es, j, h => by simp at h
  | p :: l, [], j, h => by simp at h
  | (a, v) :: l, e :: es, j, h => by
    simp only [List.map_cons, List.cons.injEq, Prod.mk.injEq] at h
    obtain ⟨⟨h1, h2⟩, h3⟩ := h
    unfold Instr.findNow
    rw [h1, hk]
    by_cases he : k = a
    · simp [look, he, h2]
    · simp only [look, he, decide_false, if_false]
      exact findNow_look hk k l es (j + 1) h3
/-- a map's entries, as a finite map of so many words -/
def MpI (ek : κ → Value) (ew : υ → Value) (es : Array MapEntry) (M : κ → Option υ) (n : Nat) : Prop :=
  ∃ l : List (κ × υ), es.toList.map (fun e => (e.key, e.val)) = l.map (fun p => (ek p.1, ew p.2)) ∧ (l.map (·.1)).Nodup ∧ (∀ k v, M k = some v ↔ (k, v) ∈ l) ∧ l.length = n
def fput (M : κ → Option υ) (k : κ) (v : υ) : κ → Option υ := fun x => if x = k then some v else M x
def fdel (M : κ → Option υ) (k : κ) : κ → Option υ := fun x => if x = k then none else M x
theorem MpI.nil : MpI ek ew #[] (fun _ => none) 0 := ⟨[], rfl, List.nodup_nil, fun k v => by simp, rfl⟩
theorem MpI.size {es : Array MapEntry} {M : κ → Option υ} {n : Nat} (h : MpI ek ew es M n) : es.size = n := by
  obtain ⟨l, h1, _, _, h4⟩ := h
  have := congrArg List.length h1
  simpa [h4] using this
theorem MpI.find (hk : KeyOK kd ek) {es : Array MapEntry} {M : κ → Option υ} {n : Nat} (h : MpI ek ew es M n) (k : κ) :
    (∃ i v, M k = some v ∧ Instr.findNow kd (ek k) es.toList 0 = some (some (i, ew v))) ∨ (M k = none ∧ Instr.findNow kd (ek k) es.toList 0 = some none) := by
  obtain ⟨l, h1, h2, h3, h4⟩ := h
  rw [findNow_look hk k l es.toList 0 h1]
  cases hl : look l k 0 with
  | none => exact .inr ⟨by cases hM : M k with
      | none => rfl
      | some v => exact absurd ((h3 k v).1 hM) (look_none hl v), rfl⟩
  | some p =>
    obtain ⟨i, v⟩ := p
    obtain ⟨_, hi⟩ := look_some hl
    exact .inl ⟨i, v, (h3 k v).2 (List.mem_of_getElem? hi), rfl⟩
theorem MapAt.of (hk : KeyOK kd ek) {I : IMem} {S : SH} {r clock : Nat} {es : Array MapEntry} {M : κ → Option υ} {n : Nat} (hc : MpC I S r es clock) (h : MpI ek ew es M n) (k : κ) (z : Value) :
    MapAt I S (some r) kd (ek k) z (match M k with | some v => ew v | none => z) (M k).isSome := by
  refine ⟨es, ⟨clock, hc⟩, ?_⟩
  rcases h.find hk k with ⟨i, v, hM, hf⟩ | ⟨hM, hf⟩
  · rw [hM]; exact .inl ⟨i, hf, rfl⟩
  · rw [hM]; exact .inr ⟨hf, rfl, rfl⟩
theorem mapSet_ok (hk : KeyOK kd ek) {clock : Nat} {es : Array MapEntry} {M : κ → Option υ} {n : Nat} (h : MpI ek ew es M n) (k : κ) (v : υ) :
    ∃ es' clock', mapSet kd (ek k) (ew v) es clock = some (es', clock') ∧ MpI ek ew es' (fput M k v) (n + if (M k).isSome then 0 else 1) := by
  obtain ⟨l, h1, h2, h3, h4⟩ := h
  unfold mapSet
  rw [findNow_look hk k l es.toList 0 h1]
  cases hl : look l k 0 with
  | none =>
    have hnone : M k = none := by
      cases hM : M k with
      | none => rfl
      | some u => exact absurd ((h3 k u).1 hM) (look_none hl u)
    refine ⟨_, _, rfl, l ++ [(k, v)], by simp [h1], ?_, fun x u => ?_, by simp [h4, hnone]⟩
    · rw [List.map_append, List.nodup_append]
      refine ⟨h2, by simp, ?_⟩
      intro a ha b hb
      simp at hb
      subst hb
      obtain ⟨p, hp, rfl⟩ := List.mem_map.1 ha
      intro e
      exact look_none hl p.2 (by rw [← e]; exact hp)
    · simp only [fput, List.mem_append, List.mem_singleton, Prod.mk.injEq]
      by_cases hx : x = k
      · subst hx
        simp only [if_true, true_and, Option.some.injEq]
        exact ⟨fun e => .inr e.symm, fun e => e.elim (fun hm => absurd hm (look_none hl u)) Eq.symm⟩
      · simp [hx, h3]
  | some p =>
    obtain ⟨i, u⟩ := p
    obtain ⟨_, hi⟩ := look_some hl
    simp only [Nat.sub_zero] at hi
    have hil : i < l.length := by
      rcases Nat.lt_or_ge i l.length with g | g
      · exact g
      · rw [List.getElem?_eq_none g] at hi; cases hi
    have hsome : M k = some u := (h3 k u).2 (List.mem_of_getElem? hi)
    refine ⟨_, _, rfl, l.set i (k, v), ?_, ?_, fun x w => ?_, by simp [h4, hsome]⟩
    · apply List.ext_getElem?
      intro j
      have hj := congrArg (fun z : List (Value × Value) => z[j]?) h1
      simp only [List.getElem?_map, Array.getElem?_toList] at hj
      simp only [List.getElem?_map, Array.getElem?_toList, Array.getElem?_modify, List.getElem?_set]
      by_cases hij : i = j
      · subst hij
        rw [List.getElem?_eq_getElem hil] at hj
        cases he : es[i]? with
        | none => rw [he] at hj; cases hj
        | some e => simp [hil]
      · simp [hij, hj]
    · have : (l.set i (k, v)).map (·.1) = l.map (·.1) := by
        rw [List.map_set]
        apply List.ext_getElem?
        intro j
        rw [List.getElem?_set]
        split
        · rename_i e; subst e
          split
          · rw [List.getElem?_map, hi]; rfl
          · rename_i hlt; rw [List.getElem?_eq_none (by simpa using hlt)]
        · rfl
      rw [this]; exact h2
    · have huniq : ∀ (j : Nat) (w : υ), l[j]? = some (k, w) → j = i := fun j w hj => by
        have e1 : (l.map (·.1))[j]? = some k := by simp [hj]
        have e2 : (l.map (·.1))[i]? = some k := by simp [hi]
        have hj' : j < (l.map (·.1)).length := (List.getElem?_eq_some_iff.1 e1).1
        have hi' : i < (l.map (·.1)).length := (List.getElem?_eq_some_iff.1 e2).1
        exact (List.getElem_inj h2).1 ((List.getElem?_eq_some_iff.1 e1).2.trans (List.getElem?_eq_some_iff.1 e2).2.symm)
      simp only [fput]
      by_cases hx : x = k
      · subst hx
        simp only [if_true, Option.some.injEq]
        constructor
        · rintro rfl; exact List.mem_of_getElem? (i := i) (by simp [hil])
        · intro hm
          obtain ⟨j, hj⟩ := List.getElem?_of_mem hm
          rw [List.getElem?_set] at hj
          split at hj
          · simp [hil] at hj; exact hj
          · rename_i hne; exact absurd (huniq j w hj).symm hne
      · simp only [hx, if_false, h3]
        constructor
        · intro hm
          obtain ⟨j, hj⟩ := List.getElem?_of_mem hm
          refine List.mem_of_getElem? (i := j) ?_
          rw [List.getElem?_set, if_neg (fun e => by subst e; rw [hi] at hj; injection hj with hj; injection hj with e1 _; exact hx e1.symm)]
          exact hj
        · intro hm
          obtain ⟨j, hj⟩ := List.getElem?_of_mem hm
          rw [List.getElem?_set] at hj
          split at hj
          · simp [hil] at hj; exact absurd hj.1.symm hx
          · exact List.mem_of_getElem? hj
theorem mapDel_ok (hk : KeyOK kd ek) {es : Array MapEntry} {M : κ → Option υ} {n : Nat} (h : MpI ek ew es M n) (k : κ) :
    ∃ es', mapDel kd (ek k) es = some es' ∧ MpI ek ew es' (fdel M k) (n - if (M k).isSome then 1 else 0) := by
  obtain ⟨l, h1, h2, h3, h4⟩ := h
  unfold mapDel
  rw [findNow_look hk k l es.toList 0 h1]
  cases hl : look l k 0 with
  | none =>
    have hnone : M k = none := by
      cases hM : M k with
      | none => rfl
      | some u => exact absurd ((h3 k u).1 hM) (look_none hl u)
    refine ⟨_, rfl, l, h1, h2, fun x u => ?_, by simp [h4, hnone]⟩
    simp only [fdel]
    by_cases hx : x = k
    · subst hx; simp only [if_true]; exact ⟨(fun e => by cases e), fun hm => absurd hm (look_none hl u)⟩
    · simp [hx, h3]
  | some p =>
    obtain ⟨i, u⟩ := p
    obtain ⟨_, hi⟩ := look_some hl
    simp only [Nat.sub_zero] at hi
    have hil : i < l.length := by
      rcases Nat.lt_or_ge i l.length with g | g
      · exact g
      · rw [List.getElem?_eq_none g] at hi; cases hi
    have hsome : M k = some u := (h3 k u).2 (List.mem_of_getElem? hi)
    have hes : i < es.size := by have := congrArg List.length h1; simp at this; omega
    refine ⟨_, rfl, l.eraseIdx i, ?_, ?_, fun x w => ?_, by rw [List.length_eraseIdx, if_pos hil, h4, hsome]; rfl⟩
    · have : (es.eraseIdxIfInBounds i).toList = es.toList.eraseIdx i := by simp [Array.eraseIdxIfInBounds, hes, Array.toList_eraseIdx]
      rw [this]
      have key : ∀ {α β : Type} (f : α → β) (xs : List α) (i : Nat), (xs.eraseIdx i).map f = (xs.map f).eraseIdx i := by
        intro α β f xs
        induction xs with
        | nil => intro i; simp
        | cons x xs ih => intro i; cases i with
          | zero => simp
          | succ i => simp [ih]
      rw [key, key, h1]
    · have key : ((l.eraseIdx i).map (·.1)).Sublist (l.map (·.1)) := (List.eraseIdx_sublist l i).map _
      exact key.nodup h2
    · have huniq : ∀ (j : Nat) (w : υ), l[j]? = some (k, w) → j = i := fun j w hj => by
        have e1 : (l.map (·.1))[j]? = some k := by simp [hj]
        have e2 : (l.map (·.1))[i]? = some k := by simp [hi]
        exact (List.getElem_inj h2).1 ((List.getElem?_eq_some_iff.1 e1).2.trans (List.getElem?_eq_some_iff.1 e2).2.symm)
      simp only [fdel]
      have hmem : (x, w) ∈ l.eraseIdx i ↔ ∃ j, j ≠ i ∧ l[j]? = some (x, w) := by rw [List.mem_eraseIdx_iff_getElem?]
      rw [hmem]
      by_cases hx : x = k
      · subst hx; simp only [if_true]; exact ⟨(fun e => by cases e), fun ⟨j, hj, he⟩ => absurd (huniq j w he) hj⟩
      · simp only [hx, if_false, h3]
        constructor
        · intro hm
          obtain ⟨j, hj⟩ := List.getElem?_of_mem hm
          exact ⟨j, fun e => by subst e; rw [hi] at hj; injection hj with hj; injection hj with e1 _; exact hx e1.symm, hj⟩
        · rintro ⟨j, _, hj⟩; exact List.mem_of_getElem? hj
theorem Sub.put {p : Nat × Obj} {L T : SH} (h : Sub (p :: L) T) (q : Nat × Obj) : ∃ i, T[i]? = some p ∧ Sub (q :: L) (T.set i q) := by
  obtain ⟨G, hp⟩ := h
  have hm : p ∈ T := hp.mem_iff.2 (by simp)
  obtain ⟨i, hi⟩ := List.getElem?_of_mem hm
  refine ⟨i, hi, G, ?_⟩
  have key : ∀ (A : SH) (i : Nat) (x y : Nat × Obj), A[i]? = some x → (y :: A).Perm (x :: A.set i y) := by
    intro A
    induction A with
    | nil => intro i x y h; simp at h
    | cons z A ih =>
      intro i x y h
      cases i with
      | zero => simp at h; subst h; exact List.Perm.swap ..
      | succ i =>
        simp at h
        have := ih i x y h
        exact (List.Perm.swap z y A).trans ((this.cons z).trans (List.Perm.swap x z _))
  have k1 := key T i p q hi
  have k2 : (p :: T.set i q).Perm (p :: (q :: (L ++ G))) := k1.symm.trans ((hp.cons q).trans (List.Perm.swap ..))
  exact List.Perm.cons_inv k2
theorem MpC.of_sub {I : IMem} {L T : SH} {r clock : Nat} {es : Array MapEntry} (h : Sub ((r, .map es clock) :: L) T) : MpC I T r es clock := by
  obtain ⟨G, hp⟩ := h
  exact .inr (hp.mem_iff.2 (by simp))
theorem MapSt.of (hk : KeyOK kd ek) {L T : SH} {r clock : Nat} {es : Array MapEntry} {M : κ → Option υ} {n : Nat} (hs : Sub ((r, .map es clock) :: L) T) (h : MpI ek ew es M n) (k : κ) (v : υ) {K : SH → Prop}
    (hK : ∀ es' clock' T', MpI ek ew es' (fput M k v) (n + if (M k).isSome then 0 else 1) → Sub ((r, .map es' clock') :: L) T' → K T') : MapSt T (some r) kd (ek k) (ew v) K := by
  obtain ⟨es', clock', h1, h2⟩ := mapSet_ok (clock := clock) hk h k v
  obtain ⟨i, hi, hs'⟩ := hs.put (r, .map es' clock')
  exact ⟨r, i, es, clock, es', clock', rfl, hi, h1, hK es' clock' _ h2 hs'⟩
theorem MapDl.of (hk : KeyOK kd ek) {L T : SH} {r clock : Nat} {es : Array MapEntry} {M : κ → Option υ} {n : Nat} (hs : Sub ((r, .map es clock) :: L) T) (h : MpI ek ew es M n) (k : κ) {K : SH → Prop}
    (hK : ∀ es' T', MpI ek ew es' (fdel M k) (n - if (M k).isSome then 1 else 0) → Sub ((r, .map es' clock) :: L) T' → K T') : MapDl T (some r) kd (ek k) K := by
  obtain ⟨es', h1, h2⟩ := mapDel_ok hk h k
  obtain ⟨i, hi, hs'⟩ := hs.put (r, .map es' clock)
  exact ⟨i, es, clock, es', hi, h1, hK es' _ h2 hs'⟩
theorem MapLen.of {I : IMem} {L T : SH} {r clock : Nat} {es : Array MapEntry} {M : κ → Option υ} {n : Nat} (hs : Sub ((r, .map es clock) :: L) T) (h : MpI ek ew es M n) : MapLen I T (some r) n := ⟨es, clock, MpC.of_sub hs, h.size.symm⟩
end
end Go.Px
/- Rows that a call owns, whatever their elements: reading, writing, appending, copying. -/
namespace Go.Px
set_option linter.unusedVariables false
set_option linter.unusedSimpArgs false

section
variable {α : Type} {el : α → List Value} {sz : Nat}
/-- a slice's elements -/
def RowIn (I : IMem) (S : SH) (a : Option Addr) (len sz : Nat) (el : α → List Value) (xs : List α) : Prop :=
  xs.length = len ∧ ∀ i x, xs[i]? = some x → ∃ a', a = some a' ∧ a'.spot = none ∧ ∀ j v, (el x)[j]? = some v → Cell I S ((a'.add (i * sz)).add j) v
theorem RowIn.of_slin {I : IMem} {a : Option Addr} {len : Nat} {xs : List α} (hne : ∀ x, 0 < (el x).length) (h : SlIn I a len sz el xs) : RowIn I [] a xs.length sz el xs := by
  refine ⟨rfl, fun i x hx => ?_⟩
  obtain ⟨a', ha, hc⟩ := h.2 i x hx
  refine ⟨a', ha, ?_, hc⟩
  have hi : i < xs.length := by
    rcases Nat.lt_or_ge i xs.length with g | g
    · exact g
    · rw [List.getElem?_eq_none g] at hx; cases hx
  obtain ⟨a2, ha2, hc2⟩ := h.2 0 _ (List.getElem?_eq_getElem (by omega))
  rw [ha] at ha2; injection ha2 with ha2; subst ha2
  have h0 := hc2 0 _ (List.getElem?_eq_getElem (hne _))
  rw [Nat.zero_mul] at h0
  exact h0.1
theorem RowIn.keep {I J : IMem} {S T : SH} {a : Option Addr} {len : Nat} {xs : List α} (hk : Keep I S J T) (h : RowIn I S a len sz el xs) : RowIn J T a len sz el xs :=
  ⟨h.1, fun i x hx => let ⟨a', h1, h2, h3⟩ := h.2 i x hx; ⟨a', h1, h2, fun j v hj => (h3 j v hj).mono hk⟩⟩
theorem RowIn.sub {I : IMem} {S T : SH} {a : Option Addr} {len : Nat} {xs : List α} (hs : Sub S T) (h : RowIn I S a len sz el xs) : RowIn I T a len sz el xs := h.keep (hs.keep (IMem.le.refl I))
theorem RowIn.le {I J : IMem} {S : SH} {a : Option Addr} {len : Nat} {xs : List α} (hle : I.le J) (h : RowIn I S a len sz el xs) : RowIn J S a len sz el xs := h.keep ((Sub.refl S).keep hle)
theorem RowIn.cell {I : IMem} {S : SH} {a : Option Addr} {len : Nat} {xs : List α} (h : RowIn I S a len sz el xs) {i : Nat} {x : α} (hx : xs[i]? = some x) : ∃ a', a = some a' ∧ ∀ j v, (el x)[j]? = some v → Cell I S ((a'.add (i * sz)).add j) v :=
  let ⟨a', h1, _, h3⟩ := h.2 i x hx; ⟨a', h1, h3⟩
theorem RowIn.take {I : IMem} {S : SH} {a : Option Addr} {len j : Nat} {xs : List α} (h : RowIn I S a len sz el xs) (hj : j ≤ len) : RowIn I S a j sz el (xs.take j) := by
  refine ⟨by rw [List.length_take, h.1]; omega, fun i x hx => ?_⟩
  rw [List.getElem?_take] at hx
  split at hx
  · exact h.2 i x hx
  · cases hx
theorem RowIn.drop {I : IMem} {S : SH} {a : Option Addr} {len j c : Nat} {xs : List α} (h : RowIn I S a len sz el xs) (hj : j ≤ len) (hc : len ≤ c) : RowIn I S (slA a c j sz) (len - j) sz el (xs.drop j) := by
  refine ⟨by rw [List.length_drop, h.1], fun i x hx => ?_⟩
  rw [List.getElem?_drop] at hx
  obtain ⟨a', rfl, hs, hcl⟩ := h.2 _ x hx
  have hlt : j + i < xs.length := by
    rcases Nat.lt_or_ge (j + i) xs.length with g | g
    · exact g
    · rw [List.getElem?_eq_none g] at hx; cases hx
  rw [h.1] at hlt
  unfold slA
  rw [if_neg (by omega)]
  refine ⟨a'.add (j * sz), rfl, ?_, fun k v hk => ?_⟩
  · obtain ⟨b, o, sp⟩ := a'
    dsimp only at hs; subst hs
    rw [add_mk]
  · rw [add_add _ hs, ← Nat.add_mul]; exact hcl k v hk
theorem flatMap_at (he : ∀ x, (el x).length = sz) (hsz : 0 < sz) : ∀ {xs : List α} {j : Nat} {u : Value}, (xs.flatMap el)[j]? = some u → ∃ x, xs[j / sz]? = some x ∧ (el x)[j % sz]? = some u
  | [], j, u, h => by simp at h
  | x :: xs, j, u, h => by
    simp only [List.flatMap_cons] at h
    by_cases hj : j < sz
    · rw [List.getElem?_append_left (by rw [he]; exact hj)] at h
      exact ⟨x, by rw [Nat.div_eq_of_lt hj]; rfl, by rw [Nat.mod_eq_of_lt hj]; exact h⟩
    · rw [List.getElem?_append_right (by rw [he]; omega), he] at h
      obtain ⟨y, h1, h2⟩ := flatMap_at he hsz h
      refine ⟨y, ?_, ?_⟩
      · rw [show j / sz = (j - sz) / sz + 1 by rw [Nat.div_eq_sub_div hsz (by omega)]]
        simpa using h1
      · rw [Nat.mod_eq_sub_mod (by omega)]; exact h2
theorem RowIn.rd (he : ∀ x, (el x).length = sz) (hsz : 0 < sz) {I : IMem} {S : SH} {a : Option Addr} {len c : Nat} {xs : List α} (h : RowIn I S a len sz el xs) : Rd I S sz (.slice a len c) len (xs.flatMap el) := by
  refine ⟨a, c, rfl, by rw [flatMap_len he, h.1], fun j u hj => ?_⟩
  obtain ⟨x, h1, h2⟩ := flatMap_at he hsz hj
  obtain ⟨a', ha, hs, hc⟩ := h.2 _ x h1
  refine ⟨a', ha, ?_⟩
  have := hc _ u h2
  rw [add_add _ hs, Nat.mul_comm, Nat.div_add_mod] at this
  exact this
theorem flatMap_one (ho : ∀ x, (el x).all one = true) : ∀ xs : List α, (xs.flatMap el).all one = true
  | [] => rfl
  | x :: xs => by simp only [List.flatMap_cons, List.all_append, ho, flatMap_one ho xs, Bool.and_self]

/-! ### a block as a list -/
theorem StP.list {S : SH} {g o : Nat} {L : List Value} {e : TypeId} {vs : List Value} {K : SH → Prop} (hl : o + vs.length ≤ L.length) (ho : vs.all one = true) (h : K ((g, .cells (L.take o ++ vs ++ L.drop (o + vs.length)).toArray e (0, 0)) :: S)) :
    StP ((g, .cells L.toArray e (0, 0)) :: S) ⟨g, o, none⟩ vs K := by
  refine StP.at0 (by simpa using hl) ho ?_
  rw [setR_list _ _ _ hl]; exact h
theorem Rd.list {I : IMem} {S : SH} {g o m c : Nat} {L vs : List Value} {e : TypeId} {fz : Nat × Nat} (hv : vs = (L.drop o).take (m * sz)) (hl : o + m * sz ≤ L.length) : Rd I ((g, .cells L.toArray e fz) :: S) sz (.slice (some ⟨g, o, none⟩) m c) m vs := by
  subst hv
  refine ⟨_, c, rfl, by simp; omega, fun j u hj => ⟨_, rfl, ?_⟩⟩
  rw [add_mk]
  refine Cell.at0 ?_
  rw [List.getElem?_toArray]
  rw [List.getElem?_take] at hj
  split at hj
  · rw [List.getElem?_drop] at hj; exact hj
  · cases hj
theorem Rd.none {I : IMem} {S : SH} {a : Option Addr} {c : Nat} : Rd I S sz (.slice a 0 c) 0 [] := ⟨a, c, rfl, by simp, fun j u h => by simp at h⟩
theorem Rd.keep {I J : IMem} {S T : SH} {x : Value} {m : Nat} {vs : List Value} (hk : Keep I S J T) (h : Rd I S sz x m vs) : Rd J T sz x m vs :=
  let ⟨A, c, h1, h2, h3⟩ := h; ⟨A, c, h1, h2, fun j u hj => let ⟨a, ha, hc⟩ := h3 j u hj; ⟨a, ha, hc.mono hk⟩⟩

/-! ### a row that the call owns -/
def OwnR (e : TypeId) (sz : Nat) (el : α → List Value) (v : Value) (xs : List α) (own : SH) : Prop :=
  (v = .slice none 0 0 ∧ xs = [] ∧ own = []) ∨
    ∃ g cap rest, v = .slice (some ⟨g, 0, none⟩) xs.length cap ∧ own = [(g, .cells (xs.flatMap el ++ rest).toArray e (0, 0))] ∧ xs.length * sz + rest.length = cap * sz ∧ cap ≤ maxLen
theorem OwnR.nil {e : TypeId} : OwnR e sz el (.slice none 0 0) [] [] := .inl ⟨rfl, rfl, rfl⟩
theorem OwnR.slice {e : TypeId} {v : Value} {xs : List α} {own : SH} (h : OwnR e sz el v xs own) : ∃ a c, v = .slice a xs.length c := by
  rcases h with ⟨rfl, rfl, _⟩ | ⟨g, cap, rest, rfl, _⟩
  · exact ⟨_, _, rfl⟩
  · exact ⟨_, _, rfl⟩
theorem OwnR.len {e : TypeId} {a : Option Addr} {n c : Nat} {xs : List α} {own : SH} (h : OwnR e sz el (.slice a n c) xs own) : n = xs.length := by
  obtain ⟨a', c', he⟩ := h.slice
  injection he
theorem OwnR.row (he : ∀ x, (el x).length = sz) {e : TypeId} {I : IMem} {a : Option Addr} {n c : Nat} {xs : List α} {own : SH} (h : OwnR e sz el (.slice a n c) xs own) : RowIn I own a n sz el xs := by
  refine ⟨h.len.symm, fun i x hx => ?_⟩
  rcases h with ⟨_, rfl, _⟩ | ⟨g, cap, rest, hv, rfl, _⟩
  · simp at hx
  · injection hv with ha
    refine ⟨_, ha, rfl, fun j v hj => ?_⟩
    rw [add_mk, add_mk, Nat.zero_add]
    refine Cell.at0 ?_
    have hil : i < xs.length := by
      rcases Nat.lt_or_ge i xs.length with h | h
      · exact h
      · rw [List.getElem?_eq_none h] at hx; cases hx
    have hjl : j < sz := by
      rcases Nat.lt_or_ge j (el x).length with h | h
      · rw [he] at h; exact h
      · rw [List.getElem?_eq_none h] at hj; cases hj
    rw [List.getElem?_toArray, List.getElem?_append_left, flatMap_get he xs i j x hx hjl]
    · exact hj
    · rw [flatMap_len he]
      have := Nat.mul_le_mul_right sz (Nat.succ_le_of_lt hil)
      rw [Nat.succ_mul] at this; omega
theorem take_flat (he : ∀ x, (el x).length = sz) (xs : List α) (rest : List Value) : (xs.flatMap el ++ rest).take (xs.length * sz) = xs.flatMap el := by
  rw [← flatMap_len he xs]; exact List.take_left
theorem drop_flat (he : ∀ x, (el x).length = sz) (xs : List α) (rest : List Value) : (xs.flatMap el ++ rest).drop (xs.length * sz) = rest := by
  rw [← flatMap_len he xs]; exact List.drop_left
/-- what is appended to a row of the call's own -/
theorem AppG.own (he : ∀ x, (el x).length = sz) (ho : ∀ x, (el x).all one = true) {e : TypeId} {bytes : Nat} {z : List Value} {td : Option TypeDesc} {I : IMem} {S own F : SH} {v x : Value} {xs ys : List α} {K : Option Addr → Nat → Nat → SH → Prop}
    (hz : z.length = sz) (hp : S.Perm (own ++ F)) (hv : OwnR e sz el v xs own) (hx : SrcP td sz z I S x ys.length (ys.flatMap el)) (hm : xs.length + ys.length ≤ maxLen) (hb : (xs.length + ys.length) * bytes ≤ 140737488355328)
    (hK : ∀ p n c own', OwnR e sz el (.slice p n c) (xs ++ ys) own' → K p n c (own' ++ F)) : AppG e sz bytes z td I S v x K := by
  have hlen : (xs ++ ys).length = xs.length + ys.length := List.length_append
  have grow : ∀ g c, xs.length + ys.length ≤ c → c ≤ maxLen → OwnR e sz el (.slice (some ⟨g, 0, none⟩) (xs.length + ys.length) c) (xs ++ ys) [(g, .cells (xs.flatMap el ++ ys.flatMap el ++ repV (c - (xs.length + ys.length)) z).toArray e (0, 0))] := by
    intro g c h1 h2
    refine .inr ⟨g, c, repV (c - (xs.length + ys.length)) z, by rw [hlen], by rw [List.flatMap_append], ?_, h2⟩
    rw [repV_length, hz, hlen, ← Nat.add_mul]; congr 1; omega
  rcases hv with ⟨rfl, rfl, rfl⟩ | ⟨g, cap, rest, rfl, rfl, hr, hc⟩
  · refine ⟨[] ++ F, [], F, none, 0, 0, ys.length, [], ys.flatMap el, hp, List.Perm.refl _, rfl, hx, by simpa using hm, by simpa using hb, fun h => .inl ?_, fun h => ⟨Rd.none, fun g c h1 h2 => ?_⟩⟩
    · have hy : ys = [] := List.eq_nil_of_length_eq_zero (by omega)
      subst hy
      exact ⟨rfl, hK none 0 0 [] OwnR.nil⟩
    · have := hK (some ⟨g, 0, none⟩) _ c _ (by simpa using grow g c (by simpa using h1) h2)
      simpa using this
  · refine ⟨_, [_], F, some ⟨g, 0, none⟩, xs.length, cap, ys.length, xs.flatMap el, ys.flatMap el, hp, List.Perm.refl _, rfl, hx, hm, hb, fun h => .inr ⟨_, rfl, ?_⟩, fun h => ⟨?_, fun g' c h1 h2 => ?_⟩⟩
    · rw [add_mk, Nat.zero_add]
      have hfit : xs.length * sz + ys.length * sz ≤ cap * sz := by rw [← Nat.add_mul]; exact Nat.mul_le_mul_right _ h
      refine StP.list ?_ (flatMap_one ho ys) ?_
      · rw [List.length_append, flatMap_len he, flatMap_len he]; omega
      · rw [take_flat he, flatMap_len he, ← List.drop_drop, drop_flat he]
        refine hK _ _ _ [_] (.inr ⟨g, cap, rest.drop (ys.length * sz), by rw [hlen], ?_, ?_, hc⟩)
        · rw [List.flatMap_append]
        · rw [List.length_drop, hlen, Nat.add_mul]; omega
    · refine Rd.keep (Sub.keep (IMem.le.refl I) (T := S) ⟨F, hp⟩) (Rd.list ?_ ?_)
      · rw [List.drop_zero, take_flat he]
      · rw [List.length_append, flatMap_len he]; omega
    · exact hK (some ⟨g', 0, none⟩) _ c _ (grow g' c h1 h2)
end
theorem RunsX.mono {P : Program} {f : FuncId} {args : Array Value} {I : IMem} {S : SH} {R R' : Value → IMem → SH → Prop} (h : RunsX P f args I S R) (hr : ∀ v J T, I.le J → R v J T → R' v J T) : RunsX P f args I S R' :=
  fun w hw => let ⟨v, w', J, T, h1, h2, h3, h4⟩ := h w hw; ⟨v, w', J, T, h1, h2, h3, hr v J T h2 h4⟩
theorem StP.mid {B : SH} {b o : Nat} {cs : Array Value} {e : TypeId} {vs : List Value} : ∀ {A : SH} {K : SH → Prop}, o + vs.length ≤ cs.size → vs.all one = true → K (A ++ (b, .cells (setR cs o vs) e (0, 0)) :: B) → StP (A ++ (b, .cells cs e (0, 0)) :: B) ⟨b, o, none⟩ vs K
  | [], K, hl, ho, h => StP.at0 hl ho h
  | x :: A, K, hl, ho, h => StP.tl (StP.mid (A := A) (K := fun T => K (x :: T)) hl ho h)
theorem StP.listF {S : SH} {g o : Nat} {L : List Value} {e : TypeId} {vs : List Value} {K : SH → Prop} {fz : Nat × Nat} (hl : o + vs.length ≤ L.length) (hf : o + vs.length ≤ fz.1) (ho : vs.all one = true) (h : K ((g, .cells (L.take o ++ vs ++ L.drop (o + vs.length)).toArray e fz) :: S)) :
    StP ((g, .cells L.toArray e fz) :: S) ⟨g, o, none⟩ vs K := by
  refine ⟨0, L.toArray, e, fz, rfl, rfl, by simpa using hl, .inr (.inl hf), ho, ?_⟩
  rw [setR_list _ _ _ hl]; exact h
theorem Cell.mid {I : IMem} {A B : SH} {b o : Nat} {cs : Array Value} {e : TypeId} {fz : Nat × Nat} {v : Value} (h : cs[o]? = some v) : Cell I (A ++ (b, .cells cs e fz) :: B) ⟨b, o, none⟩ v :=
  ⟨rfl, cs, e, fz, .inr (by simp), h⟩
theorem sub_swap {A B : SH} {x y : Nat × Obj} : Sub ((y :: A) ++ B) (A ++ x :: y :: B) :=
  ⟨[x], (List.perm_middle.trans ((List.perm_middle).cons _)).trans (List.perm_append_comm (l₁ := [x]))⟩
theorem perm_mid2 {A B : SH} {x y : Nat × Obj} : (x :: y :: (A ++ B)).Perm (A ++ x :: y :: B) := (List.perm_middle.trans ((List.perm_middle).cons _)).symm
theorem perm_mid1 {A B : SH} {x : Nat × Obj} : (x :: (A ++ B)).Perm (A ++ x :: B) := List.perm_middle.symm

/-! ### bytes -/
def elB (b : UInt8) : List Value := [.int .u8 (b.toNat : Int)]
theorem elB_len (b : UInt8) : (elB b).length = 1 := rfl
theorem elB_one (b : UInt8) : (elB b).all one = true := rfl
def bytL (l : List UInt8) : List Value := l.map fun b => .int .u8 (b.toNat : Int)
theorem flat_elB : ∀ l : List UInt8, l.flatMap elB = bytL l
  | [] => rfl
  | b :: l => by rw [List.flatMap_cons, flat_elB l]; rfl
theorem bytL_len (l : List UInt8) : (bytL l).length = l.length := List.length_map ..
theorem BytesAt.list {I : IMem} {S : SH} {g n : Nat} {l : List UInt8} {rest : List Value} {e : TypeId} {fz : Nat × Nat} (hn : n = l.length) : BytesAt I ((g, .cells (bytL l ++ rest).toArray e fz) :: S) (some ⟨g, 0, none⟩) n ⟨l.toArray⟩ := by
  subst hn
  refine ⟨by simp [ByteArray.size], fun i c hc => ?_⟩
  rw [add_mk, Nat.zero_add]
  refine Cell.at0 ?_
  have hi : i < l.length := by
    rcases Nat.lt_or_ge i l.length with h | h
    · exact h
    · rw [getElem?_neg (⟨l.toArray⟩ : ByteArray) i (by simp [ByteArray.size]; omega)] at hc; cases hc
  have hli : l[i]? = some c := by
    rw [getElem?_pos (⟨l.toArray⟩ : ByteArray) i (by simp [ByteArray.size]; omega)] at hc
    injection hc with hc
    rw [List.getElem?_eq_getElem hi, ← hc]; rfl
  rw [List.getElem?_toArray, List.getElem?_append_left (by rw [bytL_len]; exact hi), bytL, List.getElem?_map, hli]
  rfl
end Go.Px
/- Which blocks lie in a heap, by counting. -/
namespace Go.Px
set_option linter.unusedVariables false

open Classical in
/-- a block is this one -/
noncomputable def iv (a x : Nat × Obj) : Nat := if x = a then 1 else 0
noncomputable def cnt (a : Nat × Obj) : SH → Nat
  | [] => 0
  | x :: L => iv a x + cnt a L
theorem cnt_nil (a : Nat × Obj) : cnt a [] = 0 := rfl
theorem cnt_cons (a x : Nat × Obj) (L : SH) : cnt a (x :: L) = iv a x + cnt a L := rfl
theorem cnt_app (a : Nat × Obj) : ∀ (L M : SH), cnt a (L ++ M) = cnt a L + cnt a M
  | [], M => by rw [List.nil_append, cnt_nil, Nat.zero_add]
  | x :: L, M => by rw [List.cons_append, cnt_cons, cnt_cons, cnt_app a L M, Nat.add_assoc]
theorem cnt_perm {a : Nat × Obj} {L M : SH} (h : L.Perm M) : cnt a L = cnt a M := by
  induction h with
  | nil => rfl
  | cons x _ ih => rw [cnt_cons, cnt_cons, ih]
  | swap x y l => rw [cnt_cons, cnt_cons, cnt_cons, cnt_cons]; omega
  | trans _ _ ih1 ih2 => rw [ih1, ih2]
theorem iv_self (x : Nat × Obj) : iv x x = 1 := by unfold iv; rw [if_pos rfl]
theorem cnt_pos {a : Nat × Obj} : ∀ {T : SH}, 0 < cnt a T → ∃ A B, T = A ++ a :: B
  | [], h => by rw [cnt_nil] at h; omega
  | x :: T, h => by
    by_cases e : x = a
    · exact ⟨[], T, by rw [e]; rfl⟩
    · have : iv a x = 0 := by unfold iv; rw [if_neg e]
      rw [cnt_cons, this, Nat.zero_add] at h
      obtain ⟨A, B, rfl⟩ := cnt_pos h
      exact ⟨x :: A, B, rfl⟩
theorem Sub.cnt {L T : SH} (h : Sub L T) (a : Nat × Obj) : cnt a L ≤ cnt a T := by
  obtain ⟨G, hp⟩ := h
  rw [cnt_perm hp, cnt_app]; omega
theorem sub_of : ∀ {L T : SH}, (∀ a, Go.Px.cnt a L ≤ Go.Px.cnt a T) → Sub L T
  | [], T, _ => ⟨T, by simp⟩
  | x :: L, T, h => by
    have hx := h x
    rw [cnt_cons, iv_self] at hx
    obtain ⟨A, B, rfl⟩ := cnt_pos (show 0 < Go.Px.cnt x T by omega)
    have h2 : Sub L (A ++ B) := sub_of fun a => by
      have := h a
      rw [cnt_cons, cnt_app, cnt_cons] at this
      rw [cnt_app]; omega
    obtain ⟨G, hG⟩ := h2
    exact ⟨G, List.perm_middle.trans (hG.cons x)⟩
/-- from one heap to another one -/
theorem Sub.re {L M T : SH} (h : Sub M T) (g : ∀ a, Go.Px.cnt a L ≤ Go.Px.cnt a M) : Sub L T := (sub_of g).trans h
end Go.Px
/- Numbers as digits, rows of words that are 0, and what their labels are: plain laws. -/
namespace Go.Proofs.YtcdajekafnggkaaGreatDoor
open Go.Px
set_option linter.unusedVariables false
set_option linter.unusedSimpArgs false
set_option maxRecDepth 8000

def dgt (n : Nat) : UInt8 := UInt8.ofNat (if n < 10 then 48 + n else 87 + n)
def numL : Nat → Nat → Nat → List UInt8
  | 0, _, _ => []
  | f + 1, b, n => if n < b then [dgt n] else numL f b (n / b) ++ [dgt (n % b)]
def decB (n : Nat) : ByteArray := ⟨(numL 3 10 n).toArray⟩
def hexB (n : Nat) : ByteArray := ⟨(numL 4 16 n).toArray⟩
def zzB : ByteArray := ⟨#[122, 122]⟩

theorem bext {a b : ByteArray} (h : a.data.toList = b.data.toList) : a = b := ByteArray.ext (Array.toList_inj.1 h)
theorem tl_inj {a b : ByteArray} (h : a.toList = b.toList) : a = b := by
  rw [ByteArray.toList_eq, ByteArray.toList_eq] at h
  exact bext h
theorem tl_ne {a b : ByteArray} (h : a ≠ b) : (a.toList == b.toList) = false := by
  cases hb : (a.toList == b.toList)
  · rfl
  · exact absurd (tl_inj (eq_of_beq hb)) h
theorem tl_eq {a : ByteArray} : (a.toList == a.toList) = true := beq_self_eq_true _
theorem ba_get (s : ByteArray) (i : Nat) : s[i]? = s.data.toList[i]? := by
  by_cases hi : i < s.size
  · rw [getElem?_pos s i hi, List.getElem?_eq_getElem (by rw [Array.length_toList]; exact hi)]; rfl
  · rw [getElem?_neg s i hi, List.getElem?_eq_none (by rw [Array.length_toList]; exact Nat.le_of_not_lt hi)]
/-! ### read again -/
def aF : List UInt8 → Nat → Option Nat
  | [], n => some n
  | c :: cs, n => if 48 ≤ c.toNat ∧ c.toNat ≤ 57 then aF cs (n * 10 + (c.toNat - 48)) else none
theorem aF_ge : ∀ {cs : List UInt8} {n m : Nat}, aF cs n = some m → n ≤ m
  | [], n, m, h => by simp [aF] at h; omega
  | c :: cs, n, m, h => by
    unfold aF at h
    split at h
    · have := aF_ge h; omega
    · cases h
theorem aF_dec : ∀ m : Fin 256, aF (numL 3 10 m.val) 0 = some m.val := by decide +kernel
theorem dec_size : ∀ m : Fin 256, 1 ≤ (numL 3 10 m.val).length ∧ (numL 3 10 m.val).length ≤ 3 := by decide +kernel
theorem decB_len {m : Nat} (h : m ≤ 255) : 1 ≤ (decB m).size ∧ (decB m).size ≤ 3 := by
  have := dec_size ⟨m, by omega⟩
  simpa [decB, ByteArray.size] using this
def dig (c : UInt8) : Nat := if 48 ≤ c.toNat ∧ c.toNat ≤ 57 then c.toNat - 48 else if 97 ≤ (c ||| 32).toNat ∧ (c ||| 32).toNat ≤ 122 then (c ||| 32).toNat - 87 else 99
def pu : List UInt8 → Nat → Option Nat
  | [], n => some n
  | c :: cs, n => if 16 ≤ dig c ∨ 65535 < n * 16 + dig c then none else pu cs (n * 16 + dig c)
theorem dig_dgt : ∀ d : Fin 16, dig (dgt d.val) = d.val := by decide +kernel
theorem dig_dgt' {d : Nat} (h : d < 16) : dig (dgt d) = d := dig_dgt ⟨d, h⟩
theorem pu_num : ∀ (f w : Nat) (rest : List UInt8), w < 16 ^ f → w ≤ 65535 → 0 < f → pu (numL f 16 w ++ rest) 0 = pu rest w
  | 0, _, _, _, _, h => by omega
  | f + 1, w, rest, h1, h2, _ => by
    unfold numL
    by_cases hw : w < 16
    · rw [if_pos hw, List.singleton_append, pu, dig_dgt' hw, if_neg (by omega)]
      simp
    · rw [if_neg hw, List.append_assoc]
      have hf : 0 < f := by
        rcases Nat.eq_zero_or_pos f with h | h
        · subst h; simp at h1; omega
        · exact h
      rw [pu_num f (w / 16) _ (by rw [Nat.pow_succ] at h1; omega) (by omega) hf, List.singleton_append, pu, dig_dgt' (by omega), if_neg (by omega)]
      congr 1; omega
theorem pu_hex {w : Nat} (h : w < 65536) : pu (numL 4 16 w) 0 = some w := by
  have := pu_num 4 w [] (by omega) (by omega) (by omega)
  simpa [pu] using this
theorem hexB_inj {v w : Nat} (hv : v < 65536) (hw : w < 65536) (h : hexB v = hexB w) : v = w := by
  have h1 : numL 4 16 v = numL 4 16 w := by
    have := congrArg (fun s : ByteArray => s.data.toList) h
    simpa [hexB] using this
  have h2 := pu_hex hv
  rw [h1, pu_hex hw] at h2
  exact (Option.some.inj h2).symm
theorem hexB_zz {w : Nat} (hw : w < 65536) : hexB w ≠ zzB := fun h => by
  have h1 : numL 4 16 w = [122, 122] := by
    have := congrArg (fun s : ByteArray => s.data.toList) h
    simpa [hexB, zzB] using this
  have h2 := pu_hex hw
  rw [h1] at h2
  have h3 : pu [122, 122] 0 = none := by decide
  rw [h3] at h2; cases h2
theorem decB_inj {v w : Nat} (hv : v ≤ 255) (hw : w ≤ 255) (h : decB v = decB w) : v = w := by
  have h1 : numL 3 10 v = numL 3 10 w := by
    have := congrArg (fun s : ByteArray => s.data.toList) h
    simpa [decB] using this
  have h2 := aF_dec ⟨v, by omega⟩
  dsimp only at h2
  rw [h1, aF_dec ⟨w, by omega⟩] at h2
  exact (Option.some.inj h2).symm
theorem numL_len : ∀ (f b n : Nat), (numL f b n).length ≤ f
  | 0, _, _ => by simp [numL]
  | f + 1, b, n => by
    unfold numL
    split
    · simp
    · rw [List.length_append]; have := numL_len f b (n / b); simp; omega
theorem numL_pos (f b n : Nat) : 0 < (numL (f + 1) b n).length := by
  unfold numL
  split
  · simp
  · rw [List.length_append]; simp
theorem hexB_len (w : Nat) : 1 ≤ (hexB w).size ∧ (hexB w).size ≤ 4 := by
  have h1 := numL_len 4 16 w
  have h2 : 0 < (numL 4 16 w).length := numL_pos 3 16 w
  have : (hexB w).size = (numL 4 16 w).length := by simp [hexB, ByteArray.size]
  omega

/-! ### rows of words that are 0 -/
def zr (z : List Bool) : Nat := (z.takeWhile id).length
def stp (z : List Bool) (k : Nat) (am : Int × Int) : Int × Int := if am.2 < (zr (z.drop k) : Int) then ((k : Int), (zr (z.drop k) : Int)) else am
def bp (z : List Bool) : Nat → Int × Int
  | 0 => (-1, 1)
  | j + 1 => stp z j (bp z j)
def stl (z : List Bool) (k : Nat) (am : Int × Int) : Int × Int := if (if am.2 > 2 then am.2 else 2) ≤ (zr (z.drop k) : Int) then ((k : Int), (zr (z.drop k) : Int)) else am
def bl (z : List Bool) : Nat → Int × Int
  | 0 => (-1, 1)
  | j + 1 => stl z (7 - j) (bl z j)
def emP (fr mo : Int) : Nat → Nat → List (Option Nat)
  | 0, _ => []
  | f + 1, k => if k < 8 then (if (k : Int) = fr then none :: emP fr mo f ((k : Int) + mo).toNat else some k :: emP fr mo f (k + 1)) else []
def partL (fr mo : Int) (k : Nat) : List (Option Nat) := if 0 ≤ fr ∧ (k : Int) = fr then [none] else if 0 ≤ fr ∧ fr < (k : Int) ∧ (k : Int) < fr + mo then [] else [some k]
def emL (fr mo : Int) : Nat → List (Option Nat)
  | 0 => []
  | j + 1 => emL fr mo j ++ partL fr mo (7 - j)
def fwd (z : List Bool) : List (Option Nat) := emP (bp z 8).1 (bp z 8).2 9 0
def lay (z : List Bool) : List (Option Nat) := emL (bl z 8).1 (bl z 8).2 8
def expd (l : List (Option Nat)) : List (Option Nat) := match l.findIdx? (·.isNone) with
  | some k => l.take k ++ (List.replicate (9 - l.length) (some 8) ++ l.drop (k + 1))
  | none => l
def goodZ (z : List Bool) : Bool :=
  decide ((fwd z).reverse = lay z) && decide ((expd (fwd z)).length = 8) && (List.range 8).all (fun i => decide ((expd (fwd z))[i]? = some (some i)) || (decide ((expd (fwd z))[i]? = some (some 8)) && decide (z[i]? = some true))) &&
    (decide ((fwd z).length ≠ 4) || (fwd z).any (·.isNone)) && (decide ((fwd z).length ≤ 7) || !(fwd z).any (·.isNone)) && decide ((fwd z).length ≤ 8) && decide (1 ≤ (fwd z).length) && (fwd z).all (fun o => match o with | some k => decide (k < 8) | none => true) &&
    decide ((bp z 8).1 ≥ -1) && decide ((bp z 8).2 ≥ 1) && decide ((bp z 8).2 ≤ 8) && decide ((bl z 8).1 ≥ -1) && decide ((bl z 8).2 ≥ 1) && decide ((bl z 8).2 ≤ 8) && decide (2 ≤ (fwd z).length ∨ (bp z 8).2 = 8)
theorem good_all : ∀ a b c d e f g h : Bool, goodZ [a, b, c, d, e, f, g, h] = true := by decide +kernel
theorem len8 {α : Type} : ∀ {z : List α}, z.length = 8 → ∃ a b c d e f g h, z = [a, b, c, d, e, f, g, h]
  | [a, b, c, d, e, f, g, h], _ => ⟨a, b, c, d, e, f, g, h, rfl⟩
theorem good_of {z : List Bool} (h : z.length = 8) : goodZ z = true := by
  obtain ⟨a, b, c, d, e, f, g, i, rfl⟩ := len8 h
  exact good_all a b c d e f g i
theorem zr_le (z : List Bool) : zr z ≤ z.length := (List.takeWhile_prefix _).length_le

/-! ### labels of words -/
def ren (ws : List Nat) : Option Nat → ByteArray
  | none => zzB
  | some k => hexB (ws.getD k 0)
def zs (ws : List Nat) : List Bool := ws.map (· == 0)
def sixL (ws : List Nat) : List ByteArray := (lay (zs ws)).map (ren ws)
structure Ws (ws : List Nat) : Prop where
  len : ws.length = 8
  lt : ∀ w ∈ ws, w < 65536
theorem Ws.zlen {ws : List Nat} (h : Ws ws) : (zs ws).length = 8 := by rw [zs, List.length_map, h.len]
theorem Ws.at_ {ws : List Nat} (h : Ws ws) (k : Nat) : ws.getD k 0 < 65536 := by
  rw [List.getD_eq_getElem?_getD]
  cases hk : ws[k]? with
  | none => simp
  | some w => exact h.lt w (List.mem_of_getElem? hk)
theorem six_rev {ws : List Nat} (h : Ws ws) : (sixL ws).reverse = (fwd (zs ws)).map (ren ws) := by
  have hg := good_of h.zlen
  simp only [goodZ, Bool.and_eq_true, decide_eq_true_eq] at hg
  rw [sixL, ← List.map_reverse, ← hg.1.1.1.1.1.1.1.1.1.1.1.1.1.1, List.reverse_reverse]
theorem ren_zz {ws : List Nat} (h : Ws ws) (o : Option Nat) : ren ws o = zzB ↔ o = none := by
  cases o with
  | none => simp [ren]
  | some k => exact ⟨fun e => absurd e (hexB_zz (h.at_ k)), fun e => by cases e⟩
/-- the labels, last word last, with zeros for zz -/
theorem six_exp {ws : List Nat} (h : Ws ws) : (expd (fwd (zs ws))).map (ren ws) = ws.map hexB := by
  have hg := good_of h.zlen
  simp only [goodZ, Bool.and_eq_true, decide_eq_true_eq] at hg
  have hl := hg.1.1.1.1.1.1.1.1.1.1.1.1.1.2
  have ha := hg.1.1.1.1.1.1.1.1.1.1.1.1.2
  apply List.ext_getElem?
  intro i
  rw [List.getElem?_map, List.getElem?_map]
  by_cases hi : i < 8
  · have := List.all_eq_true.1 ha i (List.mem_range.2 hi)
    simp only [Bool.or_eq_true, Bool.and_eq_true, decide_eq_true_eq] at this
    have hw : ws[i]? = some (ws.getD i 0) := by
      rw [List.getD_eq_getElem?_getD, List.getElem?_eq_getElem (by rw [h.len]; exact hi)]; rfl
    rcases this with e | ⟨e, hz⟩
    · rw [e, hw]; rfl
    · have hz0 : ws.getD i 0 = 0 := by
        rw [zs, List.getElem?_map, hw] at hz
        simpa using hz
      have h8 : ws.getD 8 0 = 0 := by
        rw [List.getD_eq_getElem?_getD, List.getElem?_eq_none (by rw [h.len]; exact Nat.le_refl _)]; rfl
      rw [e, hw, hz0]
      show some (hexB (ws.getD 8 0)) = some (hexB 0)
      rw [h8]
  · rw [List.getElem?_eq_none (by rw [hl]; omega), List.getElem?_eq_none (by rw [h.len]; omega)]; rfl
end Go.Proofs.YtcdajekafnggkaaGreatDoor
/- Numbers written: strconv.Itoa of a byte's numbers. -/
namespace Go.Proofs.YtcdajekafnggkaaGreatDoor
open Go.Px
set_option linter.unusedVariables false
set_option linter.unusedSimpArgs false
set_option maxRecDepth 8000

/-- what the library's tables and errors hold, as far as it is read -/
structure GL (I : IMem) : Prop where
  p10 : ∃ cs e fz, I.at_ 0 = some (.cells cs e fz) ∧ cs[2]? = some (.int .u64 100)
  tz : ∃ cs e fz, I.at_ 4 = some (.cells cs e fz) ∧ cs[15]? = some (.int .u8 4)
  er1 : ∃ cs e fz t v, I.at_ 1 = some (.cells cs e fz) ∧ cs[0]? = some (.iface t v)
  er2 : ∃ cs e fz t v, I.at_ 2 = some (.cells cs e fz) ∧ cs[0]? = some (.iface t v)
theorem GL.le {I J : IMem} (h : GL I) (hle : I.le J) : GL J :=
  ⟨let ⟨cs, e, fz, h1, h2⟩ := h.p10; ⟨cs, e, fz, hle.at_ _ _ h1, h2⟩, let ⟨cs, e, fz, h1, h2⟩ := h.tz; ⟨cs, e, fz, hle.at_ _ _ h1, h2⟩, let ⟨cs, e, fz, t, v, h1, h2⟩ := h.er1; ⟨cs, e, fz, t, v, hle.at_ _ _ h1, h2⟩,
    let ⟨cs, e, fz, t, v, h1, h2⟩ := h.er2; ⟨cs, e, fz, t, v, hle.at_ _ _ h1, h2⟩⟩

theorem small1 : ∀ m : Fin 10, (strT1_69c1.extract m.val (m.val + 1)).data.toList = numL 3 10 m.val := by decide +kernel
theorem small2 : ∀ m : Fin 100, 10 ≤ m.val → (strT1_7034.extract (m.val * 2) (m.val * 2 + 2)).data.toList = numL 3 10 m.val := by decide +kernel
theorem small_runs {n : Nat} (h : n < 100) (I : IMem) (S : SH) : Runs Tryz.prog 79 #[.int .i64 (n : Int)] I S fun v _ T => v = .string (decB n) ∧ T = S := by
  refine strconv_small_fn _ _ _ _ ?_
  unfold strconv_small
  have s1 : strT1_69c1.size = 36 := by decide
  have s2 : strT1_7034.size = 200 := by decide +kernel
  rw [wrap_i64 (x := (n : Int) + 1) (by omega) (by omega), wrap_i64 (x := (n : Int) * 2) (by omega) (by omega), wrap_i64 (x := (n : Int) * 2 + 2) (by omega) (by omega)]
  refine bcase_dec (fun h1 => ?_) (fun h1 => ?_)
  · refine ⟨by omega, by rw [s1]; omega, by omega, by omega, ?_, rfl⟩
    congr 1
    refine bext ?_
    have := small1 ⟨n, by omega⟩
    rw [show (n : Int).toNat = n by omega, show ((n : Int) + 1).toNat = n + 1 by omega, this]
    simp [decB]
  · refine ⟨by omega, by rw [s2]; omega, by omega, by omega, ?_, rfl⟩
    congr 1
    refine bext ?_
    have := small2 ⟨n, h⟩ (by show 10 ≤ n; omega)
    rw [show ((n : Int) * 2).toNat = n * 2 by omega, show ((n : Int) * 2 + 2).toNat = n * 2 + 2 by omega, this]
    simp [decB]

theorem len8tab : ∀ m : Fin 256, 100 ≤ m.val → (strT1_2a39[m.val]? = some 7 ∨ strT1_2a39[m.val]? = some 8) := by decide +kernel
theorem Len64_runs {n : Nat} (h : 100 ≤ n) (h2 : n ≤ 255) (I : IMem) (S : SH) : Runs Tryz.prog 93 #[.int .u64 (n : Int)] I S fun v _ T => (v = .int .i64 7 ∨ v = .int .i64 8) ∧ T = S := by
  refine bits_Len64_fn _ _ _ _ ?_
  unfold bits_Len64 bits_Len64_b1 bits_Len64_b2 bits_Len64_b3
  refine bcase_dec (fun g => by omega) (fun _ => bcase_dec (fun g => by omega) (fun _ => bcase_dec (fun g => by omega) (fun _ => ?_)))
  rw [wrap_u8 (x := (n : Int)) (by omega) (by omega)]
  rcases len8tab ⟨n, by omega⟩ h with e | e
  · exact ⟨7, by omega, e, .inl rfl, rfl⟩
  · exact ⟨8, by omega, e, .inr rfl, rfl⟩
theorem Log_runs {x : Int} (h : x = 7 ∨ x = 8) (I : IMem) (S : SH) : Runs Tryz.prog 92 #[.int .i64 x] I S fun v _ T => v = .int .i64 2 ∧ T = S := by
  refine strconv_log10Pow2_fn _ _ _ _ ?_
  unfold strconv_log10Pow2
  rcases h with rfl | rfl <;> exact ⟨rfl, rfl⟩
theorem b2i_runs (b : Bool) (I : IMem) (S : SH) : Runs Tryz.prog 94 #[.bool b] I S fun v _ T => v = .int .i64 (if b then 1 else 0) ∧ T = S := by
  refine strconv_bool2_int_fn _ _ _ _ ?_
  unfold strconv_bool2_int
  cases b
  · exact bcase_f rfl ⟨rfl, rfl⟩
  · exact bcase_t rfl ⟨rfl, rfl⟩
theorem digits_runs {n : Nat} (h : 100 ≤ n) (h2 : n ≤ 255) {I : IMem} (g : GL I) (S : SH) : Runs Tryz.prog 80 #[.int .u64 (n : Int)] I S fun v _ T => v = .int .i64 3 ∧ T = S := by
  refine strconv_numDigits_fn _ _ _ _ ?_
  unfold strconv_numDigits
  refine (Len64_runs h h2 I S).mono ?_
  rintro v J T hle ⟨hv, rfl⟩
  have key : ∀ x : Int, x = 7 ∨ x = 8 → Runs Tryz.prog 92 #[.int .i64 x] J T fun v' I1' S1' => ∃ x6, v' = .int .i64 x6 ∧
    (0 : Int) ≤ x6 ∧ x6 < ((20 : Nat) : Int) ∧
    ∃ x11, Cell I1' S1' ((⟨0, 0, none⟩ : Addr).add (x6.toNat * 1)) (.int .u64 x11) ∧
    Runs Tryz.prog 94 #[.bool (decide ((n : Int) ≥ x11))] I1' S1' fun v'' I1'' S1'' => ∃ x13, v'' = .int .i64 x13 ∧
    (Value.int .i64 (IntKind.wrap .i64 (x6 + x13)) = .int .i64 3 ∧ S1'' = T) := by
    intro x hx
    refine (Log_runs hx J T).mono ?_
    rintro v J1 T1 hle1 ⟨rfl, rfl⟩
    obtain ⟨cs, e, fz, h1, h2⟩ := ((g.le hle).le hle1).p10
    refine ⟨2, rfl, by omega, by omega, 100, ?_, ?_⟩
    · exact Cell.im (b := 0) (o := 2) h1 h2
    · refine (b2i_runs _ J1 T1).mono ?_
      rintro v J2 T2 _ ⟨rfl, rfl⟩
      rw [if_pos (by simp; omega)]
      exact ⟨_, rfl, rfl, rfl⟩
  rcases hv with rfl | rfl
  · exact ⟨7, rfl, key 7 (.inl rfl)⟩
  · exact ⟨8, rfl, key 8 (.inr rfl)⟩

theorem num3 : ∀ m : Fin 256, 100 ≤ m.val → ∃ a b : UInt8, (numL 3 10 m.val) = [UInt8.ofNat (48 + m.val / 100), a, b] ∧ strT1_7034[m.val % 100 * 2 + 1]? = some b ∧ strT1_7034[m.val % 100 * 2]? = some a := by
  intro m hm
  have h1 : (numL 3 10 m.val) = [UInt8.ofNat (48 + m.val / 100), dgt (m.val / 10 % 10), dgt (m.val % 10)] := by
    revert m; decide +kernel
  refine ⟨_, _, h1, ?_, ?_⟩
  · revert m; decide +kernel
  · revert m; decide +kernel
theorem base10_runs {n : Nat} (h : 100 ≤ n) (h2 : n ≤ 255) {a b : UInt8} (h3 : strT1_7034[n % 100 * 2 + 1]? = some b) (h4 : strT1_7034[n % 100 * 2]? = some a) {g : Nat} {cs : Array Value} {e : TypeId} (hc : 4 ≤ cs.size) (I : IMem) (S : SH) :
    Runs Tryz.prog 81 #[.slice (some ⟨g, 1, none⟩) 3 23, .int .u64 (n : Int)] I ((g, .cells cs e (0, 0)) :: S) fun v _ T => v = .tuple #[] ∧
      T = (g, .cells (setR (setR (setR cs 3 [.int .u8 (b.toNat : Int)]) 2 [.int .u8 (a.toNat : Int)]) 1 [.int .u8 ((UInt8.ofNat (48 + n / 100)).toNat : Int)]) e (0, 0)) :: S := by
  refine strconv_formatBase10_fn _ _ _ _ _ _ _ ?_
  unfold strconv_formatBase10 strconv_formatBase10_b1
  refine ⟨fun m x xn xc u nd J T => x = some ⟨g, 1, none⟩ ∧ xn = 3 ∧ xc = 23 ∧ u = (n : Int) ∧ nd = 3 ∧ J = J ∧ T = (g, .cells cs e (0, 0)) :: S, 0, ⟨rfl, rfl, rfl, rfl, rfl, rfl, rfl⟩, ?_⟩
  rintro m x xn xc u nd J T - ⟨rfl, rfl, rfl, rfl, rfl, -, rfl⟩
  unfold strconv_formatBase10_l2 strconv_formatBase10_b9 strconv_formatBase10_b10 strconv_formatBase10_b11 strconv_formatBase10_b15 strconv_formatBase10_b16 strconv_formatBase10_b17 strconv_formatBase10_b18 strconv_formatBase10_b19
  rw [wrap_u32 (x := (n : Int)) (by omega) (by omega)]
  have e1 : (n : Int).tmod 100 = ((n % 100 : Nat) : Int) := by rw [Int.tmod_eq_emod_of_nonneg (by omega)]; omega
  have e2 : (n : Int).tdiv 100 = ((n / 100 : Nat) : Int) := by rw [Int.tdiv_eq_ediv_of_nonneg (by omega)]; omega
  refine bcase_f rfl (bcase_f rfl (bcase_t rfl ?_))
  rw [e1, e2, wrap_u32 (x := ((n / 100 : Nat) : Int)) (by omega) (by omega), wrap_u32 (x := ((n % 100 : Nat) : Int) * 2) (by omega) (by omega), wrap_u32 (x := ((n % 100 : Nat) : Int) * 2 + 1) (by omega) (by omega)]
  refine ⟨b, by omega, (congrArg (fun i : Nat => strT1_7034[i]?) (show ((((n % 100 : Nat) : Int) * 2 + 1).toNat) = n % 100 * 2 + 1 by omega)).trans h3, a, by omega, (congrArg (fun i : Nat => strT1_7034[i]?) (show ((((n % 100 : Nat) : Int) * 2).toNat) = n % 100 * 2 by omega)).trans h4, by decide, by decide, ?_⟩
  refine StP.at0 (o := 3) (by simpa using hc) rfl ?_
  refine ⟨by decide, by decide, StP.at0 (o := 2) (by simp [setR_size]; omega) rfl ?_⟩
  refine bcase_t rfl ⟨by decide, by decide, StP.at0 (o := 1) (by simp [setR_size]; omega) rfl ⟨rfl, ?_⟩⟩
  have e3 : IntKind.wrap .u8 (IntKind.wrap .u32 (48 + ((n / 100 : Nat) : Int))) = ((UInt8.ofNat (48 + n / 100)).toNat : Int) := by
    rw [wrap_u32 (by omega) (by omega), wrap_u8 (by omega) (by omega)]
    have : (UInt8.ofNat (48 + n / 100)).toNat = 48 + n / 100 := by simp [UInt8.toNat_ofNat']; omega
    rw [this]; omega
  rw [e3]
theorem Fmt10_runs {n : Nat} (h : n ≤ 255) {I : IMem} (g : GL I) (S : SH) : Runs Tryz.prog 71 #[.int .i64 (n : Int), .int .i64 10] I S fun v _ T => v = .string (decB n) ∧ T = S := by
  refine Runs.drop (strconv_FormatInt_2_fn _ _ _ _ _ ?_)
  unfold strconv_FormatInt_2 strconv_FormatInt_2_b1 strconv_FormatInt_2_b2 strconv_FormatInt_2_b3
  refine bcase_t rfl (bcase_t (decide_eq_true (by omega)) (bcase_dec (fun h1 => ?_) (fun h1 => ?_)))
  · refine (small_runs (by omega) I S).mono ?_
    rintro v J T hle ⟨rfl, rfl⟩
    exact ⟨_, rfl, _, Sub.refl _, rfl, rfl⟩
  · unfold strconv_FormatInt_2_b4 strconv_FormatInt_2_b5
    intro b5
    refine bcase_f (decide_eq_false (by omega)) ?_
    rw [wrap_u64 (x := (n : Int)) (by omega) (by omega)]
    refine (digits_runs (n := n) (by omega) h g _).mono ?_
    rintro v J T hle ⟨rfl, rfl⟩
    refine ⟨3, rfl, by decide, by decide, by decide, by decide, ?_⟩
    obtain ⟨a, b, h3, h4, h5⟩ := num3 ⟨n, by omega⟩ (by show 100 ≤ n; omega)
    refine (base10_runs (n := n) (by omega) h h4 h5 (g := b5) (by simp) J S).mono ?_
    rintro v J1 T1 hle1 ⟨rfl, rfl⟩
    refine ⟨rfl, bcase_f (decide_eq_false (by omega)) ⟨by decide, by decide, by decide, by decide, decB n, ?_, S, ⟨[_], List.perm_append_comm (l₁ := [_])⟩, rfl, rfl⟩⟩
    have hd : (decB n).data.toList = [UInt8.ofNat (48 + n / 100), a, b] := h3
    have hsz : (decB n).size = 3 := by have := congrArg List.length hd; rw [Array.length_toList] at this; exact this
    have hg : ∀ i : Nat, (decB n)[i]? = ([UInt8.ofNat (48 + n / 100), a, b] : List UInt8)[i]? := by
      intro i
      rw [← hd]
      by_cases hi : i < (decB n).size
      · rw [getElem?_pos _ i hi, List.getElem?_eq_getElem (by rw [Array.length_toList]; exact hi)]; rfl
      · rw [getElem?_neg _ i hi, List.getElem?_eq_none (by rw [Array.length_toList]; exact Nat.le_of_not_lt hi)]
    refine ⟨hsz, fun i c hc => ?_⟩
    rw [hg] at hc
    have hadd : (⟨b5, 0, none⟩ : Addr).add (1 * 1) = ⟨b5, 1, none⟩ := rfl
    show Cell J1 _ (((⟨b5, 0, none⟩ : Addr).add (1 * 1)).add i) _
    rw [hadd, add_mk]
    rcases i with _ | _ | _ | i
    · obtain rfl := Option.some.inj hc; exact Cell.at0 rfl
    · obtain rfl := Option.some.inj hc; exact Cell.at0 rfl
    · obtain rfl := Option.some.inj hc; exact Cell.at0 rfl
    · simp at hc
theorem Itoa2_runs {n : Nat} (h : n ≤ 255) {I : IMem} (g : GL I) (S : SH) : Runs Tryz.prog 65 #[.int .i64 (n : Int)] I S fun v _ T => v = .string (decB n) ∧ T = S := by
  refine strconv_Itoa_2_fn _ _ _ _ ?_
  unfold strconv_Itoa_2
  refine (Fmt10_runs h g S).mono ?_
  rintro v J T hle ⟨rfl, rfl⟩
  exact ⟨_, rfl, rfl, rfl⟩
theorem Itoa_runs {n : Nat} (h : n ≤ 255) {I : IMem} (g : GL I) (S : SH) : Runs Tryz.prog 58 #[.int .i64 (n : Int)] I S fun v _ T => v = .string (decB n) ∧ T = S := by
  refine strconv_Itoa_fn _ _ _ _ ?_
  unfold strconv_Itoa
  refine (Itoa2_runs h g S).mono ?_
  rintro v J T hle ⟨rfl, rfl⟩
  exact ⟨_, rfl, rfl, rfl⟩
end Go.Proofs.YtcdajekafnggkaaGreatDoor
/- The listed variables: the tables and the two errors of strconv; a world where they lie so. -/
namespace Go.Proofs.YtcdajekafnggkaaGreatDoor
open Go Go.Px Go.Lib Go.MakeChecks
set_option linter.unusedVariables false
set_option linter.unusedSimpArgs false
set_option maxRecDepth 100000

abbrev LaidL : List (String × DataW Unit) := [("math/bits.deBruijn32tab", Rows.laid_math_bits_deBruijn32tab), ("math/bits.deBruijn64tab", Rows.laid_math_bits_deBruijn64tab), ("internal/strconv.uint64pow10", Rows.laid_internal_strconv_uint64pow10), ("strconv.ErrRange", Rows.laid_strconv_ErrRange), ("strconv.ErrSyntax", Rows.laid_strconv_ErrSyntax)]
theorem ld_at {W : World} {n : String} {cs : Array Value} {g : Nat} (hg : Program.globalNamed Tryz.prog n = some g) (h : W.var? Tryz.prog n = some cs) : ∃ e fz, (imW W).at_ g = some (.cells cs e fz) := by
  simp only [World.var?, hg, Option.bind_some] at h
  split at h
  · rename_i cs' e fz he
    obtain rfl := Option.some.inj h
    exact ⟨e, fz, he⟩
  · cases h
theorem ld_err {W : World} {n : String} {d : DataW Unit} {r : List (String × DataW Unit)} {g : Nat} (h : laidMet Tryz.prog ((n, .iface "*errors.errorString" d) :: r) W)
    (hg : Program.globalNamed Tryz.prog n = some g) (ht : ((Tryz.prog).globals[g]?).map (·.type) = some 85) : ∃ u v, W.var? Tryz.prog n = some #[.iface u v] := by
  obtain ⟨ps, ⟨g0, t0, cs0, f0, p0, q0, hg0, ht0, hv0, hd0, _, e0⟩, _, hrows⟩ := h
  obtain rfl := Option.some.inj (hg.symm.trans hg0)
  obtain rfl := Option.some.inj (ht.symm.trans ht0)
  obtain ⟨l0⟩ := cs0
  obtain ⟨_, u, v, rfl, _⟩ := iface_of_trod (Tryz.underlying85) hd0
  exact ⟨u, v, hv0⟩
abbrev ld64 : List Int := [0, 1, 56, 2, 57, 49, 28, 3, 61, 58, 42, 50, 38, 29, 17, 4, 62, 47, 59, 36, 45, 43, 51, 22, 53, 39, 33, 30, 24, 18, 12, 5, 63, 55, 48, 27, 60, 41, 37, 16, 46, 35, 44, 21, 52, 32, 23, 11, 54, 26, 40, 15, 34, 20, 31, 10, 25, 14, 19, 9, 13, 8, 7, 6]
abbrev ldp : List Int := [1, 10, 100, 1000, 10000, 100000, 1000000, 10000000, 100000000, 1000000000, 10000000000, 100000000000, 1000000000000, 10000000000000, 100000000000000, 1000000000000000, 10000000000000000, 100000000000000000, 1000000000000000000, 10000000000000000000]
theorem GL_of_laid {W : World} (h : laidMet Tryz.prog LaidL W) : GL (imW W) := by
  have h1 : laidMet Tryz.prog (("math/bits.deBruijn64tab", tabData .u8 ld64) :: [("internal/strconv.uint64pow10", Rows.laid_internal_strconv_uint64pow10), ("strconv.ErrRange", Rows.laid_strconv_ErrRange), ("strconv.ErrSyntax", Rows.laid_strconv_ErrSyntax)]) W := h.tail
  have h2 : laidMet Tryz.prog (("internal/strconv.uint64pow10", tabData .u64 ldp) :: [("strconv.ErrRange", Rows.laid_strconv_ErrRange), ("strconv.ErrSyntax", Rows.laid_strconv_ErrSyntax)]) W := h1.tail
  have h3 := h2.tail
  have h4 := h3.tail
  have t1 := tabIs_of_head (P := Tryz.prog) (g := 4) (t := 173) (e := 5) (n := 64) (by kernel_rfl) (by kernel_rfl) (by kernel_rfl) (by kernel_rfl) (by kernel_rfl) (by kernel_rfl) h1
  have t2 := tabIs_of_head (P := Tryz.prog) (g := 0) (t := 153) (e := 131) (n := 20) (by kernel_rfl) (by kernel_rfl) (by kernel_rfl) (by kernel_rfl) (by kernel_rfl) (by kernel_rfl) h2
  obtain ⟨u0, v0, hv0⟩ := ld_err (g := 2) h3 (by kernel_rfl) (by kernel_rfl)
  obtain ⟨u1, v1, hv1⟩ := ld_err (g := 1) h4 (by kernel_rfl) (by kernel_rfl)
  obtain ⟨e1, f1, g1⟩ := ld_at (g := 4) (by kernel_rfl) t1
  obtain ⟨e2, f2, g2⟩ := ld_at (g := 0) (by kernel_rfl) t2
  obtain ⟨e3, f3, g3⟩ := ld_at (g := 2) (by kernel_rfl) hv0
  obtain ⟨e4, f4, g4⟩ := ld_at (g := 1) (by kernel_rfl) hv1
  exact ⟨⟨_, _, _, g2, rfl⟩, ⟨_, _, _, g1, rfl⟩, ⟨_, _, _, _, _, g4, rfl⟩, ⟨_, _, _, _, _, g3, rfl⟩⟩
/-- A world that meets the condition. -/
noncomputable def laidWorld (os : Os) : World := World.laidAll Tryz.prog os LaidL
theorem laidWorld_os (os : Os) : (laidWorld os).os = os := World.laidAll_os _ _ _
theorem laidWorld_met (os : Os) (args : Array Value) : laidMetH Tryz.prog LaidL ((laidWorld os).forCall (fun _ _ => 0) ⟨#[], args, []⟩).memory := by
  rw [laidMetH_plain _ _ _ (by kernel_rfl)]
  exact laidMet_laidAll args (by kernel_rfl) (by kernel_rfl)
theorem handle_of_laid {W : World} (h : laidMetH Tryz.prog LaidL W) : GL (imW W) := by
  rw [laidMetH_plain _ _ _ (by kernel_rfl)] at h
  exact GL_of_laid h
theorem laidWorld_shaped (os : Os) (args : Array Value) : ((laidWorld os).forCall (fun _ _ => 0) ⟨#[], args, []⟩).Shaped Tryz.prog :=
  World.shaped_of_ZipB (by kernel_rfl) (by kernel_rfl)
end Go.Proofs.YtcdajekafnggkaaGreatDoor
/- Numbers written by sixteen: strconv.FormatUint and FormatInt of words. -/
namespace Go.Proofs.YtcdajekafnggkaaGreatDoor
open Go.Px
set_option linter.unusedVariables false
set_option linter.unusedSimpArgs false
set_option maxRecDepth 8000

theorem iand15 {u : Nat} (h : u < 65536) : iand .u64 (u : Int) (15 : Int) = ((u % 16 : Nat) : Int) := by
  have h1 : (BitVec.ofInt (IntKind.bits .u64) (u : Int) &&& BitVec.ofInt (IntKind.bits .u64) (15 : Int)).toNat = u % 16 := by
    rw [BitVec.toNat_and, BitVec.ofInt_natCast]
    have e1 : (BitVec.ofNat (IntKind.bits .u64) u).toNat = u := by
      rw [BitVec.toNat_ofNat]; exact Nat.mod_eq_of_lt (by show u < 2 ^ 64; omega)
    have e2 : (BitVec.ofInt (IntKind.bits .u64) (15 : Int)).toNat = 15 := by decide
    rw [e1, e2]
    exact Nat.and_two_pow_sub_one_eq_mod u 4
  unfold iand
  rw [h1]
  exact wrap_u64 (by omega) (by omega)
theorem dgt_at : ∀ d : Fin 16, strT1_69c1[d.val]? = some (dgt d.val) := by decide +kernel
theorem dgt_at' {d : Nat} (h : d < 16) : strT1_69c1[d]? = some (dgt d) := dgt_at ⟨d, h⟩
theorem pow2_runs (I : IMem) (S : SH) : Runs Tryz.prog 95 #[.int .i64 16] I S fun v _ T => v = .bool true ∧ T = S := by
  refine strconv_isPowerOfTwo_fn _ _ _ _ ?_
  unfold strconv_isPowerOfTwo
  exact ⟨by rw [show ((iand .i64 16 (IntKind.wrap .i64 (16 - (1 : Int)))) == (0 : Int)) = true by decide +kernel], rfl⟩
theorem tz_runs {I : IMem} (g : GL I) (S : SH) : Runs Tryz.prog 108 #[.int .u64 16] I S fun v _ T => v = .int .i64 4 ∧ T = S := by
  refine bits_TrailingZeros64_fn _ _ _ _ ?_
  unfold bits_TrailingZeros64
  have e : ((IntKind.wrap .u64 ((iand .u64 16 (IntKind.wrap .u64 (0 - 16))) * (285870213051353865 : Int))).fdiv (2 ^ (min (58 : Int).toNat (IntKind.bits .u64)))) = 15 := by decide +kernel
  rw [e]
  obtain ⟨cs, t, fz, h1, h2⟩ := g.tz
  exact bcase_f rfl ⟨by decide, by decide, 4, Cell.im (b := 4) (o := 15) h1 h2, rfl, rfl⟩
theorem tz2_runs {I : IMem} (g : GL I) (S : SH) : Runs Tryz.prog 96 #[.int .u64 16] I S fun v _ T => v = .int .i64 4 ∧ T = S := by
  refine bits_TrailingZeros_fn _ _ _ _ ?_
  unfold bits_TrailingZeros
  refine (tz_runs g S).mono ?_
  rintro v J T _ ⟨rfl, rfl⟩
  exact ⟨_, rfl, rfl, rfl⟩
def zerosL (k : Nat) : List Value := List.replicate k (.int .u8 0)
theorem zerosL_take {k j : Nat} (h : j ≤ k) (B : List Value) : (zerosL k ++ B).take j = zerosL j := by
  rw [List.take_append_of_le_length (by simp [zerosL]; exact h), zerosL, List.take_replicate, Nat.min_eq_left h]; rfl
theorem zerosL_drop {k : Nat} (B : List Value) : (zerosL k ++ B).drop k = B := by
  have : (zerosL k).length = k := by simp [zerosL]
  rw [List.drop_append_of_le_length (by omega), List.drop_of_length_le (by omega), List.nil_append]
theorem bits_runs {n : Nat} (h : n < 65536) {I : IMem} (g : GL I) (S : SH) : Runs Tryz.prog 82 #[.slice none 0 0, .int .u64 (n : Int), .int .i64 16, .bool false, .bool false] I S fun v _ T => v = .tuple #[.slice none 0 0, .string (hexB n)] ∧ T = S := by
  refine Runs.drop (strconv_formatBits_fn _ _ _ _ _ _ _ _ _ _ ?_)
  unfold strconv_formatBits strconv_formatBits_b1 strconv_formatBits_b2 strconv_formatBits_b3 strconv_formatBits_b4 strconv_formatBits_b5
  refine bcase_f rfl (bcase_f rfl (bcase_f rfl ?_))
  intro b12
  refine bcase_f rfl ((pow2_runs I _).mono ?_)
  rintro v J T hle ⟨rfl, rfl⟩
  refine ⟨true, rfl, bcase_t rfl ?_⟩
  rw [wrap_u64 (x := (16 : Int)) (by decide) (by decide)]
  refine (tz2_runs (g.le hle) _).mono ?_
  rintro v J1 T1 hle1 ⟨rfl, rfl⟩
  refine ⟨4, rfl, ?_⟩
  rw [wrap_u64 (x := (4 : Int)) (by decide) (by decide), wrap_u64 (x := (16 : Int) - 1) (by decide) (by decide)]
  unfold strconv_formatBits_b6
  refine ⟨fun m d dn dc u ng ap d2 d2n d2c s a i sh b mk J T => d = none ∧ dn = 0 ∧ dc = 0 ∧ ng = false ∧ ap = false ∧ d2 = none ∧ d2n = 0 ∧ d2c = 0 ∧ a = ⟨b12, 0, none⟩ ∧ sh = 4 ∧ b = 16 ∧ mk = 16 - 1 ∧ J1.le J ∧
    ∃ (k f : Nat) (acc : List UInt8), u = (k : Int) ∧ m = f ∧ 1 ≤ f ∧ f + acc.length = 4 ∧ k < 16 ^ f ∧ i = ((65 - acc.length : Nat) : Int) ∧ numL 4 16 n = numL f 16 k ++ acc ∧ T = (b12, .cells (zerosL (65 - acc.length) ++ bytL acc).toArray 154 (0, 0)) :: S,
    4, ⟨rfl, rfl, rfl, rfl, rfl, rfl, rfl, rfl, rfl, rfl, rfl, rfl, IMem.le.refl _, n, 4, [], rfl, rfl, by decide, rfl, by omega, rfl, by simp, rfl⟩, ?_⟩
  rintro m d dn dc u ng ap d2 d2n d2c s a i sh b mk J T - ⟨rfl, rfl, rfl, rfl, rfl, rfl, rfl, rfl, rfl, rfl, rfl, rfl, hle2, k, f, acc, rfl, rfl, hf, hfa, hk, rfl, hn, rfl⟩
  unfold strconv_formatBits_l7
  have hk2 : k < 65536 := Nat.lt_of_lt_of_le hk (by have : (16 : Nat) ^ m ≤ 16 ^ 4 := Nat.pow_le_pow_right (by decide) (by omega); omega)
  have hacc : acc.length ≤ 3 := by omega
  have hput : ∀ (c : UInt8) (K : SH → Prop), K ((b12, .cells (zerosL (65 - (c :: acc).length) ++ bytL (c :: acc)).toArray 154 (0, 0)) :: S) →
      StP ((b12, .cells (zerosL (65 - acc.length) ++ bytL acc).toArray 154 (0, 0)) :: S) ((⟨b12, 0, none⟩ : Addr).add ((IntKind.wrap .i64 (((65 - acc.length : Nat) : Int) - 1)).toNat * 1)) [.int .u8 (c.toNat : Int)] K := by
    intro c K hK
    have e0 : (IntKind.wrap .i64 (((65 - acc.length : Nat) : Int) - 1)).toNat * 1 = 64 - acc.length := by rw [wrap_i64 (by omega) (by omega)]; omega
    rw [e0, add_mk]
    refine StP.list (o := 0 + (64 - acc.length)) (by simp [zerosL, bytL_len]; omega) rfl ?_
    have e1 : (zerosL (65 - acc.length) ++ bytL acc).take (0 + (64 - acc.length)) = zerosL (64 - acc.length) := by rw [Nat.zero_add]; exact zerosL_take (by omega) _
    have e2 : (zerosL (65 - acc.length) ++ bytL acc).drop (0 + (64 - acc.length) + [Value.int .u8 (c.toNat : Int)].length) = bytL acc := by
      rw [show 0 + (64 - acc.length) + [Value.int .u8 (c.toNat : Int)].length = 65 - acc.length by simp; omega]; exact zerosL_drop _
    rw [e1, e2, List.append_assoc]
    have e3 : 64 - acc.length = 65 - (c :: acc).length := by rw [List.length_cons]; omega
    rw [e3]
    exact hK
  refine bcase_dec (fun h16 => ?_) (fun h16 => ?_)
  · have hd : k % 16 < 16 := Nat.mod_lt _ (by decide)
    have hf2 : 2 ≤ m := by
      rcases Nat.lt_or_ge m 2 with h | h
      · have : m = 1 := by omega
        subst this; simp at hk; omega
      · exact h
    obtain ⟨f, rfl⟩ : ∃ f, m = f + 1 := ⟨m - 1, by omega⟩
    have hi : iand .u64 (k : Int) (16 - 1) = ((k % 16 : Nat) : Int) := iand15 hk2
    rw [hi]
    refine ⟨dgt (k % 16), by omega, dgt_at' hd, by rw [wrap_i64 (by omega) (by omega)]; omega, by rw [wrap_i64 (by omega) (by omega)]; omega, hput _ _ (bcase_f rfl ?_)⟩
    refine ⟨f, by omega, rfl, rfl, rfl, rfl, rfl, rfl, rfl, rfl, rfl, rfl, rfl, rfl, hle2, k / 16, f, dgt (k % 16) :: acc, ?_, rfl, by omega, by rw [List.length_cons]; omega, ?_, ?_, ?_, rfl⟩
    · rw [Int.fdiv_eq_ediv_of_nonneg _ (by decide)]
      show (k : Int) / 16 = _
      omega
    · rw [Nat.pow_succ] at hk; omega
    · rw [wrap_i64 (by omega) (by omega), List.length_cons]; omega
    · rw [hn]
      conv => lhs; rw [numL, if_neg (by omega)]
      simp
  · unfold strconv_formatBits_b8 strconv_formatBits_b9 strconv_formatBits_b10
    obtain ⟨f, rfl⟩ : ∃ f, m = f + 1 := ⟨m - 1, by omega⟩
    refine ⟨dgt k, by omega, dgt_at' (by omega), by rw [wrap_i64 (by omega) (by omega)]; omega, by rw [wrap_i64 (by omega) (by omega)]; omega, hput _ _ (bcase_f rfl (bcase_f rfl ?_))⟩
    have hfin : numL 4 16 n = dgt k :: acc := by
      rw [hn, numL, if_pos (by omega)]; rfl
    have hl : (dgt k :: acc).length = acc.length + 1 := rfl
    have e0 : IntKind.wrap .i64 (((65 - acc.length : Nat) : Int) - 1) = ((64 - acc.length : Nat) : Int) := by rw [wrap_i64 (by omega) (by omega)]; omega
    rw [e0]
    refine ⟨by omega, by omega, hexB n, ?_, S, ⟨[_], List.perm_append_comm (l₁ := [_])⟩, rfl, rfl⟩
    have e1 : slA (some ⟨b12, 0, none⟩) 65 ((64 - acc.length : Nat) : Int).toNat 1 = some ⟨b12, 64 - acc.length, none⟩ := by
      unfold slA
      rw [if_neg (by omega)]
      show some _ = _
      congr 1
      rw [show ((64 - acc.length : Nat) : Int).toNat * 1 = 64 - acc.length by omega]
      show (⟨b12, 0, none⟩ : Addr).add (64 - acc.length) = _
      rw [add_mk, Nat.zero_add]
    rw [e1, show 65 - ((64 - acc.length : Nat) : Int).toNat = acc.length + 1 by omega]
    have hd : (hexB n).data.toList = dgt k :: acc := hfin
    have hsz : (hexB n).size = acc.length + 1 := by have := congrArg List.length hd; rw [Array.length_toList] at this; exact this
    refine ⟨hsz, fun i c hc => ?_⟩
    have hi : i < (hexB n).size := by
      rcases Nat.lt_or_ge i (hexB n).size with h | h
      · exact h
      · rw [getElem?_neg _ i (by omega)] at hc; cases hc
    rw [add_mk]
    refine Cell.at0 ?_
    have hg : (dgt k :: acc)[i]? = some c := by rw [← hd, ← ba_get]; exact hc
    have hz : (zerosL (65 - (dgt k :: acc).length)).length = 64 - acc.length := by rw [zerosL, List.length_replicate, hl]; omega
    rw [List.getElem?_toArray, List.getElem?_append_right (by rw [hz]; exact Nat.le_add_right _ _)]
    have : (64 - acc.length + i) - (zerosL (65 - (dgt k :: acc).length)).length = i := by rw [hz]; omega
    rw [this, bytL, List.getElem?_map, hg]; rfl
theorem FmtU_runs {n : Nat} (h : n < 65536) {I : IMem} (g : GL I) (S : SH) : Runs Tryz.prog 91 #[.int .u64 (n : Int), .int .i64 16] I S fun v _ T => v = .string (hexB n) ∧ T = S := by
  refine strconv_FormatUint_fn _ _ _ _ _ ?_
  unfold strconv_FormatUint
  refine Runs.mono (R := fun v _ T => v = .string (hexB n) ∧ T = S) ?_ ?_
  · refine strconv_FormatUint_2_fn _ _ _ _ _ ?_
    unfold strconv_FormatUint_2
    refine bcase_f rfl ((bits_runs h g S).mono ?_)
    rintro v J T _ ⟨rfl, rfl⟩
    exact ⟨_, _, _, _, rfl, rfl, rfl⟩
  · rintro v J T _ ⟨rfl, rfl⟩
    exact ⟨_, rfl, rfl, rfl⟩
theorem FmtI_runs {n : Nat} (h : n < 65536) {I : IMem} (g : GL I) (S : SH) : Runs Tryz.prog 66 #[.int .i64 (n : Int), .int .i64 16] I S fun v _ T => v = .string (hexB n) ∧ T = S := by
  refine strconv_FormatInt_fn _ _ _ _ _ ?_
  unfold strconv_FormatInt
  refine Runs.mono (R := fun v _ T => v = .string (hexB n) ∧ T = S) ?_ ?_
  · refine strconv_FormatInt_2_fn _ _ _ _ _ ?_
    unfold strconv_FormatInt_2 strconv_FormatInt_2_b1 strconv_FormatInt_2_b2 strconv_FormatInt_2_b6
    refine bcase_f rfl ?_
    rw [wrap_u64 (x := (n : Int)) (by omega) (by omega), show (decide ((n : Int) < 0)) = false from decide_eq_false (by omega)]
    refine (bits_runs h g S).mono ?_
    rintro v J T _ ⟨rfl, rfl⟩
    exact ⟨_, _, _, _, rfl, rfl, rfl⟩
  · rintro v J T _ ⟨rfl, rfl⟩
    exact ⟨_, rfl, rfl, rfl⟩
end Go.Proofs.YtcdajekafnggkaaGreatDoor
/- Numbers read: the library's inner ParseUint, by ten and by sixteen, of every string. -/
namespace Go.Proofs.YtcdajekafnggkaaGreatDoor
open Go.Px
set_option linter.unusedVariables false
set_option linter.unusedSimpArgs false
set_option maxRecDepth 8000

abbrev erV (k : Int) : Value := .iface 157 (.int .i64 k)
def PuX (s : ByteArray) (base : Int) (P : Nat → Prop) : Prop := base = 16 → ∀ w : Nat, w < 65536 → s = hexB w → P w
def PuR (s : ByteArray) (base : Int) (S : SH) (v : Value) (T : SH) : Prop :=
  ∃ (n : Int) (e : Value), v = .tuple #[.int .u64 n, e] ∧ (e = .nilIface ∨ e = erV 1 ∨ e = erV 2) ∧ PuX s base (fun w => n = (w : Int) ∧ e = .nilIface) ∧ (e = .nilIface → base = 16 → 0 ≤ n ∧ n ≤ 65535) ∧ Sub S T
theorem lowerU : ∀ c : Fin 256, ior .u8 (c.val : Int) 32 = ((UInt8.ofNat c.val ||| 32).toNat : Int) := by decide +kernel
theorem lowerU' (c : UInt8) : ior .u8 (c.toNat : Int) 32 = ((c ||| 32).toNat : Int) := by
  have := lowerU ⟨c.toNat, c.toNat_lt⟩
  simpa using this
theorem lower_runs (c : UInt8) (I : IMem) (S : SH) : Runs Tryz.prog 111 #[.int .u8 (c.toNat : Int)] I S fun v _ T => v = .int .u8 ((c ||| 32).toNat : Int) ∧ T = S := by
  refine strconv_lower_fn _ _ _ _ ?_
  unfold strconv_lower
  rw [lowerU']
  exact ⟨rfl, rfl⟩
theorem low_lt (c : UInt8) : (c ||| 32).toNat < 256 := (c ||| 32).toNat_lt
theorem byteCells_at {s : ByteArray} {k : Nat} {c : UInt8} (h : s.data.toList[k]? = some c) (rest : List Value) : (byteCells s ++ rest).toArray[k]? = some (.int .u8 (c.toNat : Int)) := by
  have hk : k < s.data.toList.length := by
    rcases Nat.lt_or_ge k s.data.toList.length with g | g
    · exact g
    · rw [List.getElem?_eq_none g] at h; cases h
  rw [List.getElem?_toArray, List.getElem?_append_left (by simpa [byteCells] using hk), byteCells, List.getElem?_map, h]; rfl
theorem PUin_runs {base bs : Int} (hb : (base = 10 ∧ bs = 0) ∨ (base = 16 ∧ bs = 16)) (s : ByteArray) (hs : s.size ≤ 281474976710656) (I : IMem) (S : SH) :
    Runs Tryz.prog 105 #[.string s, .int .i64 base, .int .i64 bs] I S fun v _ T => PuR s base S v T := by
  refine strconv_ParseUint_2_fn _ _ _ _ _ _ ?_
  unfold strconv_ParseUint_2
  have no : ∀ (nv : Int) (e : Value) (T : SH), e = erV 1 ∨ e = erV 2 → PuX s base (fun _ => False) → Sub S T → PuR s base S (.tuple #[.int .u64 nv, e]) T :=
    fun nv e T he hx hS => ⟨nv, e, rfl, .inr he, fun h w hw hw2 => (hx h w hw hw2).elim, fun h => (by rcases he with rfl | rfl <;> cases h), hS⟩
  have hlen : s.data.toList.length = s.size := Array.length_toList
  refine bcase_of (fun h0 => no _ _ _ (.inr rfl) (fun hb w hw e => ?_) (Sub.refl _)) (fun h0 => ?_)
  · have h1 := hexB_len w
    rw [e] at h0
    rw [tl_inj (eq_of_beq h0)] at h1
    exact absurd h1.1 (by decide)
  unfold strconv_ParseUint_2_b1 strconv_ParseUint_2_b2 strconv_ParseUint_2_b3 strconv_ParseUint_2_b4 strconv_ParseUint_2_b23 strconv_ParseUint_2_b5 strconv_ParseUint_2_b6
  have hb2 : (2 : Int) ≤ base ∧ base ≤ 36 := by rcases hb with ⟨rfl, rfl⟩ | ⟨rfl, rfl⟩ <;> decide
  have key : ∀ cutoff maxVal : Int, (base = 16 → cutoff = 1152921504606846976 ∧ maxVal = 65535) → strconv_ParseUint_2_b7 (fun v _ T => PuR s base S v T) s base (base == 0) s cutoff maxVal false 0 I S := by
    intro cutoff maxVal hcm
    have e0 : (base == (0 : Int)) = false := by rcases hb with ⟨rfl, rfl⟩ | ⟨rfl, rfl⟩ <;> rfl
    rw [e0]
    unfold strconv_ParseUint_2_b7 strconv_ParseUint_2_b8
    refine ⟨by simp only [maxLen]; omega, fun b99 c99 hc1 hc2 => ?_⟩
    refine ⟨fun m ba b0 s0 co mv un n x xn xc q i J T => ba = base ∧ b0 = false ∧ s0 = s ∧ co = cutoff ∧ mv = maxVal ∧ un = false ∧ x = some ⟨b99, 0, none⟩ ∧ xn = s.size ∧ q = (s.size : Int) ∧
      ∃ k : Nat, i = (k : Int) ∧ k ≤ s.size ∧ m = s.size - k ∧ PuX s base (fun w => ∃ nn : Nat, n = (nn : Int) ∧ pu (s.data.toList.drop k) nn = some w) ∧ (base = 16 → 0 ≤ n ∧ n ≤ 65535) ∧ Sub ((b99, .cells (byteCells s ++ repV (c99 - s.size) [.int .u8 0]).toArray 5 (c99, c99 + 1)) :: S) T,
      s.size, ⟨rfl, rfl, rfl, rfl, rfl, rfl, rfl, rfl, rfl, 0, rfl, Nat.zero_le _, rfl, fun hb w hw e => ⟨0, rfl, ?_⟩, fun _ => by omega, Sub.refl _⟩, ?_⟩
    · rw [e]; exact pu_hex hw
    rintro m ba b0 s0 co mv un n x xn xc q i J T - ⟨rfl, rfl, rfl, rfl, rfl, rfl, rfl, rfl, rfl, k, rfl, hk, rfl, hX, hbd, hS⟩
    have hS0 : Sub S T := hS.drop
    unfold strconv_ParseUint_2_l9
    refine bcase_dec (fun h => ?_) (fun h => ?_)
    · have hkl : k < s0.data.toList.length := by omega
      obtain ⟨c, hc⟩ : ∃ c, s0.data.toList[k]? = some c := ⟨_, List.getElem?_eq_getElem hkl⟩
      have hd : s0.data.toList.drop k = c :: s0.data.toList.drop (k + 1) := by
        rw [List.drop_eq_getElem_cons hkl]
        rw [List.getElem?_eq_getElem hkl] at hc
        rw [Option.some.inj hc]
      have hlt := c.toNat_lt
      have hY : PuX s0 ba (fun w => ∃ nn : Nat, n = (nn : Int) ∧ dig c < 16 ∧ nn * 16 + dig c ≤ 65535 ∧ pu (s0.data.toList.drop (k + 1)) (nn * 16 + dig c) = some w) := by
        intro h16 w hw e
        obtain ⟨nn, hn, hp⟩ := hX h16 w hw e
        rw [hd, pu] at hp
        split at hp
        · cases hp
        · exact ⟨nn, hn, by omega, by omega, hp⟩
      unfold strconv_ParseUint_2_b10 strconv_ParseUint_2_b11 strconv_ParseUint_2_b12
      refine ⟨by omega, by omega, (c.toNat : Int), ?_, ?_⟩
      · have := hS.cell' (I := J) (Cell.at0 (b := b99) (e := 5) (fz := (c99, c99 + 1)) (byteCells_at hc (repV (c99 - s0.size) [.int .u8 0])))
        have ea : (⟨b99, 0, none⟩ : Addr).add ((k : Int).toNat * 1) = ⟨b99, k, none⟩ := by rw [add_mk]; congr 1; omega
        rw [ea]; exact this
      have main : ∀ (d : Int) (J' : IMem) (T' : SH), d = (dig c : Int) → T' = T → strconv_ParseUint_2_b15 (fun base_1 base0_8 s0_9 cutoff_10 maxVal_11 underscores_12 n_13 x99 x99n x99c x100 x101 I S_1 =>
          ∃ m', m' < s0.size - k ∧ (base_1 = ba ∧ base0_8 = false ∧ s0_9 = s0 ∧ cutoff_10 = co ∧ maxVal_11 = mv ∧ underscores_12 = false ∧ x99 = some ⟨b99, 0, none⟩ ∧ x99n = s0.size ∧ x100 = (s0.size : Int) ∧
            ∃ k : Nat, x101 = (k : Int) ∧ k ≤ s0.size ∧ m' = s0.size - k ∧ PuX s0 ba (fun w => ∃ nn : Nat, n_13 = (nn : Int) ∧ pu (s0.data.toList.drop k) nn = some w) ∧ (ba = 16 → 0 ≤ n_13 ∧ n_13 ≤ 65535) ∧ Sub ((b99, .cells (byteCells s0 ++ repV (c99 - s0.size) [.int .u8 0]).toArray 5 (c99, c99 + 1)) :: S) S_1))
          (fun v _ T => PuR s0 ba S v T) ba false s0 co mv false n d (some ⟨b99, 0, none⟩) s0.size xc (s0.size : Int) (k : Int) J' T' := by
        rintro d J' T' rfl rfl
        unfold strconv_ParseUint_2_b15 strconv_ParseUint_2_b16 strconv_ParseUint_2_b17 strconv_ParseUint_2_b18 strconv_ParseUint_2_b13
        have hfin : ∀ n1 : Int, PuX s0 ba (fun w => ∃ nn : Nat, n1 = (nn : Int) ∧ pu (s0.data.toList.drop (k + 1)) nn = some w) → (ba = 16 → 0 ≤ n1 ∧ n1 ≤ 65535) → ∃ m', m' < s0.size - k ∧ (ba = ba ∧ false = false ∧ s0 = s0 ∧ co = co ∧ mv = mv ∧ false = false ∧ (some ⟨b99, 0, none⟩ : Option Addr) = some ⟨b99, 0, none⟩ ∧ s0.size = s0.size ∧ (s0.size : Int) = (s0.size : Int) ∧
            ∃ k' : Nat, IntKind.wrap .i64 ((k : Int) + 1) = (k' : Int) ∧ k' ≤ s0.size ∧ m' = s0.size - k' ∧ PuX s0 ba (fun w => ∃ nn : Nat, n1 = (nn : Int) ∧ pu (s0.data.toList.drop k') nn = some w) ∧ (ba = 16 → 0 ≤ n1 ∧ n1 ≤ 65535) ∧ Sub ((b99, .cells (byteCells s0 ++ repV (c99 - s0.size) [.int .u8 0]).toArray 5 (c99, c99 + 1)) :: S) T') :=
          fun n1 h1 h2 => ⟨s0.size - (k + 1), by omega, rfl, rfl, rfl, rfl, rfl, rfl, rfl, rfl, rfl, k + 1, by rw [wrap_i64 (by omega) (by omega)]; rfl, by omega, rfl, h1, h2, hS⟩
        have hz : ∀ (w nn : Nat), ba = 16 → n = (nn : Int) → dig c < 16 → nn * 16 + dig c ≤ 65535 → IntKind.wrap .u64 (n * IntKind.wrap .u64 ba) = ((nn * 16 : Nat) : Int) ∧ IntKind.wrap .u64 (IntKind.wrap .u64 (n * IntKind.wrap .u64 ba) + IntKind.wrap .u64 (dig c : Int)) = ((nn * 16 + dig c : Nat) : Int) := by
          rintro w nn rfl rfl h1 h2
          have a1 : IntKind.wrap .u64 ((nn : Int) * IntKind.wrap .u64 16) = ((nn * 16 : Nat) : Int) := by
            rw [wrap_u64 (x := (16 : Int)) (by decide) (by decide), wrap_u64 (by omega) (by omega)]; omega
          refine ⟨a1, ?_⟩
          rw [a1, wrap_u64 (x := (dig c : Int)) (by omega) (by omega), wrap_u64 (by omega) (by omega)]; omega
        refine bcase_dec (fun g => no _ _ _ (.inr rfl) ?_ hS0) (fun g => bcase_dec (fun g2 => no _ _ _ (.inl rfl) ?_ hS0) (fun g2 => bcase_dec (fun g3 => bcase_t rfl (no _ _ _ (.inl rfl) ?_ hS0)) (fun g3 => bcase_dec (fun g4 => no _ _ _ (.inl rfl) ?_ hS0) (fun g4 => hfin _ ?_ (fun h16 => ⟨?_, ?_⟩)))))
        · intro h16 w hw e
          obtain ⟨nn, hn, h1, h2, h3⟩ := hY h16 w hw e
          rw [h16, wrap_u8 (x := (16 : Int)) (by decide) (by decide)] at g
          omega
        · intro h16 w hw e
          obtain ⟨nn, hn, h1, h2, h3⟩ := hY h16 w hw e
          have := (hcm h16).1
          omega
        · intro h16 w hw e
          obtain ⟨nn, hn, h1, h2, h3⟩ := hY h16 w hw e
          obtain ⟨z1, z2⟩ := hz w nn h16 hn h1 h2
          rw [z2, z1] at g3
          omega
        · intro h16 w hw e
          obtain ⟨nn, hn, h1, h2, h3⟩ := hY h16 w hw e
          obtain ⟨z1, z2⟩ := hz w nn h16 hn h1 h2
          rw [z2, (hcm h16).2] at g4
          omega
        · intro h16 w hw e
          obtain ⟨nn, hn, h1, h2, h3⟩ := hY h16 w hw e
          exact ⟨_, (hz w nn h16 hn h1 h2).2, h3⟩
        · rw [wrap_u64_eq]; omega
        · rw [(hcm h16).2] at g4; omega
      have bad : dig c = 99 → PuX s0 ba (fun _ => False) := by
        intro hd h16 w hw e
        obtain ⟨nn, hn, h1, h2, h3⟩ := hY h16 w hw e
        omega
      have alpha : ¬ (48 ≤ c.toNat ∧ c.toNat ≤ 57) → strconv_ParseUint_2_b14 (fun base_1 base0_8 s0_9 cutoff_10 maxVal_11 underscores_12 n_13 x99 x99n x99c x100 x101 I S_1 =>
          ∃ m', m' < s0.size - k ∧ (base_1 = ba ∧ base0_8 = false ∧ s0_9 = s0 ∧ cutoff_10 = co ∧ maxVal_11 = mv ∧ underscores_12 = false ∧ x99 = some ⟨b99, 0, none⟩ ∧ x99n = s0.size ∧ x100 = (s0.size : Int) ∧
            ∃ k : Nat, x101 = (k : Int) ∧ k ≤ s0.size ∧ m' = s0.size - k ∧ PuX s0 ba (fun w => ∃ nn : Nat, n_13 = (nn : Int) ∧ pu (s0.data.toList.drop k) nn = some w) ∧ (ba = 16 → 0 ≤ n_13 ∧ n_13 ≤ 65535) ∧ Sub ((b99, .cells (byteCells s0 ++ repV (c99 - s0.size) [.int .u8 0]).toArray 5 (c99, c99 + 1)) :: S) S_1))
          (fun v _ T => PuR s0 ba S v T) ba false s0 co mv false n (c.toNat : Int) (some ⟨b99, 0, none⟩) s0.size xc (s0.size : Int) (k : Int) false J T := by
        intro hnd
        unfold strconv_ParseUint_2_b14 strconv_ParseUint_2_b19
        have hl := low_lt c
        refine bcase_f rfl ((lower_runs c J T).mono ?_)
        rintro v J1 T1 _ ⟨rfl, rfl⟩
        refine ⟨_, rfl, bcase_dec (fun g => ?_) (fun g => bcase_f rfl (no _ _ _ (.inr rfl) (bad ?_) hS0))⟩
        · refine (lower_runs c J1 T1).mono ?_
          rintro v J2 T2 _ ⟨rfl, rfl⟩
          refine ⟨_, rfl, bcase_dec (fun g2 => ?_) (fun g2 => no _ _ _ (.inr rfl) (bad ?_) hS0)⟩
          · refine (lower_runs c J2 T2).mono ?_
            rintro v J3 T3 _ ⟨rfl, rfl⟩
            refine ⟨_, rfl, main _ J3 T3 ?_ rfl⟩
            rw [wrap_u8 (x := ((c ||| 32).toNat : Int) - 97) (by omega) (by omega), wrap_u8 (by omega) (by omega), dig, if_neg hnd, if_pos ⟨by omega, by omega⟩]
            omega
          · rw [dig, if_neg hnd, if_neg (by omega)]
        · rw [dig, if_neg hnd, if_neg (by omega)]
      refine bcase_of (fun _ => ?_) (fun _ => ?_)
      all_goals
        refine bcase_f rfl (bcase_dec (fun g => ?_) (fun g => alpha (by omega)))
        by_cases g2 : (c.toNat : Int) ≤ 57
        · rw [decide_eq_true g2]
          unfold strconv_ParseUint_2_b14
          refine bcase_t rfl (main _ J T ?_ rfl)
          rw [wrap_u8 (by omega) (by omega), dig, if_pos ⟨by omega, by omega⟩]
          omega
        · rw [decide_eq_false g2]
          exact alpha (by omega)
    · unfold strconv_ParseUint_2_b20 strconv_ParseUint_2_b21 strconv_ParseUint_2_b22
      refine bcase_f rfl (bcase_f rfl ⟨_, _, rfl, .inl rfl, fun h16 w hw e => ⟨?_, rfl⟩, fun _ => hbd, hS0⟩)
      obtain ⟨nn, hn, hp⟩ := hX h16 w hw e
      have : k = s0.size := by omega
      rw [this, List.drop_of_length_le (by omega), pu] at hp
      injection hp with hp
      omega
  refine bcase_t (decide_eq_true hb2.1) (bcase_t (decide_eq_true hb2.2) ?_)
  rcases hb with ⟨rfl, rfl⟩ | ⟨rfl, rfl⟩
  · exact bcase_t rfl (bcase_t rfl (bcase_f (by decide) (key _ _ (fun h => by omega))))
  · refine bcase_f rfl (bcase_f rfl (bcase_f rfl (bcase_f rfl (bcase_t rfl (bcase_f (by decide) (key _ _ (fun _ => ⟨rfl, ?_⟩)))))))
    decide +kernel
end Go.Proofs.YtcdajekafnggkaaGreatDoor
/- The library's errors made; numbers read by their public doors. -/
namespace Go.Proofs.YtcdajekafnggkaaGreatDoor
open Go.Px
set_option linter.unusedVariables false
set_option linter.unusedSimpArgs false
set_option maxRecDepth 8000

theorem repV_u8len (n : Nat) : (repV n [Value.int .u8 0]).length = n := by rw [repV_length]; simp
theorem lies_all {c n : Nat} (h : n ≤ c) : liesAt Tryz.prog (Program.depth Tryz.prog) 5 (c / Program.cellsOf Tryz.prog 5) 0 5 n = true := by
  have h1 : Program.cellsOf Tryz.prog 5 = 1 := by kernel_rfl
  rw [h1, Nat.div_one]
  have hd : ∃ d, Program.depth Tryz.prog = d + 1 + 1 := ⟨Program.depth Tryz.prog - 2, by kernel_rfl⟩
  obtain ⟨d, hd⟩ := hd
  rw [hd]
  have hsl : sameLayout Tryz.prog (Program.depth Tryz.prog) 5 5 = true := by kernel_rfl
  unfold liesAt
  have key : ∀ D, D = d + 1 + 1 → rowAt Tryz.prog (fun x => sameLayout Tryz.prog (Program.depth Tryz.prog) x 5) D 5 c 0 n = true := fun D hD => by
    subst hD
    unfold rowAt
    simp [h1, hsl, h]
  show (rowAt Tryz.prog (fun x => sameLayout Tryz.prog (Program.depth Tryz.prog) x 5) (Program.depth Tryz.prog) 5 c 0 n || _) = true
  rw [key _ hd]
  rfl
theorem ex_all (s : ByteArray) : s.extract 0 s.size = s := ByteArray.extract_zero_size
theorem bc_bytL (s : ByteArray) : byteCells s = bytL s.data.toList := rfl
theorem sClone_runs (s : ByteArray) (hs : s.size ≤ 281474976710656) (I : IMem) (S : SH) : Runs Tryz.prog 109 #[.string s] I S fun v _ T => v = .string s ∧ T = S := by
  refine Runs.drop (stringslite_Clone_fn _ _ _ _ ?_)
  unfold stringslite_Clone
  refine bcase_beq (fun h => ?_) (fun h => ?_)
  · refine ⟨S, Sub.refl _, ?_, rfl⟩
    congr 1
    refine bext ?_
    have h0 : s.data.toList.length = 0 := by rw [Array.length_toList]; have : s.data.size = s.size := rfl; omega
    rw [List.eq_nil_of_length_eq_zero h0]
  · refine ⟨by omega, by omega, by omega, by omega, fun b9 => ?_⟩
    simp only [Int.toNat_natCast]
    refine .inr ⟨⟨b9, 0, none⟩, rfl, ?_⟩
    have hmin : min s.size s.size = s.size := Nat.min_self _
    rw [hmin, ex_all]
    refine StP.list (o := 0) (by rw [byteCells_length, repV_u8len, Nat.zero_add]; exact Nat.le_refl _) (by rw [bc_bytL, ← flat_elB]; exact flatMap_one elB_one _) ?_
    rw [List.take_zero, List.nil_append, Nat.zero_add, List.drop_of_length_le (by rw [byteCells_length, repV_u8len]; exact Nat.le_refl _)]
    refine ⟨by omega, by omega, .inr ⟨⟨b9, 0, none⟩, 0, _, _, (0, 0), s, rfl, by omega, by omega, rfl, ?_, ?_, ?_⟩⟩
    · have hz : (byteCells s ++ []).toArray.size = s.size := by simp [byteCells_length]
      rw [hz]
      exact lies_all (Nat.le_refl _)
    · have := BytesAt.list (I := I) (S := S) (g := b9) (n := s.size) (l := s.data.toList) (rest := []) (e := 5) (fz := (0, 0)) (by rw [Array.length_toList]; rfl)
      have e : (⟨s.data.toList.toArray⟩ : ByteArray) = s := by apply ByteArray.ext; simp
      rw [e] at this
      exact this
    · exact ⟨S, ⟨[_], List.perm_append_comm (l₁ := [_])⟩, rfl, rfl⟩
theorem er_runs {I : IMem} (g : GL I) (fn s : ByteArray) (hs : s.size ≤ 281474976710656) (S : SH) :
    Runs Tryz.prog 98 #[.string fn, .string s] I S (fun v _ T => ∃ p, v = .pointer p ∧ Sub S T) ∧ Runs Tryz.prog 99 #[.string fn, .string s] I S (fun v _ T => ∃ p, v = .pointer p ∧ Sub S T) := by
  refine ⟨strconv_syntaxError_fn _ _ _ _ _ ?_, strconv_rangeError_fn _ _ _ _ _ ?_⟩
  · unfold strconv_syntaxError strconv_syntaxError_b1 strconv_syntaxError_b2
    obtain ⟨cs, e, fz, t, v, h1, h2⟩ := g.er1
    refine ⟨t, v, Cell.im (b := 1) (o := 0) h1 h2, (sClone_runs s hs I S).mono ?_⟩
    rintro v J T hle ⟨rfl, rfl⟩
    exact ⟨s, rfl, ⟨hle, [], by simp⟩, fun b10 => ⟨_, rfl, (Sub.refl _).skip _⟩⟩
  · unfold strconv_rangeError strconv_rangeError_b1 strconv_rangeError_b2
    obtain ⟨cs, e, fz, t, v, h1, h2⟩ := g.er2
    refine ⟨t, v, Cell.im (b := 2) (o := 0) h1 h2, (sClone_runs s hs I S).mono ?_⟩
    rintro v J T hle ⟨rfl, rfl⟩
    exact ⟨s, rfl, ⟨hle, [], by simp⟩, fun b10 => ⟨_, rfl, (Sub.refl _).skip _⟩⟩
theorem eqI_er (a b : Int) : eqI Tryz.prog (erV a) 157 (.int .i64 b) = some (a == b) := by kernel_rfl
theorem toErr_runs {I : IMem} (g : GL I) (fn s : ByteArray) (hs : s.size ≤ 281474976710656) (b bs : Int) {e : Value} (he : e = erV 1 ∨ e = erV 2) (S : SH) :
    Runs Tryz.prog 84 #[.string fn, .string s, .int .i64 b, .int .i64 bs, e] I S fun v _ T => (∃ t u, v = .iface t u) ∧ Sub S T := by
  refine strconv_toError_fn _ _ _ _ _ _ _ _ ?_
  unfold strconv_toError
  rcases he with rfl | rfl
  · refine ⟨_, eqI_er 1 2, bcase_f rfl ⟨_, eqI_er 1 1, bcase_t rfl ((er_runs g fn s hs S).2.mono ?_)⟩⟩
    rintro v J T _ ⟨p, rfl, hS⟩
    exact ⟨_, rfl, ⟨_, _, rfl⟩, hS⟩
  · refine ⟨_, eqI_er 2 2, bcase_t rfl ((er_runs g fn s hs S).1.mono ?_)⟩
    rintro v J T _ ⟨p, rfl, hS⟩
    exact ⟨_, rfl, ⟨_, _, rfl⟩, hS⟩
theorem PU_runs {I : IMem} (g : GL I) (s : ByteArray) (hs : s.size ≤ 281474976710656) (S : SH) :
    Runs Tryz.prog 90 #[.string s, .int .i64 16, .int .i64 16] I S fun v _ T => ∃ (n : Int) (e : Value), v = .tuple #[.int .u64 n, e] ∧ (e = .nilIface ∨ ∃ t u, e = .iface t u) ∧ (∀ w : Nat, w < 65536 → s = hexB w → n = (w : Int) ∧ e = .nilIface) ∧ (e = .nilIface → 0 ≤ n ∧ n ≤ 65535) ∧ Sub S T := by
  refine strconv_ParseUint_fn _ _ _ _ _ _ ?_
  unfold strconv_ParseUint
  refine (PUin_runs (.inr ⟨rfl, rfl⟩) s hs I S).mono ?_
  rintro v J T hle ⟨n, e, rfl, he, hx, hbd, hS⟩
  refine ⟨n, e, rfl, ?_⟩
  rcases he with rfl | he
  · exact ⟨true, rfl, bcase_f rfl ⟨n, .nilIface, rfl, .inl rfl, fun w hw h => ⟨(hx rfl w hw h).1, rfl⟩, fun _ => hbd rfl rfl, hS⟩⟩
  · refine ⟨false, by rcases he with rfl | rfl <;> rfl, bcase_t rfl ((toErr_runs (g.le hle) _ s hs 16 16 he T).mono ?_)⟩
    rintro v J1 T1 _ ⟨⟨t, u, rfl⟩, hS1⟩
    refine ⟨_, rfl, n, _, rfl, .inr ⟨t, u, rfl⟩, fun w hw h => ?_, fun h => (by cases h), hS.trans hS1⟩
    have := (hx rfl w hw h).2
    rcases he with rfl | rfl <;> cases this
theorem PI_runs (s : ByteArray) (hs : s.size ≤ 281474976710656) (I : IMem) (S : SH) :
    Runs Tryz.prog 97 #[.string s, .int .i64 10, .int .i64 0] I S fun v _ T => ∃ (n : Int) (e : Value), v = .tuple #[.int .i64 n, e] ∧ (e = .nilIface ∨ e = erV 1 ∨ e = erV 2) ∧ Sub S T := by
  refine strconv_ParseInt_fn _ _ _ _ _ _ ?_
  unfold strconv_ParseInt
  refine bcase_of (fun _ => ⟨_, _, rfl, .inr (.inr rfl), Sub.refl _⟩) (fun h0 => ?_)
  have hp : 0 < s.size := by
    rcases Nat.eq_zero_or_pos s.size with h | h
    · have hl : s.data.toList = [] := List.eq_nil_of_length_eq_zero (by rw [Array.length_toList]; exact h)
      have : s = ⟨#[]⟩ := bext (by rw [hl])
      rw [this] at h0
      rw [tl_eq] at h0; cases h0
    · exact h
  have body : ∀ (s' : ByteArray) (neg : Bool), s'.size ≤ 281474976710656 → strconv_ParseInt_b1 (fun v _ T => ∃ (n : Int) (e : Value), v = .tuple #[.int .i64 n, e] ∧ (e = .nilIface ∨ e = erV 1 ∨ e = erV 2) ∧ Sub S T) s' 10 0 neg I S := by
    intro s' neg hs'
    unfold strconv_ParseInt_b1 strconv_ParseInt_b2 strconv_ParseInt_b3 strconv_ParseInt_b4 strconv_ParseInt_b5
    refine (PUin_runs (.inl ⟨rfl, rfl⟩) s' hs' I S).mono ?_
    rintro v J T hle ⟨un, e, rfl, he, -, -, hS⟩
    refine ⟨un, e, rfl, ?_⟩
    have fin : strconv_ParseInt_b6 (fun v _ T => ∃ (n : Int) (e : Value), v = .tuple #[.int .i64 n, e] ∧ (e = .nilIface ∨ e = erV 1 ∨ e = erV 2) ∧ Sub S T) neg un (IntKind.wrap .u64 ((1 : Int) * 2 ^ (min (IntKind.wrap .u64 (IntKind.wrap .i64 (64 - (1 : Int)))).toNat (IntKind.bits .u64)))) J T := by
      unfold strconv_ParseInt_b6 strconv_ParseInt_b7 strconv_ParseInt_b8 strconv_ParseInt_b9 strconv_ParseInt_b10 strconv_ParseInt_b11
      generalize IntKind.wrap .u64 ((1 : Int) * 2 ^ (min (IntKind.wrap .u64 (IntKind.wrap .i64 (64 - (1 : Int)))).toNat (IntKind.bits .u64))) = co
      cases neg
      · refine bcase_t rfl (bcase_of (fun _ => ⟨_, _, rfl, .inr (.inl rfl), hS⟩) (fun _ => bcase_f rfl (bcase_f rfl (bcase_f rfl ⟨_, _, rfl, .inl rfl, hS⟩))))
      · refine bcase_f rfl (bcase_f rfl (bcase_t rfl (bcase_of (fun _ => ⟨_, _, rfl, .inr (.inl rfl), hS⟩) (fun _ => bcase_t rfl ⟨_, _, rfl, .inl rfl, hS⟩))))
    rcases he with rfl | rfl | rfl
    · exact ⟨true, rfl, bcase_f rfl (bcase_f rfl (bcase_t rfl (bcase_f (by decide) fin)))⟩
    · exact ⟨false, rfl, bcase_t rfl ⟨_, eqI_er 1 1, bcase_f rfl (bcase_t rfl (bcase_f (by decide) fin))⟩⟩
    · exact ⟨false, rfl, bcase_t rfl ⟨_, eqI_er 2 1, bcase_t rfl ⟨_, _, rfl, .inr (.inr rfl), hS⟩⟩⟩
  have hex : (s.extract ((1 : Int).toNat) s.size).size ≤ 281474976710656 := by rw [ByteArray.size_extract]; omega
  refine ⟨_, by omega, getElem?_pos s 0 hp, bcase_of (fun _ => ⟨by omega, by omega, body _ _ hex⟩) (fun _ => bcase_of (fun _ => ⟨by omega, by omega, body _ _ hex⟩) (fun _ => body _ _ hs))⟩
theorem dec_first : ∀ m : Fin 256, ∃ c rest, numL 3 10 m.val = c :: rest ∧ 48 ≤ c.toNat ∧ c.toNat ≤ 57 := by
  intro m
  have h : (match numL 3 10 m.val with | [] => false | c :: _ => decide (48 ≤ c.toNat ∧ c.toNat ≤ 57)) = true := by revert m; decide +kernel
  split at h
  · cases h
  · rename_i c rest hc; exact ⟨c, rest, hc, of_decide_eq_true h⟩
def AtX (s : ByteArray) (P : Nat → Prop) : Prop := ∀ m : Nat, m ≤ 255 → s = decB m → P m
theorem AtX.first {s : ByteArray} {c : UInt8} (h : s[0]? = some c) (hc : ¬ (48 ≤ c.toNat ∧ c.toNat ≤ 57)) (P : Nat → Prop) : AtX s P := by
  intro m hm e
  obtain ⟨d, rest, h1, h2⟩ := dec_first ⟨m, by omega⟩
  rw [e, ba_get] at h
  have : (decB m).data.toList = d :: rest := h1
  rw [this] at h
  have := Option.some.inj h
  subst this
  exact absurd h2 hc
theorem AtIn_runs (s : ByteArray) (hs : s.size ≤ 281474976710656) (I : IMem) (S : SH) :
    Runs Tryz.prog 83 #[.string s] I S fun v _ T => ∃ (n : Int) (e : Value), v = .tuple #[.int .i64 n, e] ∧ (e = .nilIface ∨ e = erV 1 ∨ e = erV 2) ∧ AtX s (fun m => n = (m : Int) ∧ e = .nilIface) ∧ Sub S T := by
  refine strconv_Atoi_2_fn _ _ _ _ ?_
  unfold strconv_Atoi_2 strconv_Atoi_2_b1 strconv_Atoi_2_b2
  have slow : AtX s (fun _ => False) → strconv_Atoi_2_b11 (fun v _ T => ∃ (n : Int) (e : Value), v = .tuple #[.int .i64 n, e] ∧ (e = .nilIface ∨ e = erV 1 ∨ e = erV 2) ∧ AtX s (fun m => n = (m : Int) ∧ e = .nilIface) ∧ Sub S T) s I S := by
    intro hx
    unfold strconv_Atoi_2_b11
    refine (PI_runs s hs I S).mono ?_
    rintro v J T _ ⟨n, e, rfl, he, hS⟩
    exact ⟨n, e, rfl, n, e, rfl, he, fun m hm h => (hx m hm h).elim, hS⟩
  have size_no : ¬ (0 < s.size ∧ s.size < 19) → AtX s (fun _ => False) := by
    intro h m hm e
    have := decB_len hm
    rw [e] at h; omega
  refine bcase_dec (fun h1 => ?_) (fun h1 => bcase_f rfl (slow (size_no (by omega))))
  refine bcase_dec (fun h2 => ?_) (fun h2 => slow (size_no (by omega)))
  unfold strconv_Atoi_2_b3
  obtain ⟨c, hc⟩ : ∃ c, s[0]? = some c := ⟨_, getElem?_pos s 0 (by omega)⟩
  have fast : ∀ s' : ByteArray, s'.size ≤ 281474976710656 → AtX s (fun _ => s' = s) → strconv_Atoi_2_b5 (fun v _ T => ∃ (n : Int) (e : Value), v = .tuple #[.int .i64 n, e] ∧ (e = .nilIface ∨ e = erV 1 ∨ e = erV 2) ∧ AtX s (fun m => n = (m : Int) ∧ e = .nilIface) ∧ Sub S T) s' s I S := by
    intro s' hs' hx
    unfold strconv_Atoi_2_b5 strconv_Atoi_2_b6 strconv_Atoi_2_b7
    have hlen : s'.data.toList.length = s'.size := Array.length_toList
    refine ⟨by simp only [maxLen]; omega, fun b47 c47 hc1 hc2 => ?_⟩
    refine ⟨fun m s0 n x xn xc q i J T => s0 = s ∧ x = some ⟨b47, 0, none⟩ ∧ xn = s'.size ∧ q = (s'.size : Int) ∧
      ∃ k : Nat, i = (k : Int) ∧ k ≤ s'.size ∧ m = s'.size - k ∧ AtX s (fun w => ∃ nn : Nat, n = (nn : Int) ∧ aF (s'.data.toList.drop k) nn = some w) ∧ Sub ((b47, .cells (byteCells s' ++ repV (c47 - s'.size) [.int .u8 0]).toArray 5 (c47, c47 + 1)) :: S) T,
      s'.size, ⟨rfl, rfl, rfl, rfl, 0, rfl, Nat.zero_le _, rfl, fun m hm e => ⟨0, rfl, ?_⟩, Sub.refl _⟩, ?_⟩
    · rw [hx m hm e, e]; exact aF_dec ⟨m, by omega⟩
    rintro m s0 n x xn xc q i J T - ⟨rfl, rfl, rfl, rfl, k, rfl, hk, rfl, hX, hS⟩
    have hS0 : Sub S T := hS.drop
    unfold strconv_Atoi_2_l8
    refine bcase_dec (fun h => ?_) (fun h => ?_)
    · have hkl : k < s'.data.toList.length := by omega
      obtain ⟨c, hc⟩ : ∃ c, s'.data.toList[k]? = some c := ⟨_, List.getElem?_eq_getElem hkl⟩
      have hd : s'.data.toList.drop k = c :: s'.data.toList.drop (k + 1) := by
        rw [List.drop_eq_getElem_cons hkl]
        rw [List.getElem?_eq_getElem hkl] at hc
        rw [Option.some.inj hc]
      have hlt := c.toNat_lt
      have hY : AtX s0 (fun w => ∃ nn : Nat, n = (nn : Int) ∧ 48 ≤ c.toNat ∧ c.toNat ≤ 57 ∧ nn * 10 + (c.toNat - 48) ≤ 255 ∧ aF (s'.data.toList.drop (k + 1)) (nn * 10 + (c.toNat - 48)) = some w) := by
        intro w hw e
        obtain ⟨nn, hn, hp⟩ := hX w hw e
        rw [hd, aF] at hp
        split at hp
        · have := aF_ge hp
          exact ⟨nn, hn, by omega, by omega, by omega, hp⟩
        · cases hp
      refine ⟨by omega, by omega, (c.toNat : Int), ?_, bcase_dec (fun g => ⟨_, _, rfl, .inr (.inr rfl), fun w hw e => ?_, hS0⟩) (fun g => ?_)⟩
      · have := hS.cell' (I := J) (Cell.at0 (b := b47) (e := 5) (fz := (c47, c47 + 1)) (byteCells_at hc (repV (c47 - s'.size) [.int .u8 0])))
        have ea : (⟨b47, 0, none⟩ : Addr).add ((k : Int).toNat * 1) = ⟨b47, k, none⟩ := by rw [add_mk]; congr 1; omega
        rw [ea]; exact this
      · obtain ⟨nn, hn, h3, h4, h5, h6⟩ := hY w hw e
        rw [wrap_u8 (by omega) (by omega)] at g; omega
      · refine ⟨s'.size - (k + 1), by omega, rfl, rfl, rfl, rfl, k + 1, by rw [wrap_i64 (by omega) (by omega)]; rfl, by omega, rfl, fun w hw e => ?_, hS⟩
        obtain ⟨nn, hn, h3, h4, h5, h6⟩ := hY w hw e
        refine ⟨_, ?_, h6⟩
        rw [hn, wrap_u8 (x := (c.toNat : Int) - 48) (by omega) (by omega), wrap_i64 (x := (nn : Int) * 10) (by omega) (by omega), wrap_i64 (x := (c.toNat : Int) - 48) (by omega) (by omega), wrap_i64 (by omega) (by omega)]
        omega
    · unfold strconv_Atoi_2_b9 strconv_Atoi_2_b10
      refine ⟨c, by omega, hc, bcase_beq (fun g => ⟨_, _, rfl, .inl rfl, AtX.first hc (by omega) _, hS0⟩) (fun g => ⟨_, _, rfl, .inl rfl, fun w hw e => ⟨?_, rfl⟩, hS0⟩)⟩
      obtain ⟨nn, hn, hp⟩ := hX w hw e
      have : k = s'.size := by omega
      rw [this, List.drop_of_length_le (by omega), aF] at hp
      injection hp with hp
      omega
  have signed : ¬ (48 ≤ c.toNat ∧ c.toNat ≤ 57) → strconv_Atoi_2_b4 (fun v _ T => ∃ (n : Int) (e : Value), v = .tuple #[.int .i64 n, e] ∧ (e = .nilIface ∨ e = erV 1 ∨ e = erV 2) ∧ AtX s (fun m => n = (m : Int) ∧ e = .nilIface) ∧ Sub S T) s s true I S := by
    intro hno
    unfold strconv_Atoi_2_b4
    refine bcase_t rfl ⟨by omega, by omega, bcase_of (fun _ => ⟨_, _, rfl, .inr (.inr rfl), AtX.first hc hno _, Sub.refl _⟩) (fun _ => fast _ ?_ (AtX.first hc hno _))⟩
    rw [ByteArray.size_extract]; omega
  refine ⟨c, by omega, hc, bcase_beq (fun g => signed (by omega)) (fun g => ⟨c, by omega, hc, ?_⟩)⟩
  by_cases g2 : (c.toNat : Int) = 43
  · rw [show ((c.toNat : Int) == 43) = true by rw [g2]; rfl]
    exact signed (by omega)
  · rw [show ((c.toNat : Int) == 43) = false by simpa using g2]
    unfold strconv_Atoi_2_b4
    exact bcase_f rfl (fast s hs (fun _ _ _ => rfl))
theorem Atoi_runs {I : IMem} (g : GL I) (s : ByteArray) (hs : s.size ≤ 281474976710656) (S : SH) :
    Runs Tryz.prog 72 #[.string s] I S fun v _ T => ∃ (n : Int) (e : Value), v = .tuple #[.int .i64 n, e] ∧ (e = .nilIface ∨ ∃ t u, e = .iface t u) ∧ AtX s (fun m => n = (m : Int) ∧ e = .nilIface) ∧ Sub S T := by
  refine strconv_Atoi_fn _ _ _ _ ?_
  unfold strconv_Atoi
  refine (AtIn_runs s hs I S).mono ?_
  rintro v J T hle ⟨n, e, rfl, he, hx, hS⟩
  refine ⟨n, e, rfl, ?_⟩
  rcases he with rfl | he
  · exact ⟨true, rfl, bcase_f rfl ⟨n, .nilIface, rfl, .inl rfl, hx, hS⟩⟩
  · refine ⟨false, by rcases he with rfl | rfl <;> rfl, bcase_t rfl ((toErr_runs (g.le hle) _ s hs 0 0 he T).mono ?_)⟩
    rintro v J1 T1 _ ⟨⟨t, u, rfl⟩, hS1⟩
    refine ⟨_, rfl, n, _, rfl, .inr ⟨t, u, rfl⟩, fun m hm h => ?_, hS.trans hS1⟩
    have := (hx m hm h).2
    rcases he with rfl | rfl <;> cases this
end Go.Proofs.YtcdajekafnggkaaGreatDoor
/- Imports alone. -/
/- First bits of addresses: the cut and the test of it; numbers that labels are. -/
namespace Go.Proofs.YtcdajekafnggkaaGreatDoor
open Go.Px
set_option linter.unusedVariables false
set_option linter.unusedSimpArgs false
set_option maxRecDepth 8000

def bcl (b : UInt8) (t : Nat) : UInt8 := b &&& ~~~(UInt8.ofNat (2 ^ t))
def clr (l : List UInt8) (k : Nat) : List UInt8 := l.modify (k / 8) fun b => bcl b (7 - k % 8)
def cutF : Nat → Nat → List UInt8 → List UInt8
  | 0, _, l => l
  | f + 1, k, l => cutF f (k + 1) (clr l k)
def cutL (l : List UInt8) (n : Nat) : List UInt8 := cutF (8 * l.length - n) n l
def cutB (a : ByteArray) (n : Nat) : ByteArray := ⟨(cutL a.data.toList n).toArray⟩
theorem bcl_idem (b : UInt8) (t : Nat) : bcl (bcl b t) t = bcl b t := by rw [bcl, bcl, UInt8.and_assoc, UInt8.and_self]
theorem bcl_comm (b : UInt8) (t u : Nat) : bcl (bcl b t) u = bcl (bcl b u) t := by rw [bcl, bcl, bcl, bcl, UInt8.and_assoc, UInt8.and_assoc, UInt8.and_comm (~~~_) (~~~_)]
theorem clr_len (l : List UInt8) (k : Nat) : (clr l k).length = l.length := by simp [clr]
theorem cutF_len : ∀ (f k : Nat) (l : List UInt8), (cutF f k l).length = l.length
  | 0, _, _ => rfl
  | f + 1, k, l => by rw [cutF, cutF_len, clr_len]
theorem clr_comm (l : List UInt8) (j k : Nat) : clr (clr l j) k = clr (clr l k) j := by
  apply List.ext_getElem?
  intro i
  simp only [clr, List.getElem?_modify]
  cases l[i]? with
  | none => rfl
  | some b =>
    simp only [Option.map_eq_map, Option.map_some]
    by_cases h1 : j / 8 = i <;> by_cases h2 : k / 8 = i <;> simp [h1, h2, bcl_comm]
theorem clr_idem (l : List UInt8) (k : Nat) : clr (clr l k) k = clr l k := by
  apply List.ext_getElem?
  intro i
  simp only [clr, List.getElem?_modify]
  cases l[i]? with
  | none => rfl
  | some b =>
    simp only [Option.map_eq_map, Option.map_some]
    by_cases h1 : k / 8 = i <;> simp [h1, bcl_idem]
theorem cutF_clr : ∀ (f k j : Nat) (l : List UInt8), cutF f k (clr l j) = clr (cutF f k l) j
  | 0, _, _, _ => rfl
  | f + 1, k, j, l => by rw [cutF, cutF, clr_comm, cutF_clr]
theorem cutF_idem : ∀ (f k : Nat) (l : List UInt8), cutF f k (cutF f k l) = cutF f k l
  | 0, _, _ => rfl
  | f + 1, k, l => by
    rw [cutF, cutF, ← cutF_clr, clr_idem, cutF_idem f (k + 1)]
theorem cutB_size (a : ByteArray) (n : Nat) : (cutB a n).size = a.size := by
  show (cutL a.data.toList n).toArray.size = a.data.size
  rw [List.size_toArray, cutL, cutF_len, Array.length_toList]
theorem cutB_idem (a : ByteArray) (n : Nat) : cutB (cutB a n) n = cutB a n := by
  refine bext ?_
  show cutL (cutL a.data.toList n) n = cutL a.data.toList n
  have : (cutL a.data.toList n).length = a.data.toList.length := by rw [cutL, cutF_len]
  rw [cutL, this]
  exact cutF_idem _ _ _
def okC (a : ByteArray) (n : Int) : Prop := (a.size = 4 ∨ a.size = 16) ∧ 0 ≤ n ∧ n ≤ 8 * (a.size : Int)
instance (a : ByteArray) (n : Int) : Decidable (okC a n) := by unfold okC; infer_instance
def cutV (a : ByteArray) (n : Int) : Value := if okC a n then .tuple #[.agg #[.string (cutB a n.toNat), .int .i64 n], .bool true] else .tuple #[.agg #[.string ⟨#[]⟩, .int .i64 0], .bool false]
theorem bicU : ∀ (t : Fin 8) (b : Fin 256), ibic .u8 (b.val : Int) (IntKind.wrap .u8 (1 * 2 ^ (min t.val 8))) = ((bcl (UInt8.ofNat b.val) t.val).toNat : Int) := by decide +kernel
theorem bicU' (c : UInt8) {t : Nat} (h : t < 8) : ibic .u8 (c.toNat : Int) (IntKind.wrap .u8 (1 * 2 ^ (min t 8))) = ((bcl c t).toNat : Int) := by
  have := bicU ⟨t, h⟩ ⟨c.toNat, c.toNat_lt⟩
  simpa using this
theorem Addr_runs (a : ByteArray) (I : IMem) (S : SH) : Runs Tryz.prog 54 #[.string a] I S fun v _ T => v = .bool (decide (a.size = 4 ∨ a.size = 16)) ∧ T = S := by
  refine prefix_Address_fn _ _ _ _ ?_
  unfold prefix_Address prefix_Address_b1
  refine bcase_beq (fun h => ⟨?_, rfl⟩) (fun h => ⟨?_, rfl⟩)
  · rw [decide_eq_true (.inl (by omega))]
  · congr 1
    by_cases g : a.size = 16
    · rw [g]; decide
    · rw [decide_eq_false (by omega)]
      simp; omega
theorem bytL_modify {l : List UInt8} {o : Nat} {c : UInt8} (h : l[o]? = some c) (f : UInt8 → UInt8) (rest : List Value) :
    (bytL l ++ rest).take o ++ [.int .u8 ((f c).toNat : Int)] ++ (bytL l ++ rest).drop (o + 1) = bytL (l.modify o f) ++ rest := by
  have ho : o < l.length := by
    rcases Nat.lt_or_ge o l.length with g | g
    · exact g
    · rw [List.getElem?_eq_none g] at h; cases h
  have h1 : (bytL l ++ rest).take o = bytL (l.take o) := by
    rw [List.take_append_of_le_length (by rw [bytL_len]; omega)]; simp [bytL]
  have h2 : (bytL l ++ rest).drop (o + 1) = bytL (l.drop (o + 1)) ++ rest := by
    rw [List.drop_append_of_le_length (by rw [bytL_len]; omega)]; simp [bytL]
  have h3 : l.modify o f = l.take o ++ f c :: l.drop (o + 1) := by
    rw [List.modify_eq_take_cons_drop ho]
    rw [List.getElem?_eq_getElem ho] at h
    rw [Option.some.inj h]
  rw [h1, h2, h3]
  simp [bytL]
theorem Cut_runs (a : ByteArray) (n : Int) (I : IMem) (S : SH) : Runs Tryz.prog 29 #[.string a, .int .i64 n] I S fun v _ T => v = cutV a n ∧ T = S := by
  refine Runs.drop (prefix_Cut_fn _ _ _ _ _ ?_)
  unfold prefix_Cut prefix_Cut_b1
  intro b4
  refine (Addr_runs a I _).mono ?_
  rintro v J T hle ⟨rfl, rfl⟩
  have bad : ¬ okC a n → prefix_Cut_b2 (fun v J T => ∃ L, Sub L T ∧ v = cutV a n ∧ L = S) a n ⟨b4, 0, none⟩ true J ((b4, .cells #[.string ⟨#[]⟩, .int .i64 0] 33 (0, 0)) :: S) := by
    intro hno
    unfold prefix_Cut_b2
    refine bcase_t rfl (StP.at0 (by decide) rfl ⟨_, Cell.at0 rfl, 0, ?_, S, (Sub.refl _).skip _, ?_, rfl⟩)
    · rw [add_mk]; exact Cell.at0 rfl
    · rw [cutV, if_neg hno]
  refine ⟨_, rfl, bcase_not (bcase_dec (fun h1 => ?_) (fun h1 => bad (fun h => h1 h.1)))⟩
  have hw : IntKind.wrap .i64 (8 * (a.size : Int)) = 8 * (a.size : Int) := wrap_i64 (by omega) (by omega)
  rw [hw]
  refine bcase_dec (fun h2 => bad (fun h => by have := h.2.1; omega)) (fun h2 => ?_)
  by_cases h3 : n > 8 * (a.size : Int)
  · rw [decide_eq_true h3]
    exact bad (fun h => by have := h.2.2; omega)
  rw [decide_eq_false h3]
  have hok : okC a n := ⟨h1, by omega, by omega⟩
  obtain ⟨n, rfl⟩ : ∃ k : Nat, n = (k : Int) := ⟨n.toNat, by omega⟩
  unfold prefix_Cut_b2 prefix_Cut_b3 prefix_Cut_b4 prefix_Cut_b5
  have hlen : a.data.toList.length = a.size := Array.length_toList
  refine bcase_f rfl ⟨by simp only [maxLen]; omega, fun b24 c24 hc1 hc2 => ?_⟩
  refine ⟨fun m a0 bi x4 b bn bc i J T => a0 = a ∧ bi = (n : Int) ∧ x4 = ⟨b4, 0, none⟩ ∧ b = some ⟨b24, 0, none⟩ ∧ bn = a.size ∧
    ∃ (k : Nat) (l : List UInt8), i = (k : Int) ∧ k ≤ 8 * a.size ∧ m = 8 * a.size - k ∧ l.length = a.size ∧ cutF (8 * a.size - k) k l = cutL a.data.toList n ∧
      T = (b24, .cells (bytL l ++ repV (c24 - a.size) [.int .u8 0]).toArray 5 (c24, c24 + 1)) :: (b4, .cells #[.string ⟨#[]⟩, .int .i64 0] 33 (0, 0)) :: S,
    8 * a.size - n, ⟨rfl, rfl, rfl, rfl, rfl, n, a.data.toList, rfl, by omega, rfl, hlen, by rw [cutL, hlen], rfl⟩, ?_⟩
  rintro m a0 bi x4 b bn bc i J1 T1 - ⟨rfl, rfl, rfl, rfl, rfl, k, l, rfl, hk, rfl, hl, hcut, rfl⟩
  unfold prefix_Cut_l6
  rw [hw]
  refine bcase_dec (fun h => ?_) (fun h => ?_)
  · unfold prefix_Cut_b7 prefix_Cut_b8
    have e1 : (k : Int).tdiv 8 = ((k / 8 : Nat) : Int) := by rw [Int.tdiv_eq_ediv_of_nonneg (by omega)]; omega
    have e2 : (k : Int).tmod 8 = ((k % 8 : Nat) : Int) := by rw [Int.tmod_eq_emod_of_nonneg (by omega)]; omega
    rw [e1, e2, wrap_i64 (x := ((k / 8 : Nat) : Int)) (by omega) (by omega), wrap_i64 (x := 7 - ((k % 8 : Nat) : Int)) (by omega) (by omega)]
    have hkl : k / 8 < l.length := by omega
    obtain ⟨c, hc⟩ : ∃ c, l[k / 8]? = some c := ⟨_, List.getElem?_eq_getElem hkl⟩
    have ea : (⟨b24, 0, none⟩ : Addr).add (((k / 8 : Nat) : Int).toNat * 1) = ⟨b24, k / 8, none⟩ := by rw [add_mk]; congr 1; omega
    refine ⟨by omega, by omega, (c.toNat : Int), ?_, bcase_f (decide_eq_false (by omega)) ⟨by omega, by omega, ?_⟩⟩
    · rw [ea]
      refine Cell.at0 ?_
      rw [List.getElem?_toArray, List.getElem?_append_left (by rw [bytL_len]; exact hkl), bytL, List.getElem?_map, hc]; rfl
    · rw [ea, show (7 - ((k % 8 : Nat) : Int)).toNat = 7 - k % 8 by omega]
      have hb : ibic .u8 (c.toNat : Int) (IntKind.wrap .u8 (1 * 2 ^ (min (7 - k % 8) (IntKind.bits .u8)))) = ((bcl c (7 - k % 8)).toNat : Int) := bicU' c (by omega)
      rw [hb]
      refine StP.listF (o := k / 8) ?_ ?_ rfl ?_
      · rw [List.length_append, bytL_len]
        simp only [List.length_singleton]; omega
      · simp only [List.length_singleton]; omega
      · rw [List.length_singleton, bytL_modify hc (fun b => bcl b (7 - k % 8))]
        refine ⟨8 * a0.size - (k + 1), by omega, rfl, rfl, rfl, rfl, rfl, k + 1, clr l k, by rw [wrap_i64 (by omega) (by omega)]; rfl, by omega, rfl, by rw [clr_len, hl], ?_, rfl⟩
        rw [← hcut, show 8 * a0.size - k = (8 * a0.size - (k + 1)) + 1 by omega, cutF]
  · unfold prefix_Cut_b9
    have hk8 : 8 * a0.size - k = 0 := by omega
    rw [hk8, cutF] at hcut
    refine ⟨cutB a0 n, ?_, StP.tl (StP.at0 (Nat.le_refl 2) rfl ⟨_, (Cell.at0 rfl).tl, (n : Int), ?_, S, ((Sub.refl _).skip _).skip _, ?_, rfl⟩)⟩
    · have := BytesAt.list (I := J1) (S := (b4, .cells #[.string ⟨#[]⟩, .int .i64 0] 33 (0, 0)) :: S) (g := b24) (n := a0.size) (l := l) (rest := repV (c24 - a0.size) [.int .u8 0]) (e := 5) (fz := (c24, c24 + 1)) hl.symm
      rw [hcut] at this
      rw [hcut]
      exact this
    · rw [add_mk]; exact (Cell.at0 rfl).tl
    · rw [cutV, if_pos hok, Int.toNat_natCast]
def mayP (a : ByteArray) (n : Int) : Prop := okC a n ∧ cutB a n.toNat = a
def mayB (a : ByteArray) (n : Int) : Bool := decide (okC a n) && cutB a n.toNat == a
theorem mayB_iff {a : ByteArray} {n : Int} : mayB a n = true ↔ mayP a n := by
  rw [mayB, Bool.and_eq_true, decide_eq_true_eq, ba_beq]; exact Iff.rfl
theorem PMay_runs (a : ByteArray) (n : Int) (I : IMem) (S : SH) : Runs Tryz.prog 48 #[.agg #[.string a, .int .i64 n]] I S fun v _ T => v = .bool (mayB a n) ∧ T = S := by
  refine Runs.drop (prefix_May_fn _ _ _ _ _ ?_)
  unfold prefix_May prefix_May_b1
  intro b1
  refine ⟨_, Cell.at0 rfl, _, Cell.at0 rfl, (Cut_runs a n I _).mono ?_⟩
  rintro v J T hle ⟨rfl, rfl⟩
  by_cases h : okC a n
  · refine ⟨_, _, _, by rw [cutV, if_pos h], fun b3 => StP.at0 (Nat.le_refl 2) rfl (bcase_t rfl ⟨_, Cell.at0 rfl, _, Cell.at0 rfl, _, (Cell.at0 rfl).tl, _, (Cell.at0 rfl).tl, S, ((Sub.refl _).skip _).skip _, ?_, rfl⟩)⟩
    rw [mayB, decide_eq_true h]
    simp
  · refine ⟨_, _, _, by rw [cutV, if_neg h], fun b3 => StP.at0 (by decide) rfl (bcase_f rfl ⟨S, ((Sub.refl _).skip _).skip _, ?_, rfl⟩)⟩
    rw [mayB, decide_eq_false h]; rfl
theorem dec_runs {I : IMem} (g : GL I) (s : ByteArray) (hs : s.size ≤ 281474976710656) (most : Nat) (hm : most ≤ 255) (S : SH) :
    Runs Tryz.prog 68 #[.string s, .int .i64 (most : Int)] I S fun v _ T => ∃ (n : Int) (b : Bool), v = .tuple #[.int .i64 n, .bool b] ∧ (∀ m : Nat, m ≤ most → s = decB m → n = (m : Int) ∧ b = true) ∧ Sub S T := by
  refine owner_decimal_fn _ _ _ _ _ ?_
  unfold owner_decimal owner_decimal_b1
  refine (Atoi_runs g s hs S).mono ?_
  rintro v J T hle ⟨n, e, rfl, he, hx, hS⟩
  refine ⟨n, e, rfl, ?_⟩
  rcases he with rfl | ⟨t, u, rfl⟩
  · refine ⟨true, rfl, bcase_t rfl (bcase_dec (fun h1 => bcase_dec (fun h2 => ?_) (fun h2 => ?_)) (fun h1 => ?_))⟩
    · obtain ⟨n, rfl⟩ : ∃ k : Nat, n = (k : Int) := ⟨n.toNat, by omega⟩
      refine (Itoa_runs (n := n) (by omega) (g.le hle) T).mono ?_
      rintro v J1 T1 _ ⟨rfl, rfl⟩
      refine ⟨_, rfl, _, _, rfl, fun m hm1 h => ?_, hS⟩
      obtain ⟨h3, _⟩ := hx m (by omega) h
      refine ⟨h3, ?_⟩
      have : n = m := by omega
      rw [h, this]; exact tl_eq
    · exact ⟨_, _, rfl, fun m hm1 h => by have := (hx m (by omega) h).1; omega, hS⟩
    · exact ⟨_, _, rfl, fun m hm1 h => by have := (hx m (by omega) h).1; omega, hS⟩
  · exact ⟨false, rfl, bcase_f rfl ⟨_, _, rfl, (fun m hm1 h => (by have := (hx m (by omega) h).2; cases this)), hS⟩⟩
theorem hex_runs {I : IMem} (g : GL I) (s : ByteArray) (hs : s.size ≤ 281474976710656) (S : SH) :
    Runs Tryz.prog 78 #[.string s] I S fun v _ T => ∃ (n : Int) (b : Bool), v = .tuple #[.int .i64 n, .bool b] ∧ (∀ w : Nat, w < 65536 → s = hexB w → n = (w : Int) ∧ b = true) ∧ Sub S T := by
  refine owner_hex_fn _ _ _ _ ?_
  unfold owner_hex owner_hex_b1
  refine (PU_runs g s hs S).mono ?_
  rintro v J T hle ⟨n, e, rfl, he, hx, hbd, hS⟩
  refine ⟨n, e, rfl, ?_⟩
  rcases he with rfl | ⟨t, u, rfl⟩
  · obtain ⟨h1, h2⟩ := hbd rfl
    obtain ⟨n, rfl⟩ : ∃ k : Nat, n = (k : Int) := ⟨n.toNat, by omega⟩
    refine ⟨true, rfl, bcase_t rfl ((FmtU_runs (n := n) (by omega) (g.le hle) T).mono ?_)⟩
    rintro v J1 T1 _ ⟨rfl, rfl⟩
    rw [wrap_i64 (x := (n : Int)) (by omega) (by omega)]
    refine ⟨_, rfl, _, _, rfl, fun w hw h => ?_, hS⟩
    obtain ⟨h3, _⟩ := hx w hw h
    refine ⟨h3, ?_⟩
    have : n = w := by omega
    rw [h, this]; exact tl_eq
  · exact ⟨false, rfl, bcase_f rfl ⟨_, _, rfl, (fun w hw h => (by have := (hx w hw h).2; cases this)), hS⟩⟩
end Go.Proofs.YtcdajekafnggkaaGreatDoor
/- strings.Builder; bytes folded. -/
namespace Go.Proofs.YtcdajekafnggkaaGreatDoor
open Go.Px
set_option linter.unusedVariables false

theorem noesc_runs {I : IMem} {S : SH} (x : Value) : RunsX Tryz.prog 64 #[x] I S fun v _ T => v = x ∧ T = S := by
  intro w hw
  refine ⟨x, w, I, S, ?_, IMem.le.refl I, hw, rfl, rfl⟩
  rw [run_callFunc_extern Tryz.func64 (by kernel_rfl) (by kernel_rfl) (by kernel_rfl) (e := Extern.AbiNoEscape.same) (by kernel_rfl)]
  rfl
abbrev bldO (p : Option Addr) (A : Option Addr) (n c : Nat) : Obj := .cells #[.pointer p, .slice A n c] 83 (0, 0)
theorem chk_runs {b : Nat} {p A : Option Addr} {n c : Nat} {I : IMem} {F : SH} (hp : p = none ∨ p = some ⟨b, 0, none⟩) :
    Runs Tryz.prog 56 #[.pointer (some ⟨b, 0, none⟩)] I ((b, bldO p A n c) :: F) fun v _ T => v = .tuple #[] ∧ T = (b, bldO (some ⟨b, 0, none⟩) A n c) :: F := by
  refine strings_Builder_copyCheck_fn _ _ _ _ ?_
  unfold strings_Builder_copyCheck
  refine ⟨p, Cell.at0 rfl, ?_⟩
  rcases hp with rfl | rfl
  · refine bcase_t rfl ⟨_, _, ⟨(0, 0), .inr (List.mem_cons_self ..)⟩, by simp, (noesc_runs _).mono ?_⟩
    rintro v J T hle ⟨rfl, rfl⟩
    refine ⟨_, rfl, _, _, ⟨(0, 0), .inr (List.mem_cons_self ..)⟩, ?_, StP.at0 (o := 0) (vs := [.pointer (some ⟨b, 0, none⟩)]) (by simp) rfl ⟨rfl, rfl⟩⟩
    show liesAt Tryz.prog (Program.depth Tryz.prog) 83 (2 / Program.cellsOf Tryz.prog 83) 0 83 1 = true
    kernel_rfl
  · exact bcase_f rfl ⟨_, Cell.at0 rfl, rfl, rfl, rfl⟩

/-- a builder that has these bytes -/
def Bld (b : Nat) (s : ByteArray) (own : SH) : Prop := ∃ p A n c own', own = (b, bldO p A n c) :: own' ∧ (p = none ∨ p = some ⟨b, 0, none⟩) ∧ (A.isSome = true → c ≠ 0) ∧ OwnR 5 1 elB (.slice A n c) s.data.toList own'
theorem own_cap {α : Type} {el : α → List Value} {e : TypeId} {A : Option Addr} {n c : Nat} {xs : List α} {own : SH} (h : OwnR e 1 el (.slice A n c) xs own) (hx : 0 < xs.length) : A.isSome = true → c ≠ 0 := by
  intro ha
  rcases h with ⟨hv, _⟩ | ⟨g, cap, rest, hv, _, hcap, _⟩
  · injection hv with h1; subst h1; cases ha
  · injection hv with h1 h2 h3; omega
theorem row_lies {P : Program} {d : Nat} {fits : TypeId → Bool} {e : TypeId} {count n : Nat} (h1 : P.cellsOf e = 1) (h2 : fits e = true) (h3 : n ≤ count) : rowAt P fits (d + 1) e count 0 n = true := by
  unfold rowAt
  simp [h1, h2, h3]
theorem Len_runs {b : Nat} {s : ByteArray} {own : SH} (h : Bld b s own) (I : IMem) (F : SH) : Runs Tryz.prog 37 #[.pointer (some ⟨b, 0, none⟩)] I (own ++ F) fun v _ T => v = .int .i64 (s.size : Int) ∧ T = own ++ F := by
  obtain ⟨p, A, n, c, own', rfl, hp, hc0, ho⟩ := h
  refine strings_Builder_Len_fn _ _ _ _ ?_
  unfold strings_Builder_Len
  refine ⟨_, _, _, Cell.at0 rfl, ?_, rfl⟩
  rw [ho.len]; rfl
theorem WByte_runs {b : Nat} {s : ByteArray} {own : SH} (h : Bld b s own) (u : UInt8) (hs : s.size + 1 ≤ 140737488355328) (I : IMem) (F : SH) :
    Runs Tryz.prog 38 #[.pointer (some ⟨b, 0, none⟩), .int .u8 (u.toNat : Int)] I (own ++ F) fun v _ T => v = .nilIface ∧ ∃ own', Bld b (s.push u) own' ∧ Sub (own' ++ F) T := by
  obtain ⟨p, A, n, c, own', rfl, hp, hc0, ho⟩ := h
  refine strings_Builder_WriteByte_fn _ _ _ _ _ ?_
  unfold strings_Builder_WriteByte
  refine (chk_runs hp).mono ?_
  rintro v J T hle ⟨rfl, rfl⟩
  refine ⟨rfl, _, _, _, Cell.at0 rfl, fun b13 => ?_⟩
  have hsz : s.data.toList.length = s.size := Array.length_toList
  refine AppG.own (xs := s.data.toList) (ys := [u]) (el := elB) (own := own') (F := (b13, .cells #[.int .u8 (u.toNat : Int)] 5 (0, 0)) :: (b, bldO (some ⟨b, 0, none⟩) A n c) :: F) elB_len elB_one rfl perm_mid2 ho ⟨?_, rfl⟩ ?_ ?_ ?_
  · exact Rd.list (L := elB u) rfl (by simp [elB_len])
  · rw [hsz]; simp only [List.length_singleton, maxLen]; omega
  · rw [hsz]; simp only [List.length_singleton]; omega
  · intro q m d own2 ho2
    have e : own2 ++ (b13, Obj.cells #[.int .u8 (u.toNat : Int)] 5 (0, 0)) :: (b, bldO (some ⟨b, 0, none⟩) A n c) :: F = (own2 ++ [(b13, Obj.cells #[.int .u8 (u.toNat : Int)] 5 (0, 0))]) ++ (b, bldO (some ⟨b, 0, none⟩) A n c) :: F := by simp
    rw [e]
    refine StP.mid (o := 1) (vs := [.slice q m d]) (by simp) rfl ⟨rfl, (b, bldO (some ⟨b, 0, none⟩) q m d) :: own2, ⟨_, q, m, d, own2, rfl, .inr rfl, own_cap ho2 (by simp), ?_⟩, ?_⟩
    · have : (s.push u).data.toList = s.data.toList ++ [u] := by simp [ByteArray.push]
      rw [this]; exact ho2
    · rw [List.append_assoc]
      exact sub_swap
theorem WStr_runs {b : Nat} {s t : ByteArray} {own : SH} (h : Bld b s own) (h0 : 0 < s.size + t.size) (hs : s.size + t.size ≤ 140737488355328) (I : IMem) (F : SH) :
    Runs Tryz.prog 39 #[.pointer (some ⟨b, 0, none⟩), .string t] I (own ++ F) fun v _ T => v = .tuple #[.int .i64 (t.size : Int), .nilIface] ∧ ∃ own', Bld b (s ++ t) own' ∧ Sub (own' ++ F) T := by
  obtain ⟨p, A, n, c, own', rfl, hp, hc0, ho⟩ := h
  refine strings_Builder_WriteString_fn _ _ _ _ _ ?_
  unfold strings_Builder_WriteString
  refine (chk_runs hp).mono ?_
  rintro v J T hle ⟨rfl, rfl⟩
  refine ⟨rfl, _, _, _, Cell.at0 rfl, ?_⟩
  have hsz : s.data.toList.length = s.size := Array.length_toList
  have htz : t.data.toList.length = t.size := Array.length_toList
  refine AppG.own (xs := s.data.toList) (ys := t.data.toList) (el := elB) (own := own') (F := (b, bldO (some ⟨b, 0, none⟩) A n c) :: F) elB_len elB_one rfl perm_mid1 ho ⟨t, rfl, htz, flat_elB _, rfl⟩ ?_ ?_ ?_
  · rw [hsz, htz]; simp only [maxLen]; omega
  · rw [hsz, htz]; omega
  · intro q m d own2 ho2
    refine StP.mid (o := 1) (vs := [.slice q m d]) (by simp) rfl ⟨rfl, (b, bldO (some ⟨b, 0, none⟩) q m d) :: own2, ⟨_, q, m, d, own2, rfl, .inr rfl, own_cap ho2 (by rw [List.length_append, hsz, htz]; exact h0), ?_⟩, ?_⟩
    · have : (s ++ t).data.toList = s.data.toList ++ t.data.toList := by simp
      rw [this]; exact ho2
    · exact ⟨[], by rw [List.append_nil]; exact List.perm_middle⟩
theorem Str_runs {b : Nat} {s : ByteArray} {own : SH} (h : Bld b s own) (hs : s.size ≤ 140737488355328) (I : IMem) (F : SH) :
    Runs Tryz.prog 41 #[.pointer (some ⟨b, 0, none⟩)] I (own ++ F) fun v _ T => v = .string s ∧ Sub F T := by
  obtain ⟨p, A, n, c, own', rfl, hp, hc0, ho⟩ := h
  refine strings_Builder_String_fn _ _ _ _ ?_
  unfold strings_Builder_String strings_Builder_String_b1 strings_Builder_String_b2
  have hln := ho.len
  have hsz : s.data.toList.length = s.size := Array.length_toList
  rw [hsz] at hln
  subst hln
  have hs0 : s.size = 0 → s = ByteArray.empty := fun h => by
    apply ByteArray.ext
    have : s.data.size = 0 := h
    simp [Array.eq_empty_of_size_eq_zero this]
  rcases ho with ⟨hv, hx, rfl⟩ | ⟨g, cap, rest, hv, rfl, hcap, hcm⟩
  · injection hv with h1 h2 h3
    subst h1
    refine ⟨_, _, _, Cell.at0 rfl, fun h => (by simp at h), _, _, _, Cell.at0 rfl, .inl ⟨by omega, ?_, ⟨[_], List.perm_append_comm (l₁ := [_])⟩⟩⟩
    rw [hs0 h2]
  · injection hv with h1 h2 h3
    subst h1; subst h3
    by_cases h0 : s.size = 0
    · refine ⟨_, _, _, Cell.at0 rfl, fun _ => hc0 rfl, _, _, _, Cell.at0 rfl, .inl ⟨by omega, ?_, ⟨[_, _], List.perm_append_comm (l₁ := [_, _])⟩⟩⟩
      rw [hs0 h0]
    · have hsc : s.size ≤ c := by rw [hsz] at hcap; omega
      refine ⟨_, _, _, Cell.at0 rfl, fun _ => by omega, _, _, _, Cell.at0 rfl, .inr ⟨⟨g, 0, none⟩, 1, _, _, (0, 0), s, rfl, by omega, by omega, rfl, ?_, ?_, rfl, ⟨[_, _], List.perm_append_comm (l₁ := [_, _])⟩⟩⟩
      · have hcs : ((s.data.toList.flatMap elB ++ rest).toArray).size = c := by
          rw [List.size_toArray, List.length_append, flatMap_len elB_len]; omega
        rw [hcs]
        have h1 : Program.cellsOf Tryz.prog 5 = 1 := by kernel_rfl
        rw [h1, Nat.div_one]
        have hd : ∃ d, Program.depth Tryz.prog = d + 1 + 1 := ⟨Program.depth Tryz.prog - 2, by kernel_rfl⟩
        obtain ⟨d, hd⟩ := hd
        rw [hd]
        have hsl : sameLayout Tryz.prog (Program.depth Tryz.prog) 5 5 = true := by kernel_rfl
        unfold liesAt
        have key : ∀ D, D = d + 1 + 1 → rowAt Tryz.prog (fun x => sameLayout Tryz.prog (Program.depth Tryz.prog) x 5) D 5 c 0 s.size = true := fun D hD => by subst hD; exact row_lies h1 hsl hsc
        rw [Int.toNat_natCast]
        show (rowAt Tryz.prog (fun x => sameLayout Tryz.prog (Program.depth Tryz.prog) x 5) (Program.depth Tryz.prog) 5 c 0 s.size || _) = true
        rw [key _ hd]
        rfl
      · rw [flat_elB, Int.toNat_natCast]
        refine BytesAt.tl ?_
        have : s = ⟨s.data.toList.toArray⟩ := by apply ByteArray.ext; simp
        have hb := BytesAt.list (I := I) (S := F) (g := g) (n := s.size) (l := s.data.toList) (rest := rest) (e := 5) (fz := (0, 0)) hsz.symm
        rw [← this] at hb
        exact hb
end Go.Proofs.YtcdajekafnggkaaGreatDoor
/- Bytes folded; names made of labels; the law's words. -/
namespace Go.Proofs.YtcdajekafnggkaaGreatDoor
open Go.Px
set_option linter.unusedVariables false

def foldU (u : UInt8) : UInt8 := if 65 ≤ u.toNat ∧ u.toNat ≤ 90 then UInt8.ofNat (u.toNat + 32) else u
def foldB (s : ByteArray) : ByteArray := ⟨(s.data.toList.map foldU).toArray⟩
theorem foldB_size (s : ByteArray) : (foldB s).size = s.size := by
  show ((s.data.toList.map foldU).toArray).size = s.data.size
  simp
theorem ofNatU {n : Nat} (h : n < 256) : (UInt8.ofNat n).toNat = n := by
  show n % 256 = n
  exact Nat.mod_eq_of_lt h
theorem Fold_runs (u : UInt8) (I : IMem) (S : SH) : Runs Tryz.prog 57 #[.int .u8 (u.toNat : Int)] I S fun v _ T => v = .int .u8 ((foldU u).toNat : Int) ∧ T = S := by
  refine name_Fold_fn _ _ _ _ ?_
  unfold name_Fold name_Fold_b1 name_Fold_b2 name_Fold_b3
  have hu := u.toNat_lt
  refine bcase_dec (fun h => bcase_dec (fun g => ⟨?_, rfl⟩) (fun g => ⟨?_, rfl⟩)) (fun h => bcase_f rfl ⟨?_, rfl⟩)
  · rw [foldU, if_pos ⟨by omega, by omega⟩, wrap_u8 (x := (u.toNat : Int) + 97) (by omega) (by omega), wrap_u8 (by omega) (by omega)]
    have : (UInt8.ofNat (u.toNat + 32)).toNat = u.toNat + 32 := by
      exact ofNatU (by omega)
    rw [this]; congr 1; omega
  · rw [foldU, if_neg (by omega)]
  · rw [foldU, if_neg (by omega)]
theorem folded_runs (s : ByteArray) (hs : s.size ≤ 140737488355328) (I : IMem) (S : SH) : Runs Tryz.prog 40 #[.string s] I S fun v _ T => v = .string (foldB s) ∧ T = S := by
  refine Runs.drop (name_folded_fn _ _ _ _ ?_)
  unfold name_folded name_folded_b1 name_folded_b2
  refine ⟨by simp only [maxLen]; omega, fun g c hc hcm => ?_⟩
  have hln : s.data.toList.length = s.size := Array.length_toList
  generalize hl : s.data.toList = l at hln
  have hbc : byteCells s = bytL l := by rw [← hl]; rfl
  rw [hbc]
  generalize hrest : repV (c - s.size) [Value.int .u8 0] = rest
  have hK : ∀ k, (bytL ((l.take k).map foldU)).length = min k l.length := fun k => by rw [bytL_len, List.length_map, List.length_take]
  refine ⟨fun m b bn bc x xn xc q i J T => b = some ⟨g, 0, none⟩ ∧ bn = s.size ∧ x = some ⟨g, 0, none⟩ ∧ xn = s.size ∧ q = (s.size : Int) ∧ ∃ k : Nat, i = (k : Int) ∧ k ≤ s.size ∧ m = s.size - k ∧
    T = (g, .cells (bytL ((l.take k).map foldU) ++ (bytL (l.drop k) ++ rest)).toArray 5 (c, c + 1)) :: S, s.size, ⟨rfl, rfl, rfl, rfl, rfl, 0, rfl, Nat.zero_le _, rfl, by simp [bytL]⟩, ?_⟩
  rintro m b bn bc x xn xc q i J T - ⟨rfl, rfl, rfl, rfl, rfl, k, rfl, hk, rfl, rfl⟩
  unfold name_folded_l3 name_folded_b4
  refine bcase_dec (fun h => ?_) (fun h => ?_)
  · have hkl : k < l.length := by omega
    have hd : l.drop k = l[k] :: l.drop (k + 1) := List.drop_eq_getElem_cons hkl
    have hkk : (bytL ((l.take k).map foldU)).length = k := by rw [hK]; omega
    refine ⟨by omega, by omega, (l[k].toNat : Int), ?_, (Fold_runs l[k] _ _).mono ?_⟩
    · rw [add_mk]
      refine Cell.at0 ?_
      rw [List.getElem?_toArray, List.getElem?_append_right (by rw [hkk]; omega), hkk, hd]
      have : 0 + ((k : Int)).toNat * 1 - k = 0 := by omega
      rw [this]; rfl
    · rintro v J' T' hle ⟨rfl, rfl⟩
      refine ⟨_, rfl, by omega, by omega, ?_⟩
      rw [add_mk]
      have e : 0 + ((k : Int)).toNat * 1 = k := by omega
      rw [e]
      refine StP.listF ?_ ?_ rfl ⟨s.size - (k + 1), by omega, rfl, rfl, rfl, rfl, rfl, k + 1, ?_, by omega, rfl, ?_⟩
      · rw [List.length_append, List.length_append, hkk, bytL_len, List.length_drop]; simp only [List.length_singleton]; omega
      · simp only [List.length_singleton]; omega
      · rw [wrap_i64 (by omega) (by omega)]; rfl
      · have t1 : (bytL ((l.take k).map foldU) ++ (bytL (l.drop k) ++ rest)).take k = bytL ((l.take k).map foldU) := by
          conv => lhs; rw [← hkk]
          rw [hkk]; conv => lhs; arg 1; rw [← hkk]
          exact List.take_left
        have t2 : (bytL ((l.take k).map foldU) ++ (bytL (l.drop k) ++ rest)).drop (k + [Value.int .u8 ((foldU l[k]).toNat : Int)].length) = bytL (l.drop (k + 1)) ++ rest := by
          rw [List.length_singleton, ← List.drop_drop]
          have : (bytL ((l.take k).map foldU) ++ (bytL (l.drop k) ++ rest)).drop k = bytL (l.drop k) ++ rest := by
            conv => lhs; arg 1; rw [← hkk]
            exact List.drop_left
          rw [this, hd]; rfl
        rw [t1, t2]
        have t3 : l.take (k + 1) = l.take k ++ [l[k]] := by rw [List.take_add_one, List.getElem?_eq_getElem hkl]; rfl
        have t4 : bytL ((l.take (k + 1)).map foldU) = bytL ((l.take k).map foldU) ++ [Value.int .u8 ((foldU l[k]).toNat : Int)] := by
          rw [t3, List.map_append, bytL, List.map_append]; rfl
        rw [t4]
  · have : k = s.size := by omega
    subst this
    refine ⟨foldB s, ?_, S, (Sub.refl S).skip _, rfl, rfl⟩
    have t1 : l.take s.size = l := by rw [← hln]; exact List.take_length
    have t2 : l.drop s.size = [] := by rw [← hln]; exact List.drop_length
    rw [t1, t2]
    have hb := BytesAt.list (I := J) (S := S) (g := g) (n := s.size) (l := l.map foldU) (rest := bytL [] ++ rest) (e := 5) (fz := (c, c + 1)) (by rw [List.length_map, hln])
    have hf : foldB s = ⟨(l.map foldU).toArray⟩ := by rw [foldB, hl]
    rw [hf]; exact hb

/-! ### names -/
def makeN : List ByteArray → ByteArray → Option ByteArray
  | [], acc => some acc
  | l :: ls, acc => if l.size < 1 ∨ l.size > 63 ∨ acc.size + 1 + l.size > 254 then none else makeN ls (acc.push (UInt8.ofNat l.size) ++ foldB l)
theorem app_size (a b : ByteArray) : (a ++ b).size = a.size + b.size := ByteArray.size_append
theorem makeN_size : ∀ {ls : List ByteArray} {acc n : ByteArray}, acc.size ≤ 254 → makeN ls acc = some n → n.size ≤ 254
  | [], acc, n, h, e => by simp [makeN] at e; subst e; exact h
  | l :: ls, acc, n, h, e => by
    unfold makeN at e
    split at e
    · cases e
    · refine makeN_size ?_ e
      rw [app_size, foldB_size, ByteArray.size_push]; omega
def elS (s : ByteArray) : List Value := [.string s]
def mkV : Option ByteArray → Value
  | some n => .tuple #[.string n, .bool true]
  | none => .tuple #[.string ⟨#[]⟩, .bool false]
theorem Make_runs {ls : List ByteArray} {a : Option Addr} {c : Nat} {I : IMem} {S : SH} (hx : RowIn I S a ls.length 1 elS ls) (hl : ls.length ≤ 140737488355328) :
    Runs Tryz.prog 17 #[.slice a ls.length c] I S fun v _ T => v = mkV (makeN ls ByteArray.empty) ∧ T = S := by
  refine Runs.drop (name_Make_fn _ _ _ _ _ _ ?_)
  unfold name_Make name_Make_b1 name_Make_b2
  intro b4
  refine ⟨fun m o x xn xc q i J T => o = ⟨b4, 0, none⟩ ∧ x = a ∧ xn = ls.length ∧ q = (ls.length : Int) ∧ I.le J ∧ ∃ (k : Nat) (acc : ByteArray) (own : SH), i = (k : Int) ∧ k ≤ ls.length ∧ m = ls.length - k ∧ Bld b4 acc own ∧ Sub (own ++ S) T ∧ acc.size ≤ 254 ∧ makeN ls ByteArray.empty = makeN (ls.drop k) acc,
    ls.length, ⟨rfl, rfl, rfl, rfl, IMem.le.refl I, 0, ByteArray.empty, _, rfl, Nat.zero_le _, rfl, ⟨none, none, 0, 0, [], rfl, .inl rfl, fun h => (by cases h), OwnR.nil⟩, Sub.refl _, Nat.zero_le _, rfl⟩, ?_⟩
  rintro m o x xn xc q i J T - ⟨rfl, rfl, rfl, rfl, hle, k, acc, own, rfl, hk, rfl, hb, hs, hacc, hm⟩
  unfold name_Make_l3 name_Make_b4 name_Make_b5 name_Make_b6 name_Make_b7 name_Make_b8 name_Make_b9
  have bad : ∀ (J : IMem) (T : SH), Sub S T → makeN ls ByteArray.empty = none → ∃ L, Sub L T ∧ Value.tuple #[.string ⟨#[]⟩, .bool false] = mkV (makeN ls ByteArray.empty) ∧ L = S := fun J T h e => ⟨S, h, by rw [e]; rfl, rfl⟩
  refine bcase_dec (fun h => ?_) (fun h => ?_)
  · have hkl : k < ls.length := by omega
    obtain ⟨a', rfl, hc⟩ := ((hx.sub hs.right).le hle).cell (List.getElem?_eq_getElem hkl)
    have hd : ls.drop k = ls[k] :: ls.drop (k + 1) := List.drop_eq_getElem_cons hkl
    generalize ls[k] = l at hc hd
    rw [hd, makeN] at hm
    refine ⟨by omega, by omega, l, ?_, ?_⟩
    · have := hc 0 (.string l) rfl
      simpa [Addr.add] using this
    · refine bcase_dec (fun h1 => bcase_t rfl (bad J T hs.right (by rw [hm, if_pos (.inl (by omega))]))) (fun h1 => bcase_dec (fun h2 => bcase_t rfl (bad J T hs.right (by rw [hm, if_pos (.inr (.inl (by omega)))]))) (fun h2 => ?_))
      refine Runs.use hs (Len_runs hb J S) ?_
      rintro v J1 T1 hle1 ⟨rfl, rfl⟩
      refine ⟨_, rfl, ?_⟩
      rw [wrap_i64 (x := (acc.size : Int) + 1) (by omega) (by omega), wrap_i64 (by omega) (by omega)]
      refine bcase_dec (fun h3 => bad J1 _ (Sub.right (Sub.refl _)) (by rw [hm, if_pos (.inr (.inr (by omega)))])) (fun h3 => ?_)
      rw [if_neg (by omega)] at hm
      have hu : IntKind.wrap .u8 (l.size : Int) = ((UInt8.ofNat l.size).toNat : Int) := by
        rw [wrap_u8 (by omega) (by omega), ofNatU (by omega)]
      rw [hu]
      refine (WByte_runs hb (UInt8.ofNat l.size) (by omega) J1 S).mono ?_
      rintro v J2 T2 hle2 ⟨rfl, own2, hb2, hs2⟩
      refine ⟨_, rfl, (folded_runs l (by omega) J2 T2).mono ?_⟩
      rintro v J3 T3 hle3 ⟨rfl, rfl⟩
      have hsz : (acc.push (UInt8.ofNat l.size)).size = acc.size + 1 := ByteArray.size_push
      refine ⟨_, rfl, Runs.use hs2 (WStr_runs hb2 (t := foldB l) (by omega) (by rw [hsz, foldB_size]; omega) J3 S) ?_⟩
      rintro v J4 T4 hle4 ⟨rfl, own4, hb4, hs4⟩
      refine ⟨_, _, rfl, ls.length - (k + 1), by omega, rfl, rfl, rfl, rfl, (((hle.trans hle1).trans hle2).trans hle3).trans hle4, k + 1, _, own4, ?_, by omega, rfl, hb4, hs4, ?_, hm⟩
      · rw [wrap_i64 (by omega) (by omega)]; rfl
      · rw [app_size, hsz, foldB_size]; omega
  · have : k = ls.length := by omega
    subst this
    rw [List.drop_length, makeN] at hm
    refine Runs.use hs (Str_runs hb (by omega) J S) ?_
    rintro v J1 T1 hle1 ⟨rfl, hsub⟩
    exact ⟨_, rfl, S, hsub, by rw [hm]; rfl, rfl⟩

def wordsL : List ByteArray := [⟨#[97]⟩, ⟨#[98]⟩, ⟨#[99]⟩, ⟨#[119, 119, 119]⟩, ⟨#[101, 120]⟩, ⟨#[111, 114, 103]⟩, ⟨#[42]⟩, ⟨#[114, 112, 122, 45, 105, 112]⟩]
def wd (x : Int) : ByteArray := (wordsL[(x.tmod 8).toNat]?).getD ⟨#[]⟩
def elI8 (x : Int) : List Value := [.int .u8 x]
end Go.Proofs.YtcdajekafnggkaaGreatDoor
/- Three-way comparisons, one behind the other; records and their order. -/
namespace Go.Px
set_option linter.unusedVariables false

theorem bl_irrefl : ∀ x, Op.bytesLess x x = false
  | [] => rfl
  | a :: x => by simp [Op.bytesLess, bl_irrefl x]
theorem bl_tri : ∀ x y, Op.bytesLess x y = true ∨ x = y ∨ Op.bytesLess y x = true
  | [], [] => .inr (.inl rfl)
  | [], _ :: _ => .inl rfl
  | _ :: _, [] => .inr (.inr rfl)
  | a :: x, b :: y => by
    simp only [Op.bytesLess, Bool.or_eq_true, decide_eq_true_eq, Bool.and_eq_true, beq_iff_eq, List.cons.injEq]
    by_cases h : a = b
    · subst h
      rcases bl_tri x y with g | g | g
      · exact .inl (.inr ⟨rfl, g⟩)
      · exact .inr (.inl ⟨rfl, g⟩)
      · exact .inr (.inr (.inr ⟨rfl, g⟩))
    · have : a < b ∨ b < a := by
        rw [UInt8.lt_iff_toNat_lt, UInt8.lt_iff_toNat_lt]
        have : a.toNat ≠ b.toNat := fun e => h (UInt8.toNat_inj.1 e)
        omega
      rcases this with g | g
      · exact .inl (.inl g)
      · exact .inr (.inr (.inl g))
theorem bl_trans : ∀ {x y z}, Op.bytesLess x y = true → Op.bytesLess y z = true → Op.bytesLess x z = true
  | _, [], _, h, _ => by simp [Op.bytesLess] at h
  | _, _ :: _, [], _, h => by simp [Op.bytesLess] at h
  | [], _ :: _, _ :: _, _, _ => rfl
  | a :: x, b :: y, c :: z, h, g => by
    simp only [Op.bytesLess, Bool.or_eq_true, decide_eq_true_eq, Bool.and_eq_true, beq_iff_eq] at h g ⊢
    rw [UInt8.lt_iff_toNat_lt] at h g ⊢
    rcases h with h | ⟨rfl, h⟩
    · rcases g with g | ⟨rfl, g⟩
      · exact .inl (by omega)
      · exact .inl h
    · rcases g with g | ⟨rfl, g⟩
      · exact .inl g
      · exact .inr ⟨rfl, bl_trans h g⟩

structure Cm {α : Type} (c : α → α → Int) : Prop where
  vals : ∀ a b, c a b = -1 ∨ c a b = 0 ∨ c a b = 1
  refl : ∀ a, c a a = 0
  anti : ∀ a b, c b a = -(c a b)
  eq : ∀ a b, c a b = 0 → a = b
  trans : ∀ a b d, c a b < 0 → c b d < 0 → c a d < 0
def lexC {α β : Type} (c : α → α → Int) (d : β → β → Int) (p q : α × β) : Int := if c p.1 q.1 = 0 then d p.2 q.2 else c p.1 q.1
theorem Cm.lex {α β : Type} {c : α → α → Int} {d : β → β → Int} (hc : Cm c) (hd : Cm d) : Cm (lexC c d) where
  vals a b := by unfold lexC; split <;> first | exact hd.vals _ _ | exact hc.vals _ _
  refl a := by unfold lexC; rw [if_pos (hc.refl _)]; exact hd.refl _
  anti a b := by
    unfold lexC
    have := hc.anti a.1 b.1
    by_cases h : c a.1 b.1 = 0
    · rw [if_pos h, if_pos (by omega)]; exact hd.anti _ _
    · rw [if_neg h, if_neg (by omega)]; exact this
  eq a b h := by
    unfold lexC at h
    split at h
    · rename_i h1; exact Prod.ext (hc.eq _ _ h1) (hd.eq _ _ h)
    · exact absurd h ‹_›
  trans a b e h g := by
    unfold lexC at h g ⊢
    split at h
    · rename_i h1
      have := hc.eq _ _ h1
      rw [this]
      split at g
      · rename_i h2; rw [if_pos h2]; exact hd.trans _ _ _ h g
      · rename_i h2; rw [if_neg h2]; exact g
    · rename_i h1
      split at g
      · rename_i h2
        have := hc.eq _ _ h2
        rw [← this, if_neg h1]; exact h
      · rename_i h2
        have := hc.trans _ _ _ h g
        rw [if_neg (by omega)]; exact this
theorem Cm.le_trans {α : Type} {c : α → α → Int} (hc : Cm c) {a b d : α} (h : c a b ≤ 0) (g : c b d ≤ 0) : c a d ≤ 0 := by
  by_cases h1 : c a b = 0
  · rw [hc.eq _ _ h1]; exact g
  · by_cases h2 : c b d = 0
    · rw [← hc.eq _ _ h2]; exact h
    · have := hc.trans a b d (by omega) (by omega); omega

def ltB (a b : ByteArray) : Bool := Op.bytesLess a.toList b.toList
def cmpB (a b : ByteArray) : Int := if ltB a b then -1 else if ltB b a then 1 else 0
def cmpI (a b : Int) : Int := if a < b then -1 else if b < a then 1 else 0
theorem toList_inj {a b : ByteArray} (h : a.toList = b.toList) : a = b := by
  rw [ByteArray.toList_eq, ByteArray.toList_eq] at h
  exact ByteArray.ext (Array.toList_inj.1 h)
theorem keq {a b : ByteArray} : (a.toList == b.toList) = true ↔ a = b := by
  rw [beq_iff_eq]; exact ⟨toList_inj, fun h => by rw [h]⟩
theorem cmB : Cm cmpB where
  vals a b := by unfold cmpB; split <;> first | exact .inl rfl | (split <;> first | exact .inr (.inr rfl) | exact .inr (.inl rfl))
  refl a := by simp [cmpB, ltB, bl_irrefl]
  anti a b := by
    unfold cmpB ltB
    rcases bl_tri a.toList b.toList with h | h | h
    · have : Op.bytesLess b.toList a.toList = false := by
        cases hb : Op.bytesLess b.toList a.toList with
        | false => rfl
        | true => have := bl_trans h hb; rw [bl_irrefl] at this; cases this
      simp [h, this]
    · rw [h]; simp [bl_irrefl]
    · have : Op.bytesLess a.toList b.toList = false := by
        cases hb : Op.bytesLess a.toList b.toList with
        | false => rfl
        | true => have := bl_trans h hb; rw [bl_irrefl] at this; cases this
      simp [h, this]
  eq a b h := by
    unfold cmpB ltB at h
    rcases bl_tri a.toList b.toList with g | g | g
    · simp [g] at h
    · exact toList_inj g
    · split at h <;> first | (simp at h; done) | (simp [g] at h)
  trans a b d h g := by
    have key : ∀ x y : ByteArray, cmpB x y < 0 ↔ Op.bytesLess x.toList y.toList = true := fun x y => by
      unfold cmpB ltB
      split
      · simp [*]
      · split <;> simp [*]
    rw [key] at *
    exact bl_trans h g
theorem cmI : Cm cmpI where
  vals a b := by unfold cmpI; split <;> first | exact .inl rfl | (split <;> first | exact .inr (.inr rfl) | exact .inr (.inl rfl))
  refl a := by simp [cmpI]
  anti a b := by unfold cmpI; split <;> split <;> first | omega | (split <;> omega) | skip
  eq a b h := by unfold cmpI at h; split at h <;> first | omega | (split at h <;> omega)
  trans a b d h g := by
    have key : ∀ x y : Int, cmpI x y < 0 ↔ x < y := fun x y => by
      unfold cmpI
      split
      · simp [*]
      · split <;> simp [*]
    rw [key] at *
    omega

/-- a record: its name, type, TTL and data -/
abbrev Rc := ByteArray × Int × Int × ByteArray
def encR (r : Rc) : List Value := [.string r.1, .int .u16 r.2.1, .int .u32 r.2.2.1, .string r.2.2.2]
def keyR (r : Rc) : ByteArray × Int × ByteArray × Int := (r.1, r.2.1, r.2.2.2, r.2.2.1)
def cmpR (a b : Rc) : Int := lexC cmpB (lexC cmpI (lexC cmpB cmpI)) (keyR a) (keyR b)
theorem cmR : Cm cmpR := by
  have h : Cm (lexC cmpB (lexC cmpI (lexC cmpB cmpI))) := cmB.lex (cmI.lex (cmB.lex cmI))
  refine ⟨fun a b => h.vals _ _, fun a => h.refl _, fun a b => h.anti _ _, fun a b e => ?_, fun a b d => h.trans _ _ _⟩
  have := h.eq _ _ e
  obtain ⟨a1, a2, a3, a4⟩ := a
  obtain ⟨b1, b2, b3, b4⟩ := b
  simp only [keyR, Prod.mk.injEq] at this
  obtain ⟨rfl, rfl, rfl, rfl⟩ := this
  rfl
end Go.Px
/- The comparison of records: contracts. -/
namespace Go.Proofs.YtcdajekafnggkaaGreatDoor
open Go.Px
set_option linter.unusedVariables false

end Go.Proofs.YtcdajekafnggkaaGreatDoor
/- The law's own comparison; the search in a row; what slices.overlaps answers; a clone; an insertion. -/
namespace Go.Proofs.YtcdajekafnggkaaGreatDoor
open Go.Px
set_option linter.unusedVariables false

theorem strNe {x y : ByteArray} : (!(x.toList == y.toList)) = true ↔ x ≠ y := by
  rw [Bool.not_eq_true', ← Bool.not_eq_true, keq]
theorem strNe' {x y : ByteArray} : (!(x.toList == y.toList)) = false ↔ x = y := by
  rw [Bool.not_eq_false', keq]
abbrev Below (xs : List Rc) (r : Rc) (k : Nat) : Prop := k ≤ xs.length ∧ ∀ (i : Nat) (x : Rc), xs[i]? = some x → (i < k ↔ cmpR x r < 0)
end Go.Proofs.YtcdajekafnggkaaGreatDoor
/- What slices.overlaps answers; a clone; an insertion into a row of one's own. -/
namespace Go.Proofs.YtcdajekafnggkaaGreatDoor
open Go.Px
set_option linter.unusedVariables false

theorem take_at {α : Type} {A B : List α} {o : Nat} (h : A.length = o) : (A ++ B).take o = A := by subst h; exact List.take_left
theorem drop_at {α : Type} {A B : List α} {o : Nat} (h : A.length = o) : (A ++ B).drop o = B := by subst h; exact List.drop_left

end Go.Proofs.YtcdajekafnggkaaGreatDoor
/- Insertion into a zone, and what a zone has; the document's examples. -/
namespace Go.Proofs.YtcdajekafnggkaaGreatDoor
open Go.Px
set_option linter.unusedVariables false

abbrev Mono (xs : List Rc) (r : Rc) : Prop := ∀ (i j : Nat) (x y : Rc), i ≤ j → xs[i]? = some x → xs[j]? = some y → cmpR y r < 0 → cmpR x r < 0
end Go.Proofs.YtcdajekafnggkaaGreatDoor
/- A zone's size; ZoneFits. -/
namespace Go.Proofs.YtcdajekafnggkaaGreatDoor
open Go.Px
set_option linter.unusedVariables false

theorem get_lt {α : Type} {xs : List α} {k : Nat} (h : k < xs.length) : ∃ x, xs[k]? = some x := ⟨_, List.getElem?_eq_getElem h⟩
theorem lt_get {α : Type} {xs : List α} {k : Nat} {x : α} (h : xs[k]? = some x) : k < xs.length := by
  rcases Nat.lt_or_ge k xs.length with g | g
  · exact g
  · rw [List.getElem?_eq_none g] at h; cases h
theorem take_snoc {α : Type} {xs : List α} {k : Nat} {x : α} (h : xs[k]? = some x) : xs.take (k + 1) = xs.take k ++ [x] := by
  rw [List.take_add_one, h]; rfl

end Go.Proofs.YtcdajekafnggkaaGreatDoor
/- The law's data, and its records. -/
namespace Go.Proofs.YtcdajekafnggkaaGreatDoor
open Go.Px
set_option linter.unusedVariables false

def d0 : ByteArray := ⟨#[0]⟩
theorem ex_size (s : ByteArray) (a b : Nat) : (s.extract a b).size = min b s.size - a := ByteArray.size_extract
abbrev Sl := Option Addr × Nat × Nat
abbrev Ac := Sl × Int × Int × Sl × ByteArray
structure Slb (I : IMem) (S : SH) (x : Sl) (xs : List Int) : Prop where
  row : RowIn I S x.1 xs.length 1 elI8 xs
  len : x.2.1 = xs.length
  small : xs.length ≤ 9223372036854775807
  pos : ∀ y ∈ xs, 0 ≤ y
theorem Slb.keep {I J : IMem} {S T : SH} {x : Sl} {xs : List Int} (hk : Keep I S J T) (h : Slb I S x xs) : Slb J T x xs := ⟨h.row.keep hk, h.len, h.small, h.pos⟩
structure SmallR (r : Rc) : Prop where
  nm : r.1.size ≤ 254
  dt : r.2.2.2.size ≤ 600
  ty : 0 ≤ r.2.1 ∧ r.2.1 ≤ 99
structure AcOK (I : IMem) (S : SH) (x : Ac) : Prop where
  nm : ∃ nm, Slb I S x.1 nm
  dt : ∃ dt, Slb I S x.2.2.2.1 dt
  tx : x.2.2.2.2.size ≤ 9223372036854775807
theorem AcOK.keep {I J : IMem} {S T : SH} {x : Ac} (hk : Keep I S J T) (h : AcOK I S x) : AcOK J T x :=
  ⟨let ⟨nm, h⟩ := h.nm; ⟨nm, h.keep hk⟩, let ⟨nm, h⟩ := h.dt; ⟨nm, h.keep hk⟩, h.tx⟩
end Go.Proofs.YtcdajekafnggkaaGreatDoor
/- Names: their labels, whether they may be, what is ahead of them, what is below what; data that may be; records that may be. -/
namespace Go.Proofs.YtcdajekafnggkaaGreatDoor
open Go.Px
set_option linter.unusedVariables false

theorem at0 {s : ByteArray} (h : 0 < s.size) : ∃ c : UInt8, s[0]? = some c := ⟨_, getElem?_pos s 0 h⟩
theorem at_ok {s : ByteArray} {k : Nat} (h : k < s.size) : ∃ c : UInt8, s[k]? = some c := ⟨_, getElem?_pos s k h⟩
theorem at_none {s : ByteArray} {k : Nat} (h : s.size ≤ k) : s[k]? = none := getElem?_neg s k (by omega)
theorem u8_lt (c : UInt8) : c.toNat < 256 := c.toNat_lt
theorem wrap_c (c : UInt8) : IntKind.wrap .i64 (c.toNat : Int) = (c.toNat : Int) := by have := u8_lt c; exact wrap_i64 (by omega) (by omega)
theorem wrap_1c (c : UInt8) : IntKind.wrap .i64 ((1 : Int) + (c.toNat : Int)) = ((1 + c.toNat : Nat) : Int) := by have := u8_lt c; rw [wrap_i64 (by omega) (by omega)]; omega

/-- the labels of bytes, one behind the other; with so many steps -/
def splitN : Nat → ByteArray → Option (List ByteArray)
  | 0, s => if s.size = 0 then some [] else none
  | n + 1, s => match s[0]? with
    | none => some []
    | some c => if c.toNat < 1 ∨ c.toNat > 63 ∨ s.size ≤ c.toNat then none else (splitN n (s.extract (1 + c.toNat) s.size)).map (s.extract 1 (1 + c.toNat) :: ·)
theorem splitN_fuel : ∀ (n m : Nat) (s : ByteArray), s.size ≤ n → s.size ≤ m → splitN n s = splitN m s
  | 0, 0, s, _, _ => rfl
  | 0, m + 1, s, h, _ => by
    have h0 : s.size = 0 := by omega
    rw [splitN, if_pos h0, splitN, at_none (by omega)]
  | n + 1, 0, s, _, h => by
    have h0 : s.size = 0 := by omega
    show splitN (n + 1) s = splitN 0 s
    rw [show splitN 0 s = some [] from by rw [splitN, if_pos h0], splitN, at_none (by omega)]
  | n + 1, m + 1, s, h, g => by
    rw [splitN, splitN]
    cases hc : s[0]? with
    | none => rfl
    | some c =>
      dsimp only
      split
      · rfl
      · rw [splitN_fuel n m _ (by rw [ex_size]; omega) (by rw [ex_size]; omega)]
def labN (s : ByteArray) : Option (List ByteArray) := if s.size > 254 ∨ s.toList ≠ (foldB s).toList then none else splitN s.size s
theorem Labels_runs (n : ByteArray) (I : IMem) (S : SH) : Runs Tryz.prog 42 #[.string n] I S fun v _ T =>
    ∃ own, ((labN n = none ∧ v = .tuple #[.slice none 0 0, .bool false] ∧ own = []) ∨ ∃ ls p m c, labN n = some ls ∧ v = .tuple #[.slice p m c, .bool true] ∧ OwnR 9 1 elS (.slice p m c) ls own) ∧ Sub (own ++ S) T := by
  refine name_Labels_fn _ _ _ _ ?_
  unfold name_Labels name_Labels_b1 name_Labels_b2
  refine bcase_dec (fun h => bcase_t rfl ⟨[], .inl ⟨by rw [labN, if_pos (.inl (by omega))], rfl, rfl⟩, Sub.refl _⟩) (fun h => ?_)
  refine (folded_runs n (by omega) I S).mono ?_
  rintro v J T hle ⟨rfl, rfl⟩
  refine ⟨_, rfl, bcase_not (bcase_of (fun g => ?_) (fun g => ⟨[], .inl ⟨by rw [labN, if_pos (.inr (fun e => by rw [e] at g; simp at g))], rfl, rfl⟩, Sub.refl _⟩))⟩
  have hlab : labN n = splitN n.size n := by rw [labN, if_neg]; rintro (h' | h'); · omega
                                             · exact h' (eq_of_beq g)
  unfold name_Labels_b3
  refine ⟨fun m o on oc s J' T' => J.le J' ∧ ∃ (ls : List ByteArray) (own : SH), m = s.size ∧ s.size + ls.length ≤ n.size ∧ OwnR 9 1 elS (.slice o on oc) ls own ∧ Sub (own ++ T) T' ∧ labN n = (splitN s.size s).map (ls ++ ·), n.size,
    ⟨IMem.le.refl J, [], [], rfl, by simp, OwnR.nil, Sub.refl _, by rw [hlab]; simp⟩, ?_⟩
  rintro m o on oc s J' T' - ⟨hle', ls, own, rfl, hsl, ho, hs, hl⟩
  unfold name_Labels_l4 name_Labels_b5 name_Labels_b6 name_Labels_b7 name_Labels_b8 name_Labels_b9
  have bad : splitN s.size s = none → ∃ own, ((labN n = none ∧ Value.tuple #[.slice none 0 0, .bool false] = .tuple #[.slice none 0 0, .bool false] ∧ own = []) ∨ ∃ ls p m c, labN n = some ls ∧ Value.tuple #[.slice none 0 0, .bool false] = .tuple #[.slice p m c, .bool true] ∧ OwnR 9 1 elS (.slice p m c) ls own) ∧ Sub (own ++ T) T' := fun e =>
    ⟨[], .inl ⟨by rw [hl, e]; rfl, rfl, rfl⟩, hs.right⟩
  refine bcase_dec (fun hpos => ?_) (fun hpos => ?_)
  · obtain ⟨c, hc⟩ := at0 (s := s) (by omega)
    obtain ⟨sz, hsz⟩ : ∃ k, s.size = k + 1 := ⟨s.size - 1, by omega⟩
    have hsp : splitN s.size s = if c.toNat < 1 ∨ c.toNat > 63 ∨ s.size ≤ c.toNat then none else (splitN sz (s.extract (1 + c.toNat) s.size)).map (s.extract 1 (1 + c.toNat) :: ·) := by
      conv => lhs; rw [hsz]
      rw [splitN, hc]
    refine ⟨c, by omega, hc, ?_⟩
    rw [wrap_c, wrap_1c]
    refine bcase_dec (fun h1 => bcase_t rfl (bad (by rw [hsp, if_pos (.inl (by omega))]))) (fun h1 => bcase_dec (fun h2 => bcase_t rfl (bad (by rw [hsp, if_pos (.inr (.inl (by omega)))]))) (fun h2 => bcase_dec (fun h3 => bad (by rw [hsp, if_pos (.inr (.inr (by omega)))])) (fun h3 => ?_)))
    rw [if_neg (by omega)] at hsp
    have e1 : ((1 : Int)).toNat = 1 := rfl
    rw [e1, Int.toNat_natCast]
    refine ⟨by omega, by omega, by omega, by omega, fun b40 => ?_⟩
    obtain ⟨G, hG⟩ := hs
    refine AppG.own (xs := ls) (ys := [s.extract 1 (1 + c.toNat)]) (el := elS) (own := own) (F := (b40, .cells #[.string (s.extract 1 (1 + c.toNat))] 9 (0, 0)) :: (T ++ G)) (fun _ => rfl) (fun _ => rfl) rfl ((hG.cons _).trans (by rw [List.append_assoc]; exact perm_mid1)) ho ⟨?_, rfl⟩ ?_ ?_ ?_
    · exact Rd.list (L := elS (s.extract 1 (1 + c.toNat))) rfl (by simp [elS])
    · simp only [List.length_singleton, maxLen]; omega
    · simp only [List.length_singleton]; omega
    · intro p m d own2 ho2
      have hes : (s.extract (1 + c.toNat) s.size).size = s.size - (1 + c.toNat) := by rw [ex_size]; omega
      refine ⟨by omega, by omega, s.size - (1 + c.toNat), by omega, hle', ls ++ [s.extract 1 (1 + c.toNat)], own2, hes.symm, ?_, ho2, ?_, ?_⟩
      · rw [hes, List.length_append, List.length_singleton]; omega
      · exact ⟨(b40, _) :: G, by rw [List.append_assoc]; exact List.Perm.append_left own2 perm_mid1⟩
      · rw [hl, hsp, splitN_fuel sz (s.extract (1 + c.toNat) s.size).size _ (by omega) (Nat.le_refl _)]
        cases splitN (s.extract (1 + c.toNat) s.size).size (s.extract (1 + c.toNat) s.size) <;> simp
  · have h0 : s.size = 0 := by omega
    refine ⟨own, .inr ⟨ls, o, on, oc, ?_, rfl, ho⟩, hs⟩
    rw [hl, h0, splitN, if_pos h0]; simp
theorem May_runs (n : ByteArray) (I : IMem) (S : SH) : Runs Tryz.prog 55 #[.string n] I S fun v _ T => v = .bool (labN n).isSome ∧ T = S := by
  refine Runs.drop (name_May_fn _ _ _ _ ?_)
  unfold name_May
  refine (Labels_runs n I S).mono ?_
  rintro v J T hle ⟨own, (⟨h, rfl, rfl⟩ | ⟨ls, p, m, c, h, rfl, ho⟩), hs⟩
  · exact ⟨_, _, _, _, rfl, S, hs.right, by rw [h]; rfl, rfl⟩
  · exact ⟨_, _, _, _, rfl, S, hs.right, by rw [h]; rfl, rfl⟩
/-- a name without its first label -/
def parN (n : ByteArray) : ByteArray × Bool := match n[0]? with
  | none => (⟨#[]⟩, false)
  | some c => if (labN n).isSome then (n.extract (1 + c.toNat) n.size, true) else (⟨#[]⟩, false)
theorem labN_first {n : ByteArray} {c : UInt8} (h : (labN n).isSome = true) (hc : n[0]? = some c) : 1 ≤ c.toNat ∧ c.toNat < n.size ∧ n.size ≤ 254 := by
  unfold labN at h
  split at h
  · cases h
  · rename_i h1
    have hpos : 0 < n.size := by
      rcases Nat.eq_zero_or_pos n.size with e | e
      · rw [at_none (by omega)] at hc; cases hc
      · exact e
    obtain ⟨k, hk⟩ : ∃ k, n.size = k + 1 := ⟨n.size - 1, by omega⟩
    rw [hk, splitN, hc] at h
    dsimp only at h
    split at h
    · cases h
    · exact ⟨by omega, by omega, by omega⟩
theorem Parent_runs (n : ByteArray) (I : IMem) (S : SH) : Runs Tryz.prog 31 #[.string n] I S fun v _ T => v = .tuple #[.string (parN n).1, .bool (parN n).2] ∧ T = S := by
  refine name_Parent_fn _ _ _ _ ?_
  unfold name_Parent name_Parent_b1 name_Parent_b2 name_Parent_b3
  refine bcase_beq (fun h => bcase_t rfl ⟨by rw [parN, at_none (by omega)], rfl⟩) (fun h => (May_runs n I S).mono ?_)
  rintro v J T hle ⟨rfl, rfl⟩
  obtain ⟨c, hc⟩ := at0 (s := n) (by omega)
  refine ⟨_, rfl, bcase_not (bcase_of (fun g => ?_) (fun g => ⟨?_, rfl⟩))⟩
  · obtain ⟨h1, h2, h3⟩ := labN_first g hc
    refine ⟨c, by omega, hc, ?_⟩
    rw [wrap_c, wrap_1c]
    refine ⟨by omega, by omega, ?_, rfl⟩
    rw [Int.toNat_natCast, parN, hc]
    dsimp only
    rw [if_pos g]
  · rw [parN, hc]
    dsimp only
    rw [g]; rfl
theorem parN_size {n : ByteArray} (h : (parN n).2 = true) : (parN n).1.size < n.size := by
  unfold parN at h ⊢
  cases hc : n[0]? with
  | none => rw [hc] at h; cases h
  | some c =>
    rw [hc] at h
    dsimp only at h ⊢
    split at h
    · rename_i hg
      obtain ⟨h1, h2, h3⟩ := labN_first hg hc
      rw [if_pos hg]
      dsimp only
      rw [ex_size]; omega
    · cases h
def goB : Nat → ByteArray → ByteArray → Bool → Bool
  | 0, _, _, _ => false
  | f + 1, n, on, ok => if ok then (if n.toList == on.toList then true else goB f (parN n).1 on (parN n).2) else false
def belowB (n on : ByteArray) : Bool := goB (n.size + 2) n on ((labN n).isSome && (labN on).isSome)
theorem Below_runs (n on : ByteArray) (I : IMem) (S : SH) : Runs Tryz.prog 33 #[.string n, .string on] I S fun v _ T => v = .bool (belowB n on) ∧ T = S := by
  refine name_Below_fn _ _ _ _ _ ?_
  unfold name_Below name_Below_b1
  have main : ∀ (ok : Bool) (J : IMem), ok = ((labN n).isSome && (labN on).isSome) → name_Below_b2 (fun v _ T => v = .bool (belowB n on) ∧ T = S) n on ok J S := by
    intro ok J hok
    unfold name_Below_b2
    refine ⟨fun m n' on' ok' J' T' => on' = on ∧ T' = S ∧ 1 ≤ m ∧ (ok' = true → n'.size + 2 ≤ m) ∧ belowB n on = goB m n' on ok', n.size + 2, ⟨rfl, rfl, by omega, fun _ => Nat.le_refl _, by rw [belowB, hok]⟩, ?_⟩
    rintro m n' on' ok' J' T' - ⟨rfl, rfl, hm1, hm2, hg⟩
    unfold name_Below_l3 name_Below_b4
    obtain ⟨f, rfl⟩ : ∃ f, m = f + 1 := ⟨m - 1, by omega⟩
    rw [goB] at hg
    refine bcase_of (fun h => bcase_of (fun h1 => ⟨?_, rfl⟩) (fun h1 => ?_)) (fun h => ⟨?_, rfl⟩)
    · rw [hg, if_pos h, if_pos h1]
    · rw [if_pos h, if_neg (by rw [h1]; simp)] at hg
      have := hm2 h
      refine (Parent_runs n' J' T').mono ?_
      rintro v J3 T3 hle ⟨rfl, rfl⟩
      exact ⟨_, _, rfl, f, by omega, rfl, rfl, by omega, fun h2 => by have := parN_size h2; omega, hg⟩
    · rw [hg, h]; rfl
  refine (May_runs n I S).mono ?_
  rintro v J T hle ⟨rfl, rfl⟩
  refine ⟨_, rfl, bcase_of (fun h => ?_) (fun h => main false J (by rw [h]; rfl))⟩
  refine (May_runs on J T).mono ?_
  rintro v J' T' hle' ⟨rfl, rfl⟩
  exact ⟨_, rfl, main _ J' (by rw [h]; rfl)⟩

/-! ### names in data -/
end Go.Proofs.YtcdajekafnggkaaGreatDoor
/- Names are labels, each with its length ahead. -/
namespace Go.Proofs.YtcdajekafnggkaaGreatDoor
open Go.Px
set_option linter.unusedVariables false
set_option linter.unusedSimpArgs false

def wl (l : ByteArray) : List UInt8 := UInt8.ofNat l.size :: l.data.toList
def wire (ls : List ByteArray) : List UInt8 := ls.flatMap wl
def nm (ls : List ByteArray) : ByteArray := ⟨(wire ls).toArray⟩
structure IsLab (l : ByteArray) : Prop where
  lo : 1 ≤ l.size
  hi : l.size ≤ 63
  low : foldB l = l
theorem dlen (l : ByteArray) : l.data.toList.length = l.size := Array.length_toList
theorem nm_size (ls : List ByteArray) : (nm ls).size = (wire ls).length := by simp [nm, ByteArray.size]
theorem wire_cons (l : ByteArray) (ls : List ByteArray) : wire (l :: ls) = UInt8.ofNat l.size :: (l.data.toList ++ wire ls) := rfl
theorem wire_app (a b : List ByteArray) : wire (a ++ b) = wire a ++ wire b := List.flatMap_append
theorem nm_app (a b : List ByteArray) : nm a ++ nm b = nm (a ++ b) := by
  apply ByteArray.ext
  rw [ByteArray.data_append]
  simp [nm, wire_app]
theorem ext_list {a b : ByteArray} (h : a.data.toList = b.data.toList) : a = b := ByteArray.ext (Array.toList_inj.1 h)
theorem ex_list (s : ByteArray) (a b : Nat) : (s.extract a b).data.toList = (s.data.toList.drop a).take (b - a) := by
  rw [ByteArray.data_extract, Array.toList_extract]

theorem nm_list (ls : List ByteArray) : (nm ls).data.toList = wire ls := by simp [nm]
theorem nm_first (l : ByteArray) (ls : List ByteArray) : (nm (l :: ls))[0]? = some (UInt8.ofNat l.size) := by
  have h : 0 < (nm (l :: ls)).size := by rw [nm_size, wire_cons]; simp
  rw [getElem?_pos _ 0 h]
  congr 1
theorem nm_rest (l : ByteArray) (ls : List ByteArray) : (nm (l :: ls)).extract (1 + l.size) (nm (l :: ls)).size = nm ls := by
  apply ext_list
  rw [ex_list, nm_list, nm_list, nm_size, wire_cons, Nat.add_comm 1, List.drop_succ_cons, drop_at (dlen l)]
  rw [List.take_of_length_le]
  simp only [List.length_cons, List.length_append, dlen]; omega
theorem nm_lab (l : ByteArray) (ls : List ByteArray) : (nm (l :: ls)).extract 1 (1 + l.size) = l := by
  apply ext_list
  rw [ex_list, nm_list, wire_cons, List.drop_succ_cons, List.drop_zero, Nat.add_sub_cancel_left, take_at (dlen l)]
theorem nm_cons_size (l : ByteArray) (ls : List ByteArray) : (nm (l :: ls)).size = 1 + l.size + (nm ls).size := by
  rw [nm_size, nm_size, wire_cons]
  simp only [List.length_cons, List.length_append, dlen]; omega
theorem nm_nil : nm [] = ⟨#[]⟩ := rfl
theorem splitN_nm : ∀ (ls : List ByteArray) (f : Nat), (nm ls).size ≤ f → (∀ l ∈ ls, 1 ≤ l.size ∧ l.size ≤ 63) → splitN f (nm ls) = some ls
  | [], f, _, _ => by
    cases f with
    | zero => rfl
    | succ f => rw [splitN, at_none (by rw [nm_nil]; exact Nat.le_refl _)]
  | l :: ls, f, hf, hl => by
    have hs := nm_cons_size l ls
    obtain ⟨h1, h2⟩ := hl l (List.mem_cons_self ..)
    obtain ⟨f, rfl⟩ : ∃ g, f = g + 1 := ⟨f - 1, by omega⟩
    rw [splitN, nm_first]
    have hc : (UInt8.ofNat l.size).toNat = l.size := ofNatU (by omega)
    simp only [hc]
    rw [if_neg (by omega), nm_rest, nm_lab, splitN_nm ls f (by omega) fun x hx => hl x (List.mem_cons_of_mem _ hx)]
    rfl
theorem fold_list (s : ByteArray) : (foldB s).data.toList = s.data.toList.map foldU := by simp [foldB]
theorem foldU_small {n : Nat} (h : n ≤ 63) : foldU (UInt8.ofNat n) = UInt8.ofNat n := by
  have : (UInt8.ofNat n).toNat = n := ofNatU (by omega)
  rw [foldU, if_neg (by omega)]
theorem fold_nm : ∀ (ls : List ByteArray), (∀ l ∈ ls, l.size ≤ 63) → foldB (nm ls) = nm (ls.map foldB)
  | [], _ => rfl
  | l :: ls, h => by
    apply ext_list
    have ih := congrArg (fun s : ByteArray => s.data.toList) (fold_nm ls fun x hx => h x (List.mem_cons_of_mem _ hx))
    rw [fold_list, nm_list, nm_list] at ih
    rw [fold_list, nm_list, nm_list, wire_cons, List.map_cons, List.map_cons, wire_cons, List.map_append, ih, foldU_small (h l (List.mem_cons_self ..)), foldB_size, fold_list]
theorem labN_nm {ls : List ByteArray} (h : ∀ l ∈ ls, IsLab l) (hs : (nm ls).size ≤ 254) : labN (nm ls) = some ls := by
  have hf : foldB (nm ls) = nm ls := by
    rw [fold_nm ls fun l hl => (h l hl).hi]
    congr 1
    have : ls.map foldB = ls.map id := List.map_congr_left fun l hl => (h l hl).low
    rw [this, List.map_id]
  rw [labN, if_neg (by
    rw [hf]
    rintro (h | h)
    · omega
    · exact h rfl)]
  exact splitN_nm ls _ (Nat.le_refl _) fun l hl => ⟨(h l hl).lo, (h l hl).hi⟩
theorem splitN_some : ∀ (f : Nat) (s : ByteArray) (ls : List ByteArray), s.size ≤ f → splitN f s = some ls → s = nm ls ∧ ∀ l ∈ ls, 1 ≤ l.size ∧ l.size ≤ 63
  | 0, s, ls, hf, h => by
    rw [splitN, if_pos (by omega)] at h
    injection h with h; subst h
    refine ⟨ext_list ?_, fun l h => by cases h⟩
    rw [nm_list]
    exact List.eq_nil_of_length_eq_zero (by rw [dlen]; omega)
  | f + 1, s, ls, hf, h => by
    rw [splitN] at h
    cases hc : s[0]? with
    | none =>
      rw [hc] at h
      injection h with h; subst h
      refine ⟨ext_list ?_, fun l h => by cases h⟩
      rw [nm_list]
      refine List.eq_nil_of_length_eq_zero ?_
      rw [dlen]
      rcases Nat.eq_zero_or_pos s.size with e | e
      · exact e
      · rw [getElem?_pos s 0 e] at hc; cases hc
    | some c =>
      rw [hc] at h
      dsimp only at h
      split at h
      · cases h
      · rename_i hg
        have hsz : c.toNat < s.size := by omega
        cases hr : splitN f (s.extract (1 + c.toNat) s.size) with
        | none => rw [hr] at h; cases h
        | some ms =>
          rw [hr] at h
          injection h with h; subst h
          obtain ⟨h1, h2⟩ := splitN_some f _ ms (by rw [ex_size]; omega) hr
          have hl : (s.extract 1 (1 + c.toNat)).size = c.toNat := by rw [ex_size]; omega
          refine ⟨ext_list ?_, fun l hm => ?_⟩
          · have h3 : (s.extract (1 + c.toNat) s.size).data.toList = wire ms := by rw [h1, nm_list]
            rw [ex_list, List.take_of_length_le (by rw [List.length_drop, dlen]; omega)] at h3
            have hpos : 0 < s.data.toList.length := by rw [dlen]; omega
            have h0 : s.data.toList = c :: s.data.toList.drop 1 := by
              have e : s.data.toList[0]? = some c := by
                rw [getElem?_pos s 0 (by omega)] at hc
                rw [List.getElem?_eq_getElem hpos]
                exact hc
              rw [List.getElem?_eq_getElem hpos] at e
              injection e with e
              conv => lhs; rw [← List.drop_zero (l := s.data.toList), List.drop_eq_getElem_cons hpos]
              rw [e]
            have hcc : UInt8.ofNat c.toNat = c := by simp
            rw [nm_list, wire_cons, hl, hcc, ← h3, ex_list, Nat.add_sub_cancel_left, ← List.drop_drop, List.take_append_drop]
            exact h0
          · rcases List.mem_cons.1 hm with rfl | hm
            · rw [hl]; omega
            · exact h2 l hm
theorem map_fix {f : UInt8 → UInt8} : ∀ {l : List UInt8}, l.map f = l → ∀ x ∈ l, f x = x
  | [], _, x, h => by cases h
  | y :: l, h, x, hx => by
    rw [List.map_cons] at h
    injection h with h1 h2
    rcases List.mem_cons.1 hx with rfl | hx
    · exact h1
    · exact map_fix h2 x hx
theorem labN_some {s : ByteArray} {ls : List ByteArray} (h : labN s = some ls) : s = nm ls ∧ (∀ l ∈ ls, IsLab l) ∧ s.size ≤ 254 := by
  unfold labN at h
  split at h
  · cases h
  · rename_i hg
    obtain ⟨h1, h2⟩ := splitN_some _ _ _ (Nat.le_refl _) h
    have hf : foldB s = s := Classical.byContradiction fun e => hg (.inr fun e' => e (toList_inj e').symm)
    refine ⟨h1, fun l hl => ⟨(h2 l hl).1, (h2 l hl).2, ext_list ?_⟩, by omega⟩
    have hb : ∀ b ∈ wire ls, foldU b = b := map_fix (by rw [← nm_list, ← fold_list, ← h1, hf])
    rw [fold_list]
    have : l.data.toList.map foldU = l.data.toList.map id := List.map_congr_left fun b hbm => hb b (List.mem_flatMap.2 ⟨l, hl, List.mem_cons_of_mem _ hbm⟩)
    rw [this, List.map_id]
theorem foldU_idem (u : UInt8) : foldU (foldU u) = foldU u := by
  have hu := u.toNat_lt
  by_cases h : 65 ≤ u.toNat ∧ u.toNat ≤ 90
  · have e : foldU u = UInt8.ofNat (u.toNat + 32) := by rw [foldU, if_pos h]
    have : (UInt8.ofNat (u.toNat + 32)).toNat = u.toNat + 32 := ofNatU (by omega)
    rw [e, foldU, if_neg (by omega)]
  · have e : foldU u = u := by rw [foldU, if_neg h]
    rw [e, e]
theorem foldB_idem (s : ByteArray) : foldB (foldB s) = foldB s := by
  apply ext_list
  rw [fold_list, fold_list, List.map_map]
  exact List.map_congr_left fun u _ => foldU_idem u
theorem makeN_nm : ∀ {ls : List ByteArray} {acc n : ByteArray}, makeN ls acc = some n → n = acc ++ nm (ls.map foldB) ∧ ∀ l ∈ ls, IsLab (foldB l)
  | [], acc, n, h => by
    simp [makeN] at h; subst h
    refine ⟨?_, fun l h => by cases h⟩
    apply ext_list
    rw [ByteArray.data_append]; simp [nm, wire]
  | l :: ls, acc, n, h => by
    unfold makeN at h
    split at h
    · cases h
    · rename_i hg
      obtain ⟨h1, h2⟩ := makeN_nm h
      refine ⟨?_, fun x hx => ?_⟩
      · rw [h1]
        apply ext_list
        simp [ByteArray.data_append, nm, wire_cons, ByteArray.data_push, foldB_size]
      · rcases List.mem_cons.1 hx with rfl | hx
        · exact ⟨by rw [foldB_size]; omega, by rw [foldB_size]; omega, foldB_idem _⟩
        · exact h2 x hx
/-- a name -/
def IsName (s : ByteArray) : Prop := ∃ ls, s = nm ls ∧ (∀ l ∈ ls, IsLab l) ∧ s.size ≤ 254
theorem isName_iff {s : ByteArray} : IsName s ↔ (labN s).isSome = true := by
  constructor
  · rintro ⟨ls, rfl, h1, h2⟩
    rw [labN_nm h1 h2]; rfl
  · intro h
    obtain ⟨ls, h⟩ := Option.isSome_iff_exists.1 h
    exact ⟨ls, labN_some h⟩
/-- a name below another one -/
theorem parN_nm {l : ByteArray} {ls : List ByteArray} (h : ∀ x ∈ l :: ls, IsLab x) (hs : (nm (l :: ls)).size ≤ 254) : parN (nm (l :: ls)) = (nm ls, true) := by
  have hl := h l (List.mem_cons_self ..)
  have hh := hl.hi
  have hc : (UInt8.ofNat l.size).toNat = l.size := ofNatU (by omega)
  unfold parN
  rw [nm_first]
  simp only [labN_nm h hs, Option.isSome_some, if_true, hc, nm_rest]
theorem goB_nm : ∀ (a b : List ByteArray) (f : Nat), a.length < f → (∀ l ∈ a ++ b, IsLab l) → (nm (a ++ b)).size ≤ 254 → goB f (nm (a ++ b)) (nm b) true = true
  | [], b, f, hf, hl, hs => by
    obtain ⟨f, rfl⟩ : ∃ g, f = g + 1 := ⟨f - 1, by omega⟩
    rw [List.nil_append, goB, if_pos rfl, if_pos (by simp)]
  | l :: a, b, f, hf, hl, hs => by
    obtain ⟨f, rfl⟩ : ∃ g, f = g + 1 := ⟨f - 1, by omega⟩
    rw [goB, if_pos rfl]
    split
    · rfl
    · have hp := parN_nm (l := l) (ls := a ++ b) hl hs
      have hz := nm_cons_size l (a ++ b)
      rw [List.cons_append, hp]
      exact goB_nm a b f (by simpa using hf) (fun x hx => hl x (List.mem_cons_of_mem _ hx)) (by rw [List.cons_append] at hs; omega)
theorem wire_len : ∀ ls : List ByteArray, ls.length ≤ (wire ls).length
  | [] => Nat.le_refl _
  | l :: ls => by
    have := wire_len ls
    rw [wire_cons]
    simp only [List.length_cons, List.length_append]; omega
theorem belowB_nm {a b : List ByteArray} (h : ∀ l ∈ a ++ b, IsLab l) (hs : (nm (a ++ b)).size ≤ 254) : belowB (nm (a ++ b)) (nm b) = true := by
  have hb : (nm b).size ≤ 254 := by
    rw [nm_size, wire_app, List.length_append] at hs
    rw [nm_size]; omega
  unfold belowB
  rw [labN_nm h hs, labN_nm (fun l hl => h l (List.mem_append_right _ hl)) hb]
  refine goB_nm a b _ ?_ h hs
  have h1 := wire_len (a ++ b)
  rw [nm_size]
  rw [List.length_append] at h1; omega
theorem below_app {x o : ByteArray} (hx : IsName x) (ho : IsName o) (hs : x.size + o.size ≤ 254) : IsName (x ++ o) ∧ belowB (x ++ o) o = true := by
  obtain ⟨a, rfl, ha, _⟩ := hx
  obtain ⟨b, rfl, hb, _⟩ := ho
  have hl : ∀ l ∈ a ++ b, IsLab l := fun l h => (List.mem_append.1 h).elim (ha l) (hb l)
  have hz : (nm (a ++ b)).size ≤ 254 := by rw [← nm_app, app_size]; exact hs
  rw [nm_app]
  exact ⟨⟨_, rfl, hl, hz⟩, belowB_nm hl hz⟩
end Go.Proofs.YtcdajekafnggkaaGreatDoor
/- A prefix's labels: owner.four, owner.six, owner.Prefix. -/
namespace Go.Proofs.YtcdajekafnggkaaGreatDoor
open Go.Px
set_option linter.unusedVariables false
set_option linter.unusedSimpArgs false
set_option maxRecDepth 8000

abbrev OwnS (v : Value) (xs : List ByteArray) (own : SH) : Prop := OwnR 9 1 elS v xs own
abbrev strL (xs : List ByteArray) : List Value := xs.map Value.string
theorem flat_elS : ∀ xs : List ByteArray, xs.flatMap elS = strL xs
  | [] => rfl
  | x :: xs => by rw [List.flatMap_cons, flat_elS xs]; rfl
theorem map_set_at {α : Type} (f : α → Value) {xs : List α} {i : Nat} (h : i < xs.length) (y : α) (rest : List Value) :
    (xs.map f ++ rest).take i ++ [f y] ++ (xs.map f ++ rest).drop (i + 1) = (xs.set i y).map f ++ rest := by
  rw [List.take_append_of_le_length (by simp; omega), List.drop_append_of_le_length (by simp; omega), List.set_eq_take_append_cons_drop, if_pos h]
  simp
theorem AppS1 {xs : List ByteArray} {l : ByteArray} {b : Nat} {v : Value} {S F own : SH} {I : IMem} {K : Option Addr → Nat → Nat → SH → Prop} (hs : Sub (own ++ F) S) (hv : OwnS v xs own) (hl : xs.length ≤ 1000000000)
    (hK : ∀ p n c own' T, OwnS (.slice p n c) (xs ++ [l]) own' → Sub (own' ++ F) T → K p n c T) :
    AppG 9 1 16 [.string ⟨#[]⟩] (some (.slice 9)) I ((b, .cells #[.string l] 9 (0, 0)) :: S) v (.slice (some ⟨b, 0, none⟩) 1 1) K := by
  obtain ⟨G, hG⟩ := hs
  refine AppG.own (xs := xs) (ys := [l]) (el := elS) (own := own) (F := (b, .cells #[.string l] 9 (0, 0)) :: (F ++ G)) (fun _ => rfl) (fun _ => rfl) rfl ((hG.cons _).trans (by rw [List.append_assoc]; exact perm_mid1)) hv ⟨?_, rfl⟩ ?_ ?_ ?_
  · exact Rd.list (L := elS l) rfl (by simp [elS])
  · simp only [List.length_singleton, maxLen]; omega
  · simp only [List.length_singleton]; omega
  · intro p n c own' ho
    exact hK p n c own' _ ho ⟨(b, .cells #[.string l] 9 (0, 0)) :: G, by rw [List.append_assoc]; exact List.Perm.append_left own' perm_mid1⟩
theorem AppSs {xs ys : List ByteArray} {a : Option Addr} {c : Nat} {v : Value} {S F own : SH} {I : IMem} {K : Option Addr → Nat → Nat → SH → Prop} (hs : Sub (own ++ F) S) (hv : OwnS v xs own) (hy : RowIn I S a ys.length 1 elS ys) (hl : (xs.length + ys.length) * 16 ≤ 140737488355328)
    (hK : ∀ p n c own' T, OwnS (.slice p n c) (xs ++ ys) own' → Sub (own' ++ F) T → K p n c T) :
    AppG 9 1 16 [.string ⟨#[]⟩] (some (.slice 9)) I S v (.slice a ys.length c) K := by
  obtain ⟨G, hG⟩ := hs
  refine AppG.own (xs := xs) (ys := ys) (el := elS) (own := own) (F := F ++ G) (fun _ => rfl) (fun _ => rfl) rfl (by rw [← List.append_assoc]; exact hG) hv ⟨RowIn.rd (el := elS) (sz := 1) (fun _ => rfl) Nat.one_pos hy, flatMap_one (el := elS) (fun _ => rfl) _⟩ ?_ ?_ ?_
  · simp only [maxLen]; omega
  · omega
  · intro p n c own' ho
    exact hK p n c own' _ ho ⟨G, by rw [List.append_assoc]⟩
theorem OwnS.mk {xs : List ByteArray} {g cap : Nat} {rest : List Value} (h : xs.length + rest.length = cap) (hm : cap ≤ maxLen) : OwnS (.slice (some ⟨g, 0, none⟩) xs.length cap) xs [(g, .cells (strL xs ++ rest).toArray 9 (0, 0))] :=
  .inr ⟨g, cap, rest, rfl, by rw [flat_elS], by omega, hm⟩
theorem OwnS.cases {a : Option Addr} {n c : Nat} {xs : List ByteArray} {own : SH} (h : OwnS (.slice a n c) xs own) : (a = none ∧ n = 0 ∧ c = 0 ∧ xs = [] ∧ own = []) ∨
    ∃ g rest, a = some ⟨g, 0, none⟩ ∧ n = xs.length ∧ own = [(g, .cells (strL xs ++ rest).toArray 9 (0, 0))] ∧ xs.length + rest.length = c ∧ c ≤ maxLen := by
  rcases h with ⟨hv, rfl, rfl⟩ | ⟨g, cap, rest, hv, rfl, hc, hm⟩
  · injection hv with h1 h2 h3; exact .inl ⟨h1, h2, h3, rfl, rfl⟩
  · injection hv with h1 h2 h3; subst h3
    exact .inr ⟨g, rest, h1, h2, by rw [flat_elS], by omega, hm⟩
theorem OwnS.row {I : IMem} {a : Option Addr} {n c : Nat} {xs : List ByteArray} {own : SH} (h : OwnS (.slice a n c) xs own) : RowIn I own a n 1 elS xs := OwnR.row (el := elS) (sz := 1) (fun _ => rfl) h

/-! ### four -/
def bat (a : ByteArray) (k : Nat) : Nat := (a[k]?.map (·.toNat)).getD 0
theorem bat_of {a : ByteArray} {k : Nat} {c : UInt8} (h : a[k]? = some c) : bat a k = c.toNat := by rw [bat, h]; rfl
theorem bat_lt (a : ByteArray) (k : Nat) : bat a k < 256 := by
  rw [bat]
  cases a[k]? with
  | none => decide
  | some c => exact c.toNat_lt
def fourL (a : ByteArray) : List ByteArray := [decB (bat a 3), decB (bat a 2), decB (bat a 1), decB (bat a 0)]
theorem fourL_at (a : ByteArray) {j : Nat} (h : j < 4) : (fourL a)[j]? = some (decB (bat a (3 - j))) := by
  rcases j with _ | _ | _ | _ | j
  · rfl
  · rfl
  · rfl
  · rfl
  · omega
theorem four_runs {a : ByteArray} (ha : a.size = 4) {I : IMem} (g : GL I) (S : SH) : Runs Tryz.prog 59 #[.string a] I S fun v _ T => ∃ own, OwnS v (fourL a) own ∧ Sub (own ++ S) T := by
  refine owner_four_fn _ _ _ _ ?_
  unfold owner_four owner_four_b1 owner_four_b2
  refine ⟨fun m s o on oc k J T => s = a ∧ I.le J ∧ ∃ (j : Nat) (own : SH), j ≤ 4 ∧ k = 3 - (j : Int) ∧ m = 4 - j ∧ OwnS (.slice o on oc) ((fourL a).take j) own ∧ Sub (own ++ S) T, 4, ⟨rfl, IMem.le.refl I, 0, [], by omega, rfl, rfl, OwnR.nil, Sub.refl _⟩, ?_⟩
  rintro m s o on oc k J T - ⟨rfl, hle, j, own, hj, rfl, rfl, ho, hs⟩
  unfold owner_four_l3 owner_four_b4
  refine bcase_dec (fun h => ?_) (fun h => ?_)
  · have hk : (3 - (j : Int)).toNat = 3 - j := by omega
    rw [hk]
    obtain ⟨c, hc⟩ := at_ok (s := s) (k := 3 - j) (by omega)
    refine ⟨c, by omega, hc, ?_⟩
    rw [wrap_c]
    refine (Itoa_runs (n := c.toNat) (by have := c.toNat_lt; omega) (g.le hle) T).mono ?_
    rintro v J1 T1 hle1 ⟨rfl, rfl⟩
    refine ⟨_, rfl, fun b15 => AppS1 hs ho (by rw [List.length_take]; simp [fourL]; omega) ?_⟩
    intro p n c' own' T' ho' hs'
    refine ⟨4 - (j + 1), by omega, rfl, hle.trans hle1, j + 1, own', by omega, ?_, rfl, ?_, hs'⟩
    · rw [wrap_i64 (by omega) (by omega)]; omega
    · rw [take_snoc (fourL_at s (j := j) (by omega)), bat_of hc]; exact ho'
  · have : j = 4 := by omega
    subst this
    exact ⟨own, ho, hs⟩

/-! ### reversed -/
theorem Rev_runs {xs : List ByteArray} {g c : Nat} {rest : List Value} {e : TypeId} (hl : xs.length ≤ 4611686018427387904) (I : IMem) (F : SH) :
    Runs Tryz.prog 67 #[.slice (some ⟨g, 0, none⟩) xs.length c] I ((g, .cells (strL xs ++ rest).toArray e (0, 0)) :: F) fun v _ T => v = .tuple #[] ∧ T = (g, .cells (strL xs.reverse ++ rest).toArray e (0, 0)) :: F := by
  refine slices_Reverse__string_string_fn _ _ _ _ _ _ ?_
  unfold slices_Reverse__string_string slices_Reverse__string_string_b1
  rw [wrap_i64 (x := (xs.length : Int) - 1) (by omega) (by omega)]
  refine ⟨fun m s sn sc i j J T => s = some ⟨g, 0, none⟩ ∧ sn = xs.length ∧ ∃ (k : Nat) (ys : List ByteArray), i = (k : Int) ∧ j = (xs.length : Int) - 1 - (k : Int) ∧ m = xs.length - k ∧ k ≤ xs.length ∧ ys.length = xs.length ∧
      (∀ t, t < xs.length → ys[t]? = if t < k ∨ xs.length - 1 - k < t then xs[xs.length - 1 - t]? else xs[t]?) ∧ T = (g, .cells (strL ys ++ rest).toArray e (0, 0)) :: F,
    xs.length, ⟨rfl, rfl, 0, xs, rfl, by omega, rfl, Nat.zero_le _, rfl, fun t ht => by rw [if_neg (by omega)], rfl⟩, ?_⟩
  rintro m s sn sc i j J T - ⟨rfl, rfl, k, ys, rfl, rfl, rfl, hk, hyl, hy, rfl⟩
  unfold slices_Reverse__string_string_l2
  refine bcase_dec (fun h => ?_) (fun h => ⟨rfl, ?_⟩)
  · unfold slices_Reverse__string_string_b3 slices_Reverse__string_string_b4
    have hj : ((xs.length : Int) - 1 - (k : Int)).toNat = xs.length - 1 - k := by omega
    obtain ⟨x, hx⟩ := get_lt (xs := ys) (k := xs.length - 1 - k) (by omega)
    obtain ⟨y, hyk⟩ := get_lt (xs := ys) (k := k) (by omega)
    have ea : ∀ t : Nat, (⟨g, 0, none⟩ : Addr).add (t * 1) = ⟨g, t, none⟩ := fun t => by rw [add_mk]; congr 1; omega
    have cell : ∀ (zs : List ByteArray) (t : Nat) (z : ByteArray), zs[t]? = some z → Cell J ((g, .cells (strL zs ++ rest).toArray e (0, 0)) :: F) ⟨g, t, none⟩ (.string z) := fun zs t z hz => by
      refine Cell.at0 ?_
      rw [List.getElem?_toArray, List.getElem?_append_left (by rw [List.length_map]; exact lt_get hz), List.getElem?_map, hz]; rfl
    refine ⟨by omega, by omega, x, by rw [hj, ea]; exact cell _ _ _ hx, by omega, by omega, y, by rw [Int.toNat_natCast, ea]; exact cell _ _ _ hyk, by omega, by omega, ?_⟩
    rw [Int.toNat_natCast, ea]
    refine StP.list (o := k) (by simp; omega) rfl ?_
    rw [List.length_singleton, map_set_at Value.string (by omega : k < ys.length)]
    refine ⟨by omega, by omega, ?_⟩
    rw [hj, ea]
    refine StP.list (o := xs.length - 1 - k) (by simp; omega) rfl ?_
    rw [List.length_singleton, map_set_at Value.string (by rw [List.length_set]; omega)]
    refine ⟨xs.length - (k + 1), by omega, rfl, rfl, k + 1, (ys.set k x).set (xs.length - 1 - k) y, by rw [wrap_i64 (by omega) (by omega)]; rfl, by rw [wrap_i64 (by omega) (by omega)]; omega, rfl, by omega, by simp [hyl], fun t ht => ?_, rfl⟩
    have hxk : ys[xs.length - 1 - k]? = xs[xs.length - 1 - k]? := by rw [hy _ (by omega), if_neg (by omega)]
    have hyk' : ys[k]? = xs[k]? := by rw [hy _ (by omega), if_neg (by omega)]
    rw [List.getElem?_set, List.getElem?_set]
    by_cases h1 : xs.length - 1 - k = t
    · rw [if_pos h1, if_pos (by rw [List.length_set]; omega), if_pos (by omega), ← hyk, hyk', ← h1]
      congr 1; omega
    · rw [if_neg h1]
      by_cases h2 : k = t
      · rw [if_pos h2, if_pos (by omega), if_pos (by omega), ← hx, hxk, h2]
      · rw [if_neg h2, hy t ht]
        by_cases h3 : t < k ∨ xs.length - 1 - k < t
        · rw [if_pos h3, if_pos (by omega)]
        · rw [if_neg h3, if_neg (by omega)]
  · have : ys = xs.reverse := by
      apply List.ext_getElem?
      intro t
      by_cases ht : t < xs.length
      · rw [hy t ht, List.getElem?_reverse ht]
        by_cases h3 : t < k ∨ xs.length - 1 - k < t
        · rw [if_pos h3]
        · rw [if_neg h3]; congr 1; omega
      · rw [List.getElem?_eq_none (by omega), List.getElem?_eq_none (by simp; omega)]
    rw [this]
theorem RevO_runs {xs : List ByteArray} {p : Option Addr} {n c : Nat} {own : SH} (h : OwnS (.slice p n c) xs own) (hl : xs.length ≤ 4611686018427387904) (I : IMem) (F : SH) :
    Runs Tryz.prog 67 #[.slice p n c] I (own ++ F) fun v _ T => v = .tuple #[] ∧ ∃ own', OwnS (.slice p n c) xs.reverse own' ∧ T = own' ++ F := by
  rcases h with ⟨hv, rfl, rfl⟩ | ⟨g, cap, rest, hv, rfl, hc, hm⟩
  · injection hv with h1 h2 h3; subst h1; subst h2; subst h3
    refine slices_Reverse__string_string_fn _ _ _ _ _ _ ?_
    unfold slices_Reverse__string_string slices_Reverse__string_string_b1 slices_Reverse__string_string_l2
    refine ⟨fun m s sn sc i j J T => i = 0 ∧ j < 0 ∧ T = [] ++ F, 0, ⟨rfl, by decide, rfl⟩, ?_⟩
    rintro m s sn sc i j J T - ⟨rfl, hj, rfl⟩
    exact bcase_f (decide_eq_false (by omega)) ⟨rfl, [], .inl ⟨rfl, rfl, rfl⟩, rfl⟩
  · injection hv with h1 h2 h3; subst h1; subst h2; subst h3
    rw [flat_elS]
    refine (Rev_runs hl I F).mono ?_
    rintro v J T _ ⟨rfl, rfl⟩
    refine ⟨rfl, _, .inr ⟨g, c, rest, by rw [List.length_reverse], rfl, by rw [List.length_reverse]; exact hc, hm⟩, ?_⟩
    rw [flat_elS]; rfl
end Go.Proofs.YtcdajekafnggkaaGreatDoor
