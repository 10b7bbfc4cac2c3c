import Derived.Test.YtkagfmlaolmdnaaDoorProg
import Derived.Test.YtkagfmlaolmdnaaDoorPx6
set_option linter.unusedVariables false
set_option maxRecDepth 8000
set_option maxHeartbeats 2000000
namespace Go.Proofs.YtkagfmlaolmdnaaDoor
open Go.Px
/-! ### bolterlaw25_EventMay: function 10, bolter/bolterlaw25.EventMay -/
noncomputable def bolterlaw25_EventMay_code : Code := (Tryd.f10.body).getD .skip
def bolterlaw25_EventMay_b2 (R : Value → IMem → SH → Prop) (x2 : Bool) (I : IMem) (S : SH) : Prop :=
  R (.bool x2) I S
def bolterlaw25_EventMay_b1 (R : Value → IMem → SH → Prop) (e_1 : Addr) (b_3 : Option Addr) (b_3n : Nat) (b_3c : Nat) (ok_4 : Bool) (I : IMem) (S : SH) : Prop :=
  ∃ x12_0, Cell I S e_1 (.int .i64 x12_0) ∧
  ∃ x12_1, Cell I S (e_1.add 1) (.string x12_1) ∧
  ∃ x12_2, Cell I S (e_1.add 2) (.string x12_2) ∧
  ∃ x12_3, Cell I S (e_1.add 3) (.int .u16 x12_3) ∧
  ∃ x12_4, Cell I S (e_1.add 4) (.int .i64 x12_4) ∧
  ∃ x12_5, Cell I S (e_1.add 5) (.int .i64 x12_5) ∧
  ∃ x12_6, Cell I S (e_1.add 6) (.string x12_6) ∧
  ∃ x12_7, Cell I S (e_1.add 7) (.string x12_7) ∧
  ∃ x12_8, Cell I S (e_1.add 8) (.int .i64 x12_8) ∧
  ∃ x12_9, Cell I S (e_1.add 9) (.int .i64 x12_9) ∧
  ∃ x14_0, Cell I S e_1 (.int .i64 x14_0) ∧
  ∃ x14_1, Cell I S (e_1.add 1) (.string x14_1) ∧
  ∃ x14_2, Cell I S (e_1.add 2) (.string x14_2) ∧
  ∃ x14_3, Cell I S (e_1.add 3) (.int .u16 x14_3) ∧
  ∃ x14_4, Cell I S (e_1.add 4) (.int .i64 x14_4) ∧
  ∃ x14_5, Cell I S (e_1.add 5) (.int .i64 x14_5) ∧
  ∃ x14_6, Cell I S (e_1.add 6) (.string x14_6) ∧
  ∃ x14_7, Cell I S (e_1.add 7) (.string x14_7) ∧
  ∃ x14_8, Cell I S (e_1.add 8) (.int .i64 x14_8) ∧
  ∃ x14_9, Cell I S (e_1.add 9) (.int .i64 x14_9) ∧
  Runs Tryd.prog 31 #[.agg #[.int .i64 x12_0, .string x12_1, .string x12_2, .int .u16 x12_3, .int .i64 x12_4, .int .i64 x12_5, .string x12_6, .string x12_7, .int .i64 x12_8, .int .i64 x12_9]] I S fun v I1 S1 => ∃ x13, v = .bool x13 ∧
  Keep I S I1 S1 ∧
  Runs Tryd.prog 32 #[.agg #[.int .i64 x14_0, .string x14_1, .string x14_2, .int .u16 x14_3, .int .i64 x14_4, .int .i64 x14_5, .string x14_6, .string x14_7, .int .i64 x14_8, .int .i64 x14_9]] I1 S1 fun v' I1' S1' => ∃ x15, v' = .bool x15 ∧
  Keep I S I1' S1' ∧
  bcase (x13 == x15)
    (∃ x19_0, Cell I S e_1 (.int .i64 x19_0) ∧
    ∃ x19_1, Cell I S (e_1.add 1) (.string x19_1) ∧
    ∃ x19_2, Cell I S (e_1.add 2) (.string x19_2) ∧
    ∃ x19_3, Cell I S (e_1.add 3) (.int .u16 x19_3) ∧
    ∃ x19_4, Cell I S (e_1.add 4) (.int .i64 x19_4) ∧
    ∃ x19_5, Cell I S (e_1.add 5) (.int .i64 x19_5) ∧
    ∃ x19_6, Cell I S (e_1.add 6) (.string x19_6) ∧
    ∃ x19_7, Cell I S (e_1.add 7) (.string x19_7) ∧
    ∃ x19_8, Cell I S (e_1.add 8) (.int .i64 x19_8) ∧
    ∃ x19_9, Cell I S (e_1.add 9) (.int .i64 x19_9) ∧
    Runs Tryd.prog 32 #[.agg #[.int .i64 x19_0, .string x19_1, .string x19_2, .int .u16 x19_3, .int .i64 x19_4, .int .i64 x19_5, .string x19_6, .string x19_7, .int .i64 x19_8, .int .i64 x19_9]] I1' S1' fun v'' I1'' S1'' => ∃ x20, v'' = .bool x20 ∧
    Keep I S I1'' S1'' ∧
    bcase (ok_4 == x20)
      (bcase ok_4
        (∃ x27 : ByteArray, BytesAt I S b_3 b_3n x27 ∧
        ∃ x28_0, Cell I S e_1 (.int .i64 x28_0) ∧
        ∃ x28_1, Cell I S (e_1.add 1) (.string x28_1) ∧
        ∃ x28_2, Cell I S (e_1.add 2) (.string x28_2) ∧
        ∃ x28_3, Cell I S (e_1.add 3) (.int .u16 x28_3) ∧
        ∃ x28_4, Cell I S (e_1.add 4) (.int .i64 x28_4) ∧
        ∃ x28_5, Cell I S (e_1.add 5) (.int .i64 x28_5) ∧
        ∃ x28_6, Cell I S (e_1.add 6) (.string x28_6) ∧
        ∃ x28_7, Cell I S (e_1.add 7) (.string x28_7) ∧
        ∃ x28_8, Cell I S (e_1.add 8) (.int .i64 x28_8) ∧
        ∃ x28_9, Cell I S (e_1.add 9) (.int .i64 x28_9) ∧
        Runs Tryd.prog 33 #[.agg #[.int .i64 x28_0, .string x28_1, .string x28_2, .int .u16 x28_3, .int .i64 x28_4, .int .i64 x28_5, .string x28_6, .string x28_7, .int .i64 x28_8, .int .i64 x28_9]] I1'' S1'' fun v_r3 I1_r3 S1_r3 => ∃ x29, v_r3 = .string x29 ∧
        Keep I S I1_r3 S1_r3 ∧
        bcase (x27.toList == x29.toList)
          (bolterlaw25_EventMay_b2 R true I1_r3 S1_r3)
          (bcase (!ok_4)
            (bolterlaw25_EventMay_b2 R ((b_3n : Int) == (0 : Int)) I1_r3 S1_r3)
            (bolterlaw25_EventMay_b2 R false I1_r3 S1_r3)))
        (Keep I S I1'' S1'' ∧
        bcase (!ok_4)
          (bolterlaw25_EventMay_b2 R ((b_3n : Int) == (0 : Int)) I1'' S1'')
          (bolterlaw25_EventMay_b2 R false I1'' S1'')))
      (Keep I S I1'' S1'' ∧
      bolterlaw25_EventMay_b2 R false I1'' S1''))
    (Keep I S I1' S1' ∧
    Keep I S I1' S1' ∧
    bolterlaw25_EventMay_b2 R false I1' S1')
def bolterlaw25_EventMay (R : Value → IMem → SH → Prop) (e_0_0 : Int) (e_0_1 : ByteArray) (e_0_2 : ByteArray) (e_0_3 : Int) (e_0_4 : Int) (e_0_5 : Int) (e_0_6 : ByteArray) (e_0_7 : ByteArray) (e_0_8 : Int) (e_0_9 : Int) (I : IMem) (S : SH) : Prop :=
  ∀ b1 : Nat,
  Runs Tryd.prog 29 #[] I ((b1, .cells #[.int .i64 e_0_0, .string e_0_1, .string e_0_2, .int .u16 e_0_3, .int .i64 e_0_4, .int .i64 e_0_5, .string e_0_6, .string e_0_7, .int .i64 e_0_8, .int .i64 e_0_9] 65 (0, 0)) :: S) fun v I1 S1 => ∃ x5, v = .bool x5 ∧
  bcase (!x5)
    (R (.bool false) I1 S1)
    (∃ x8_0, Cell I1 S1 ⟨b1, 0, none⟩ (.int .i64 x8_0) ∧
    ∃ x8_1, Cell I1 S1 ⟨b1, 1, none⟩ (.string x8_1) ∧
    ∃ x8_2, Cell I1 S1 ⟨b1, 2, none⟩ (.string x8_2) ∧
    ∃ x8_3, Cell I1 S1 ⟨b1, 3, none⟩ (.int .u16 x8_3) ∧
    ∃ x8_4, Cell I1 S1 ⟨b1, 4, none⟩ (.int .i64 x8_4) ∧
    ∃ x8_5, Cell I1 S1 ⟨b1, 5, none⟩ (.int .i64 x8_5) ∧
    ∃ x8_6, Cell I1 S1 ⟨b1, 6, none⟩ (.string x8_6) ∧
    ∃ x8_7, Cell I1 S1 ⟨b1, 7, none⟩ (.string x8_7) ∧
    ∃ x8_8, Cell I1 S1 ⟨b1, 8, none⟩ (.int .i64 x8_8) ∧
    ∃ x8_9, Cell I1 S1 ⟨b1, 9, none⟩ (.int .i64 x8_9) ∧
    Runs Tryd.prog 30 #[.agg #[.int .i64 x8_0, .string x8_1, .string x8_2, .int .u16 x8_3, .int .i64 x8_4, .int .i64 x8_5, .string x8_6, .string x8_7, .int .i64 x8_8, .int .i64 x8_9]] I1 S1 fun v' I1' S1' => ∃ x9_0 x9_0n x9_0c x9_1, v' = .tuple #[.slice x9_0 x9_0n x9_0c, .bool x9_1] ∧
    bolterlaw25_EventMay_b1 R ⟨b1, 0, none⟩ x9_0 x9_0n x9_0c x9_1 I1' S1')
theorem bolterlaw25_EventMay_fn (R : Value → IMem → SH → Prop) (e_0_0 : Int) (e_0_1 : ByteArray) (e_0_2 : ByteArray) (e_0_3 : Int) (e_0_4 : Int) (e_0_5 : Int) (e_0_6 : ByteArray) (e_0_7 : ByteArray) (e_0_8 : Int) (e_0_9 : Int) (I : IMem) (S : SH) (h : bolterlaw25_EventMay R e_0_0 e_0_1 e_0_2 e_0_3 e_0_4 e_0_5 e_0_6 e_0_7 e_0_8 e_0_9 I S) :
    Runs Tryd.prog 10 #[.agg #[.int .i64 e_0_0, .string e_0_1, .string e_0_2, .int .u16 e_0_3, .int .i64 e_0_4, .int .i64 e_0_5, .string e_0_6, .string e_0_7, .int .i64 e_0_8, .int .i64 e_0_9]] I S R := by
  refine Runs.of_wp (args := [.agg #[.int .i64 e_0_0, .string e_0_1, .string e_0_2, .int .u16 e_0_3, .int .i64 e_0_4, .int .i64 e_0_5, .string e_0_6, .string e_0_7, .int .i64 e_0_8, .int .i64 e_0_9]]) (c := bolterlaw25_EventMay_code) Tryd.func10 (by kernel_rfl) (by kernel_rfl) ?_
  refine WP.cut 3 (fun l I S => asAdr (l 1) fun e_1 => asSl (l 3) fun b_3 b_3n b_3c => asB (l 4) fun ok_4 => bolterlaw25_EventMay_b1 R e_1 b_3 b_3n b_3c ok_4 I S) (cast (by kernel_rfl) h) ?_
  clear h
  intro l I S _ h
  obtain ⟨e_1, e1, h⟩ := asAdr_e h
  obtain ⟨b_3, b_3n, b_3c, e3, h⟩ := asSl_e h
  obtain ⟨ok_4, e4, h⟩ := asB_e h
  rw [upd_eta e1, upd_eta e3, upd_eta e4]
  refine WP.seqY (by kernel_rfl) (fun l I S => asB (l 2) fun x2 => bolterlaw25_EventMay_b2 R x2 I S) ?_ ?_
  ·
    exact WP.draw' (.take 0 (.take 2 (.step 1 (.step 3 (.take 4 (.take 5 (.take 6 (.take 7 (.step 8 (.take 9 (.take 10 (.take 11 (.take 12 (.take 13 (.take 14 (.take 15 (.take 16 (.step 17 (.take 18 (.take 19 (.take 20 (.take 21 (.take 22 (.take 23 (.take 24 (.take 25 (.take 26 (.take 27 (.take 28 (.take 29 (.take 30 .done))))))))))))))))))))))))))))))) [1, 3, 8, 17] (by kernel_rfl) (by kernel_rfl) (by kernel_rfl) (by kernel_rfl) (by kernel_rfl) (cast (by kernel_rfl) h)
  · clear h
    intro l I S _ h
    obtain ⟨x2, e2, h⟩ := asB_e h
    rw [upd_eta e2]
    exact Pre.sound _ _ _ _ _ (cast (by kernel_rfl) h)
/-! ### bolterlaw25_EventTwo: function 11, bolter/bolterlaw25.EventTwo -/
noncomputable def bolterlaw25_EventTwo_code : Code := (Tryd.f11.body).getD .skip
def bolterlaw25_EventTwo_b5 (R : Value → IMem → SH → Prop) (x8 : Bool) (I : IMem) (S : SH) : Prop :=
  R (.bool x8) I S
def bolterlaw25_EventTwo_b4 (R : Value → IMem → SH → Prop) (a_4 : Addr) (b_5 : Addr) (x_10 : Addr) (y_11 : Addr) (p_12 : Option Addr) (p_12n : Nat) (p_12c : Nat) (one_13 : Bool) (q_14 : Option Addr) (q_14n : Nat) (q_14c : Nat) (two_15 : Bool) (r_16 : Option Addr) (r_16n : Nat) (r_16c : Nat) (three_17 : Bool) (v_18 : Option Addr) (v_18n : Nat) (v_18c : Nat) (four_19 : Bool) (I : IMem) (S : SH) : Prop :=
  bcase one_13
    (bcase two_15
      (∃ x65 : ByteArray, BytesAt I S p_12 p_12n x65 ∧
      ∃ x67 : ByteArray, BytesAt I S q_14 q_14n x67 ∧
      ∃ x69_0, Cell I S x_10 (.int .i64 x69_0) ∧
      ∃ x69_1, Cell I S (x_10.add 1) (.string x69_1) ∧
      ∃ x69_2, Cell I S (x_10.add 2) (.string x69_2) ∧
      ∃ x69_3, Cell I S (x_10.add 3) (.int .u16 x69_3) ∧
      ∃ x69_4, Cell I S (x_10.add 4) (.int .i64 x69_4) ∧
      ∃ x69_5, Cell I S (x_10.add 5) (.int .i64 x69_5) ∧
      ∃ x69_6, Cell I S (x_10.add 6) (.string x69_6) ∧
      ∃ x69_7, Cell I S (x_10.add 7) (.string x69_7) ∧
      ∃ x69_8, Cell I S (x_10.add 8) (.int .i64 x69_8) ∧
      ∃ x69_9, Cell I S (x_10.add 9) (.int .i64 x69_9) ∧
      ∃ x70_0, Cell I S y_11 (.int .i64 x70_0) ∧
      ∃ x70_1, Cell I S (y_11.add 1) (.string x70_1) ∧
      ∃ x70_2, Cell I S (y_11.add 2) (.string x70_2) ∧
      ∃ x70_3, Cell I S (y_11.add 3) (.int .u16 x70_3) ∧
      ∃ x70_4, Cell I S (y_11.add 4) (.int .i64 x70_4) ∧
      ∃ x70_5, Cell I S (y_11.add 5) (.int .i64 x70_5) ∧
      ∃ x70_6, Cell I S (y_11.add 6) (.string x70_6) ∧
      ∃ x70_7, Cell I S (y_11.add 7) (.string x70_7) ∧
      ∃ x70_8, Cell I S (y_11.add 8) (.int .i64 x70_8) ∧
      ∃ x70_9, Cell I S (y_11.add 9) (.int .i64 x70_9) ∧
      bcase ((x65.toList == x67.toList) == (((x69_0 : Int) == (x70_0 : Int)) && (((x69_1 : ByteArray) == (x70_1 : ByteArray)) && (((x69_2 : ByteArray) == (x70_2 : ByteArray)) && (((x69_3 : Int) == (x70_3 : Int)) && (((x69_4 : Int) == (x70_4 : Int)) && ((((x69_5 : Int) == (x70_5 : Int)) && (((x69_6 : ByteArray) == (x70_6 : ByteArray)) && ((((x69_7 : ByteArray) == (x70_7 : ByteArray)) && (((x69_8 : Int) == (x70_8 : Int)) && true)) && true))) && (((x69_9 : Int) == (x70_9 : Int)) && true))))))))
        (bcase (!three_17)
          (bolterlaw25_EventTwo_b5 R true I S)
          (bcase (!four_19)
            (bolterlaw25_EventTwo_b5 R true I S)
            (∃ x83 : ByteArray, BytesAt I S r_16 r_16n x83 ∧
            ∃ x85 : ByteArray, BytesAt I S v_18 v_18n x85 ∧
            ∃ x87_0, Cell I S a_4 (.int .i64 x87_0) ∧
            ∃ x87_1, Cell I S (a_4.add 1) (.string x87_1) ∧
            ∃ x87_2, Cell I S (a_4.add 2) (.string x87_2) ∧
            ∃ x87_3, Cell I S (a_4.add 3) (.int .u16 x87_3) ∧
            ∃ x87_4, Cell I S (a_4.add 4) (.int .i64 x87_4) ∧
            ∃ x87_5, Cell I S (a_4.add 5) (.int .i64 x87_5) ∧
            ∃ x87_6, Cell I S (a_4.add 6) (.string x87_6) ∧
            ∃ x87_7, Cell I S (a_4.add 7) (.string x87_7) ∧
            ∃ x87_8, Cell I S (a_4.add 8) (.int .i64 x87_8) ∧
            ∃ x87_9, Cell I S (a_4.add 9) (.int .i64 x87_9) ∧
            ∃ x88_0, Cell I S b_5 (.int .i64 x88_0) ∧
            ∃ x88_1, Cell I S (b_5.add 1) (.string x88_1) ∧
            ∃ x88_2, Cell I S (b_5.add 2) (.string x88_2) ∧
            ∃ x88_3, Cell I S (b_5.add 3) (.int .u16 x88_3) ∧
            ∃ x88_4, Cell I S (b_5.add 4) (.int .i64 x88_4) ∧
            ∃ x88_5, Cell I S (b_5.add 5) (.int .i64 x88_5) ∧
            ∃ x88_6, Cell I S (b_5.add 6) (.string x88_6) ∧
            ∃ x88_7, Cell I S (b_5.add 7) (.string x88_7) ∧
            ∃ x88_8, Cell I S (b_5.add 8) (.int .i64 x88_8) ∧
            ∃ x88_9, Cell I S (b_5.add 9) (.int .i64 x88_9) ∧
            bolterlaw25_EventTwo_b5 R ((x83.toList == x85.toList) == (((x87_0 : Int) == (x88_0 : Int)) && (((x87_1 : ByteArray) == (x88_1 : ByteArray)) && (((x87_2 : ByteArray) == (x88_2 : ByteArray)) && (((x87_3 : Int) == (x88_3 : Int)) && (((x87_4 : Int) == (x88_4 : Int)) && ((((x87_5 : Int) == (x88_5 : Int)) && (((x87_6 : ByteArray) == (x88_6 : ByteArray)) && ((((x87_7 : ByteArray) == (x88_7 : ByteArray)) && (((x87_8 : Int) == (x88_8 : Int)) && true)) && true))) && (((x87_9 : Int) == (x88_9 : Int)) && true)))))))) I S)))
        (bolterlaw25_EventTwo_b5 R false I S))
      (bolterlaw25_EventTwo_b5 R false I S))
    (bolterlaw25_EventTwo_b5 R false I S)
def bolterlaw25_EventTwo_b3 (R : Value → IMem → SH → Prop) (a_4 : Addr) (b_5 : Addr) (x_10 : Addr) (y_11 : Addr) (I : IMem) (S : SH) : Prop :=
  ∃ x40_0, Cell I S x_10 (.int .i64 x40_0) ∧
  ∃ x40_1, Cell I S (x_10.add 1) (.string x40_1) ∧
  ∃ x40_2, Cell I S (x_10.add 2) (.string x40_2) ∧
  ∃ x40_3, Cell I S (x_10.add 3) (.int .u16 x40_3) ∧
  ∃ x40_4, Cell I S (x_10.add 4) (.int .i64 x40_4) ∧
  ∃ x40_5, Cell I S (x_10.add 5) (.int .i64 x40_5) ∧
  ∃ x40_6, Cell I S (x_10.add 6) (.string x40_6) ∧
  ∃ x40_7, Cell I S (x_10.add 7) (.string x40_7) ∧
  ∃ x40_8, Cell I S (x_10.add 8) (.int .i64 x40_8) ∧
  ∃ x40_9, Cell I S (x_10.add 9) (.int .i64 x40_9) ∧
  Runs Tryd.prog 30 #[.agg #[.int .i64 x40_0, .string x40_1, .string x40_2, .int .u16 x40_3, .int .i64 x40_4, .int .i64 x40_5, .string x40_6, .string x40_7, .int .i64 x40_8, .int .i64 x40_9]] I S fun v I1 S1 => ∃ x41_0 x41_0n x41_0c x41_1, v = .tuple #[.slice x41_0 x41_0n x41_0c, .bool x41_1] ∧
  ∃ x45_0, Cell I1 S1 y_11 (.int .i64 x45_0) ∧
  ∃ x45_1, Cell I1 S1 (y_11.add 1) (.string x45_1) ∧
  ∃ x45_2, Cell I1 S1 (y_11.add 2) (.string x45_2) ∧
  ∃ x45_3, Cell I1 S1 (y_11.add 3) (.int .u16 x45_3) ∧
  ∃ x45_4, Cell I1 S1 (y_11.add 4) (.int .i64 x45_4) ∧
  ∃ x45_5, Cell I1 S1 (y_11.add 5) (.int .i64 x45_5) ∧
  ∃ x45_6, Cell I1 S1 (y_11.add 6) (.string x45_6) ∧
  ∃ x45_7, Cell I1 S1 (y_11.add 7) (.string x45_7) ∧
  ∃ x45_8, Cell I1 S1 (y_11.add 8) (.int .i64 x45_8) ∧
  ∃ x45_9, Cell I1 S1 (y_11.add 9) (.int .i64 x45_9) ∧
  Runs Tryd.prog 30 #[.agg #[.int .i64 x45_0, .string x45_1, .string x45_2, .int .u16 x45_3, .int .i64 x45_4, .int .i64 x45_5, .string x45_6, .string x45_7, .int .i64 x45_8, .int .i64 x45_9]] I1 S1 fun v' I1' S1' => ∃ x46_0 x46_0n x46_0c x46_1, v' = .tuple #[.slice x46_0 x46_0n x46_0c, .bool x46_1] ∧
  ∃ x50_0, Cell I1' S1' a_4 (.int .i64 x50_0) ∧
  ∃ x50_1, Cell I1' S1' (a_4.add 1) (.string x50_1) ∧
  ∃ x50_2, Cell I1' S1' (a_4.add 2) (.string x50_2) ∧
  ∃ x50_3, Cell I1' S1' (a_4.add 3) (.int .u16 x50_3) ∧
  ∃ x50_4, Cell I1' S1' (a_4.add 4) (.int .i64 x50_4) ∧
  ∃ x50_5, Cell I1' S1' (a_4.add 5) (.int .i64 x50_5) ∧
  ∃ x50_6, Cell I1' S1' (a_4.add 6) (.string x50_6) ∧
  ∃ x50_7, Cell I1' S1' (a_4.add 7) (.string x50_7) ∧
  ∃ x50_8, Cell I1' S1' (a_4.add 8) (.int .i64 x50_8) ∧
  ∃ x50_9, Cell I1' S1' (a_4.add 9) (.int .i64 x50_9) ∧
  Runs Tryd.prog 30 #[.agg #[.int .i64 x50_0, .string x50_1, .string x50_2, .int .u16 x50_3, .int .i64 x50_4, .int .i64 x50_5, .string x50_6, .string x50_7, .int .i64 x50_8, .int .i64 x50_9]] I1' S1' fun v'' I1'' S1'' => ∃ x51_0 x51_0n x51_0c x51_1, v'' = .tuple #[.slice x51_0 x51_0n x51_0c, .bool x51_1] ∧
  ∃ x55_0, Cell I1'' S1'' b_5 (.int .i64 x55_0) ∧
  ∃ x55_1, Cell I1'' S1'' (b_5.add 1) (.string x55_1) ∧
  ∃ x55_2, Cell I1'' S1'' (b_5.add 2) (.string x55_2) ∧
  ∃ x55_3, Cell I1'' S1'' (b_5.add 3) (.int .u16 x55_3) ∧
  ∃ x55_4, Cell I1'' S1'' (b_5.add 4) (.int .i64 x55_4) ∧
  ∃ x55_5, Cell I1'' S1'' (b_5.add 5) (.int .i64 x55_5) ∧
  ∃ x55_6, Cell I1'' S1'' (b_5.add 6) (.string x55_6) ∧
  ∃ x55_7, Cell I1'' S1'' (b_5.add 7) (.string x55_7) ∧
  ∃ x55_8, Cell I1'' S1'' (b_5.add 8) (.int .i64 x55_8) ∧
  ∃ x55_9, Cell I1'' S1'' (b_5.add 9) (.int .i64 x55_9) ∧
  Runs Tryd.prog 30 #[.agg #[.int .i64 x55_0, .string x55_1, .string x55_2, .int .u16 x55_3, .int .i64 x55_4, .int .i64 x55_5, .string x55_6, .string x55_7, .int .i64 x55_8, .int .i64 x55_9]] I1'' S1'' fun v_r3 I1_r3 S1_r3 => ∃ x56_0 x56_0n x56_0c x56_1, v_r3 = .tuple #[.slice x56_0 x56_0n x56_0c, .bool x56_1] ∧
  bolterlaw25_EventTwo_b4 R a_4 b_5 x_10 y_11 x41_0 x41_0n x41_0c x41_1 x46_0 x46_0n x46_0c x46_1 x51_0 x51_0n x51_0c x51_1 x56_0 x56_0n x56_0c x56_1 I1_r3 S1_r3
def bolterlaw25_EventTwo_b2 (R : Value → IMem → SH → Prop) (a_4 : Addr) (b_5 : Addr) (s_6 : Addr) (w_9 : Addr) (I : IMem) (S : SH) : Prop :=
  ∃ F1 : SH, Keep I F1 I S ∧
  ∃ x35_0, Cell I F1 s_6 (.int .u32 x35_0) ∧
  ∃ x35_1 x35_1n x35_1c, Cell I F1 (s_6.add 1) (.slice x35_1 x35_1n x35_1c) ∧
  ∃ x35_2 x35_2n x35_2c, Cell I F1 (s_6.add 2) (.slice x35_2 x35_2n x35_2c) ∧
  ∃ x35_3, Cell I F1 (s_6.add 3) (.int .u16 x35_3) ∧
  ∃ x35_4, Cell I F1 (s_6.add 4) (.int .u8 x35_4) ∧
  ∃ x35_5, Cell I F1 (s_6.add 5) (.int .u8 x35_5) ∧
  ∃ x35_6 x35_6n x35_6c, Cell I F1 (s_6.add 6) (.slice x35_6 x35_6n x35_6c) ∧
  ∃ x35_7, Cell I F1 (s_6.add 7) (.bool x35_7) ∧
  ∃ x35_8, Cell I F1 (s_6.add 8) (.int .u8 x35_8) ∧
  ∃ x35_9, Cell I F1 (s_6.add 9) (.int .u8 x35_9) ∧
  ∃ x37_0, Cell I F1 w_9 (.int .u32 x37_0) ∧
  ∃ x37_1 x37_1n x37_1c, Cell I F1 (w_9.add 1) (.slice x37_1 x37_1n x37_1c) ∧
  ∃ x37_2 x37_2n x37_2c, Cell I F1 (w_9.add 2) (.slice x37_2 x37_2n x37_2c) ∧
  ∃ x37_3, Cell I F1 (w_9.add 3) (.int .u16 x37_3) ∧
  ∃ x37_4, Cell I F1 (w_9.add 4) (.int .u8 x37_4) ∧
  ∃ x37_5, Cell I F1 (w_9.add 5) (.int .u8 x37_5) ∧
  ∃ x37_6 x37_6n x37_6c, Cell I F1 (w_9.add 6) (.slice x37_6 x37_6n x37_6c) ∧
  ∃ x37_7, Cell I F1 (w_9.add 7) (.bool x37_7) ∧
  ∃ x37_8, Cell I F1 (w_9.add 8) (.int .u8 x37_8) ∧
  ∃ x37_9, Cell I F1 (w_9.add 9) (.int .u8 x37_9) ∧
  (Runs Tryd.prog 34 #[.agg #[.int .u32 x35_0, .slice x35_1 x35_1n x35_1c, .slice x35_2 x35_2n x35_2c, .int .u16 x35_3, .int .u8 x35_4, .int .u8 x35_5, .slice x35_6 x35_6n x35_6c, .bool x35_7, .int .u8 x35_8, .int .u8 x35_9]] I S fun v I1 S1 => ∃ x36_0 x36_1 x36_2 x36_3 x36_4 x36_5 x36_6 x36_7 x36_8 x36_9, v = .agg #[.int .i64 x36_0, .string x36_1, .string x36_2, .int .u16 x36_3, .int .i64 x36_4, .int .i64 x36_5, .string x36_6, .string x36_7, .int .i64 x36_8, .int .i64 x36_9] ∧
  Keep I F1 I1 S1 ∧
  (Runs Tryd.prog 34 #[.agg #[.int .u32 x37_0, .slice x37_1 x37_1n x37_1c, .slice x37_2 x37_2n x37_2c, .int .u16 x37_3, .int .u8 x37_4, .int .u8 x37_5, .slice x37_6 x37_6n x37_6c, .bool x37_7, .int .u8 x37_8, .int .u8 x37_9]] I1 S1 fun v' I1' S1' => ∃ x38_0 x38_1 x38_2 x38_3 x38_4 x38_5 x38_6 x38_7 x38_8 x38_9, v' = .agg #[.int .i64 x38_0, .string x38_1, .string x38_2, .int .u16 x38_3, .int .i64 x38_4, .int .i64 x38_5, .string x38_6, .string x38_7, .int .i64 x38_8, .int .i64 x38_9] ∧
  (∀ b10 : Nat,
  Keep I F1 I1' ((b10, .cells #[.int .i64 0, .string ⟨#[]⟩, .string ⟨#[]⟩, .int .u16 0, .int .i64 0, .int .i64 0, .string ⟨#[]⟩, .string ⟨#[]⟩, .int .i64 0, .int .i64 0] 65 (0, 0)) :: S1') ∧
  ∀ b11 : Nat,
  Keep I F1 I1' ((b11, .cells #[.int .i64 0, .string ⟨#[]⟩, .string ⟨#[]⟩, .int .u16 0, .int .i64 0, .int .i64 0, .string ⟨#[]⟩, .string ⟨#[]⟩, .int .i64 0, .int .i64 0] 65 (0, 0)) :: ((b10, .cells #[.int .i64 0, .string ⟨#[]⟩, .string ⟨#[]⟩, .int .u16 0, .int .i64 0, .int .i64 0, .string ⟨#[]⟩, .string ⟨#[]⟩, .int .i64 0, .int .i64 0] 65 (0, 0)) :: S1')) ∧
  StP ((b11, .cells #[.int .i64 0, .string ⟨#[]⟩, .string ⟨#[]⟩, .int .u16 0, .int .i64 0, .int .i64 0, .string ⟨#[]⟩, .string ⟨#[]⟩, .int .i64 0, .int .i64 0] 65 (0, 0)) :: ((b10, .cells #[.int .i64 0, .string ⟨#[]⟩, .string ⟨#[]⟩, .int .u16 0, .int .i64 0, .int .i64 0, .string ⟨#[]⟩, .string ⟨#[]⟩, .int .i64 0, .int .i64 0] 65 (0, 0)) :: S1')) ⟨b10, 0, none⟩ [.int .i64 x36_0, .string x36_1, .string x36_2, .int .u16 x36_3, .int .i64 x36_4, .int .i64 x36_5, .string x36_6, .string x36_7, .int .i64 x36_8, .int .i64 x36_9] fun S1'' =>
  StP S1'' ⟨b11, 0, none⟩ [.int .i64 x38_0, .string x38_1, .string x38_2, .int .u16 x38_3, .int .i64 x38_4, .int .i64 x38_5, .string x38_6, .string x38_7, .int .i64 x38_8, .int .i64 x38_9] fun S1_r3 =>
  bolterlaw25_EventTwo_b3 R a_4 b_5 ⟨b10, 0, none⟩ ⟨b11, 0, none⟩ I1' S1_r3) ∧
  (∀ b11' : Nat,
  Keep I F1 I1' ((b11', .cells #[.int .i64 0, .string ⟨#[]⟩, .string ⟨#[]⟩, .int .u16 0, .int .i64 0, .int .i64 0, .string ⟨#[]⟩, .string ⟨#[]⟩, .int .i64 0, .int .i64 0] 65 (0, 0)) :: S1') ∧
  ∀ b10' : Nat,
  Keep I F1 I1' ((b10', .cells #[.int .i64 0, .string ⟨#[]⟩, .string ⟨#[]⟩, .int .u16 0, .int .i64 0, .int .i64 0, .string ⟨#[]⟩, .string ⟨#[]⟩, .int .i64 0, .int .i64 0] 65 (0, 0)) :: ((b11', .cells #[.int .i64 0, .string ⟨#[]⟩, .string ⟨#[]⟩, .int .u16 0, .int .i64 0, .int .i64 0, .string ⟨#[]⟩, .string ⟨#[]⟩, .int .i64 0, .int .i64 0] 65 (0, 0)) :: S1')) ∧
  StP ((b10', .cells #[.int .i64 0, .string ⟨#[]⟩, .string ⟨#[]⟩, .int .u16 0, .int .i64 0, .int .i64 0, .string ⟨#[]⟩, .string ⟨#[]⟩, .int .i64 0, .int .i64 0] 65 (0, 0)) :: ((b11', .cells #[.int .i64 0, .string ⟨#[]⟩, .string ⟨#[]⟩, .int .u16 0, .int .i64 0, .int .i64 0, .string ⟨#[]⟩, .string ⟨#[]⟩, .int .i64 0, .int .i64 0] 65 (0, 0)) :: S1')) ⟨b10', 0, none⟩ [.int .i64 x36_0, .string x36_1, .string x36_2, .int .u16 x36_3, .int .i64 x36_4, .int .i64 x36_5, .string x36_6, .string x36_7, .int .i64 x36_8, .int .i64 x36_9] fun S1_r4 =>
  StP S1_r4 ⟨b11', 0, none⟩ [.int .i64 x38_0, .string x38_1, .string x38_2, .int .u16 x38_3, .int .i64 x38_4, .int .i64 x38_5, .string x38_6, .string x38_7, .int .i64 x38_8, .int .i64 x38_9] fun S1_r5 =>
  bolterlaw25_EventTwo_b3 R a_4 b_5 ⟨b10', 0, none⟩ ⟨b11', 0, none⟩ I1' S1_r5)) ∧
  (∀ b10'' : Nat,
  Keep I F1 I1 ((b10'', .cells #[.int .i64 0, .string ⟨#[]⟩, .string ⟨#[]⟩, .int .u16 0, .int .i64 0, .int .i64 0, .string ⟨#[]⟩, .string ⟨#[]⟩, .int .i64 0, .int .i64 0] 65 (0, 0)) :: S1) ∧
  (Runs Tryd.prog 34 #[.agg #[.int .u32 x37_0, .slice x37_1 x37_1n x37_1c, .slice x37_2 x37_2n x37_2c, .int .u16 x37_3, .int .u8 x37_4, .int .u8 x37_5, .slice x37_6 x37_6n x37_6c, .bool x37_7, .int .u8 x37_8, .int .u8 x37_9]] I1 ((b10'', .cells #[.int .i64 0, .string ⟨#[]⟩, .string ⟨#[]⟩, .int .u16 0, .int .i64 0, .int .i64 0, .string ⟨#[]⟩, .string ⟨#[]⟩, .int .i64 0, .int .i64 0] 65 (0, 0)) :: S1) fun v'' I1'' S1_r6 => ∃ x38_0' x38_1' x38_2' x38_3' x38_4' x38_5' x38_6' x38_7' x38_8' x38_9', v'' = .agg #[.int .i64 x38_0', .string x38_1', .string x38_2', .int .u16 x38_3', .int .i64 x38_4', .int .i64 x38_5', .string x38_6', .string x38_7', .int .i64 x38_8', .int .i64 x38_9'] ∧
  ∀ b11'' : Nat,
  Keep I F1 I1'' ((b11'', .cells #[.int .i64 0, .string ⟨#[]⟩, .string ⟨#[]⟩, .int .u16 0, .int .i64 0, .int .i64 0, .string ⟨#[]⟩, .string ⟨#[]⟩, .int .i64 0, .int .i64 0] 65 (0, 0)) :: S1_r6) ∧
  StP ((b11'', .cells #[.int .i64 0, .string ⟨#[]⟩, .string ⟨#[]⟩, .int .u16 0, .int .i64 0, .int .i64 0, .string ⟨#[]⟩, .string ⟨#[]⟩, .int .i64 0, .int .i64 0] 65 (0, 0)) :: S1_r6) ⟨b10'', 0, none⟩ [.int .i64 x36_0, .string x36_1, .string x36_2, .int .u16 x36_3, .int .i64 x36_4, .int .i64 x36_5, .string x36_6, .string x36_7, .int .i64 x36_8, .int .i64 x36_9] fun S1_r7 =>
  StP S1_r7 ⟨b11'', 0, none⟩ [.int .i64 x38_0', .string x38_1', .string x38_2', .int .u16 x38_3', .int .i64 x38_4', .int .i64 x38_5', .string x38_6', .string x38_7', .int .i64 x38_8', .int .i64 x38_9'] fun S1_r8 =>
  bolterlaw25_EventTwo_b3 R a_4 b_5 ⟨b10'', 0, none⟩ ⟨b11'', 0, none⟩ I1'' S1_r8) ∧
  (∀ b11_r3 : Nat,
  Keep I F1 I1 ((b11_r3, .cells #[.int .i64 0, .string ⟨#[]⟩, .string ⟨#[]⟩, .int .u16 0, .int .i64 0, .int .i64 0, .string ⟨#[]⟩, .string ⟨#[]⟩, .int .i64 0, .int .i64 0] 65 (0, 0)) :: ((b10'', .cells #[.int .i64 0, .string ⟨#[]⟩, .string ⟨#[]⟩, .int .u16 0, .int .i64 0, .int .i64 0, .string ⟨#[]⟩, .string ⟨#[]⟩, .int .i64 0, .int .i64 0] 65 (0, 0)) :: S1)) ∧
  Runs Tryd.prog 34 #[.agg #[.int .u32 x37_0, .slice x37_1 x37_1n x37_1c, .slice x37_2 x37_2n x37_2c, .int .u16 x37_3, .int .u8 x37_4, .int .u8 x37_5, .slice x37_6 x37_6n x37_6c, .bool x37_7, .int .u8 x37_8, .int .u8 x37_9]] I1 ((b11_r3, .cells #[.int .i64 0, .string ⟨#[]⟩, .string ⟨#[]⟩, .int .u16 0, .int .i64 0, .int .i64 0, .string ⟨#[]⟩, .string ⟨#[]⟩, .int .i64 0, .int .i64 0] 65 (0, 0)) :: ((b10'', .cells #[.int .i64 0, .string ⟨#[]⟩, .string ⟨#[]⟩, .int .u16 0, .int .i64 0, .int .i64 0, .string ⟨#[]⟩, .string ⟨#[]⟩, .int .i64 0, .int .i64 0] 65 (0, 0)) :: S1)) fun v_r3 I1_r3 S1_r9 => ∃ x38_0'' x38_1'' x38_2'' x38_3'' x38_4'' x38_5'' x38_6'' x38_7'' x38_8'' x38_9'', v_r3 = .agg #[.int .i64 x38_0'', .string x38_1'', .string x38_2'', .int .u16 x38_3'', .int .i64 x38_4'', .int .i64 x38_5'', .string x38_6'', .string x38_7'', .int .i64 x38_8'', .int .i64 x38_9''] ∧
  StP S1_r9 ⟨b10'', 0, none⟩ [.int .i64 x36_0, .string x36_1, .string x36_2, .int .u16 x36_3, .int .i64 x36_4, .int .i64 x36_5, .string x36_6, .string x36_7, .int .i64 x36_8, .int .i64 x36_9] fun S1_r10 =>
  StP S1_r10 ⟨b11_r3, 0, none⟩ [.int .i64 x38_0'', .string x38_1'', .string x38_2'', .int .u16 x38_3'', .int .i64 x38_4'', .int .i64 x38_5'', .string x38_6'', .string x38_7'', .int .i64 x38_8'', .int .i64 x38_9''] fun S1_r11 =>
  bolterlaw25_EventTwo_b3 R a_4 b_5 ⟨b10'', 0, none⟩ ⟨b11_r3, 0, none⟩ I1_r3 S1_r11)) ∧
  (∀ b11_r4 : Nat,
  Keep I F1 I1 ((b11_r4, .cells #[.int .i64 0, .string ⟨#[]⟩, .string ⟨#[]⟩, .int .u16 0, .int .i64 0, .int .i64 0, .string ⟨#[]⟩, .string ⟨#[]⟩, .int .i64 0, .int .i64 0] 65 (0, 0)) :: S1) ∧
  (Runs Tryd.prog 34 #[.agg #[.int .u32 x37_0, .slice x37_1 x37_1n x37_1c, .slice x37_2 x37_2n x37_2c, .int .u16 x37_3, .int .u8 x37_4, .int .u8 x37_5, .slice x37_6 x37_6n x37_6c, .bool x37_7, .int .u8 x37_8, .int .u8 x37_9]] I1 ((b11_r4, .cells #[.int .i64 0, .string ⟨#[]⟩, .string ⟨#[]⟩, .int .u16 0, .int .i64 0, .int .i64 0, .string ⟨#[]⟩, .string ⟨#[]⟩, .int .i64 0, .int .i64 0] 65 (0, 0)) :: S1) fun v_r4 I1_r4 S1_r12 => ∃ x38_0_r3 x38_1_r3 x38_2_r3 x38_3_r3 x38_4_r3 x38_5_r3 x38_6_r3 x38_7_r3 x38_8_r3 x38_9_r3, v_r4 = .agg #[.int .i64 x38_0_r3, .string x38_1_r3, .string x38_2_r3, .int .u16 x38_3_r3, .int .i64 x38_4_r3, .int .i64 x38_5_r3, .string x38_6_r3, .string x38_7_r3, .int .i64 x38_8_r3, .int .i64 x38_9_r3] ∧
  ∀ b10_r3 : Nat,
  Keep I F1 I1_r4 ((b10_r3, .cells #[.int .i64 0, .string ⟨#[]⟩, .string ⟨#[]⟩, .int .u16 0, .int .i64 0, .int .i64 0, .string ⟨#[]⟩, .string ⟨#[]⟩, .int .i64 0, .int .i64 0] 65 (0, 0)) :: S1_r12) ∧
  StP ((b10_r3, .cells #[.int .i64 0, .string ⟨#[]⟩, .string ⟨#[]⟩, .int .u16 0, .int .i64 0, .int .i64 0, .string ⟨#[]⟩, .string ⟨#[]⟩, .int .i64 0, .int .i64 0] 65 (0, 0)) :: S1_r12) ⟨b10_r3, 0, none⟩ [.int .i64 x36_0, .string x36_1, .string x36_2, .int .u16 x36_3, .int .i64 x36_4, .int .i64 x36_5, .string x36_6, .string x36_7, .int .i64 x36_8, .int .i64 x36_9] fun S1_r13 =>
  StP S1_r13 ⟨b11_r4, 0, none⟩ [.int .i64 x38_0_r3, .string x38_1_r3, .string x38_2_r3, .int .u16 x38_3_r3, .int .i64 x38_4_r3, .int .i64 x38_5_r3, .string x38_6_r3, .string x38_7_r3, .int .i64 x38_8_r3, .int .i64 x38_9_r3] fun S1_r14 =>
  bolterlaw25_EventTwo_b3 R a_4 b_5 ⟨b10_r3, 0, none⟩ ⟨b11_r4, 0, none⟩ I1_r4 S1_r14) ∧
  (∀ b10_r4 : Nat,
  Keep I F1 I1 ((b10_r4, .cells #[.int .i64 0, .string ⟨#[]⟩, .string ⟨#[]⟩, .int .u16 0, .int .i64 0, .int .i64 0, .string ⟨#[]⟩, .string ⟨#[]⟩, .int .i64 0, .int .i64 0] 65 (0, 0)) :: ((b11_r4, .cells #[.int .i64 0, .string ⟨#[]⟩, .string ⟨#[]⟩, .int .u16 0, .int .i64 0, .int .i64 0, .string ⟨#[]⟩, .string ⟨#[]⟩, .int .i64 0, .int .i64 0] 65 (0, 0)) :: S1)) ∧
  Runs Tryd.prog 34 #[.agg #[.int .u32 x37_0, .slice x37_1 x37_1n x37_1c, .slice x37_2 x37_2n x37_2c, .int .u16 x37_3, .int .u8 x37_4, .int .u8 x37_5, .slice x37_6 x37_6n x37_6c, .bool x37_7, .int .u8 x37_8, .int .u8 x37_9]] I1 ((b10_r4, .cells #[.int .i64 0, .string ⟨#[]⟩, .string ⟨#[]⟩, .int .u16 0, .int .i64 0, .int .i64 0, .string ⟨#[]⟩, .string ⟨#[]⟩, .int .i64 0, .int .i64 0] 65 (0, 0)) :: ((b11_r4, .cells #[.int .i64 0, .string ⟨#[]⟩, .string ⟨#[]⟩, .int .u16 0, .int .i64 0, .int .i64 0, .string ⟨#[]⟩, .string ⟨#[]⟩, .int .i64 0, .int .i64 0] 65 (0, 0)) :: S1)) fun v_r5 I1_r5 S1_r15 => ∃ x38_0_r4 x38_1_r4 x38_2_r4 x38_3_r4 x38_4_r4 x38_5_r4 x38_6_r4 x38_7_r4 x38_8_r4 x38_9_r4, v_r5 = .agg #[.int .i64 x38_0_r4, .string x38_1_r4, .string x38_2_r4, .int .u16 x38_3_r4, .int .i64 x38_4_r4, .int .i64 x38_5_r4, .string x38_6_r4, .string x38_7_r4, .int .i64 x38_8_r4, .int .i64 x38_9_r4] ∧
  StP S1_r15 ⟨b10_r4, 0, none⟩ [.int .i64 x36_0, .string x36_1, .string x36_2, .int .u16 x36_3, .int .i64 x36_4, .int .i64 x36_5, .string x36_6, .string x36_7, .int .i64 x36_8, .int .i64 x36_9] fun S1_r16 =>
  StP S1_r16 ⟨b11_r4, 0, none⟩ [.int .i64 x38_0_r4, .string x38_1_r4, .string x38_2_r4, .int .u16 x38_3_r4, .int .i64 x38_4_r4, .int .i64 x38_5_r4, .string x38_6_r4, .string x38_7_r4, .int .i64 x38_8_r4, .int .i64 x38_9_r4] fun S1_r17 =>
  bolterlaw25_EventTwo_b3 R a_4 b_5 ⟨b10_r4, 0, none⟩ ⟨b11_r4, 0, none⟩ I1_r5 S1_r17))) ∧
  (∀ b10_r5 : Nat,
  Keep I F1 I ((b10_r5, .cells #[.int .i64 0, .string ⟨#[]⟩, .string ⟨#[]⟩, .int .u16 0, .int .i64 0, .int .i64 0, .string ⟨#[]⟩, .string ⟨#[]⟩, .int .i64 0, .int .i64 0] 65 (0, 0)) :: S) ∧
  (Runs Tryd.prog 34 #[.agg #[.int .u32 x35_0, .slice x35_1 x35_1n x35_1c, .slice x35_2 x35_2n x35_2c, .int .u16 x35_3, .int .u8 x35_4, .int .u8 x35_5, .slice x35_6 x35_6n x35_6c, .bool x35_7, .int .u8 x35_8, .int .u8 x35_9]] I ((b10_r5, .cells #[.int .i64 0, .string ⟨#[]⟩, .string ⟨#[]⟩, .int .u16 0, .int .i64 0, .int .i64 0, .string ⟨#[]⟩, .string ⟨#[]⟩, .int .i64 0, .int .i64 0] 65 (0, 0)) :: S) fun v_r6 I1_r6 S1_r18 => ∃ x36_0' x36_1' x36_2' x36_3' x36_4' x36_5' x36_6' x36_7' x36_8' x36_9', v_r6 = .agg #[.int .i64 x36_0', .string x36_1', .string x36_2', .int .u16 x36_3', .int .i64 x36_4', .int .i64 x36_5', .string x36_6', .string x36_7', .int .i64 x36_8', .int .i64 x36_9'] ∧
  Keep I F1 I1_r6 S1_r18 ∧
  (Runs Tryd.prog 34 #[.agg #[.int .u32 x37_0, .slice x37_1 x37_1n x37_1c, .slice x37_2 x37_2n x37_2c, .int .u16 x37_3, .int .u8 x37_4, .int .u8 x37_5, .slice x37_6 x37_6n x37_6c, .bool x37_7, .int .u8 x37_8, .int .u8 x37_9]] I1_r6 S1_r18 fun v_r7 I1_r7 S1_r19 => ∃ x38_0_r5 x38_1_r5 x38_2_r5 x38_3_r5 x38_4_r5 x38_5_r5 x38_6_r5 x38_7_r5 x38_8_r5 x38_9_r5, v_r7 = .agg #[.int .i64 x38_0_r5, .string x38_1_r5, .string x38_2_r5, .int .u16 x38_3_r5, .int .i64 x38_4_r5, .int .i64 x38_5_r5, .string x38_6_r5, .string x38_7_r5, .int .i64 x38_8_r5, .int .i64 x38_9_r5] ∧
  ∀ b11_r5 : Nat,
  Keep I F1 I1_r7 ((b11_r5, .cells #[.int .i64 0, .string ⟨#[]⟩, .string ⟨#[]⟩, .int .u16 0, .int .i64 0, .int .i64 0, .string ⟨#[]⟩, .string ⟨#[]⟩, .int .i64 0, .int .i64 0] 65 (0, 0)) :: S1_r19) ∧
  StP ((b11_r5, .cells #[.int .i64 0, .string ⟨#[]⟩, .string ⟨#[]⟩, .int .u16 0, .int .i64 0, .int .i64 0, .string ⟨#[]⟩, .string ⟨#[]⟩, .int .i64 0, .int .i64 0] 65 (0, 0)) :: S1_r19) ⟨b10_r5, 0, none⟩ [.int .i64 x36_0', .string x36_1', .string x36_2', .int .u16 x36_3', .int .i64 x36_4', .int .i64 x36_5', .string x36_6', .string x36_7', .int .i64 x36_8', .int .i64 x36_9'] fun S1_r20 =>
  StP S1_r20 ⟨b11_r5, 0, none⟩ [.int .i64 x38_0_r5, .string x38_1_r5, .string x38_2_r5, .int .u16 x38_3_r5, .int .i64 x38_4_r5, .int .i64 x38_5_r5, .string x38_6_r5, .string x38_7_r5, .int .i64 x38_8_r5, .int .i64 x38_9_r5] fun S1_r21 =>
  bolterlaw25_EventTwo_b3 R a_4 b_5 ⟨b10_r5, 0, none⟩ ⟨b11_r5, 0, none⟩ I1_r7 S1_r21) ∧
  (∀ b11_r6 : Nat,
  Keep I F1 I1_r6 ((b11_r6, .cells #[.int .i64 0, .string ⟨#[]⟩, .string ⟨#[]⟩, .int .u16 0, .int .i64 0, .int .i64 0, .string ⟨#[]⟩, .string ⟨#[]⟩, .int .i64 0, .int .i64 0] 65 (0, 0)) :: S1_r18) ∧
  Runs Tryd.prog 34 #[.agg #[.int .u32 x37_0, .slice x37_1 x37_1n x37_1c, .slice x37_2 x37_2n x37_2c, .int .u16 x37_3, .int .u8 x37_4, .int .u8 x37_5, .slice x37_6 x37_6n x37_6c, .bool x37_7, .int .u8 x37_8, .int .u8 x37_9]] I1_r6 ((b11_r6, .cells #[.int .i64 0, .string ⟨#[]⟩, .string ⟨#[]⟩, .int .u16 0, .int .i64 0, .int .i64 0, .string ⟨#[]⟩, .string ⟨#[]⟩, .int .i64 0, .int .i64 0] 65 (0, 0)) :: S1_r18) fun v_r8 I1_r8 S1_r22 => ∃ x38_0_r6 x38_1_r6 x38_2_r6 x38_3_r6 x38_4_r6 x38_5_r6 x38_6_r6 x38_7_r6 x38_8_r6 x38_9_r6, v_r8 = .agg #[.int .i64 x38_0_r6, .string x38_1_r6, .string x38_2_r6, .int .u16 x38_3_r6, .int .i64 x38_4_r6, .int .i64 x38_5_r6, .string x38_6_r6, .string x38_7_r6, .int .i64 x38_8_r6, .int .i64 x38_9_r6] ∧
  StP S1_r22 ⟨b10_r5, 0, none⟩ [.int .i64 x36_0', .string x36_1', .string x36_2', .int .u16 x36_3', .int .i64 x36_4', .int .i64 x36_5', .string x36_6', .string x36_7', .int .i64 x36_8', .int .i64 x36_9'] fun S1_r23 =>
  StP S1_r23 ⟨b11_r6, 0, none⟩ [.int .i64 x38_0_r6, .string x38_1_r6, .string x38_2_r6, .int .u16 x38_3_r6, .int .i64 x38_4_r6, .int .i64 x38_5_r6, .string x38_6_r6, .string x38_7_r6, .int .i64 x38_8_r6, .int .i64 x38_9_r6] fun S1_r24 =>
  bolterlaw25_EventTwo_b3 R a_4 b_5 ⟨b10_r5, 0, none⟩ ⟨b11_r6, 0, none⟩ I1_r8 S1_r24)) ∧
  (∀ b11_r7 : Nat,
  Keep I F1 I ((b11_r7, .cells #[.int .i64 0, .string ⟨#[]⟩, .string ⟨#[]⟩, .int .u16 0, .int .i64 0, .int .i64 0, .string ⟨#[]⟩, .string ⟨#[]⟩, .int .i64 0, .int .i64 0] 65 (0, 0)) :: ((b10_r5, .cells #[.int .i64 0, .string ⟨#[]⟩, .string ⟨#[]⟩, .int .u16 0, .int .i64 0, .int .i64 0, .string ⟨#[]⟩, .string ⟨#[]⟩, .int .i64 0, .int .i64 0] 65 (0, 0)) :: S)) ∧
  Runs Tryd.prog 34 #[.agg #[.int .u32 x35_0, .slice x35_1 x35_1n x35_1c, .slice x35_2 x35_2n x35_2c, .int .u16 x35_3, .int .u8 x35_4, .int .u8 x35_5, .slice x35_6 x35_6n x35_6c, .bool x35_7, .int .u8 x35_8, .int .u8 x35_9]] I ((b11_r7, .cells #[.int .i64 0, .string ⟨#[]⟩, .string ⟨#[]⟩, .int .u16 0, .int .i64 0, .int .i64 0, .string ⟨#[]⟩, .string ⟨#[]⟩, .int .i64 0, .int .i64 0] 65 (0, 0)) :: ((b10_r5, .cells #[.int .i64 0, .string ⟨#[]⟩, .string ⟨#[]⟩, .int .u16 0, .int .i64 0, .int .i64 0, .string ⟨#[]⟩, .string ⟨#[]⟩, .int .i64 0, .int .i64 0] 65 (0, 0)) :: S)) fun v_r9 I1_r9 S1_r25 => ∃ x36_0'' x36_1'' x36_2'' x36_3'' x36_4'' x36_5'' x36_6'' x36_7'' x36_8'' x36_9'', v_r9 = .agg #[.int .i64 x36_0'', .string x36_1'', .string x36_2'', .int .u16 x36_3'', .int .i64 x36_4'', .int .i64 x36_5'', .string x36_6'', .string x36_7'', .int .i64 x36_8'', .int .i64 x36_9''] ∧
  Keep I F1 I1_r9 S1_r25 ∧
  Runs Tryd.prog 34 #[.agg #[.int .u32 x37_0, .slice x37_1 x37_1n x37_1c, .slice x37_2 x37_2n x37_2c, .int .u16 x37_3, .int .u8 x37_4, .int .u8 x37_5, .slice x37_6 x37_6n x37_6c, .bool x37_7, .int .u8 x37_8, .int .u8 x37_9]] I1_r9 S1_r25 fun v_r10 I1_r10 S1_r26 => ∃ x38_0_r7 x38_1_r7 x38_2_r7 x38_3_r7 x38_4_r7 x38_5_r7 x38_6_r7 x38_7_r7 x38_8_r7 x38_9_r7, v_r10 = .agg #[.int .i64 x38_0_r7, .string x38_1_r7, .string x38_2_r7, .int .u16 x38_3_r7, .int .i64 x38_4_r7, .int .i64 x38_5_r7, .string x38_6_r7, .string x38_7_r7, .int .i64 x38_8_r7, .int .i64 x38_9_r7] ∧
  StP S1_r26 ⟨b10_r5, 0, none⟩ [.int .i64 x36_0'', .string x36_1'', .string x36_2'', .int .u16 x36_3'', .int .i64 x36_4'', .int .i64 x36_5'', .string x36_6'', .string x36_7'', .int .i64 x36_8'', .int .i64 x36_9''] fun S1_r27 =>
  StP S1_r27 ⟨b11_r7, 0, none⟩ [.int .i64 x38_0_r7, .string x38_1_r7, .string x38_2_r7, .int .u16 x38_3_r7, .int .i64 x38_4_r7, .int .i64 x38_5_r7, .string x38_6_r7, .string x38_7_r7, .int .i64 x38_8_r7, .int .i64 x38_9_r7] fun S1_r28 =>
  bolterlaw25_EventTwo_b3 R a_4 b_5 ⟨b10_r5, 0, none⟩ ⟨b11_r7, 0, none⟩ I1_r10 S1_r28)) ∧
  (∀ b11_r8 : Nat,
  Keep I F1 I ((b11_r8, .cells #[.int .i64 0, .string ⟨#[]⟩, .string ⟨#[]⟩, .int .u16 0, .int .i64 0, .int .i64 0, .string ⟨#[]⟩, .string ⟨#[]⟩, .int .i64 0, .int .i64 0] 65 (0, 0)) :: S) ∧
  (Runs Tryd.prog 34 #[.agg #[.int .u32 x35_0, .slice x35_1 x35_1n x35_1c, .slice x35_2 x35_2n x35_2c, .int .u16 x35_3, .int .u8 x35_4, .int .u8 x35_5, .slice x35_6 x35_6n x35_6c, .bool x35_7, .int .u8 x35_8, .int .u8 x35_9]] I ((b11_r8, .cells #[.int .i64 0, .string ⟨#[]⟩, .string ⟨#[]⟩, .int .u16 0, .int .i64 0, .int .i64 0, .string ⟨#[]⟩, .string ⟨#[]⟩, .int .i64 0, .int .i64 0] 65 (0, 0)) :: S) fun v_r11 I1_r11 S1_r29 => ∃ x36_0_r3 x36_1_r3 x36_2_r3 x36_3_r3 x36_4_r3 x36_5_r3 x36_6_r3 x36_7_r3 x36_8_r3 x36_9_r3, v_r11 = .agg #[.int .i64 x36_0_r3, .string x36_1_r3, .string x36_2_r3, .int .u16 x36_3_r3, .int .i64 x36_4_r3, .int .i64 x36_5_r3, .string x36_6_r3, .string x36_7_r3, .int .i64 x36_8_r3, .int .i64 x36_9_r3] ∧
  Keep I F1 I1_r11 S1_r29 ∧
  (Runs Tryd.prog 34 #[.agg #[.int .u32 x37_0, .slice x37_1 x37_1n x37_1c, .slice x37_2 x37_2n x37_2c, .int .u16 x37_3, .int .u8 x37_4, .int .u8 x37_5, .slice x37_6 x37_6n x37_6c, .bool x37_7, .int .u8 x37_8, .int .u8 x37_9]] I1_r11 S1_r29 fun v_r12 I1_r12 S1_r30 => ∃ x38_0_r8 x38_1_r8 x38_2_r8 x38_3_r8 x38_4_r8 x38_5_r8 x38_6_r8 x38_7_r8 x38_8_r8 x38_9_r8, v_r12 = .agg #[.int .i64 x38_0_r8, .string x38_1_r8, .string x38_2_r8, .int .u16 x38_3_r8, .int .i64 x38_4_r8, .int .i64 x38_5_r8, .string x38_6_r8, .string x38_7_r8, .int .i64 x38_8_r8, .int .i64 x38_9_r8] ∧
  ∀ b10_r6 : Nat,
  Keep I F1 I1_r12 ((b10_r6, .cells #[.int .i64 0, .string ⟨#[]⟩, .string ⟨#[]⟩, .int .u16 0, .int .i64 0, .int .i64 0, .string ⟨#[]⟩, .string ⟨#[]⟩, .int .i64 0, .int .i64 0] 65 (0, 0)) :: S1_r30) ∧
  StP ((b10_r6, .cells #[.int .i64 0, .string ⟨#[]⟩, .string ⟨#[]⟩, .int .u16 0, .int .i64 0, .int .i64 0, .string ⟨#[]⟩, .string ⟨#[]⟩, .int .i64 0, .int .i64 0] 65 (0, 0)) :: S1_r30) ⟨b10_r6, 0, none⟩ [.int .i64 x36_0_r3, .string x36_1_r3, .string x36_2_r3, .int .u16 x36_3_r3, .int .i64 x36_4_r3, .int .i64 x36_5_r3, .string x36_6_r3, .string x36_7_r3, .int .i64 x36_8_r3, .int .i64 x36_9_r3] fun S1_r31 =>
  StP S1_r31 ⟨b11_r8, 0, none⟩ [.int .i64 x38_0_r8, .string x38_1_r8, .string x38_2_r8, .int .u16 x38_3_r8, .int .i64 x38_4_r8, .int .i64 x38_5_r8, .string x38_6_r8, .string x38_7_r8, .int .i64 x38_8_r8, .int .i64 x38_9_r8] fun S1_r32 =>
  bolterlaw25_EventTwo_b3 R a_4 b_5 ⟨b10_r6, 0, none⟩ ⟨b11_r8, 0, none⟩ I1_r12 S1_r32) ∧
  (∀ b10_r7 : Nat,
  Keep I F1 I1_r11 ((b10_r7, .cells #[.int .i64 0, .string ⟨#[]⟩, .string ⟨#[]⟩, .int .u16 0, .int .i64 0, .int .i64 0, .string ⟨#[]⟩, .string ⟨#[]⟩, .int .i64 0, .int .i64 0] 65 (0, 0)) :: S1_r29) ∧
  Runs Tryd.prog 34 #[.agg #[.int .u32 x37_0, .slice x37_1 x37_1n x37_1c, .slice x37_2 x37_2n x37_2c, .int .u16 x37_3, .int .u8 x37_4, .int .u8 x37_5, .slice x37_6 x37_6n x37_6c, .bool x37_7, .int .u8 x37_8, .int .u8 x37_9]] I1_r11 ((b10_r7, .cells #[.int .i64 0, .string ⟨#[]⟩, .string ⟨#[]⟩, .int .u16 0, .int .i64 0, .int .i64 0, .string ⟨#[]⟩, .string ⟨#[]⟩, .int .i64 0, .int .i64 0] 65 (0, 0)) :: S1_r29) fun v_r13 I1_r13 S1_r33 => ∃ x38_0_r9 x38_1_r9 x38_2_r9 x38_3_r9 x38_4_r9 x38_5_r9 x38_6_r9 x38_7_r9 x38_8_r9 x38_9_r9, v_r13 = .agg #[.int .i64 x38_0_r9, .string x38_1_r9, .string x38_2_r9, .int .u16 x38_3_r9, .int .i64 x38_4_r9, .int .i64 x38_5_r9, .string x38_6_r9, .string x38_7_r9, .int .i64 x38_8_r9, .int .i64 x38_9_r9] ∧
  StP S1_r33 ⟨b10_r7, 0, none⟩ [.int .i64 x36_0_r3, .string x36_1_r3, .string x36_2_r3, .int .u16 x36_3_r3, .int .i64 x36_4_r3, .int .i64 x36_5_r3, .string x36_6_r3, .string x36_7_r3, .int .i64 x36_8_r3, .int .i64 x36_9_r3] fun S1_r34 =>
  StP S1_r34 ⟨b11_r8, 0, none⟩ [.int .i64 x38_0_r9, .string x38_1_r9, .string x38_2_r9, .int .u16 x38_3_r9, .int .i64 x38_4_r9, .int .i64 x38_5_r9, .string x38_6_r9, .string x38_7_r9, .int .i64 x38_8_r9, .int .i64 x38_9_r9] fun S1_r35 =>
  bolterlaw25_EventTwo_b3 R a_4 b_5 ⟨b10_r7, 0, none⟩ ⟨b11_r8, 0, none⟩ I1_r13 S1_r35)) ∧
  (∀ b10_r8 : Nat,
  Keep I F1 I ((b10_r8, .cells #[.int .i64 0, .string ⟨#[]⟩, .string ⟨#[]⟩, .int .u16 0, .int .i64 0, .int .i64 0, .string ⟨#[]⟩, .string ⟨#[]⟩, .int .i64 0, .int .i64 0] 65 (0, 0)) :: ((b11_r8, .cells #[.int .i64 0, .string ⟨#[]⟩, .string ⟨#[]⟩, .int .u16 0, .int .i64 0, .int .i64 0, .string ⟨#[]⟩, .string ⟨#[]⟩, .int .i64 0, .int .i64 0] 65 (0, 0)) :: S)) ∧
  Runs Tryd.prog 34 #[.agg #[.int .u32 x35_0, .slice x35_1 x35_1n x35_1c, .slice x35_2 x35_2n x35_2c, .int .u16 x35_3, .int .u8 x35_4, .int .u8 x35_5, .slice x35_6 x35_6n x35_6c, .bool x35_7, .int .u8 x35_8, .int .u8 x35_9]] I ((b10_r8, .cells #[.int .i64 0, .string ⟨#[]⟩, .string ⟨#[]⟩, .int .u16 0, .int .i64 0, .int .i64 0, .string ⟨#[]⟩, .string ⟨#[]⟩, .int .i64 0, .int .i64 0] 65 (0, 0)) :: ((b11_r8, .cells #[.int .i64 0, .string ⟨#[]⟩, .string ⟨#[]⟩, .int .u16 0, .int .i64 0, .int .i64 0, .string ⟨#[]⟩, .string ⟨#[]⟩, .int .i64 0, .int .i64 0] 65 (0, 0)) :: S)) fun v_r14 I1_r14 S1_r36 => ∃ x36_0_r4 x36_1_r4 x36_2_r4 x36_3_r4 x36_4_r4 x36_5_r4 x36_6_r4 x36_7_r4 x36_8_r4 x36_9_r4, v_r14 = .agg #[.int .i64 x36_0_r4, .string x36_1_r4, .string x36_2_r4, .int .u16 x36_3_r4, .int .i64 x36_4_r4, .int .i64 x36_5_r4, .string x36_6_r4, .string x36_7_r4, .int .i64 x36_8_r4, .int .i64 x36_9_r4] ∧
  Keep I F1 I1_r14 S1_r36 ∧
  Runs Tryd.prog 34 #[.agg #[.int .u32 x37_0, .slice x37_1 x37_1n x37_1c, .slice x37_2 x37_2n x37_2c, .int .u16 x37_3, .int .u8 x37_4, .int .u8 x37_5, .slice x37_6 x37_6n x37_6c, .bool x37_7, .int .u8 x37_8, .int .u8 x37_9]] I1_r14 S1_r36 fun v_r15 I1_r15 S1_r37 => ∃ x38_0_r10 x38_1_r10 x38_2_r10 x38_3_r10 x38_4_r10 x38_5_r10 x38_6_r10 x38_7_r10 x38_8_r10 x38_9_r10, v_r15 = .agg #[.int .i64 x38_0_r10, .string x38_1_r10, .string x38_2_r10, .int .u16 x38_3_r10, .int .i64 x38_4_r10, .int .i64 x38_5_r10, .string x38_6_r10, .string x38_7_r10, .int .i64 x38_8_r10, .int .i64 x38_9_r10] ∧
  StP S1_r37 ⟨b10_r8, 0, none⟩ [.int .i64 x36_0_r4, .string x36_1_r4, .string x36_2_r4, .int .u16 x36_3_r4, .int .i64 x36_4_r4, .int .i64 x36_5_r4, .string x36_6_r4, .string x36_7_r4, .int .i64 x36_8_r4, .int .i64 x36_9_r4] fun S1_r38 =>
  StP S1_r38 ⟨b11_r8, 0, none⟩ [.int .i64 x38_0_r10, .string x38_1_r10, .string x38_2_r10, .int .u16 x38_3_r10, .int .i64 x38_4_r10, .int .i64 x38_5_r10, .string x38_6_r10, .string x38_7_r10, .int .i64 x38_8_r10, .int .i64 x38_9_r10] fun S1_r39 =>
  bolterlaw25_EventTwo_b3 R a_4 b_5 ⟨b10_r8, 0, none⟩ ⟨b11_r8, 0, none⟩ I1_r15 S1_r39))
def bolterlaw25_EventTwo_b1 (R : Value → IMem → SH → Prop) (a_4 : Addr) (b_5 : Addr) (s_6 : Addr) (other_7 : Addr) (w_9 : Addr) (I : IMem) (S : SH) : Prop :=
  ∃ F1 : SH, Keep I F1 I S ∧
  ∃ x24, Cell I F1 other_7 (.int .u8 x24) ∧
  ∃ x26 x26n x26c, Cell I F1 (other_7.add 1) (.slice x26 x26n x26c) ∧
  ∃ x28, Cell I F1 (other_7.add 3) (.int .u8 x28) ∧
  StP S (w_9.add 5) [.int .u8 x24] fun S1 =>
  Keep I F1 I S1 ∧
  StP S1 ((w_9.add 5).add 1) [.slice x26 x26n x26c] fun S1' =>
  Keep I F1 I S1' ∧
  StP S1' ((w_9.add 5).add 3) [.int .u8 x28] fun S1'' =>
  bolterlaw25_EventTwo_b2 R a_4 b_5 s_6 w_9 I S1''
def bolterlaw25_EventTwo (R : Value → IMem → SH → Prop) (a_0_0 : Int) (a_0_1 : ByteArray) (a_0_2 : ByteArray) (a_0_3 : Int) (a_0_4 : Int) (a_0_5 : Int) (a_0_6 : ByteArray) (a_0_7 : ByteArray) (a_0_8 : Int) (a_0_9 : Int) (b_1_0 : Int) (b_1_1 : ByteArray) (b_1_2 : ByteArray) (b_1_3 : Int) (b_1_4 : Int) (b_1_5 : Int) (b_1_6 : ByteArray) (b_1_7 : ByteArray) (b_1_8 : Int) (b_1_9 : Int) (s_2_0 : Int) (s_2_1 : Option Addr) (s_2_1n : Nat) (s_2_1c : Nat) (s_2_2 : Option Addr) (s_2_2n : Nat) (s_2_2c : Nat) (s_2_3 : Int) (s_2_4 : Int) (s_2_5 : Int) (s_2_6 : Option Addr) (s_2_6n : Nat) (s_2_6c : Nat) (s_2_7 : Bool) (s_2_8 : Int) (s_2_9 : Int) (other_3_0 : Int) (other_3_1 : Option Addr) (other_3_1n : Nat) (other_3_1c : Nat) (other_3_2 : Bool) (other_3_3 : Int) (I : IMem) (S : SH) : Prop :=
  ∀ b4 : Nat,
  ∀ b5 : Nat,
  ∀ b6 : Nat,
  ∀ b7 : Nat,
  Runs Tryd.prog 29 #[] I ((b7, .cells #[.int .u8 other_3_0, .slice other_3_1 other_3_1n other_3_1c, .bool other_3_2, .int .u8 other_3_3] 49 (0, 0)) :: ((b6, .cells #[.int .u32 s_2_0, .slice s_2_1 s_2_1n s_2_1c, .slice s_2_2 s_2_2n s_2_2c, .int .u16 s_2_3, .int .u8 s_2_4, .int .u8 s_2_5, .slice s_2_6 s_2_6n s_2_6c, .bool s_2_7, .int .u8 s_2_8, .int .u8 s_2_9] 72 (0, 0)) :: ((b5, .cells #[.int .i64 b_1_0, .string b_1_1, .string b_1_2, .int .u16 b_1_3, .int .i64 b_1_4, .int .i64 b_1_5, .string b_1_6, .string b_1_7, .int .i64 b_1_8, .int .i64 b_1_9] 65 (0, 0)) :: ((b4, .cells #[.int .i64 a_0_0, .string a_0_1, .string a_0_2, .int .u16 a_0_3, .int .i64 a_0_4, .int .i64 a_0_5, .string a_0_6, .string a_0_7, .int .i64 a_0_8, .int .i64 a_0_9] 65 (0, 0)) :: S)))) fun v I1 S1 => ∃ x20, v = .bool x20 ∧
  bcase (!x20)
    (R (.bool false) I1 S1)
    (∃ x22_0, Cell I1 S1 ⟨b6, 0, none⟩ (.int .u32 x22_0) ∧
    ∃ x22_1 x22_1n x22_1c, Cell I1 S1 ⟨b6, 1, none⟩ (.slice x22_1 x22_1n x22_1c) ∧
    ∃ x22_2 x22_2n x22_2c, Cell I1 S1 ⟨b6, 2, none⟩ (.slice x22_2 x22_2n x22_2c) ∧
    ∃ x22_3, Cell I1 S1 ⟨b6, 3, none⟩ (.int .u16 x22_3) ∧
    ∃ x22_4, Cell I1 S1 ⟨b6, 4, none⟩ (.int .u8 x22_4) ∧
    ∃ x22_5, Cell I1 S1 ⟨b6, 5, none⟩ (.int .u8 x22_5) ∧
    ∃ x22_6 x22_6n x22_6c, Cell I1 S1 ⟨b6, 6, none⟩ (.slice x22_6 x22_6n x22_6c) ∧
    ∃ x22_7, Cell I1 S1 ⟨b6, 7, none⟩ (.bool x22_7) ∧
    ∃ x22_8, Cell I1 S1 ⟨b6, 8, none⟩ (.int .u8 x22_8) ∧
    ∃ x22_9, Cell I1 S1 ⟨b6, 9, none⟩ (.int .u8 x22_9) ∧
    ∀ b9 : Nat,
    StP ((b9, .cells #[.int .u32 0, .slice none 0 0, .slice none 0 0, .int .u16 0, .int .u8 0, .int .u8 0, .slice none 0 0, .bool false, .int .u8 0, .int .u8 0] 72 (0, 0)) :: S1) ⟨b9, 0, none⟩ [.int .u32 x22_0, .slice x22_1 x22_1n x22_1c, .slice x22_2 x22_2n x22_2c, .int .u16 x22_3, .int .u8 x22_4, .int .u8 x22_5, .slice x22_6 x22_6n x22_6c, .bool x22_7, .int .u8 x22_8, .int .u8 x22_9] fun S1' =>
    bolterlaw25_EventTwo_b1 R ⟨b4, 0, none⟩ ⟨b5, 0, none⟩ ⟨b6, 0, none⟩ ⟨b7, 0, none⟩ ⟨b9, 0, none⟩ I1 S1')
theorem bolterlaw25_EventTwo_fn (R : Value → IMem → SH → Prop) (a_0_0 : Int) (a_0_1 : ByteArray) (a_0_2 : ByteArray) (a_0_3 : Int) (a_0_4 : Int) (a_0_5 : Int) (a_0_6 : ByteArray) (a_0_7 : ByteArray) (a_0_8 : Int) (a_0_9 : Int) (b_1_0 : Int) (b_1_1 : ByteArray) (b_1_2 : ByteArray) (b_1_3 : Int) (b_1_4 : Int) (b_1_5 : Int) (b_1_6 : ByteArray) (b_1_7 : ByteArray) (b_1_8 : Int) (b_1_9 : Int) (s_2_0 : Int) (s_2_1 : Option Addr) (s_2_1n : Nat) (s_2_1c : Nat) (s_2_2 : Option Addr) (s_2_2n : Nat) (s_2_2c : Nat) (s_2_3 : Int) (s_2_4 : Int) (s_2_5 : Int) (s_2_6 : Option Addr) (s_2_6n : Nat) (s_2_6c : Nat) (s_2_7 : Bool) (s_2_8 : Int) (s_2_9 : Int) (other_3_0 : Int) (other_3_1 : Option Addr) (other_3_1n : Nat) (other_3_1c : Nat) (other_3_2 : Bool) (other_3_3 : Int) (I : IMem) (S : SH) (h : bolterlaw25_EventTwo R a_0_0 a_0_1 a_0_2 a_0_3 a_0_4 a_0_5 a_0_6 a_0_7 a_0_8 a_0_9 b_1_0 b_1_1 b_1_2 b_1_3 b_1_4 b_1_5 b_1_6 b_1_7 b_1_8 b_1_9 s_2_0 s_2_1 s_2_1n s_2_1c s_2_2 s_2_2n s_2_2c s_2_3 s_2_4 s_2_5 s_2_6 s_2_6n s_2_6c s_2_7 s_2_8 s_2_9 other_3_0 other_3_1 other_3_1n other_3_1c other_3_2 other_3_3 I S) :
    Runs Tryd.prog 11 #[.agg #[.int .i64 a_0_0, .string a_0_1, .string a_0_2, .int .u16 a_0_3, .int .i64 a_0_4, .int .i64 a_0_5, .string a_0_6, .string a_0_7, .int .i64 a_0_8, .int .i64 a_0_9], .agg #[.int .i64 b_1_0, .string b_1_1, .string b_1_2, .int .u16 b_1_3, .int .i64 b_1_4, .int .i64 b_1_5, .string b_1_6, .string b_1_7, .int .i64 b_1_8, .int .i64 b_1_9], .agg #[.int .u32 s_2_0, .slice s_2_1 s_2_1n s_2_1c, .slice s_2_2 s_2_2n s_2_2c, .int .u16 s_2_3, .int .u8 s_2_4, .int .u8 s_2_5, .slice s_2_6 s_2_6n s_2_6c, .bool s_2_7, .int .u8 s_2_8, .int .u8 s_2_9], .agg #[.int .u8 other_3_0, .slice other_3_1 other_3_1n other_3_1c, .bool other_3_2, .int .u8 other_3_3]] I S R := by
  refine Runs.of_wp (args := [.agg #[.int .i64 a_0_0, .string a_0_1, .string a_0_2, .int .u16 a_0_3, .int .i64 a_0_4, .int .i64 a_0_5, .string a_0_6, .string a_0_7, .int .i64 a_0_8, .int .i64 a_0_9], .agg #[.int .i64 b_1_0, .string b_1_1, .string b_1_2, .int .u16 b_1_3, .int .i64 b_1_4, .int .i64 b_1_5, .string b_1_6, .string b_1_7, .int .i64 b_1_8, .int .i64 b_1_9], .agg #[.int .u32 s_2_0, .slice s_2_1 s_2_1n s_2_1c, .slice s_2_2 s_2_2n s_2_2c, .int .u16 s_2_3, .int .u8 s_2_4, .int .u8 s_2_5, .slice s_2_6 s_2_6n s_2_6c, .bool s_2_7, .int .u8 s_2_8, .int .u8 s_2_9], .agg #[.int .u8 other_3_0, .slice other_3_1 other_3_1n other_3_1c, .bool other_3_2, .int .u8 other_3_3]]) (c := bolterlaw25_EventTwo_code) Tryd.func11 (by kernel_rfl) (by kernel_rfl) ?_
  refine WP.cut 3 (fun l I S => asAdr (l 4) fun a_4 => asAdr (l 5) fun b_5 => asAdr (l 6) fun s_6 => asAdr (l 7) fun other_7 => asAdr (l 9) fun w_9 => bolterlaw25_EventTwo_b1 R a_4 b_5 s_6 other_7 w_9 I S) (cast (by kernel_rfl) h) ?_
  clear h
  intro l I S _ h
  obtain ⟨a_4, e4, h⟩ := asAdr_e h
  obtain ⟨b_5, e5, h⟩ := asAdr_e h
  obtain ⟨s_6, e6, h⟩ := asAdr_e h
  obtain ⟨other_7, e7, h⟩ := asAdr_e h
  obtain ⟨w_9, e9, h⟩ := asAdr_e h
  rw [upd_eta e4, upd_eta e5, upd_eta e6, upd_eta e7, upd_eta e9]
  refine WP.seqY (by kernel_rfl) (fun l I S => asAdr (l 4) fun a_4 => asAdr (l 5) fun b_5 => asAdr (l 6) fun s_6 => asAdr (l 9) fun w_9 => bolterlaw25_EventTwo_b2 R a_4 b_5 s_6 w_9 I S) ?_ ?_
  ·
    exact WP.drawF (.take 0 (.take 1 (.take 2 (.take 3 (.take 4 (.take 5 (.take 6 (.take 7 (.step 8 (.take 9 (.take 10 (.step 11 (.take 12 (.take 13 (.step 14 .done))))))))))))))) [8, 11, 14] (by kernel_rfl) (by kernel_rfl) (by kernel_rfl) (by kernel_rfl) (by kernel_rfl) (cast (by kernel_rfl) h)
  · clear h
    intro l I S _ h
    obtain ⟨a_4, e4, h⟩ := asAdr_e h
    obtain ⟨b_5, e5, h⟩ := asAdr_e h
    obtain ⟨s_6, e6, h⟩ := asAdr_e h
    obtain ⟨w_9, e9, h⟩ := asAdr_e h
    rw [upd_eta e4, upd_eta e5, upd_eta e6, upd_eta e9]
    refine WP.seqY (by kernel_rfl) (fun l I S => asAdr (l 4) fun a_4 => asAdr (l 5) fun b_5 => asAdr (l 10) fun x_10 => asAdr (l 11) fun y_11 => bolterlaw25_EventTwo_b3 R a_4 b_5 x_10 y_11 I S) ?_ ?_
    ·
      exact WP.drawF (.take 0 (.take 2 (.fork3 1 (.fork3 3 (.fork 4 (.step 5 (.step 6 (.step 7 .done))) 5 (.step 4 (.step 6 (.step 7 .done)))) 4 (.fork 3 (.step 5 (.step 6 (.step 7 .done))) 5 (.step 3 (.step 6 (.step 7 .done)))) 5 (.fork 3 (.step 4 (.step 6 (.step 7 .done))) 4 (.step 3 (.step 6 (.step 7 .done))))) 4 (.fork 1 (.fork 3 (.step 5 (.step 6 (.step 7 .done))) 5 (.step 3 (.step 6 (.step 7 .done)))) 5 (.step 1 (.step 3 (.step 6 (.step 7 .done))))) 5 (.fork 1 (.fork 3 (.step 4 (.step 6 (.step 7 .done))) 4 (.step 3 (.step 6 (.step 7 .done)))) 4 (.step 1 (.step 3 (.step 6 (.step 7 .done)))))))) [1, 3, 4, 5, 6, 7] (by kernel_rfl) (by kernel_rfl) (by kernel_rfl) (by kernel_rfl) (by kernel_rfl) (cast (by kernel_rfl) h)
    · clear h
      intro l I S _ h
      obtain ⟨a_4, e4, h⟩ := asAdr_e h
      obtain ⟨b_5, e5, h⟩ := asAdr_e h
      obtain ⟨x_10, e10, h⟩ := asAdr_e h
      obtain ⟨y_11, e11, h⟩ := asAdr_e h
      rw [upd_eta e4, upd_eta e5, upd_eta e10, upd_eta e11]
      refine WP.cut 4 (fun l I S => asAdr (l 4) fun a_4 => asAdr (l 5) fun b_5 => asAdr (l 10) fun x_10 => asAdr (l 11) fun y_11 => asSl (l 12) fun p_12 p_12n p_12c => asB (l 13) fun one_13 => asSl (l 14) fun q_14 q_14n q_14c => asB (l 15) fun two_15 => asSl (l 16) fun r_16 r_16n r_16c => asB (l 17) fun three_17 => asSl (l 18) fun v_18 v_18n v_18c => asB (l 19) fun four_19 => bolterlaw25_EventTwo_b4 R a_4 b_5 x_10 y_11 p_12 p_12n p_12c one_13 q_14 q_14n q_14c two_15 r_16 r_16n r_16c three_17 v_18 v_18n v_18c four_19 I S) (cast (by kernel_rfl) h) ?_
      clear h
      intro l I S _ h
      obtain ⟨a_4, e4, h⟩ := asAdr_e h
      obtain ⟨b_5, e5, h⟩ := asAdr_e h
      obtain ⟨x_10, e10, h⟩ := asAdr_e h
      obtain ⟨y_11, e11, h⟩ := asAdr_e h
      obtain ⟨p_12, p_12n, p_12c, e12, h⟩ := asSl_e h
      obtain ⟨one_13, e13, h⟩ := asB_e h
      obtain ⟨q_14, q_14n, q_14c, e14, h⟩ := asSl_e h
      obtain ⟨two_15, e15, h⟩ := asB_e h
      obtain ⟨r_16, r_16n, r_16c, e16, h⟩ := asSl_e h
      obtain ⟨three_17, e17, h⟩ := asB_e h
      obtain ⟨v_18, v_18n, v_18c, e18, h⟩ := asSl_e h
      obtain ⟨four_19, e19, h⟩ := asB_e h
      rw [upd_eta e4, upd_eta e5, upd_eta e10, upd_eta e11, upd_eta e12, upd_eta e13, upd_eta e14, upd_eta e15, upd_eta e16, upd_eta e17, upd_eta e18, upd_eta e19]
      refine WP.seqY (by kernel_rfl) (fun l I S => asB (l 8) fun x8 => bolterlaw25_EventTwo_b5 R x8 I S) ?_ ?_
      ·
        exact WP.quiet' (by kernel_rfl) (by kernel_rfl) (by kernel_rfl) (cast (by kernel_rfl) h)
      · clear h
        intro l I S _ h
        obtain ⟨x8, e8, h⟩ := asB_e h
        rw [upd_eta e8]
        exact Pre.sound _ _ _ _ _ (cast (by kernel_rfl) h)
/-! ### bolterlaw25_EventBytes: function 12, bolter/bolterlaw25.EventBytes -/
noncomputable def bolterlaw25_EventBytes_code : Code := (Tryd.f12.body).getD .skip
def bolterlaw25_EventBytes_b2 (R : Value → IMem → SH → Prop) (x2 : Bool) (I : IMem) (S : SH) : Prop :=
  R (.bool x2) I S
def bolterlaw25_EventBytes_b1 (R : Value → IMem → SH → Prop) (e_3 : Addr) (b_4 : Option Addr) (b_4n : Nat) (b_4c : Nat) (ok_5 : Bool) (x_6 : Addr) (is_7 : Bool) (I : IMem) (S : SH) : Prop :=
  ∃ x22_0, Cell I S e_3 (.int .i64 x22_0) ∧
  ∃ x22_1, Cell I S (e_3.add 1) (.string x22_1) ∧
  ∃ x22_2, Cell I S (e_3.add 2) (.string x22_2) ∧
  ∃ x22_3, Cell I S (e_3.add 3) (.int .u16 x22_3) ∧
  ∃ x22_4, Cell I S (e_3.add 4) (.int .i64 x22_4) ∧
  ∃ x22_5, Cell I S (e_3.add 5) (.int .i64 x22_5) ∧
  ∃ x22_6, Cell I S (e_3.add 6) (.string x22_6) ∧
  ∃ x22_7, Cell I S (e_3.add 7) (.string x22_7) ∧
  ∃ x22_8, Cell I S (e_3.add 8) (.int .i64 x22_8) ∧
  ∃ x22_9, Cell I S (e_3.add 9) (.int .i64 x22_9) ∧
  Runs Tryd.prog 32 #[.agg #[.int .i64 x22_0, .string x22_1, .string x22_2, .int .u16 x22_3, .int .i64 x22_4, .int .i64 x22_5, .string x22_6, .string x22_7, .int .i64 x22_8, .int .i64 x22_9]] I S fun v I1 S1 => ∃ x23, v = .bool x23 ∧
  Keep I S I1 S1 ∧
  bcase x23
    (∃ x25_0, Cell I S e_3 (.int .i64 x25_0) ∧
    ∃ x25_1, Cell I S (e_3.add 1) (.string x25_1) ∧
    ∃ x25_2, Cell I S (e_3.add 2) (.string x25_2) ∧
    ∃ x25_3, Cell I S (e_3.add 3) (.int .u16 x25_3) ∧
    ∃ x25_4, Cell I S (e_3.add 4) (.int .i64 x25_4) ∧
    ∃ x25_5, Cell I S (e_3.add 5) (.int .i64 x25_5) ∧
    ∃ x25_6, Cell I S (e_3.add 6) (.string x25_6) ∧
    ∃ x25_7, Cell I S (e_3.add 7) (.string x25_7) ∧
    ∃ x25_8, Cell I S (e_3.add 8) (.int .i64 x25_8) ∧
    ∃ x25_9, Cell I S (e_3.add 9) (.int .i64 x25_9) ∧
    Runs Tryd.prog 31 #[.agg #[.int .i64 x25_0, .string x25_1, .string x25_2, .int .u16 x25_3, .int .i64 x25_4, .int .i64 x25_5, .string x25_6, .string x25_7, .int .i64 x25_8, .int .i64 x25_9]] I1 S1 fun v' I1' S1' => ∃ x26, v' = .bool x26 ∧
    Keep I S I1' S1' ∧
    bcase x26
      (bcase ok_5
        (∃ x33 : ByteArray, BytesAt I S b_4 b_4n x33 ∧
        ∃ x34_0, Cell I S e_3 (.int .i64 x34_0) ∧
        ∃ x34_1, Cell I S (e_3.add 1) (.string x34_1) ∧
        ∃ x34_2, Cell I S (e_3.add 2) (.string x34_2) ∧
        ∃ x34_3, Cell I S (e_3.add 3) (.int .u16 x34_3) ∧
        ∃ x34_4, Cell I S (e_3.add 4) (.int .i64 x34_4) ∧
        ∃ x34_5, Cell I S (e_3.add 5) (.int .i64 x34_5) ∧
        ∃ x34_6, Cell I S (e_3.add 6) (.string x34_6) ∧
        ∃ x34_7, Cell I S (e_3.add 7) (.string x34_7) ∧
        ∃ x34_8, Cell I S (e_3.add 8) (.int .i64 x34_8) ∧
        ∃ x34_9, Cell I S (e_3.add 9) (.int .i64 x34_9) ∧
        Runs Tryd.prog 33 #[.agg #[.int .i64 x34_0, .string x34_1, .string x34_2, .int .u16 x34_3, .int .i64 x34_4, .int .i64 x34_5, .string x34_6, .string x34_7, .int .i64 x34_8, .int .i64 x34_9]] I1' S1' fun v'' I1'' S1'' => ∃ x35, v'' = .string x35 ∧
        Keep I S I1'' S1'' ∧
        bcase (x33.toList == x35.toList)
          (bcase is_7
            (∃ x42_0, Cell I S x_6 (.int .i64 x42_0) ∧
            ∃ x42_1, Cell I S (x_6.add 1) (.string x42_1) ∧
            ∃ x42_2, Cell I S (x_6.add 2) (.string x42_2) ∧
            ∃ x42_3, Cell I S (x_6.add 3) (.int .u16 x42_3) ∧
            ∃ x42_4, Cell I S (x_6.add 4) (.int .i64 x42_4) ∧
            ∃ x42_5, Cell I S (x_6.add 5) (.int .i64 x42_5) ∧
            ∃ x42_6, Cell I S (x_6.add 6) (.string x42_6) ∧
            ∃ x42_7, Cell I S (x_6.add 7) (.string x42_7) ∧
            ∃ x42_8, Cell I S (x_6.add 8) (.int .i64 x42_8) ∧
            ∃ x42_9, Cell I S (x_6.add 9) (.int .i64 x42_9) ∧
            ∃ x43_0, Cell I S e_3 (.int .i64 x43_0) ∧
            ∃ x43_1, Cell I S (e_3.add 1) (.string x43_1) ∧
            ∃ x43_2, Cell I S (e_3.add 2) (.string x43_2) ∧
            ∃ x43_3, Cell I S (e_3.add 3) (.int .u16 x43_3) ∧
            ∃ x43_4, Cell I S (e_3.add 4) (.int .i64 x43_4) ∧
            ∃ x43_5, Cell I S (e_3.add 5) (.int .i64 x43_5) ∧
            ∃ x43_6, Cell I S (e_3.add 6) (.string x43_6) ∧
            ∃ x43_7, Cell I S (e_3.add 7) (.string x43_7) ∧
            ∃ x43_8, Cell I S (e_3.add 8) (.int .i64 x43_8) ∧
            ∃ x43_9, Cell I S (e_3.add 9) (.int .i64 x43_9) ∧
            bolterlaw25_EventBytes_b2 R (((x42_0 : Int) == (x43_0 : Int)) && (((x42_1 : ByteArray) == (x43_1 : ByteArray)) && (((x42_2 : ByteArray) == (x43_2 : ByteArray)) && (((x42_3 : Int) == (x43_3 : Int)) && (((x42_4 : Int) == (x43_4 : Int)) && ((((x42_5 : Int) == (x43_5 : Int)) && (((x42_6 : ByteArray) == (x43_6 : ByteArray)) && ((((x42_7 : ByteArray) == (x43_7 : ByteArray)) && (((x42_8 : Int) == (x43_8 : Int)) && true)) && true))) && (((x42_9 : Int) == (x43_9 : Int)) && true))))))) I1'' S1'')
            (bolterlaw25_EventBytes_b2 R false I1'' S1''))
          (bolterlaw25_EventBytes_b2 R false I1'' S1''))
        (Keep I S I1' S1' ∧
        bolterlaw25_EventBytes_b2 R false I1' S1'))
      (Keep I S I1' S1' ∧
      bolterlaw25_EventBytes_b2 R false I1' S1'))
    (Keep I S I1 S1 ∧
    Keep I S I1 S1 ∧
    bolterlaw25_EventBytes_b2 R false I1 S1)
def bolterlaw25_EventBytes (R : Value → IMem → SH → Prop) (s_0_0 : Int) (s_0_1 : Option Addr) (s_0_1n : Nat) (s_0_1c : Nat) (s_0_2 : Option Addr) (s_0_2n : Nat) (s_0_2c : Nat) (s_0_3 : Int) (s_0_4 : Int) (s_0_5 : Int) (s_0_6 : Option Addr) (s_0_6n : Nat) (s_0_6c : Nat) (s_0_7 : Bool) (s_0_8 : Int) (s_0_9 : Int) (I : IMem) (S : SH) : Prop :=
  ∀ b1 : Nat,
  Runs Tryd.prog 29 #[] I ((b1, .cells #[.int .u32 s_0_0, .slice s_0_1 s_0_1n s_0_1c, .slice s_0_2 s_0_2n s_0_2c, .int .u16 s_0_3, .int .u8 s_0_4, .int .u8 s_0_5, .slice s_0_6 s_0_6n s_0_6c, .bool s_0_7, .int .u8 s_0_8, .int .u8 s_0_9] 72 (0, 0)) :: S) fun v I1 S1 => ∃ x8, v = .bool x8 ∧
  bcase (!x8)
    (R (.bool false) I1 S1)
    (∃ x10_0, Cell I1 S1 ⟨b1, 0, none⟩ (.int .u32 x10_0) ∧
    ∃ x10_1 x10_1n x10_1c, Cell I1 S1 ⟨b1, 1, none⟩ (.slice x10_1 x10_1n x10_1c) ∧
    ∃ x10_2 x10_2n x10_2c, Cell I1 S1 ⟨b1, 2, none⟩ (.slice x10_2 x10_2n x10_2c) ∧
    ∃ x10_3, Cell I1 S1 ⟨b1, 3, none⟩ (.int .u16 x10_3) ∧
    ∃ x10_4, Cell I1 S1 ⟨b1, 4, none⟩ (.int .u8 x10_4) ∧
    ∃ x10_5, Cell I1 S1 ⟨b1, 5, none⟩ (.int .u8 x10_5) ∧
    ∃ x10_6 x10_6n x10_6c, Cell I1 S1 ⟨b1, 6, none⟩ (.slice x10_6 x10_6n x10_6c) ∧
    ∃ x10_7, Cell I1 S1 ⟨b1, 7, none⟩ (.bool x10_7) ∧
    ∃ x10_8, Cell I1 S1 ⟨b1, 8, none⟩ (.int .u8 x10_8) ∧
    ∃ x10_9, Cell I1 S1 ⟨b1, 9, none⟩ (.int .u8 x10_9) ∧
    Runs Tryd.prog 34 #[.agg #[.int .u32 x10_0, .slice x10_1 x10_1n x10_1c, .slice x10_2 x10_2n x10_2c, .int .u16 x10_3, .int .u8 x10_4, .int .u8 x10_5, .slice x10_6 x10_6n x10_6c, .bool x10_7, .int .u8 x10_8, .int .u8 x10_9]] I1 S1 fun v' I1' S1' => ∃ x11_0 x11_1 x11_2 x11_3 x11_4 x11_5 x11_6 x11_7 x11_8 x11_9, v' = .agg #[.int .i64 x11_0, .string x11_1, .string x11_2, .int .u16 x11_3, .int .i64 x11_4, .int .i64 x11_5, .string x11_6, .string x11_7, .int .i64 x11_8, .int .i64 x11_9] ∧
    ∀ b3 : Nat,
    StP ((b3, .cells #[.int .i64 0, .string ⟨#[]⟩, .string ⟨#[]⟩, .int .u16 0, .int .i64 0, .int .i64 0, .string ⟨#[]⟩, .string ⟨#[]⟩, .int .i64 0, .int .i64 0] 65 (0, 0)) :: S1') ⟨b3, 0, none⟩ [.int .i64 x11_0, .string x11_1, .string x11_2, .int .u16 x11_3, .int .i64 x11_4, .int .i64 x11_5, .string x11_6, .string x11_7, .int .i64 x11_8, .int .i64 x11_9] fun S1'' =>
    ∃ x13_0, Cell I1' S1'' ⟨b3, 0, none⟩ (.int .i64 x13_0) ∧
    ∃ x13_1, Cell I1' S1'' ⟨b3, 1, none⟩ (.string x13_1) ∧
    ∃ x13_2, Cell I1' S1'' ⟨b3, 2, none⟩ (.string x13_2) ∧
    ∃ x13_3, Cell I1' S1'' ⟨b3, 3, none⟩ (.int .u16 x13_3) ∧
    ∃ x13_4, Cell I1' S1'' ⟨b3, 4, none⟩ (.int .i64 x13_4) ∧
    ∃ x13_5, Cell I1' S1'' ⟨b3, 5, none⟩ (.int .i64 x13_5) ∧
    ∃ x13_6, Cell I1' S1'' ⟨b3, 6, none⟩ (.string x13_6) ∧
    ∃ x13_7, Cell I1' S1'' ⟨b3, 7, none⟩ (.string x13_7) ∧
    ∃ x13_8, Cell I1' S1'' ⟨b3, 8, none⟩ (.int .i64 x13_8) ∧
    ∃ x13_9, Cell I1' S1'' ⟨b3, 9, none⟩ (.int .i64 x13_9) ∧
    Runs Tryd.prog 30 #[.agg #[.int .i64 x13_0, .string x13_1, .string x13_2, .int .u16 x13_3, .int .i64 x13_4, .int .i64 x13_5, .string x13_6, .string x13_7, .int .i64 x13_8, .int .i64 x13_9]] I1' S1'' fun v'' I1'' S1_r3 => ∃ x14_0 x14_0n x14_0c x14_1, v'' = .tuple #[.slice x14_0 x14_0n x14_0c, .bool x14_1] ∧
    Runs Tryd.prog 35 #[.slice x14_0 x14_0n x14_0c] I1'' S1_r3 fun v_r3 I1_r3 S1_r4 => ∃ x19_0_0 x19_0_1 x19_0_2 x19_0_3 x19_0_4 x19_0_5 x19_0_6 x19_0_7 x19_0_8 x19_0_9 x19_1, v_r3 = .tuple #[.agg #[.int .i64 x19_0_0, .string x19_0_1, .string x19_0_2, .int .u16 x19_0_3, .int .i64 x19_0_4, .int .i64 x19_0_5, .string x19_0_6, .string x19_0_7, .int .i64 x19_0_8, .int .i64 x19_0_9], .bool x19_1] ∧
    ∀ b6 : Nat,
    StP ((b6, .cells #[.int .i64 0, .string ⟨#[]⟩, .string ⟨#[]⟩, .int .u16 0, .int .i64 0, .int .i64 0, .string ⟨#[]⟩, .string ⟨#[]⟩, .int .i64 0, .int .i64 0] 65 (0, 0)) :: S1_r4) ⟨b6, 0, none⟩ [.int .i64 x19_0_0, .string x19_0_1, .string x19_0_2, .int .u16 x19_0_3, .int .i64 x19_0_4, .int .i64 x19_0_5, .string x19_0_6, .string x19_0_7, .int .i64 x19_0_8, .int .i64 x19_0_9] fun S1_r5 =>
    bolterlaw25_EventBytes_b1 R ⟨b3, 0, none⟩ x14_0 x14_0n x14_0c x14_1 ⟨b6, 0, none⟩ x19_1 I1_r3 S1_r5)
theorem bolterlaw25_EventBytes_fn (R : Value → IMem → SH → Prop) (s_0_0 : Int) (s_0_1 : Option Addr) (s_0_1n : Nat) (s_0_1c : Nat) (s_0_2 : Option Addr) (s_0_2n : Nat) (s_0_2c : Nat) (s_0_3 : Int) (s_0_4 : Int) (s_0_5 : Int) (s_0_6 : Option Addr) (s_0_6n : Nat) (s_0_6c : Nat) (s_0_7 : Bool) (s_0_8 : Int) (s_0_9 : Int) (I : IMem) (S : SH) (h : bolterlaw25_EventBytes R s_0_0 s_0_1 s_0_1n s_0_1c s_0_2 s_0_2n s_0_2c s_0_3 s_0_4 s_0_5 s_0_6 s_0_6n s_0_6c s_0_7 s_0_8 s_0_9 I S) :
    Runs Tryd.prog 12 #[.agg #[.int .u32 s_0_0, .slice s_0_1 s_0_1n s_0_1c, .slice s_0_2 s_0_2n s_0_2c, .int .u16 s_0_3, .int .u8 s_0_4, .int .u8 s_0_5, .slice s_0_6 s_0_6n s_0_6c, .bool s_0_7, .int .u8 s_0_8, .int .u8 s_0_9]] I S R := by
  refine Runs.of_wp (args := [.agg #[.int .u32 s_0_0, .slice s_0_1 s_0_1n s_0_1c, .slice s_0_2 s_0_2n s_0_2c, .int .u16 s_0_3, .int .u8 s_0_4, .int .u8 s_0_5, .slice s_0_6 s_0_6n s_0_6c, .bool s_0_7, .int .u8 s_0_8, .int .u8 s_0_9]]) (c := bolterlaw25_EventBytes_code) Tryd.func12 (by kernel_rfl) (by kernel_rfl) ?_
  refine WP.cut 5 (fun l I S => asAdr (l 3) fun e_3 => asSl (l 4) fun b_4 b_4n b_4c => asB (l 5) fun ok_5 => asAdr (l 6) fun x_6 => asB (l 7) fun is_7 => bolterlaw25_EventBytes_b1 R e_3 b_4 b_4n b_4c ok_5 x_6 is_7 I S) (cast (by kernel_rfl) h) ?_
  clear h
  intro l I S _ h
  obtain ⟨e_3, e3, h⟩ := asAdr_e h
  obtain ⟨b_4, b_4n, b_4c, e4, h⟩ := asSl_e h
  obtain ⟨ok_5, e5, h⟩ := asB_e h
  obtain ⟨x_6, e6, h⟩ := asAdr_e h
  obtain ⟨is_7, e7, h⟩ := asB_e h
  rw [upd_eta e3, upd_eta e4, upd_eta e5, upd_eta e6, upd_eta e7]
  refine WP.seqY (by kernel_rfl) (fun l I S => asB (l 2) fun x2 => bolterlaw25_EventBytes_b2 R x2 I S) ?_ ?_
  ·
    exact WP.draw' (.take 0 (.step 1 (.take 2 (.take 3 (.step 4 (.take 5 (.take 6 (.take 7 (.take 8 (.take 9 (.take 10 (.take 11 (.take 12 (.step 13 (.take 14 (.take 15 (.take 16 (.take 17 (.take 18 (.take 19 (.take 20 (.take 21 (.take 22 (.take 23 (.take 24 .done))))))))))))))))))))))))) [1, 4, 13] (by kernel_rfl) (by kernel_rfl) (by kernel_rfl) (by kernel_rfl) (by kernel_rfl) (cast (by kernel_rfl) h)
  · clear h
    intro l I S _ h
    obtain ⟨x2, e2, h⟩ := asB_e h
    rw [upd_eta e2]
    exact Pre.sound _ _ _ _ _ (cast (by kernel_rfl) h)
/-! ### bolterlaw25_EventRead: function 13, bolter/bolterlaw25.EventRead -/
noncomputable def bolterlaw25_EventRead_code : Code := (Tryd.f13.body).getD .skip
def bolterlaw25_EventRead_b7 (again3 : Int → Option Addr → Nat → Nat → Option Addr → Nat → Nat → Option Addr → Nat → Nat → Int → Int → IMem → SH → Prop) (R : Value → IMem → SH → Prop) (at_2 : Int) (good_9 : Option Addr) (good_9n : Nat) (good_9c : Nat) (long_11 : Option Addr) (long_11n : Nat) (long_11c : Nat) (x51 : Option Addr) (x51n : Nat) (x51c : Nat) (x52 : Int) (x53 : Int) (I : IMem) (S : SH) : Prop :=
  again3 at_2 good_9 good_9n good_9c long_11 long_11n long_11c x51 x51n x51c x52 (IntKind.wrap .i64 (x53 + (1 : Int))) I S
def bolterlaw25_EventRead_b6 (again3 : Int → Option Addr → Nat → Nat → Option Addr → Nat → Nat → Option Addr → Nat → Nat → Int → Int → IMem → SH → Prop) (R : Value → IMem → SH → Prop) (at_2 : Int) (good_9 : Option Addr) (good_9n : Nat) (good_9c : Nat) (long_11 : Option Addr) (long_11n : Nat) (long_11c : Nat) (x51 : Option Addr) (x51n : Nat) (x51c : Nat) (x52 : Int) (x53 : Int) (x83 : Bool) (I : IMem) (S : SH) : Prop :=
  bcase x83
    (R (.bool false) I S)
    (bolterlaw25_EventRead_b7 again3 R at_2 good_9 good_9n good_9c long_11 long_11n long_11c x51 x51n x51c x52 x53 I S)
def bolterlaw25_EventRead_b5 (again3 : Int → Option Addr → Nat → Nat → Option Addr → Nat → Nat → Option Addr → Nat → Nat → Int → Int → IMem → SH → Prop) (R : Value → IMem → SH → Prop) (at_2 : Int) (good_9 : Option Addr) (good_9n : Nat) (good_9c : Nat) (long_11 : Option Addr) (long_11n : Nat) (long_11c : Nat) (x_13 : Option Addr) (x_13n : Nat) (x_13c : Nat) (e_14 : Addr) (ok_15 : Bool) (x51 : Option Addr) (x51n : Nat) (x51c : Nat) (x52 : Int) (x53 : Int) (I : IMem) (S : SH) : Prop :=
  bcase ok_15
    (∃ x64_0, Cell I S e_14 (.int .i64 x64_0) ∧
    ∃ x64_1, Cell I S (e_14.add 1) (.string x64_1) ∧
    ∃ x64_2, Cell I S (e_14.add 2) (.string x64_2) ∧
    ∃ x64_3, Cell I S (e_14.add 3) (.int .u16 x64_3) ∧
    ∃ x64_4, Cell I S (e_14.add 4) (.int .i64 x64_4) ∧
    ∃ x64_5, Cell I S (e_14.add 5) (.int .i64 x64_5) ∧
    ∃ x64_6, Cell I S (e_14.add 6) (.string x64_6) ∧
    ∃ x64_7, Cell I S (e_14.add 7) (.string x64_7) ∧
    ∃ x64_8, Cell I S (e_14.add 8) (.int .i64 x64_8) ∧
    ∃ x64_9, Cell I S (e_14.add 9) (.int .i64 x64_9) ∧
    Runs Tryd.prog 32 #[.agg #[.int .i64 x64_0, .string x64_1, .string x64_2, .int .u16 x64_3, .int .i64 x64_4, .int .i64 x64_5, .string x64_6, .string x64_7, .int .i64 x64_8, .int .i64 x64_9]] I S fun v I1 S1 => ∃ x65, v = .bool x65 ∧
    Keep I S I1 S1 ∧
    bcase (!x65)
      (Keep I S I1 S1 ∧
      bolterlaw25_EventRead_b6 again3 R at_2 good_9 good_9n good_9c long_11 long_11n long_11c x51 x51n x51c x52 x53 true I1 S1)
      (∃ x68_0, Cell I S e_14 (.int .i64 x68_0) ∧
      ∃ x68_1, Cell I S (e_14.add 1) (.string x68_1) ∧
      ∃ x68_2, Cell I S (e_14.add 2) (.string x68_2) ∧
      ∃ x68_3, Cell I S (e_14.add 3) (.int .u16 x68_3) ∧
      ∃ x68_4, Cell I S (e_14.add 4) (.int .i64 x68_4) ∧
      ∃ x68_5, Cell I S (e_14.add 5) (.int .i64 x68_5) ∧
      ∃ x68_6, Cell I S (e_14.add 6) (.string x68_6) ∧
      ∃ x68_7, Cell I S (e_14.add 7) (.string x68_7) ∧
      ∃ x68_8, Cell I S (e_14.add 8) (.int .i64 x68_8) ∧
      ∃ x68_9, Cell I S (e_14.add 9) (.int .i64 x68_9) ∧
      ∃ x71 : ByteArray, BytesAt I S x_13 x_13n x71 ∧
      Runs Tryd.prog 33 #[.agg #[.int .i64 x68_0, .string x68_1, .string x68_2, .int .u16 x68_3, .int .i64 x68_4, .int .i64 x68_5, .string x68_6, .string x68_7, .int .i64 x68_8, .int .i64 x68_9]] I1 S1 fun v' I1' S1' => ∃ x69, v' = .string x69 ∧
      Keep I S I1' S1' ∧
      bcase (!(x69.toList == x71.toList))
        (bolterlaw25_EventRead_b6 again3 R at_2 good_9 good_9n good_9c long_11 long_11n long_11c x51 x51n x51c x52 x53 true I1' S1')
        (bcase (!ok_15)
          (∃ x79_0, Cell I S e_14 (.int .i64 x79_0) ∧
          ∃ x79_1, Cell I S (e_14.add 1) (.string x79_1) ∧
          ∃ x79_2, Cell I S (e_14.add 2) (.string x79_2) ∧
          ∃ x79_3, Cell I S (e_14.add 3) (.int .u16 x79_3) ∧
          ∃ x79_4, Cell I S (e_14.add 4) (.int .i64 x79_4) ∧
          ∃ x79_5, Cell I S (e_14.add 5) (.int .i64 x79_5) ∧
          ∃ x79_6, Cell I S (e_14.add 6) (.string x79_6) ∧
          ∃ x79_7, Cell I S (e_14.add 7) (.string x79_7) ∧
          ∃ x79_8, Cell I S (e_14.add 8) (.int .i64 x79_8) ∧
          ∃ x79_9, Cell I S (e_14.add 9) (.int .i64 x79_9) ∧
          bolterlaw25_EventRead_b6 again3 R at_2 good_9 good_9n good_9c long_11 long_11n long_11c x51 x51n x51c x52 x53 (!(((x79_0 : Int) == (0 : Int)) && (((x79_1 : ByteArray) == (⟨#[]⟩ : ByteArray)) && (((x79_2 : ByteArray) == (⟨#[]⟩ : ByteArray)) && (((x79_3 : Int) == (0 : Int)) && (((x79_4 : Int) == (0 : Int)) && ((((x79_5 : Int) == (0 : Int)) && (((x79_6 : ByteArray) == (⟨#[]⟩ : ByteArray)) && ((((x79_7 : ByteArray) == (⟨#[]⟩ : ByteArray)) && (((x79_8 : Int) == (0 : Int)) && true)) && true))) && (((x79_9 : Int) == (0 : Int)) && true)))))))) I1' S1')
          (bolterlaw25_EventRead_b6 again3 R at_2 good_9 good_9n good_9c long_11 long_11n long_11c x51 x51n x51c x52 x53 false I1' S1'))))
    (Keep I S I S ∧
    Keep I S I S ∧
    bcase (!ok_15)
      (∃ x79_0', Cell I S e_14 (.int .i64 x79_0') ∧
      ∃ x79_1', Cell I S (e_14.add 1) (.string x79_1') ∧
      ∃ x79_2', Cell I S (e_14.add 2) (.string x79_2') ∧
      ∃ x79_3', Cell I S (e_14.add 3) (.int .u16 x79_3') ∧
      ∃ x79_4', Cell I S (e_14.add 4) (.int .i64 x79_4') ∧
      ∃ x79_5', Cell I S (e_14.add 5) (.int .i64 x79_5') ∧
      ∃ x79_6', Cell I S (e_14.add 6) (.string x79_6') ∧
      ∃ x79_7', Cell I S (e_14.add 7) (.string x79_7') ∧
      ∃ x79_8', Cell I S (e_14.add 8) (.int .i64 x79_8') ∧
      ∃ x79_9', Cell I S (e_14.add 9) (.int .i64 x79_9') ∧
      bolterlaw25_EventRead_b6 again3 R at_2 good_9 good_9n good_9c long_11 long_11n long_11c x51 x51n x51c x52 x53 (!(((x79_0' : Int) == (0 : Int)) && (((x79_1' : ByteArray) == (⟨#[]⟩ : ByteArray)) && (((x79_2' : ByteArray) == (⟨#[]⟩ : ByteArray)) && (((x79_3' : Int) == (0 : Int)) && (((x79_4' : Int) == (0 : Int)) && ((((x79_5' : Int) == (0 : Int)) && (((x79_6' : ByteArray) == (⟨#[]⟩ : ByteArray)) && ((((x79_7' : ByteArray) == (⟨#[]⟩ : ByteArray)) && (((x79_8' : Int) == (0 : Int)) && true)) && true))) && (((x79_9' : Int) == (0 : Int)) && true)))))))) I S)
      (bolterlaw25_EventRead_b6 again3 R at_2 good_9 good_9n good_9c long_11 long_11n long_11c x51 x51n x51c x52 x53 false I S))
def bolterlaw25_EventRead_b4 (again3 : Int → Option Addr → Nat → Nat → Option Addr → Nat → Nat → Option Addr → Nat → Nat → Int → Int → IMem → SH → Prop) (R : Value → IMem → SH → Prop) (at_2 : Int) (good_9 : Option Addr) (good_9n : Nat) (good_9c : Nat) (long_11 : Option Addr) (long_11n : Nat) (long_11c : Nat) (x51 : Option Addr) (x51n : Nat) (x51c : Nat) (x52 : Int) (x53 : Int) (I : IMem) (S : SH) : Prop :=
  ptrP x51 fun x55 => (0 : Int) ≤ x53 ∧ x53 < (x51n : Int) ∧
  ∃ x56 x56n x56c, Cell I S (x55.add (x53.toNat * 1)) (.slice x56 x56n x56c) ∧
  Runs Tryd.prog 35 #[.slice x56 x56n x56c] I S fun v I1 S1 => ∃ x59_0_0 x59_0_1 x59_0_2 x59_0_3 x59_0_4 x59_0_5 x59_0_6 x59_0_7 x59_0_8 x59_0_9 x59_1, v = .tuple #[.agg #[.int .i64 x59_0_0, .string x59_0_1, .string x59_0_2, .int .u16 x59_0_3, .int .i64 x59_0_4, .int .i64 x59_0_5, .string x59_0_6, .string x59_0_7, .int .i64 x59_0_8, .int .i64 x59_0_9], .bool x59_1] ∧
  ∀ b14 : Nat,
  StP ((b14, .cells #[.int .i64 0, .string ⟨#[]⟩, .string ⟨#[]⟩, .int .u16 0, .int .i64 0, .int .i64 0, .string ⟨#[]⟩, .string ⟨#[]⟩, .int .i64 0, .int .i64 0] 65 (0, 0)) :: S1) ⟨b14, 0, none⟩ [.int .i64 x59_0_0, .string x59_0_1, .string x59_0_2, .int .u16 x59_0_3, .int .i64 x59_0_4, .int .i64 x59_0_5, .string x59_0_6, .string x59_0_7, .int .i64 x59_0_8, .int .i64 x59_0_9] fun S1' =>
  bolterlaw25_EventRead_b5 again3 R at_2 good_9 good_9n good_9c long_11 long_11n long_11c x56 x56n x56c ⟨b14, 0, none⟩ x59_1 x51 x51n x51c x52 x53 I1 S1'
def bolterlaw25_EventRead_b9 (R : Value → IMem → SH → Prop) (x8 : Bool) (I : IMem) (S : SH) : Prop :=
  R (.bool x8) I S
def bolterlaw25_EventRead_b8 (R : Value → IMem → SH → Prop) (at_2 : Int) (good_9 : Option Addr) (good_9n : Nat) (good_9c : Nat) (long_11 : Option Addr) (long_11n : Nat) (long_11c : Nat) (I : IMem) (S : SH) : Prop :=
  Runs Tryd.prog 35 #[.slice long_11 long_11n long_11c] I S fun v I1 S1 => ∃ x87_0_0 x87_0_1 x87_0_2 x87_0_3 x87_0_4 x87_0_5 x87_0_6 x87_0_7 x87_0_8 x87_0_9 x87_1, v = .tuple #[.agg #[.int .i64 x87_0_0, .string x87_0_1, .string x87_0_2, .int .u16 x87_0_3, .int .i64 x87_0_4, .int .i64 x87_0_5, .string x87_0_6, .string x87_0_7, .int .i64 x87_0_8, .int .i64 x87_0_9], .bool x87_1] ∧
  ∀ b16 : Nat,
  StP ((b16, .cells #[.int .i64 0, .string ⟨#[]⟩, .string ⟨#[]⟩, .int .u16 0, .int .i64 0, .int .i64 0, .string ⟨#[]⟩, .string ⟨#[]⟩, .int .i64 0, .int .i64 0] 65 (0, 0)) :: S1) ⟨b16, 0, none⟩ [.int .i64 x87_0_0, .string x87_0_1, .string x87_0_2, .int .u16 x87_0_3, .int .i64 x87_0_4, .int .i64 x87_0_5, .string x87_0_6, .string x87_0_7, .int .i64 x87_0_8, .int .i64 x87_0_9] fun S1' =>
  bcase (decide ((good_9n : Int) = 0)) False ((0 : Int) ≤ ((IntKind.wrap .i64 at_2).tmod (good_9n : Int)) ∧ ((IntKind.wrap .i64 at_2).tmod (good_9n : Int)) ≤ ((good_9c : Nat) : Int) ∧
  Runs Tryd.prog 35 #[.slice (slA good_9 good_9c 0 1) (((IntKind.wrap .i64 at_2).tmod (good_9n : Int)).toNat - 0) (good_9c - 0)] I1 S1' fun v' I1' S1'' => ∃ x98_0_0 x98_0_1 x98_0_2 x98_0_3 x98_0_4 x98_0_5 x98_0_6 x98_0_7 x98_0_8 x98_0_9 x98_1, v' = .tuple #[.agg #[.int .i64 x98_0_0, .string x98_0_1, .string x98_0_2, .int .u16 x98_0_3, .int .i64 x98_0_4, .int .i64 x98_0_5, .string x98_0_6, .string x98_0_7, .int .i64 x98_0_8, .int .i64 x98_0_9], .bool x98_1] ∧
  ∀ b18 : Nat,
  StP ((b18, .cells #[.int .i64 0, .string ⟨#[]⟩, .string ⟨#[]⟩, .int .u16 0, .int .i64 0, .int .i64 0, .string ⟨#[]⟩, .string ⟨#[]⟩, .int .i64 0, .int .i64 0] 65 (0, 0)) :: S1'') ⟨b18, 0, none⟩ [.int .i64 x98_0_0, .string x98_0_1, .string x98_0_2, .int .u16 x98_0_3, .int .i64 x98_0_4, .int .i64 x98_0_5, .string x98_0_6, .string x98_0_7, .int .i64 x98_0_8, .int .i64 x98_0_9] fun S1_r3 =>
  bcase (!x87_1)
    (bolterlaw25_EventRead_b9 R (!x98_1) I1' S1_r3)
    (bolterlaw25_EventRead_b9 R false I1' S1_r3))
def bolterlaw25_EventRead_l3 (again3 : Int → Option Addr → Nat → Nat → Option Addr → Nat → Nat → Option Addr → Nat → Nat → Int → Int → IMem → SH → Prop) (R : Value → IMem → SH → Prop) (at_2 : Int) (good_9 : Option Addr) (good_9n : Nat) (good_9c : Nat) (long_11 : Option Addr) (long_11n : Nat) (long_11c : Nat) (x51 : Option Addr) (x51n : Nat) (x51c : Nat) (x52 : Int) (x53 : Int) (I : IMem) (S : SH) : Prop :=
  bcase (decide (x53 < x52))
    (bolterlaw25_EventRead_b4 again3 R at_2 good_9 good_9n good_9c long_11 long_11n long_11c x51 x51n x51c x52 x53 I S)
    (bolterlaw25_EventRead_b8 R at_2 good_9 good_9n good_9c long_11 long_11n long_11c I S)
def bolterlaw25_EventRead_b2 (R : Value → IMem → SH → Prop) (at_2 : Int) (good_9 : Option Addr) (good_9n : Nat) (good_9c : Nat) (long_11 : Option Addr) (long_11n : Nat) (long_11c : Nat) (x51 : Option Addr) (x51n : Nat) (x51c : Nat) (x52 : Int) (x53 : Int) (I : IMem) (S : SH) : Prop :=
  ∃ (Inv : Nat → Int → Option Addr → Nat → Nat → Option Addr → Nat → Nat → Option Addr → Nat → Nat → Int → Int → IMem → SH → Prop) (m : Nat), Inv m at_2 good_9 good_9n good_9c long_11 long_11n long_11c x51 x51n x51c x52 x53 I S ∧
    ∀ (m : Nat) (at_2 : Int) (good_9 : Option Addr) (good_9n : Nat) (good_9c : Nat) (long_11 : Option Addr) (long_11n : Nat) (long_11c : Nat) (x51 : Option Addr) (x51n : Nat) (x51c : Nat) (x52 : Int) (x53 : Int) (J : IMem) (T : SH), I.le J → Inv m at_2 good_9 good_9n good_9c long_11 long_11n long_11c x51 x51n x51c x52 x53 J T →
      bolterlaw25_EventRead_l3 (fun at_2 good_9 good_9n good_9c long_11 long_11n long_11c x51 x51n x51c x52 x53 I S => ∃ m', m' < m ∧ Inv m' at_2 good_9 good_9n good_9c long_11 long_11n long_11c x51 x51n x51c x52 x53 I S) R at_2 good_9 good_9n good_9c long_11 long_11n long_11c x51 x51n x51c x52 x53 J T
def bolterlaw25_EventRead_b1 (R : Value → IMem → SH → Prop) (b_0 : Option Addr) (b_0n : Nat) (b_0c : Nat) (at_2 : Int) (good_9 : Option Addr) (good_9n : Nat) (good_9c : Nat) (turned_10 : Option Addr) (turned_10n : Nat) (turned_10c : Nat) (long_11 : Option Addr) (long_11n : Nat) (long_11c : Nat) (I : IMem) (S : SH) : Prop :=
  bcase (decide ((good_9n : Int) = 0)) False ((0 : Int) ≤ ((IntKind.wrap .i64 at_2).tmod (good_9n : Int)) ∧ ((IntKind.wrap .i64 at_2).tmod (good_9n : Int)) ≤ ((good_9c : Nat) : Int) ∧
  ∀ b51 : Nat,
  bolterlaw25_EventRead_b2 R at_2 good_9 good_9n good_9c long_11 long_11n long_11c (some ⟨b51, 0, none⟩) 4 4 (4 : Int) 0 I ((b51, .cells #[.slice b_0 b_0n b_0c, .slice turned_10 turned_10n turned_10c, .slice long_11 long_11n long_11c, .slice (slA good_9 good_9c 0 1) (((IntKind.wrap .i64 at_2).tmod (good_9n : Int)).toNat - 0) (good_9c - 0)] 22 (0, 0)) :: S))
def bolterlaw25_EventRead (R : Value → IMem → SH → Prop) (b_0 : Option Addr) (b_0n : Nat) (b_0c : Nat) (s_1_0 : Int) (s_1_1 : Option Addr) (s_1_1n : Nat) (s_1_1c : Nat) (s_1_2 : Option Addr) (s_1_2n : Nat) (s_1_2c : Nat) (s_1_3 : Int) (s_1_4 : Int) (s_1_5 : Int) (s_1_6 : Option Addr) (s_1_6n : Nat) (s_1_6c : Nat) (s_1_7 : Bool) (s_1_8 : Int) (s_1_9 : Int) (at_2 : Int) (with_3 : Int) (I : IMem) (S : SH) : Prop :=
  ∀ b5 : Nat,
  Runs Tryd.prog 29 #[] I ((b5, .cells #[.int .u32 s_1_0, .slice s_1_1 s_1_1n s_1_1c, .slice s_1_2 s_1_2n s_1_2c, .int .u16 s_1_3, .int .u8 s_1_4, .int .u8 s_1_5, .slice s_1_6 s_1_6n s_1_6c, .bool s_1_7, .int .u8 s_1_8, .int .u8 s_1_9] 72 (0, 0)) :: S) fun v I1 S1 => ∃ x20, v = .bool x20 ∧
  bcase (!x20)
    (R (.bool false) I1 S1)
    (∃ x22_0, Cell I1 S1 ⟨b5, 0, none⟩ (.int .u32 x22_0) ∧
    ∃ x22_1 x22_1n x22_1c, Cell I1 S1 ⟨b5, 1, none⟩ (.slice x22_1 x22_1n x22_1c) ∧
    ∃ x22_2 x22_2n x22_2c, Cell I1 S1 ⟨b5, 2, none⟩ (.slice x22_2 x22_2n x22_2c) ∧
    ∃ x22_3, Cell I1 S1 ⟨b5, 3, none⟩ (.int .u16 x22_3) ∧
    ∃ x22_4, Cell I1 S1 ⟨b5, 4, none⟩ (.int .u8 x22_4) ∧
    ∃ x22_5, Cell I1 S1 ⟨b5, 5, none⟩ (.int .u8 x22_5) ∧
    ∃ x22_6 x22_6n x22_6c, Cell I1 S1 ⟨b5, 6, none⟩ (.slice x22_6 x22_6n x22_6c) ∧
    ∃ x22_7, Cell I1 S1 ⟨b5, 7, none⟩ (.bool x22_7) ∧
    ∃ x22_8, Cell I1 S1 ⟨b5, 8, none⟩ (.int .u8 x22_8) ∧
    ∃ x22_9, Cell I1 S1 ⟨b5, 9, none⟩ (.int .u8 x22_9) ∧
    Runs Tryd.prog 34 #[.agg #[.int .u32 x22_0, .slice x22_1 x22_1n x22_1c, .slice x22_2 x22_2n x22_2c, .int .u16 x22_3, .int .u8 x22_4, .int .u8 x22_5, .slice x22_6 x22_6n x22_6c, .bool x22_7, .int .u8 x22_8, .int .u8 x22_9]] I1 S1 fun v' I1' S1' => ∃ x23_0 x23_1 x23_2 x23_3 x23_4 x23_5 x23_6 x23_7 x23_8 x23_9, v' = .agg #[.int .i64 x23_0, .string x23_1, .string x23_2, .int .u16 x23_3, .int .i64 x23_4, .int .i64 x23_5, .string x23_6, .string x23_7, .int .i64 x23_8, .int .i64 x23_9] ∧
    Runs Tryd.prog 33 #[.agg #[.int .i64 x23_0, .string x23_1, .string x23_2, .int .u16 x23_3, .int .i64 x23_4, .int .i64 x23_5, .string x23_6, .string x23_7, .int .i64 x23_8, .int .i64 x23_9]] I1' S1' fun v'' I1'' S1'' => ∃ x24, v'' = .string x24 ∧
    x24.size ≤ maxLen ∧ ∀ b25 c25 : Nat, x24.size ≤ c25 → c25 ≤ maxLen →
    AppG 5 1 1 [.int .u8 0] (some (.slice 5)) I1'' ((b25, .cells (byteCells x24 ++ repV (c25 - x24.size) [.int .u8 0]).toArray 5 (c25, c25 + 1)) :: S1'') (.slice none 0 0) (.slice (some ⟨b25, 0, none⟩) x24.size c25) fun x27 x27n x27c S1_r3 =>
    bcase (decide ((x27n : Int) = 0)) False (ptrP x27 fun x35 => (0 : Int) ≤ ((IntKind.wrap .i64 at_2).tmod (x27n : Int)) ∧ ((IntKind.wrap .i64 at_2).tmod (x27n : Int)) < (x27n : Int) ∧
    StP S1_r3 (x35.add (((IntKind.wrap .i64 at_2).tmod (x27n : Int)).toNat * 1)) [.int .u8 with_3] fun S1_r4 =>
    AppG 5 1 1 [.int .u8 0] (some (.slice 5)) I1'' S1_r4 (.slice none 0 0) (.slice (some ⟨b25, 0, none⟩) x24.size c25) fun x37 x37n x37c S1_r5 =>
    ∀ b39 : Nat,
    AppG 5 1 1 [.int .u8 0] (some (.slice 5)) I1'' ((b39, .cells #[.int .u8 with_3] 5 (0, 0)) :: S1_r5) (.slice x37 x37n x37c) (.slice (some ⟨b39, 0, none⟩) 1 1) fun x40 x40n x40c S1_r6 =>
    bolterlaw25_EventRead_b1 R b_0 b_0n b_0c at_2 (some ⟨b25, 0, none⟩) x24.size c25 x27 x27n x27c x40 x40n x40c I1'' S1_r6))
theorem bolterlaw25_EventRead_fn (R : Value → IMem → SH → Prop) (b_0 : Option Addr) (b_0n : Nat) (b_0c : Nat) (s_1_0 : Int) (s_1_1 : Option Addr) (s_1_1n : Nat) (s_1_1c : Nat) (s_1_2 : Option Addr) (s_1_2n : Nat) (s_1_2c : Nat) (s_1_3 : Int) (s_1_4 : Int) (s_1_5 : Int) (s_1_6 : Option Addr) (s_1_6n : Nat) (s_1_6c : Nat) (s_1_7 : Bool) (s_1_8 : Int) (s_1_9 : Int) (at_2 : Int) (with_3 : Int) (I : IMem) (S : SH) (h : bolterlaw25_EventRead R b_0 b_0n b_0c s_1_0 s_1_1 s_1_1n s_1_1c s_1_2 s_1_2n s_1_2c s_1_3 s_1_4 s_1_5 s_1_6 s_1_6n s_1_6c s_1_7 s_1_8 s_1_9 at_2 with_3 I S) :
    Runs Tryd.prog 13 #[.slice b_0 b_0n b_0c, .agg #[.int .u32 s_1_0, .slice s_1_1 s_1_1n s_1_1c, .slice s_1_2 s_1_2n s_1_2c, .int .u16 s_1_3, .int .u8 s_1_4, .int .u8 s_1_5, .slice s_1_6 s_1_6n s_1_6c, .bool s_1_7, .int .u8 s_1_8, .int .u8 s_1_9], .int .u8 at_2, .int .u8 with_3] I S R := by
  refine Runs.of_wp (args := [.slice b_0 b_0n b_0c, .agg #[.int .u32 s_1_0, .slice s_1_1 s_1_1n s_1_1c, .slice s_1_2 s_1_2n s_1_2c, .int .u16 s_1_3, .int .u8 s_1_4, .int .u8 s_1_5, .slice s_1_6 s_1_6n s_1_6c, .bool s_1_7, .int .u8 s_1_8, .int .u8 s_1_9], .int .u8 at_2, .int .u8 with_3]) (c := bolterlaw25_EventRead_code) Tryd.func13 (by kernel_rfl) (by kernel_rfl) ?_
  refine WP.cut 6 (fun l I S => asSl (l 0) fun b_0 b_0n b_0c => asI .u8 (l 2) fun at_2 => asSl (l 9) fun good_9 good_9n good_9c => asSl (l 10) fun turned_10 turned_10n turned_10c => asSl (l 11) fun long_11 long_11n long_11c => bolterlaw25_EventRead_b1 R b_0 b_0n b_0c at_2 good_9 good_9n good_9c turned_10 turned_10n turned_10c long_11 long_11n long_11c I S) (cast (by kernel_rfl) h) ?_
  clear h
  intro l I S _ h
  obtain ⟨b_0, b_0n, b_0c, e0, h⟩ := asSl_e h
  obtain ⟨at_2, e2, h⟩ := asI_e h
  obtain ⟨good_9, good_9n, good_9c, e9, h⟩ := asSl_e h
  obtain ⟨turned_10, turned_10n, turned_10c, e10, h⟩ := asSl_e h
  obtain ⟨long_11, long_11n, long_11c, e11, h⟩ := asSl_e h
  rw [upd_eta e0, upd_eta e2, upd_eta e9, upd_eta e10, upd_eta e11]
  refine WP.seqY (by kernel_rfl) (fun l I S => asI .u8 (l 2) fun at_2 => asSl (l 9) fun good_9 good_9n good_9c => asSl (l 11) fun long_11 long_11n long_11c => bolterlaw25_EventRead_b8 R at_2 good_9 good_9n good_9c long_11 long_11n long_11c I S) ?_ ?_
  ·
    refine WP.cut 1 (fun l I S => asI .u8 (l 2) fun at_2 => asSl (l 9) fun good_9 good_9n good_9c => asSl (l 11) fun long_11 long_11n long_11c => asSl (l 51) fun x51 x51n x51c => asI .i64 (l 52) fun x52 => asI .i64 (l 53) fun x53 => bolterlaw25_EventRead_b2 R at_2 good_9 good_9n good_9c long_11 long_11n long_11c x51 x51n x51c x52 x53 I S) (cast (by kernel_rfl) h) ?_
    clear h
    intro l I S _ h
    obtain ⟨at_2, e2, h⟩ := asI_e h
    obtain ⟨good_9, good_9n, good_9c, e9, h⟩ := asSl_e h
    obtain ⟨long_11, long_11n, long_11c, e11, h⟩ := asSl_e h
    obtain ⟨x51, x51n, x51c, e51, h⟩ := asSl_e h
    obtain ⟨x52, e52, h⟩ := asI_e h
    obtain ⟨x53, e53, h⟩ := asI_e h
    rw [upd_eta e2, upd_eta e9, upd_eta e11, upd_eta e51, upd_eta e52, upd_eta e53]
    refine WP.block' (by kernel_rfl) ?_
    obtain ⟨Inv_again3, m_again3, h0, hr⟩ := h
    refine WP.loop' (by kernel_rfl) (fun m_again3 => fun l I S => asI .u8 (l 2) fun at_2 => asSl (l 9) fun good_9 good_9n good_9c => asSl (l 11) fun long_11 long_11n long_11c => asSl (l 51) fun x51 x51n x51c => asI .i64 (l 52) fun x52 => asI .i64 (l 53) fun x53 => Inv_again3 m_again3 at_2 good_9 good_9n good_9c long_11 long_11n long_11c x51 x51n x51c x52 x53 I S) m_again3 (cast (by kernel_rfl) h0) ?_
    clear h0
    intro m_again3 l I S hle h
    obtain ⟨at_2, e2, h⟩ := asI_e h
    obtain ⟨good_9, good_9n, good_9c, e9, h⟩ := asSl_e h
    obtain ⟨long_11, long_11n, long_11c, e11, h⟩ := asSl_e h
    obtain ⟨x51, x51n, x51c, e51, h⟩ := asSl_e h
    obtain ⟨x52, e52, h⟩ := asI_e h
    obtain ⟨x53, e53, h⟩ := asI_e h
    rw [upd_eta e2, upd_eta e9, upd_eta e11, upd_eta e51, upd_eta e52, upd_eta e53]
    have h := hr m_again3 at_2 good_9 good_9n good_9c long_11 long_11n long_11c x51 x51n x51c x52 x53 I S hle h
    clear hr hle
    refine WP.cut 2 (fun l I S => asI .u8 (l 2) fun at_2 => asSl (l 9) fun good_9 good_9n good_9c => asSl (l 11) fun long_11 long_11n long_11c => asSl (l 51) fun x51 x51n x51c => asI .i64 (l 52) fun x52 => asI .i64 (l 53) fun x53 => bolterlaw25_EventRead_b4 (fun at_2 good_9 good_9n good_9c long_11 long_11n long_11c x51 x51n x51c x52 x53 I S => ∃ m', m' < m_again3 ∧ Inv_again3 m' at_2 good_9 good_9n good_9c long_11 long_11n long_11c x51 x51n x51c x52 x53 I S) R at_2 good_9 good_9n good_9c long_11 long_11n long_11c x51 x51n x51c x52 x53 I S) (cast (by kernel_rfl) h) ?_
    clear h
    intro l I S _ h
    obtain ⟨at_2, e2, h⟩ := asI_e h
    obtain ⟨good_9, good_9n, good_9c, e9, h⟩ := asSl_e h
    obtain ⟨long_11, long_11n, long_11c, e11, h⟩ := asSl_e h
    obtain ⟨x51, x51n, x51c, e51, h⟩ := asSl_e h
    obtain ⟨x52, e52, h⟩ := asI_e h
    obtain ⟨x53, e53, h⟩ := asI_e h
    rw [upd_eta e2, upd_eta e9, upd_eta e11, upd_eta e51, upd_eta e52, upd_eta e53]
    refine WP.seqY (by kernel_rfl) (fun l I S => asI .u8 (l 2) fun at_2 => asSl (l 9) fun good_9 good_9n good_9c => asSl (l 11) fun long_11 long_11n long_11c => asSl (l 51) fun x51 x51n x51c => asI .i64 (l 52) fun x52 => asI .i64 (l 53) fun x53 => bolterlaw25_EventRead_b7 (fun at_2 good_9 good_9n good_9c long_11 long_11n long_11c x51 x51n x51c x52 x53 I S => ∃ m', m' < m_again3 ∧ Inv_again3 m' at_2 good_9 good_9n good_9c long_11 long_11n long_11c x51 x51n x51c x52 x53 I S) R at_2 good_9 good_9n good_9c long_11 long_11n long_11c x51 x51n x51c x52 x53 I S) ?_ ?_
    ·
      refine WP.block' (by kernel_rfl) ?_
      refine WP.cut 2 (fun l I S => asI .u8 (l 2) fun at_2 => asSl (l 9) fun good_9 good_9n good_9c => asSl (l 11) fun long_11 long_11n long_11c => asSl (l 13) fun x_13 x_13n x_13c => asAdr (l 14) fun e_14 => asB (l 15) fun ok_15 => asSl (l 51) fun x51 x51n x51c => asI .i64 (l 52) fun x52 => asI .i64 (l 53) fun x53 => bolterlaw25_EventRead_b5 (fun at_2 good_9 good_9n good_9c long_11 long_11n long_11c x51 x51n x51c x52 x53 I S => ∃ m', m' < m_again3 ∧ Inv_again3 m' at_2 good_9 good_9n good_9c long_11 long_11n long_11c x51 x51n x51c x52 x53 I S) R at_2 good_9 good_9n good_9c long_11 long_11n long_11c x_13 x_13n x_13c e_14 ok_15 x51 x51n x51c x52 x53 I S) (cast (by kernel_rfl) h) ?_
      clear h
      intro l I S _ h
      obtain ⟨at_2, e2, h⟩ := asI_e h
      obtain ⟨good_9, good_9n, good_9c, e9, h⟩ := asSl_e h
      obtain ⟨long_11, long_11n, long_11c, e11, h⟩ := asSl_e h
      obtain ⟨x_13, x_13n, x_13c, e13, h⟩ := asSl_e h
      obtain ⟨e_14, e14, h⟩ := asAdr_e h
      obtain ⟨ok_15, e15, h⟩ := asB_e h
      obtain ⟨x51, x51n, x51c, e51, h⟩ := asSl_e h
      obtain ⟨x52, e52, h⟩ := asI_e h
      obtain ⟨x53, e53, h⟩ := asI_e h
      rw [upd_eta e2, upd_eta e9, upd_eta e11, upd_eta e13, upd_eta e14, upd_eta e15, upd_eta e51, upd_eta e52, upd_eta e53]
      refine WP.seqY (by kernel_rfl) (fun l I S => asI .u8 (l 2) fun at_2 => asSl (l 9) fun good_9 good_9n good_9c => asSl (l 11) fun long_11 long_11n long_11c => asSl (l 51) fun x51 x51n x51c => asI .i64 (l 52) fun x52 => asI .i64 (l 53) fun x53 => asB (l 83) fun x83 => bolterlaw25_EventRead_b6 (fun at_2 good_9 good_9n good_9c long_11 long_11n long_11c x51 x51n x51c x52 x53 I S => ∃ m', m' < m_again3 ∧ Inv_again3 m' at_2 good_9 good_9n good_9c long_11 long_11n long_11c x51 x51n x51c x52 x53 I S) R at_2 good_9 good_9n good_9c long_11 long_11n long_11c x51 x51n x51c x52 x53 x83 I S) ?_ ?_
      ·
        exact WP.draw' (.take 0 (.take 1 (.take 2 (.step 3 (.take 4 (.take 5 (.take 6 (.take 8 (.take 9 (.step 7 (.take 10 (.take 11 (.take 12 (.take 13 (.take 14 (.take 15 (.take 16 (.take 17 (.take 18 (.take 19 (.take 20 (.take 21 .done)))))))))))))))))))))) [3, 7] (by kernel_rfl) (by kernel_rfl) (by kernel_rfl) (by kernel_rfl) (by kernel_rfl) (cast (by kernel_rfl) h)
      · clear h
        intro l I S _ h
        obtain ⟨at_2, e2, h⟩ := asI_e h
        obtain ⟨good_9, good_9n, good_9c, e9, h⟩ := asSl_e h
        obtain ⟨long_11, long_11n, long_11c, e11, h⟩ := asSl_e h
        obtain ⟨x51, x51n, x51c, e51, h⟩ := asSl_e h
        obtain ⟨x52, e52, h⟩ := asI_e h
        obtain ⟨x53, e53, h⟩ := asI_e h
        obtain ⟨x83, e83, h⟩ := asB_e h
        rw [upd_eta e2, upd_eta e9, upd_eta e11, upd_eta e51, upd_eta e52, upd_eta e53, upd_eta e83]
        exact Pre.sound _ _ _ _ _ (cast (by kernel_rfl) h)
    · clear h
      intro l I S _ h
      obtain ⟨at_2, e2, h⟩ := asI_e h
      obtain ⟨good_9, good_9n, good_9c, e9, h⟩ := asSl_e h
      obtain ⟨long_11, long_11n, long_11c, e11, h⟩ := asSl_e h
      obtain ⟨x51, x51n, x51c, e51, h⟩ := asSl_e h
      obtain ⟨x52, e52, h⟩ := asI_e h
      obtain ⟨x53, e53, h⟩ := asI_e h
      rw [upd_eta e2, upd_eta e9, upd_eta e11, upd_eta e51, upd_eta e52, upd_eta e53]
      exact Pre.sound _ _ _ _ _ (cast (by kernel_rfl) h)
  · clear h
    intro l I S _ h
    obtain ⟨at_2, e2, h⟩ := asI_e h
    obtain ⟨good_9, good_9n, good_9c, e9, h⟩ := asSl_e h
    obtain ⟨long_11, long_11n, long_11c, e11, h⟩ := asSl_e h
    rw [upd_eta e2, upd_eta e9, upd_eta e11]
    refine WP.cut 3 (fun l I S => asB (l 8) fun x8 => bolterlaw25_EventRead_b9 R x8 I S) (cast (by kernel_rfl) h) ?_
    clear h
    intro l I S _ h
    obtain ⟨x8, e8, h⟩ := asB_e h
    rw [upd_eta e8]
    exact Pre.sound _ _ _ _ _ (cast (by kernel_rfl) h)
/-! ### bolterlaw25_awake: function 29, bolter/bolterlaw25.awake -/
noncomputable def bolterlaw25_awake_code : Code := (Tryd.f29.body).getD .skip
def bolterlaw25_awake_b1 (R : Value → IMem → SH → Prop) (x0 : Bool) (I : IMem) (S : SH) : Prop :=
  R (.bool x0) I S
def bolterlaw25_awake (R : Value → IMem → SH → Prop) (I : IMem) (S : SH) : Prop :=
  ∀ b6 : Nat,
  Runs Tryd.prog 25 #[.slice (some ⟨b6, 0, none⟩) 1 1] I ((b6, .cells #[.string ⟨#[97]⟩] 9 (0, 0)) :: S) fun v I1 S1 => ∃ x7_0 x7_1, v = .tuple #[.string x7_0, .bool x7_1] ∧
  Runs Tryd.prog 30 #[.agg #[.int .i64 1, .string ⟨#[]⟩, .string ⟨#[]⟩, .int .u16 1, .int .i64 0, .int .i64 1, .string x7_0, .string ⟨#[]⟩, .int .i64 0, .int .i64 3]] I1 S1 fun v' I1' S1' => ∃ x14_0 x14_0n x14_0c x14_1, v' = .tuple #[.slice x14_0 x14_0n x14_0c, .bool x14_1] ∧
  bcase x14_1
    (∃ x20 : ByteArray, BytesAt I1' S1' x14_0 x14_0n x20 ∧
    bolterlaw25_awake_b1 R (x20.toList == (⟨#[0, 0, 0, 1, 0, 0, 0, 1, 0, 3, 2, 1, 97]⟩ : ByteArray).toList) I1' S1')
    (bolterlaw25_awake_b1 R false I1' S1')
theorem bolterlaw25_awake_fn (R : Value → IMem → SH → Prop) (I : IMem) (S : SH) (h : bolterlaw25_awake R I S) :
    Runs Tryd.prog 29 #[] I S R := by
  refine Runs.of_wp (args := []) (c := bolterlaw25_awake_code) Tryd.func29 (by kernel_rfl) (by kernel_rfl) ?_
  refine WP.cut 4 (fun l I S => asB (l 0) fun x0 => bolterlaw25_awake_b1 R x0 I S) (cast (by kernel_rfl) h) ?_
  clear h
  intro l I S _ h
  obtain ⟨x0, e0, h⟩ := asB_e h
  rw [upd_eta e0]
  exact Pre.sound _ _ _ _ _ (cast (by kernel_rfl) h)
/-! ### event_Encode: function 30, bolter/event.Encode -/
noncomputable def event_Encode_code : Code := (Tryd.f30.body).getD .skip
def event_Encode (R : Value → IMem → SH → Prop) (e_0_0 : Int) (e_0_1 : ByteArray) (e_0_2 : ByteArray) (e_0_3 : Int) (e_0_4 : Int) (e_0_5 : Int) (e_0_6 : ByteArray) (e_0_7 : ByteArray) (e_0_8 : Int) (e_0_9 : Int) (I : IMem) (S : SH) : Prop :=
  ∀ b1 : Nat,
  ∃ x7_0, Cell I ((b1, .cells #[.int .i64 e_0_0, .string e_0_1, .string e_0_2, .int .u16 e_0_3, .int .i64 e_0_4, .int .i64 e_0_5, .string e_0_6, .string e_0_7, .int .i64 e_0_8, .int .i64 e_0_9] 65 (0, 0)) :: S) ⟨b1, 0, none⟩ (.int .i64 x7_0) ∧
  ∃ x7_1, Cell I ((b1, .cells #[.int .i64 e_0_0, .string e_0_1, .string e_0_2, .int .u16 e_0_3, .int .i64 e_0_4, .int .i64 e_0_5, .string e_0_6, .string e_0_7, .int .i64 e_0_8, .int .i64 e_0_9] 65 (0, 0)) :: S) ⟨b1, 1, none⟩ (.string x7_1) ∧
  ∃ x7_2, Cell I ((b1, .cells #[.int .i64 e_0_0, .string e_0_1, .string e_0_2, .int .u16 e_0_3, .int .i64 e_0_4, .int .i64 e_0_5, .string e_0_6, .string e_0_7, .int .i64 e_0_8, .int .i64 e_0_9] 65 (0, 0)) :: S) ⟨b1, 2, none⟩ (.string x7_2) ∧
  ∃ x7_3, Cell I ((b1, .cells #[.int .i64 e_0_0, .string e_0_1, .string e_0_2, .int .u16 e_0_3, .int .i64 e_0_4, .int .i64 e_0_5, .string e_0_6, .string e_0_7, .int .i64 e_0_8, .int .i64 e_0_9] 65 (0, 0)) :: S) ⟨b1, 3, none⟩ (.int .u16 x7_3) ∧
  ∃ x7_4, Cell I ((b1, .cells #[.int .i64 e_0_0, .string e_0_1, .string e_0_2, .int .u16 e_0_3, .int .i64 e_0_4, .int .i64 e_0_5, .string e_0_6, .string e_0_7, .int .i64 e_0_8, .int .i64 e_0_9] 65 (0, 0)) :: S) ⟨b1, 4, none⟩ (.int .i64 x7_4) ∧
  ∃ x7_5, Cell I ((b1, .cells #[.int .i64 e_0_0, .string e_0_1, .string e_0_2, .int .u16 e_0_3, .int .i64 e_0_4, .int .i64 e_0_5, .string e_0_6, .string e_0_7, .int .i64 e_0_8, .int .i64 e_0_9] 65 (0, 0)) :: S) ⟨b1, 5, none⟩ (.int .i64 x7_5) ∧
  ∃ x7_6, Cell I ((b1, .cells #[.int .i64 e_0_0, .string e_0_1, .string e_0_2, .int .u16 e_0_3, .int .i64 e_0_4, .int .i64 e_0_5, .string e_0_6, .string e_0_7, .int .i64 e_0_8, .int .i64 e_0_9] 65 (0, 0)) :: S) ⟨b1, 6, none⟩ (.string x7_6) ∧
  ∃ x7_7, Cell I ((b1, .cells #[.int .i64 e_0_0, .string e_0_1, .string e_0_2, .int .u16 e_0_3, .int .i64 e_0_4, .int .i64 e_0_5, .string e_0_6, .string e_0_7, .int .i64 e_0_8, .int .i64 e_0_9] 65 (0, 0)) :: S) ⟨b1, 7, none⟩ (.string x7_7) ∧
  ∃ x7_8, Cell I ((b1, .cells #[.int .i64 e_0_0, .string e_0_1, .string e_0_2, .int .u16 e_0_3, .int .i64 e_0_4, .int .i64 e_0_5, .string e_0_6, .string e_0_7, .int .i64 e_0_8, .int .i64 e_0_9] 65 (0, 0)) :: S) ⟨b1, 8, none⟩ (.int .i64 x7_8) ∧
  ∃ x7_9, Cell I ((b1, .cells #[.int .i64 e_0_0, .string e_0_1, .string e_0_2, .int .u16 e_0_3, .int .i64 e_0_4, .int .i64 e_0_5, .string e_0_6, .string e_0_7, .int .i64 e_0_8, .int .i64 e_0_9] 65 (0, 0)) :: S) ⟨b1, 9, none⟩ (.int .i64 x7_9) ∧
  Runs Tryd.prog 31 #[.agg #[.int .i64 x7_0, .string x7_1, .string x7_2, .int .u16 x7_3, .int .i64 x7_4, .int .i64 x7_5, .string x7_6, .string x7_7, .int .i64 x7_8, .int .i64 x7_9]] I ((b1, .cells #[.int .i64 e_0_0, .string e_0_1, .string e_0_2, .int .u16 e_0_3, .int .i64 e_0_4, .int .i64 e_0_5, .string e_0_6, .string e_0_7, .int .i64 e_0_8, .int .i64 e_0_9] 65 (0, 0)) :: S) fun v I1 S1 => ∃ x8, v = .bool x8 ∧
  bcase (!x8)
    (R (.tuple #[.slice none 0 0, .bool false]) I1 S1)
    (∃ x11, Cell I1 S1 ⟨b1, 0, none⟩ (.int .i64 x11) ∧
    ∀ b13 : Nat,
    Runs Tryd.prog 52 #[.slice none 0 0, .slice (some ⟨b13, 0, none⟩) 1 1] I1 ((b13, .cells #[.int .u32 (IntKind.wrap .u32 x11)] 70 (0, 0)) :: S1) fun v' I1' S1' => ∃ x14 x14n x14c, v' = .slice x14 x14n x14c ∧
    ∃ x17, Cell I1' S1' ⟨b1, 1, none⟩ (.string x17) ∧
    ∀ b20 : Nat,
    AppG 5 1 1 [.int .u8 0] (some (.slice 5)) I1' ((b20, .cells #[.int .u8 (IntKind.wrap .u8 (x17.size : Int))] 5 (0, 0)) :: S1') (.slice x14 x14n x14c) (.slice (some ⟨b20, 0, none⟩) 1 1) fun x21 x21n x21c S1'' =>
    ∃ x24, Cell I1' S1'' ⟨b1, 1, none⟩ (.string x24) ∧
    AppG 5 1 1 [.int .u8 0] (some .string) I1' S1'' (.slice x21 x21n x21c) (.string x24) fun x25 x25n x25c S1_r3 =>
    ∃ x28, Cell I1' S1_r3 ⟨b1, 2, none⟩ (.string x28) ∧
    ∀ b31 : Nat,
    AppG 5 1 1 [.int .u8 0] (some (.slice 5)) I1' ((b31, .cells #[.int .u8 (IntKind.wrap .u8 (x28.size : Int))] 5 (0, 0)) :: S1_r3) (.slice x25 x25n x25c) (.slice (some ⟨b31, 0, none⟩) 1 1) fun x32 x32n x32c S1_r4 =>
    ∃ x35, Cell I1' S1_r4 ⟨b1, 2, none⟩ (.string x35) ∧
    AppG 5 1 1 [.int .u8 0] (some .string) I1' S1_r4 (.slice x32 x32n x32c) (.string x35) fun x36 x36n x36c S1_r5 =>
    ∃ x39, Cell I1' S1_r5 ⟨b1, 3, none⟩ (.int .u16 x39) ∧
    ∀ b40 : Nat,
    Runs Tryd.prog 53 #[.slice x36 x36n x36c, .slice (some ⟨b40, 0, none⟩) 1 1] I1' ((b40, .cells #[.int .u16 x39] 61 (0, 0)) :: S1_r5) fun v'' I1'' S1_r6 => ∃ x41 x41n x41c, v'' = .slice x41 x41n x41c ∧
    ∃ x44_0, Cell I1'' S1_r6 ⟨b1, 5, none⟩ (.int .i64 x44_0) ∧
    ∃ x44_1, Cell I1'' S1_r6 ⟨b1, 6, none⟩ (.string x44_1) ∧
    ∃ x44_2, Cell I1'' S1_r6 ⟨b1, 7, none⟩ (.string x44_2) ∧
    ∃ x44_3, Cell I1'' S1_r6 ⟨b1, 8, none⟩ (.int .i64 x44_3) ∧
    Runs Tryd.prog 21 #[.agg #[.int .i64 x44_0, .string x44_1, .string x44_2, .int .i64 x44_3]] I1'' S1_r6 fun v_r3 I1_r3 S1_r7 => ∃ x45_0 x45_1, v_r3 = .tuple #[.string x45_0, .bool x45_1] ∧
    ∃ x50, Cell I1_r3 S1_r7 ⟨b1, 4, none⟩ (.int .i64 x50) ∧
    ∃ x53, Cell I1_r3 S1_r7 ⟨b1, 9, none⟩ (.int .i64 x53) ∧
    ∀ b58 : Nat,
    AppG 5 1 1 [.int .u8 0] (some (.slice 5)) I1_r3 ((b58, .cells #[.int .u8 (IntKind.wrap .u8 x50), .int .u8 (IntKind.wrap .u8 x53), .int .u8 (IntKind.wrap .u8 (x45_0.size : Int))] 5 (0, 0)) :: S1_r7) (.slice x41 x41n x41c) (.slice (some ⟨b58, 0, none⟩) 3 3) fun x59 x59n x59c S1_r8 =>
    AppG 5 1 1 [.int .u8 0] (some .string) I1_r3 S1_r8 (.slice x59 x59n x59c) (.string x45_0) fun x62 x62n x62c S1_r9 =>
    R (.tuple #[.slice x62 x62n x62c, .bool true]) I1_r3 S1_r9)
theorem event_Encode_fn (R : Value → IMem → SH → Prop) (e_0_0 : Int) (e_0_1 : ByteArray) (e_0_2 : ByteArray) (e_0_3 : Int) (e_0_4 : Int) (e_0_5 : Int) (e_0_6 : ByteArray) (e_0_7 : ByteArray) (e_0_8 : Int) (e_0_9 : Int) (I : IMem) (S : SH) (h : event_Encode R e_0_0 e_0_1 e_0_2 e_0_3 e_0_4 e_0_5 e_0_6 e_0_7 e_0_8 e_0_9 I S) :
    Runs Tryd.prog 30 #[.agg #[.int .i64 e_0_0, .string e_0_1, .string e_0_2, .int .u16 e_0_3, .int .i64 e_0_4, .int .i64 e_0_5, .string e_0_6, .string e_0_7, .int .i64 e_0_8, .int .i64 e_0_9]] I S R := by
  refine Runs.of_wp (args := [.agg #[.int .i64 e_0_0, .string e_0_1, .string e_0_2, .int .u16 e_0_3, .int .i64 e_0_4, .int .i64 e_0_5, .string e_0_6, .string e_0_7, .int .i64 e_0_8, .int .i64 e_0_9]]) (c := event_Encode_code) Tryd.func30 (by kernel_rfl) (by kernel_rfl) ?_
  exact Pre.sound _ _ _ _ _ (cast (by kernel_rfl) h)
/-! ### event_May: function 31, bolter/event.May -/
noncomputable def event_May_code : Code := (Tryd.f31.body).getD .skip
def event_May_b1 (R : Value → IMem → SH → Prop) (x2 : Bool) (I : IMem) (S : SH) : Prop :=
  R (.bool x2) I S
def event_May (R : Value → IMem → SH → Prop) (e_0_0 : Int) (e_0_1 : ByteArray) (e_0_2 : ByteArray) (e_0_3 : Int) (e_0_4 : Int) (e_0_5 : Int) (e_0_6 : ByteArray) (e_0_7 : ByteArray) (e_0_8 : Int) (e_0_9 : Int) (I : IMem) (S : SH) : Prop :=
  ∀ b1 : Nat,
  ∃ x7_0, Cell I ((b1, .cells #[.int .i64 e_0_0, .string e_0_1, .string e_0_2, .int .u16 e_0_3, .int .i64 e_0_4, .int .i64 e_0_5, .string e_0_6, .string e_0_7, .int .i64 e_0_8, .int .i64 e_0_9] 65 (0, 0)) :: S) ⟨b1, 5, none⟩ (.int .i64 x7_0) ∧
  ∃ x7_1, Cell I ((b1, .cells #[.int .i64 e_0_0, .string e_0_1, .string e_0_2, .int .u16 e_0_3, .int .i64 e_0_4, .int .i64 e_0_5, .string e_0_6, .string e_0_7, .int .i64 e_0_8, .int .i64 e_0_9] 65 (0, 0)) :: S) ⟨b1, 6, none⟩ (.string x7_1) ∧
  ∃ x7_2, Cell I ((b1, .cells #[.int .i64 e_0_0, .string e_0_1, .string e_0_2, .int .u16 e_0_3, .int .i64 e_0_4, .int .i64 e_0_5, .string e_0_6, .string e_0_7, .int .i64 e_0_8, .int .i64 e_0_9] 65 (0, 0)) :: S) ⟨b1, 7, none⟩ (.string x7_2) ∧
  ∃ x7_3, Cell I ((b1, .cells #[.int .i64 e_0_0, .string e_0_1, .string e_0_2, .int .u16 e_0_3, .int .i64 e_0_4, .int .i64 e_0_5, .string e_0_6, .string e_0_7, .int .i64 e_0_8, .int .i64 e_0_9] 65 (0, 0)) :: S) ⟨b1, 8, none⟩ (.int .i64 x7_3) ∧
  Runs Tryd.prog 21 #[.agg #[.int .i64 x7_0, .string x7_1, .string x7_2, .int .i64 x7_3]] I ((b1, .cells #[.int .i64 e_0_0, .string e_0_1, .string e_0_2, .int .u16 e_0_3, .int .i64 e_0_4, .int .i64 e_0_5, .string e_0_6, .string e_0_7, .int .i64 e_0_8, .int .i64 e_0_9] 65 (0, 0)) :: S) fun v I1 S1 => ∃ x8_0 x8_1, v = .tuple #[.string x8_0, .bool x8_1] ∧
  bcase x8_1
    (∃ x14, Cell I1 S1 ⟨b1, 0, none⟩ (.int .i64 x14) ∧
    bcase (decide (x14 ≥ (0 : Int)))
      (∃ x19, Cell I1 S1 ⟨b1, 0, none⟩ (.int .i64 x19) ∧
      bcase (decide (x19 ≤ (4294967295 : Int)))
        (∃ x24, Cell I1 S1 ⟨b1, 1, none⟩ (.string x24) ∧
        bcase (decide ((x24.size : Int) ≤ (16 : Int)))
          (∃ x30, Cell I1 S1 ⟨b1, 2, none⟩ (.string x30) ∧
          Runs Tryd.prog 28 #[.string x30] I1 S1 fun v' I1' S1' => ∃ x31, v' = .bool x31 ∧
          bcase x31
            (∃ x35, Cell I1' S1' ⟨b1, 4, none⟩ (.int .i64 x35) ∧
            bcase (decide (x35 ≥ (0 : Int)))
              (∃ x40, Cell I1' S1' ⟨b1, 4, none⟩ (.int .i64 x40) ∧
              bcase (decide (x40 < (32 : Int)))
                (∃ x45, Cell I1' S1' ⟨b1, 9, none⟩ (.int .i64 x45) ∧
                bcase (decide (x45 ≥ (0 : Int)))
                  (∃ x50, Cell I1' S1' ⟨b1, 9, none⟩ (.int .i64 x50) ∧
                  event_May_b1 R (decide (x50 ≤ (8 : Int))) I1' S1')
                  (event_May_b1 R false I1' S1'))
                (event_May_b1 R false I1' S1'))
              (event_May_b1 R false I1' S1'))
            (event_May_b1 R false I1' S1'))
          (event_May_b1 R false I1 S1))
        (event_May_b1 R false I1 S1))
      (event_May_b1 R false I1 S1))
    (event_May_b1 R false I1 S1)
theorem event_May_fn (R : Value → IMem → SH → Prop) (e_0_0 : Int) (e_0_1 : ByteArray) (e_0_2 : ByteArray) (e_0_3 : Int) (e_0_4 : Int) (e_0_5 : Int) (e_0_6 : ByteArray) (e_0_7 : ByteArray) (e_0_8 : Int) (e_0_9 : Int) (I : IMem) (S : SH) (h : event_May R e_0_0 e_0_1 e_0_2 e_0_3 e_0_4 e_0_5 e_0_6 e_0_7 e_0_8 e_0_9 I S) :
    Runs Tryd.prog 31 #[.agg #[.int .i64 e_0_0, .string e_0_1, .string e_0_2, .int .u16 e_0_3, .int .i64 e_0_4, .int .i64 e_0_5, .string e_0_6, .string e_0_7, .int .i64 e_0_8, .int .i64 e_0_9]] I S R := by
  refine Runs.of_wp (args := [.agg #[.int .i64 e_0_0, .string e_0_1, .string e_0_2, .int .u16 e_0_3, .int .i64 e_0_4, .int .i64 e_0_5, .string e_0_6, .string e_0_7, .int .i64 e_0_8, .int .i64 e_0_9]]) (c := event_May_code) Tryd.func31 (by kernel_rfl) (by kernel_rfl) ?_
  refine WP.cut 3 (fun l I S => asB (l 2) fun x2 => event_May_b1 R x2 I S) (cast (by kernel_rfl) h) ?_
  clear h
  intro l I S _ h
  obtain ⟨x2, e2, h⟩ := asB_e h
  rw [upd_eta e2]
  exact Pre.sound _ _ _ _ _ (cast (by kernel_rfl) h)
/-! ### bolterlaw25_may: function 32, bolter/bolterlaw25.may -/
noncomputable def bolterlaw25_may_code : Code := (Tryd.f32.body).getD .skip
def bolterlaw25_may_b1 (R : Value → IMem → SH → Prop) (x2 : Bool) (I : IMem) (S : SH) : Prop :=
  R (.bool x2) I S
def bolterlaw25_may (R : Value → IMem → SH → Prop) (e_0_0 : Int) (e_0_1 : ByteArray) (e_0_2 : ByteArray) (e_0_3 : Int) (e_0_4 : Int) (e_0_5 : Int) (e_0_6 : ByteArray) (e_0_7 : ByteArray) (e_0_8 : Int) (e_0_9 : Int) (I : IMem) (S : SH) : Prop :=
  ∀ b1 : Nat,
  ∃ x7_0, Cell I ((b1, .cells #[.int .i64 e_0_0, .string e_0_1, .string e_0_2, .int .u16 e_0_3, .int .i64 e_0_4, .int .i64 e_0_5, .string e_0_6, .string e_0_7, .int .i64 e_0_8, .int .i64 e_0_9] 65 (0, 0)) :: S) ⟨b1, 5, none⟩ (.int .i64 x7_0) ∧
  ∃ x7_1, Cell I ((b1, .cells #[.int .i64 e_0_0, .string e_0_1, .string e_0_2, .int .u16 e_0_3, .int .i64 e_0_4, .int .i64 e_0_5, .string e_0_6, .string e_0_7, .int .i64 e_0_8, .int .i64 e_0_9] 65 (0, 0)) :: S) ⟨b1, 6, none⟩ (.string x7_1) ∧
  ∃ x7_2, Cell I ((b1, .cells #[.int .i64 e_0_0, .string e_0_1, .string e_0_2, .int .u16 e_0_3, .int .i64 e_0_4, .int .i64 e_0_5, .string e_0_6, .string e_0_7, .int .i64 e_0_8, .int .i64 e_0_9] 65 (0, 0)) :: S) ⟨b1, 7, none⟩ (.string x7_2) ∧
  ∃ x7_3, Cell I ((b1, .cells #[.int .i64 e_0_0, .string e_0_1, .string e_0_2, .int .u16 e_0_3, .int .i64 e_0_4, .int .i64 e_0_5, .string e_0_6, .string e_0_7, .int .i64 e_0_8, .int .i64 e_0_9] 65 (0, 0)) :: S) ⟨b1, 8, none⟩ (.int .i64 x7_3) ∧
  Runs Tryd.prog 21 #[.agg #[.int .i64 x7_0, .string x7_1, .string x7_2, .int .i64 x7_3]] I ((b1, .cells #[.int .i64 e_0_0, .string e_0_1, .string e_0_2, .int .u16 e_0_3, .int .i64 e_0_4, .int .i64 e_0_5, .string e_0_6, .string e_0_7, .int .i64 e_0_8, .int .i64 e_0_9] 65 (0, 0)) :: S) fun v I1 S1 => ∃ x8_0 x8_1, v = .tuple #[.string x8_0, .bool x8_1] ∧
  bcase x8_1
    (∃ x14, Cell I1 S1 ⟨b1, 0, none⟩ (.int .i64 x14) ∧
    bcase (decide (x14 ≥ (0 : Int)))
      (∃ x19, Cell I1 S1 ⟨b1, 0, none⟩ (.int .i64 x19) ∧
      bcase (decide (x19 < (4294967296 : Int)))
        (∃ x24, Cell I1 S1 ⟨b1, 1, none⟩ (.string x24) ∧
        bcase (decide ((x24.size : Int) ≤ (16 : Int)))
          (∃ x30, Cell I1 S1 ⟨b1, 2, none⟩ (.string x30) ∧
          Runs Tryd.prog 28 #[.string x30] I1 S1 fun v' I1' S1' => ∃ x31, v' = .bool x31 ∧
          bcase x31
            (∃ x35, Cell I1' S1' ⟨b1, 4, none⟩ (.int .i64 x35) ∧
            bcase (decide (x35 ≥ (0 : Int)))
              (∃ x40, Cell I1' S1' ⟨b1, 4, none⟩ (.int .i64 x40) ∧
              bcase (decide (x40 < (32 : Int)))
                (∃ x45, Cell I1' S1' ⟨b1, 9, none⟩ (.int .i64 x45) ∧
                bcase (decide (x45 ≥ (0 : Int)))
                  (∃ x50, Cell I1' S1' ⟨b1, 9, none⟩ (.int .i64 x50) ∧
                  bolterlaw25_may_b1 R (decide (x50 < (9 : Int))) I1' S1')
                  (bolterlaw25_may_b1 R false I1' S1'))
                (bolterlaw25_may_b1 R false I1' S1'))
              (bolterlaw25_may_b1 R false I1' S1'))
            (bolterlaw25_may_b1 R false I1' S1'))
          (bolterlaw25_may_b1 R false I1 S1))
        (bolterlaw25_may_b1 R false I1 S1))
      (bolterlaw25_may_b1 R false I1 S1))
    (bolterlaw25_may_b1 R false I1 S1)
theorem bolterlaw25_may_fn (R : Value → IMem → SH → Prop) (e_0_0 : Int) (e_0_1 : ByteArray) (e_0_2 : ByteArray) (e_0_3 : Int) (e_0_4 : Int) (e_0_5 : Int) (e_0_6 : ByteArray) (e_0_7 : ByteArray) (e_0_8 : Int) (e_0_9 : Int) (I : IMem) (S : SH) (h : bolterlaw25_may R e_0_0 e_0_1 e_0_2 e_0_3 e_0_4 e_0_5 e_0_6 e_0_7 e_0_8 e_0_9 I S) :
    Runs Tryd.prog 32 #[.agg #[.int .i64 e_0_0, .string e_0_1, .string e_0_2, .int .u16 e_0_3, .int .i64 e_0_4, .int .i64 e_0_5, .string e_0_6, .string e_0_7, .int .i64 e_0_8, .int .i64 e_0_9]] I S R := by
  refine Runs.of_wp (args := [.agg #[.int .i64 e_0_0, .string e_0_1, .string e_0_2, .int .u16 e_0_3, .int .i64 e_0_4, .int .i64 e_0_5, .string e_0_6, .string e_0_7, .int .i64 e_0_8, .int .i64 e_0_9]]) (c := bolterlaw25_may_code) Tryd.func32 (by kernel_rfl) (by kernel_rfl) ?_
  refine WP.cut 3 (fun l I S => asB (l 2) fun x2 => bolterlaw25_may_b1 R x2 I S) (cast (by kernel_rfl) h) ?_
  clear h
  intro l I S _ h
  obtain ⟨x2, e2, h⟩ := asB_e h
  rw [upd_eta e2]
  exact Pre.sound _ _ _ _ _ (cast (by kernel_rfl) h)
/-! ### bolterlaw25_Make: function 34, bolter/bolterlaw25.Make -/
noncomputable def bolterlaw25_Make_code : Code := (Tryd.f34.body).getD .skip
def bolterlaw25_Make_b2 (R : Value → IMem → SH → Prop) (x2 : Addr) (I : IMem) (S : SH) : Prop :=
  ∃ r2_0, Cell I S x2 (.int .i64 r2_0) ∧
  ∃ r2_1, Cell I S (x2.add 1) (.string r2_1) ∧
  ∃ r2_2, Cell I S (x2.add 2) (.string r2_2) ∧
  ∃ r2_3, Cell I S (x2.add 3) (.int .u16 r2_3) ∧
  ∃ r2_4, Cell I S (x2.add 4) (.int .i64 r2_4) ∧
  ∃ r2_5, Cell I S (x2.add 5) (.int .i64 r2_5) ∧
  ∃ r2_6, Cell I S (x2.add 6) (.string r2_6) ∧
  ∃ r2_7, Cell I S (x2.add 7) (.string r2_7) ∧
  ∃ r2_8, Cell I S (x2.add 8) (.int .i64 r2_8) ∧
  ∃ r2_9, Cell I S (x2.add 9) (.int .i64 r2_9) ∧
  R (.agg #[.int .i64 r2_0, .string r2_1, .string r2_2, .int .u16 r2_3, .int .i64 r2_4, .int .i64 r2_5, .string r2_6, .string r2_7, .int .i64 r2_8, .int .i64 r2_9]) I S
def bolterlaw25_Make_b1 (R : Value → IMem → SH → Prop) (s_1 : Addr) (x2 : Addr) (I : IMem) (S : SH) : Prop :=
  ∃ x4, Cell I S s_1 (.int .u32 x4) ∧
  ∃ x8, Cell I S ((s_1.add 5).add 2) (.bool x8) ∧
  ∃ x10 x10n x10c, Cell I S (s_1.add 1) (.slice x10 x10n x10c) ∧
  ∃ x13 x13n x13c, Cell I S (s_1.add 2) (.slice x13 x13n x13c) ∧
  ∃ x16, Cell I S (s_1.add 3) (.int .u16 x16) ∧
  ∃ x18, Cell I S (s_1.add 4) (.int .u8 x18) ∧
  ∃ x22_0, Cell I S (s_1.add 5) (.int .u8 x22_0) ∧
  ∃ x22_1 x22_1n x22_1c, Cell I S ((s_1.add 5).add 1) (.slice x22_1 x22_1n x22_1c) ∧
  ∃ x22_2, Cell I S ((s_1.add 5).add 2) (.bool x22_2) ∧
  ∃ x22_3, Cell I S ((s_1.add 5).add 3) (.int .u8 x22_3) ∧
  ∃ x25, Cell I S (s_1.add 9) (.int .u8 x25) ∧
  Runs Tryd.prog 36 #[.bool x8, .slice x10 x10n x10c] I S fun v I1 S1 => ∃ x11, v = .string x11 ∧
  Keep I S I1 S1 ∧
  Runs Tryd.prog 27 #[.slice x13 x13n x13c] I1 S1 fun v' I1' S1' => ∃ x14, v' = .string x14 ∧
  Keep I S I1' S1' ∧
  Runs Tryd.prog 24 #[.agg #[.int .u8 x22_0, .slice x22_1 x22_1n x22_1c, .bool x22_2, .int .u8 x22_3]] I1' S1' fun v'' I1'' S1'' => ∃ x23_0 x23_1 x23_2 x23_3, v'' = .agg #[.int .i64 x23_0, .string x23_1, .string x23_2, .int .i64 x23_3] ∧
  Keep I S I1'' S1'' ∧
  StP S1'' x2 [.int .i64 (IntKind.wrap .i64 x4), .string x11, .string x14, .int .u16 x16, .int .i64 (IntKind.wrap .i64 (x18.tmod (32 : Int))), .int .i64 x23_0, .string x23_1, .string x23_2, .int .i64 x23_3, .int .i64 (IntKind.wrap .i64 (x25.tmod (9 : Int)))] fun S1_r3 =>
  bolterlaw25_Make_b2 R x2 I1'' S1_r3
def bolterlaw25_Make (R : Value → IMem → SH → Prop) (s_0_0 : Int) (s_0_1 : Option Addr) (s_0_1n : Nat) (s_0_1c : Nat) (s_0_2 : Option Addr) (s_0_2n : Nat) (s_0_2c : Nat) (s_0_3 : Int) (s_0_4 : Int) (s_0_5 : Int) (s_0_6 : Option Addr) (s_0_6n : Nat) (s_0_6c : Nat) (s_0_7 : Bool) (s_0_8 : Int) (s_0_9 : Int) (I : IMem) (S : SH) : Prop :=
  ∀ b1 : Nat,
  ∀ b2 : Nat,
  bolterlaw25_Make_b1 R ⟨b1, 0, none⟩ ⟨b2, 0, none⟩ I ((b2, .cells #[.int .i64 0, .string ⟨#[]⟩, .string ⟨#[]⟩, .int .u16 0, .int .i64 0, .int .i64 0, .string ⟨#[]⟩, .string ⟨#[]⟩, .int .i64 0, .int .i64 0] 65 (0, 0)) :: ((b1, .cells #[.int .u32 s_0_0, .slice s_0_1 s_0_1n s_0_1c, .slice s_0_2 s_0_2n s_0_2c, .int .u16 s_0_3, .int .u8 s_0_4, .int .u8 s_0_5, .slice s_0_6 s_0_6n s_0_6c, .bool s_0_7, .int .u8 s_0_8, .int .u8 s_0_9] 72 (0, 0)) :: S))
theorem bolterlaw25_Make_fn (R : Value → IMem → SH → Prop) (s_0_0 : Int) (s_0_1 : Option Addr) (s_0_1n : Nat) (s_0_1c : Nat) (s_0_2 : Option Addr) (s_0_2n : Nat) (s_0_2c : Nat) (s_0_3 : Int) (s_0_4 : Int) (s_0_5 : Int) (s_0_6 : Option Addr) (s_0_6n : Nat) (s_0_6c : Nat) (s_0_7 : Bool) (s_0_8 : Int) (s_0_9 : Int) (I : IMem) (S : SH) (h : bolterlaw25_Make R s_0_0 s_0_1 s_0_1n s_0_1c s_0_2 s_0_2n s_0_2c s_0_3 s_0_4 s_0_5 s_0_6 s_0_6n s_0_6c s_0_7 s_0_8 s_0_9 I S) :
    Runs Tryd.prog 34 #[.agg #[.int .u32 s_0_0, .slice s_0_1 s_0_1n s_0_1c, .slice s_0_2 s_0_2n s_0_2c, .int .u16 s_0_3, .int .u8 s_0_4, .int .u8 s_0_5, .slice s_0_6 s_0_6n s_0_6c, .bool s_0_7, .int .u8 s_0_8, .int .u8 s_0_9]] I S R := by
  refine Runs.of_wp (args := [.agg #[.int .u32 s_0_0, .slice s_0_1 s_0_1n s_0_1c, .slice s_0_2 s_0_2n s_0_2c, .int .u16 s_0_3, .int .u8 s_0_4, .int .u8 s_0_5, .slice s_0_6 s_0_6n s_0_6c, .bool s_0_7, .int .u8 s_0_8, .int .u8 s_0_9]]) (c := bolterlaw25_Make_code) Tryd.func34 (by kernel_rfl) (by kernel_rfl) ?_
  refine WP.cut 1 (fun l I S => asAdr (l 1) fun s_1 => asAdr (l 2) fun x2 => bolterlaw25_Make_b1 R s_1 x2 I S) (cast (by kernel_rfl) h) ?_
  clear h
  intro l I S _ h
  obtain ⟨s_1, e1, h⟩ := asAdr_e h
  obtain ⟨x2, e2, h⟩ := asAdr_e h
  rw [upd_eta e1, upd_eta e2]
  refine WP.seqY (by kernel_rfl) (fun l I S => asAdr (l 2) fun x2 => bolterlaw25_Make_b2 R x2 I S) ?_ ?_
  ·
    exact WP.draw' (.take 0 (.take 1 (.take 2 (.take 3 (.take 4 (.take 5 (.take 6 (.take 7 (.take 9 (.take 10 (.take 12 (.take 13 (.take 14 (.take 15 (.take 16 (.take 17 (.take 18 (.take 19 (.take 21 (.take 22 (.take 23 (.take 24 (.step 8 (.step 11 (.step 20 (.take 25 (.step 26 .done))))))))))))))))))))))))))) [8, 11, 20, 26] (by kernel_rfl) (by kernel_rfl) (by kernel_rfl) (by kernel_rfl) (by kernel_rfl) (cast (by kernel_rfl) h)
  · clear h
    intro l I S _ h
    obtain ⟨x2, e2, h⟩ := asAdr_e h
    rw [upd_eta e2]
    exact Pre.sound _ _ _ _ _ (cast (by kernel_rfl) h)
/-! ### event_Decode: function 35, bolter/event.Decode -/
noncomputable def event_Decode_code : Code := (Tryd.f35.body).getD .skip
def event_Decode_b7 (R : Value → IMem → SH → Prop) (x2 : Addr) (e_4 : Addr) (I : IMem) (S : SH) : Prop :=
  ∃ x110_0, Cell I S e_4 (.int .i64 x110_0) ∧
  ∃ x110_1, Cell I S (e_4.add 1) (.string x110_1) ∧
  ∃ x110_2, Cell I S (e_4.add 2) (.string x110_2) ∧
  ∃ x110_3, Cell I S (e_4.add 3) (.int .u16 x110_3) ∧
  ∃ x110_4, Cell I S (e_4.add 4) (.int .i64 x110_4) ∧
  ∃ x110_5, Cell I S (e_4.add 5) (.int .i64 x110_5) ∧
  ∃ x110_6, Cell I S (e_4.add 6) (.string x110_6) ∧
  ∃ x110_7, Cell I S (e_4.add 7) (.string x110_7) ∧
  ∃ x110_8, Cell I S (e_4.add 8) (.int .i64 x110_8) ∧
  ∃ x110_9, Cell I S (e_4.add 9) (.int .i64 x110_9) ∧
  StP S x2 [.int .i64 x110_0, .string x110_1, .string x110_2, .int .u16 x110_3, .int .i64 x110_4, .int .i64 x110_5, .string x110_6, .string x110_7, .int .i64 x110_8, .int .i64 x110_9] fun S1 =>
  ∃ r2_0, Cell I S1 x2 (.int .i64 r2_0) ∧
  ∃ r2_1, Cell I S1 (x2.add 1) (.string r2_1) ∧
  ∃ r2_2, Cell I S1 (x2.add 2) (.string r2_2) ∧
  ∃ r2_3, Cell I S1 (x2.add 3) (.int .u16 r2_3) ∧
  ∃ r2_4, Cell I S1 (x2.add 4) (.int .i64 r2_4) ∧
  ∃ r2_5, Cell I S1 (x2.add 5) (.int .i64 r2_5) ∧
  ∃ r2_6, Cell I S1 (x2.add 6) (.string r2_6) ∧
  ∃ r2_7, Cell I S1 (x2.add 7) (.string r2_7) ∧
  ∃ r2_8, Cell I S1 (x2.add 8) (.int .i64 r2_8) ∧
  ∃ r2_9, Cell I S1 (x2.add 9) (.int .i64 r2_9) ∧
  R (.tuple #[.agg #[.int .i64 r2_0, .string r2_1, .string r2_2, .int .u16 r2_3, .int .i64 r2_4, .int .i64 r2_5, .string r2_6, .string r2_7, .int .i64 r2_8, .int .i64 r2_9], .bool true]) I S1
def event_Decode_b6 (R : Value → IMem → SH → Prop) (x2 : Addr) (e_4 : Addr) (x108 : Bool) (I : IMem) (S : SH) : Prop :=
  bcase x108
    (StP S x2 [.int .i64 0, .string ⟨#[]⟩, .string ⟨#[]⟩, .int .u16 0, .int .i64 0, .int .i64 0, .string ⟨#[]⟩, .string ⟨#[]⟩, .int .i64 0, .int .i64 0] fun S1 =>
    ∃ r2_0, Cell I S1 x2 (.int .i64 r2_0) ∧
    ∃ r2_1, Cell I S1 (x2.add 1) (.string r2_1) ∧
    ∃ r2_2, Cell I S1 (x2.add 2) (.string r2_2) ∧
    ∃ r2_3, Cell I S1 (x2.add 3) (.int .u16 r2_3) ∧
    ∃ r2_4, Cell I S1 (x2.add 4) (.int .i64 r2_4) ∧
    ∃ r2_5, Cell I S1 (x2.add 5) (.int .i64 r2_5) ∧
    ∃ r2_6, Cell I S1 (x2.add 6) (.string r2_6) ∧
    ∃ r2_7, Cell I S1 (x2.add 7) (.string r2_7) ∧
    ∃ r2_8, Cell I S1 (x2.add 8) (.int .i64 r2_8) ∧
    ∃ r2_9, Cell I S1 (x2.add 9) (.int .i64 r2_9) ∧
    R (.tuple #[.agg #[.int .i64 r2_0, .string r2_1, .string r2_2, .int .u16 r2_3, .int .i64 r2_4, .int .i64 r2_5, .string r2_6, .string r2_7, .int .i64 r2_8, .int .i64 r2_9], .bool false]) I S1)
    (event_Decode_b7 R x2 e_4 I S)
def event_Decode_b5 (R : Value → IMem → SH → Prop) (x2 : Addr) (e_4 : Addr) (rest_15 : ByteArray) (four_16 : Bool) (five_18 : Bool) (I : IMem) (S : SH) : Prop :=
  bcase (!four_16)
    (event_Decode_b6 R x2 e_4 true I S)
    (bcase (!five_18)
      (event_Decode_b6 R x2 e_4 true I S)
      (bcase (!(rest_15.toList == (⟨#[]⟩ : ByteArray).toList))
        (event_Decode_b6 R x2 e_4 true I S)
        (∃ x105_0, Cell I S e_4 (.int .i64 x105_0) ∧
        ∃ x105_1, Cell I S (e_4.add 1) (.string x105_1) ∧
        ∃ x105_2, Cell I S (e_4.add 2) (.string x105_2) ∧
        ∃ x105_3, Cell I S (e_4.add 3) (.int .u16 x105_3) ∧
        ∃ x105_4, Cell I S (e_4.add 4) (.int .i64 x105_4) ∧
        ∃ x105_5, Cell I S (e_4.add 5) (.int .i64 x105_5) ∧
        ∃ x105_6, Cell I S (e_4.add 6) (.string x105_6) ∧
        ∃ x105_7, Cell I S (e_4.add 7) (.string x105_7) ∧
        ∃ x105_8, Cell I S (e_4.add 8) (.int .i64 x105_8) ∧
        ∃ x105_9, Cell I S (e_4.add 9) (.int .i64 x105_9) ∧
        Runs Tryd.prog 31 #[.agg #[.int .i64 x105_0, .string x105_1, .string x105_2, .int .u16 x105_3, .int .i64 x105_4, .int .i64 x105_5, .string x105_6, .string x105_7, .int .i64 x105_8, .int .i64 x105_9]] I S fun v I1 S1 => ∃ x106, v = .bool x106 ∧
        event_Decode_b6 R x2 e_4 (!x106) I1 S1)))
def event_Decode_b4 (R : Value → IMem → SH → Prop) (x2 : Addr) (e_4 : Addr) (s_5 : ByteArray) (client_8 : ByteArray) (n_10 : ByteArray) (kind_12 : Int) (rest_15 : ByteArray) (four_16 : Bool) (tr_17 : Addr) (five_18 : Bool) (I : IMem) (S : SH) : Prop :=
  ∃ F1 : SH, Keep I F1 I S ∧
  ∃ cx82 : UInt8, (0 : Int) ≤ (2 : Int) ∧ s_5[(2 : Int).toNat]? = some cx82 ∧
  ∃ cx85 : UInt8, (0 : Int) ≤ (3 : Int) ∧ s_5[(3 : Int).toNat]? = some cx85 ∧
  ∃ x87_0, Cell I F1 tr_17 (.int .i64 x87_0) ∧
  ∃ x87_1, Cell I F1 (tr_17.add 1) (.string x87_1) ∧
  ∃ x87_2, Cell I F1 (tr_17.add 2) (.string x87_2) ∧
  ∃ x87_3, Cell I F1 (tr_17.add 3) (.int .i64 x87_3) ∧
  StP S (e_4.add 1) [.string client_8] fun S1 =>
  Keep I F1 I S1 ∧
  StP S1 (e_4.add 2) [.string n_10] fun S1' =>
  Keep I F1 I S1' ∧
  StP S1' (e_4.add 3) [.int .u16 kind_12] fun S1'' =>
  Keep I F1 I S1'' ∧
  StP S1'' (e_4.add 4) [.int .i64 (IntKind.wrap .i64 (cx82.toNat : Int))] fun S1_r3 =>
  Keep I F1 I S1_r3 ∧
  StP S1_r3 (e_4.add 9) [.int .i64 (IntKind.wrap .i64 (cx85.toNat : Int))] fun S1_r4 =>
  Keep I F1 I S1_r4 ∧
  StP S1_r4 (e_4.add 5) [.int .i64 x87_0, .string x87_1, .string x87_2, .int .i64 x87_3] fun S1_r5 =>
  event_Decode_b5 R x2 e_4 rest_15 four_16 five_18 I S1_r5
def event_Decode_b3 (R : Value → IMem → SH → Prop) (x2 : Addr) (e_4 : Addr) (s_5 : ByteArray) (client_8 : ByteArray) (n_10 : ByteArray) (kind_12 : Int) (I : IMem) (S : SH) : Prop :=
  (0 : Int) ≤ (4 : Int) ∧ (4 : Int) ≤ ((s_5.size : Nat) : Int) ∧
  Runs Tryd.prog 56 #[.string (s_5.extract ((4 : Int).toNat) s_5.size)] I S fun v I1 S1 => ∃ x69_0 x69_1 x69_2, v = .tuple #[.string x69_0, .string x69_1, .bool x69_2] ∧
  Runs Tryd.prog 22 #[.string x69_0] I1 S1 fun v' I1' S1' => ∃ x75_0_0 x75_0_1 x75_0_2 x75_0_3 x75_1, v' = .tuple #[.agg #[.int .i64 x75_0_0, .string x75_0_1, .string x75_0_2, .int .i64 x75_0_3], .bool x75_1] ∧
  ∀ b17 : Nat,
  StP ((b17, .cells #[.int .i64 0, .string ⟨#[]⟩, .string ⟨#[]⟩, .int .i64 0] 29 (0, 0)) :: S1') ⟨b17, 0, none⟩ [.int .i64 x75_0_0, .string x75_0_1, .string x75_0_2, .int .i64 x75_0_3] fun S1'' =>
  event_Decode_b4 R x2 e_4 s_5 client_8 n_10 kind_12 x69_1 x69_2 ⟨b17, 0, none⟩ x75_1 I1' S1''
def event_Decode_b2 (R : Value → IMem → SH → Prop) (x2 : Addr) (e_4 : Addr) (s_5 : ByteArray) (client_8 : ByteArray) (n_10 : ByteArray) (kind_12 : Int) (x64 : Bool) (I : IMem) (S : SH) : Prop :=
  bcase x64
    (StP S x2 [.int .i64 0, .string ⟨#[]⟩, .string ⟨#[]⟩, .int .u16 0, .int .i64 0, .int .i64 0, .string ⟨#[]⟩, .string ⟨#[]⟩, .int .i64 0, .int .i64 0] fun S1 =>
    ∃ r2_0, Cell I S1 x2 (.int .i64 r2_0) ∧
    ∃ r2_1, Cell I S1 (x2.add 1) (.string r2_1) ∧
    ∃ r2_2, Cell I S1 (x2.add 2) (.string r2_2) ∧
    ∃ r2_3, Cell I S1 (x2.add 3) (.int .u16 r2_3) ∧
    ∃ r2_4, Cell I S1 (x2.add 4) (.int .i64 r2_4) ∧
    ∃ r2_5, Cell I S1 (x2.add 5) (.int .i64 r2_5) ∧
    ∃ r2_6, Cell I S1 (x2.add 6) (.string r2_6) ∧
    ∃ r2_7, Cell I S1 (x2.add 7) (.string r2_7) ∧
    ∃ r2_8, Cell I S1 (x2.add 8) (.int .i64 r2_8) ∧
    ∃ r2_9, Cell I S1 (x2.add 9) (.int .i64 r2_9) ∧
    R (.tuple #[.agg #[.int .i64 r2_0, .string r2_1, .string r2_2, .int .u16 r2_3, .int .i64 r2_4, .int .i64 r2_5, .string r2_6, .string r2_7, .int .i64 r2_8, .int .i64 r2_9], .bool false]) I S1)
    (event_Decode_b3 R x2 e_4 s_5 client_8 n_10 kind_12 I S)
def event_Decode_b1 (R : Value → IMem → SH → Prop) (x2 : Addr) (e_4 : Addr) (s_5 : ByteArray) (client_8 : ByteArray) (one_9 : Bool) (n_10 : ByteArray) (two_11 : Bool) (kind_12 : Int) (three_13 : Bool) (I : IMem) (S : SH) : Prop :=
  bcase (!one_9)
    (event_Decode_b2 R x2 e_4 s_5 client_8 n_10 kind_12 true I S)
    (bcase (!two_11)
      (event_Decode_b2 R x2 e_4 s_5 client_8 n_10 kind_12 true I S)
      (bcase (!three_13)
        (event_Decode_b2 R x2 e_4 s_5 client_8 n_10 kind_12 true I S)
        (event_Decode_b2 R x2 e_4 s_5 client_8 n_10 kind_12 (decide ((s_5.size : Int) < (4 : Int))) I S)))
def event_Decode (R : Value → IMem → SH → Prop) (b_0 : Option Addr) (b_0n : Nat) (b_0c : Nat) (I : IMem) (S : SH) : Prop :=
  ∀ b2 : Nat,
  ∀ b4 : Nat,
  ∃ x20 : ByteArray, BytesAt I ((b4, .cells #[.int .i64 0, .string ⟨#[]⟩, .string ⟨#[]⟩, .int .u16 0, .int .i64 0, .int .i64 0, .string ⟨#[]⟩, .string ⟨#[]⟩, .int .i64 0, .int .i64 0] 65 (0, 0)) :: ((b2, .cells #[.int .i64 0, .string ⟨#[]⟩, .string ⟨#[]⟩, .int .u16 0, .int .i64 0, .int .i64 0, .string ⟨#[]⟩, .string ⟨#[]⟩, .int .i64 0, .int .i64 0] 65 (0, 0)) :: S)) b_0 b_0n x20 ∧
  Runs Tryd.prog 55 #[.string x20, .int .i64 0] I ((b4, .cells #[.int .i64 0, .string ⟨#[]⟩, .string ⟨#[]⟩, .int .u16 0, .int .i64 0, .int .i64 0, .string ⟨#[]⟩, .string ⟨#[]⟩, .int .i64 0, .int .i64 0] 65 (0, 0)) :: ((b2, .cells #[.int .i64 0, .string ⟨#[]⟩, .string ⟨#[]⟩, .int .u16 0, .int .i64 0, .int .i64 0, .string ⟨#[]⟩, .string ⟨#[]⟩, .int .i64 0, .int .i64 0] 65 (0, 0)) :: S)) fun v I1 S1 => ∃ x23_0 x23_1, v = .tuple #[.int .u32 x23_0, .bool x23_1] ∧
  bcase (!x23_1)
    (StP S1 ⟨b2, 0, none⟩ [.int .i64 0, .string ⟨#[]⟩, .string ⟨#[]⟩, .int .u16 0, .int .i64 0, .int .i64 0, .string ⟨#[]⟩, .string ⟨#[]⟩, .int .i64 0, .int .i64 0] fun S1' =>
    ∃ r2_0, Cell I1 S1' ⟨b2, 0, none⟩ (.int .i64 r2_0) ∧
    ∃ r2_1, Cell I1 S1' ⟨b2, 1, none⟩ (.string r2_1) ∧
    ∃ r2_2, Cell I1 S1' ⟨b2, 2, none⟩ (.string r2_2) ∧
    ∃ r2_3, Cell I1 S1' ⟨b2, 3, none⟩ (.int .u16 r2_3) ∧
    ∃ r2_4, Cell I1 S1' ⟨b2, 4, none⟩ (.int .i64 r2_4) ∧
    ∃ r2_5, Cell I1 S1' ⟨b2, 5, none⟩ (.int .i64 r2_5) ∧
    ∃ r2_6, Cell I1 S1' ⟨b2, 6, none⟩ (.string r2_6) ∧
    ∃ r2_7, Cell I1 S1' ⟨b2, 7, none⟩ (.string r2_7) ∧
    ∃ r2_8, Cell I1 S1' ⟨b2, 8, none⟩ (.int .i64 r2_8) ∧
    ∃ r2_9, Cell I1 S1' ⟨b2, 9, none⟩ (.int .i64 r2_9) ∧
    R (.tuple #[.agg #[.int .i64 r2_0, .string r2_1, .string r2_2, .int .u16 r2_3, .int .i64 r2_4, .int .i64 r2_5, .string r2_6, .string r2_7, .int .i64 r2_8, .int .i64 r2_9], .bool false]) I1 S1')
    (StP S1 ⟨b4, 0, none⟩ [.int .i64 (IntKind.wrap .i64 x23_0)] fun S1'' =>
    (0 : Int) ≤ (4 : Int) ∧ (4 : Int) ≤ ((x20.size : Nat) : Int) ∧
    Runs Tryd.prog 56 #[.string (x20.extract ((4 : Int).toNat) x20.size)] I1 S1'' fun v' I1' S1_r3 => ∃ x35_0 x35_1 x35_2, v' = .tuple #[.string x35_0, .string x35_1, .bool x35_2] ∧
    Runs Tryd.prog 56 #[.string x35_1] I1' S1_r3 fun v'' I1'' S1_r4 => ∃ x41_0 x41_1 x41_2, v'' = .tuple #[.string x41_0, .string x41_1, .bool x41_2] ∧
    Runs Tryd.prog 57 #[.string x41_1, .int .i64 0] I1'' S1_r4 fun v_r3 I1_r3 S1_r5 => ∃ x47_0 x47_1, v_r3 = .tuple #[.int .u16 x47_0, .bool x47_1] ∧
    event_Decode_b1 R ⟨b2, 0, none⟩ ⟨b4, 0, none⟩ x41_1 x35_0 x35_2 x41_0 x41_2 x47_0 x47_1 I1_r3 S1_r5)
theorem event_Decode_fn (R : Value → IMem → SH → Prop) (b_0 : Option Addr) (b_0n : Nat) (b_0c : Nat) (I : IMem) (S : SH) (h : event_Decode R b_0 b_0n b_0c I S) :
    Runs Tryd.prog 35 #[.slice b_0 b_0n b_0c] I S R := by
  refine Runs.of_wp (args := [.slice b_0 b_0n b_0c]) (c := event_Decode_code) Tryd.func35 (by kernel_rfl) (by kernel_rfl) ?_
  refine WP.cut 9 (fun l I S => asAdr (l 2) fun x2 => asAdr (l 4) fun e_4 => asStr (l 5) fun s_5 => asStr (l 8) fun client_8 => asB (l 9) fun one_9 => asStr (l 10) fun n_10 => asB (l 11) fun two_11 => asI .u16 (l 12) fun kind_12 => asB (l 13) fun three_13 => event_Decode_b1 R x2 e_4 s_5 client_8 one_9 n_10 two_11 kind_12 three_13 I S) (cast (by kernel_rfl) h) ?_
  clear h
  intro l I S _ h
  obtain ⟨x2, e2, h⟩ := asAdr_e h
  obtain ⟨e_4, e4, h⟩ := asAdr_e h
  obtain ⟨s_5, e5, h⟩ := asStr_e h
  obtain ⟨client_8, e8, h⟩ := asStr_e h
  obtain ⟨one_9, e9, h⟩ := asB_e h
  obtain ⟨n_10, e10, h⟩ := asStr_e h
  obtain ⟨two_11, e11, h⟩ := asB_e h
  obtain ⟨kind_12, e12, h⟩ := asI_e h
  obtain ⟨three_13, e13, h⟩ := asB_e h
  rw [upd_eta e2, upd_eta e4, upd_eta e5, upd_eta e8, upd_eta e9, upd_eta e10, upd_eta e11, upd_eta e12, upd_eta e13]
  refine WP.seqY (by kernel_rfl) (fun l I S => asAdr (l 2) fun x2 => asAdr (l 4) fun e_4 => asStr (l 5) fun s_5 => asStr (l 8) fun client_8 => asStr (l 10) fun n_10 => asI .u16 (l 12) fun kind_12 => event_Decode_b3 R x2 e_4 s_5 client_8 n_10 kind_12 I S) ?_ ?_
  ·
    refine WP.cut 1 (fun l I S => asAdr (l 2) fun x2 => asAdr (l 4) fun e_4 => asStr (l 5) fun s_5 => asStr (l 8) fun client_8 => asStr (l 10) fun n_10 => asI .u16 (l 12) fun kind_12 => asB (l 64) fun x64 => event_Decode_b2 R x2 e_4 s_5 client_8 n_10 kind_12 x64 I S) (cast (by kernel_rfl) h) ?_
    clear h
    intro l I S _ h
    obtain ⟨x2, e2, h⟩ := asAdr_e h
    obtain ⟨e_4, e4, h⟩ := asAdr_e h
    obtain ⟨s_5, e5, h⟩ := asStr_e h
    obtain ⟨client_8, e8, h⟩ := asStr_e h
    obtain ⟨n_10, e10, h⟩ := asStr_e h
    obtain ⟨kind_12, e12, h⟩ := asI_e h
    obtain ⟨x64, e64, h⟩ := asB_e h
    rw [upd_eta e2, upd_eta e4, upd_eta e5, upd_eta e8, upd_eta e10, upd_eta e12, upd_eta e64]
    exact Pre.sound _ _ _ _ _ (cast (by kernel_rfl) h)
  · clear h
    intro l I S _ h
    obtain ⟨x2, e2, h⟩ := asAdr_e h
    obtain ⟨e_4, e4, h⟩ := asAdr_e h
    obtain ⟨s_5, e5, h⟩ := asStr_e h
    obtain ⟨client_8, e8, h⟩ := asStr_e h
    obtain ⟨n_10, e10, h⟩ := asStr_e h
    obtain ⟨kind_12, e12, h⟩ := asI_e h
    rw [upd_eta e2, upd_eta e4, upd_eta e5, upd_eta e8, upd_eta e10, upd_eta e12]
    refine WP.cut 2 (fun l I S => asAdr (l 2) fun x2 => asAdr (l 4) fun e_4 => asStr (l 5) fun s_5 => asStr (l 8) fun client_8 => asStr (l 10) fun n_10 => asI .u16 (l 12) fun kind_12 => asStr (l 15) fun rest_15 => asB (l 16) fun four_16 => asAdr (l 17) fun tr_17 => asB (l 18) fun five_18 => event_Decode_b4 R x2 e_4 s_5 client_8 n_10 kind_12 rest_15 four_16 tr_17 five_18 I S) (cast (by kernel_rfl) h) ?_
    clear h
    intro l I S _ h
    obtain ⟨x2, e2, h⟩ := asAdr_e h
    obtain ⟨e_4, e4, h⟩ := asAdr_e h
    obtain ⟨s_5, e5, h⟩ := asStr_e h
    obtain ⟨client_8, e8, h⟩ := asStr_e h
    obtain ⟨n_10, e10, h⟩ := asStr_e h
    obtain ⟨kind_12, e12, h⟩ := asI_e h
    obtain ⟨rest_15, e15, h⟩ := asStr_e h
    obtain ⟨four_16, e16, h⟩ := asB_e h
    obtain ⟨tr_17, e17, h⟩ := asAdr_e h
    obtain ⟨five_18, e18, h⟩ := asB_e h
    rw [upd_eta e2, upd_eta e4, upd_eta e5, upd_eta e8, upd_eta e10, upd_eta e12, upd_eta e15, upd_eta e16, upd_eta e17, upd_eta e18]
    refine WP.seqY (by kernel_rfl) (fun l I S => asAdr (l 2) fun x2 => asAdr (l 4) fun e_4 => asStr (l 15) fun rest_15 => asB (l 16) fun four_16 => asB (l 18) fun five_18 => event_Decode_b5 R x2 e_4 rest_15 four_16 five_18 I S) ?_ ?_
    ·
      exact WP.drawF (.take 0 (.take 1 (.take 2 (.take 3 (.take 4 (.take 5 (.take 6 (.take 7 (.take 8 (.take 9 (.take 10 (.step 11 (.take 12 (.step 13 (.take 14 (.step 15 (.take 16 (.step 17 (.take 18 (.step 19 (.take 20 (.step 21 .done)))))))))))))))))))))) [11, 13, 15, 17, 19, 21] (by kernel_rfl) (by kernel_rfl) (by kernel_rfl) (by kernel_rfl) (by kernel_rfl) (cast (by kernel_rfl) h)
    · clear h
      intro l I S _ h
      obtain ⟨x2, e2, h⟩ := asAdr_e h
      obtain ⟨e_4, e4, h⟩ := asAdr_e h
      obtain ⟨rest_15, e15, h⟩ := asStr_e h
      obtain ⟨four_16, e16, h⟩ := asB_e h
      obtain ⟨five_18, e18, h⟩ := asB_e h
      rw [upd_eta e2, upd_eta e4, upd_eta e15, upd_eta e16, upd_eta e18]
      refine WP.seqY (by kernel_rfl) (fun l I S => asAdr (l 2) fun x2 => asAdr (l 4) fun e_4 => event_Decode_b7 R x2 e_4 I S) ?_ ?_
      ·
        refine WP.cut 1 (fun l I S => asAdr (l 2) fun x2 => asAdr (l 4) fun e_4 => asB (l 108) fun x108 => event_Decode_b6 R x2 e_4 x108 I S) (cast (by kernel_rfl) h) ?_
        clear h
        intro l I S _ h
        obtain ⟨x2, e2, h⟩ := asAdr_e h
        obtain ⟨e_4, e4, h⟩ := asAdr_e h
        obtain ⟨x108, e108, h⟩ := asB_e h
        rw [upd_eta e2, upd_eta e4, upd_eta e108]
        exact Pre.sound _ _ _ _ _ (cast (by kernel_rfl) h)
      · clear h
        intro l I S _ h
        obtain ⟨x2, e2, h⟩ := asAdr_e h
        obtain ⟨e_4, e4, h⟩ := asAdr_e h
        rw [upd_eta e2, upd_eta e4]
        exact Pre.sound _ _ _ _ _ (cast (by kernel_rfl) h)
/-! ### num_Put32: function 52, bolter/num.Put32 -/
noncomputable def num_Put32_code : Code := (Tryd.f52.body).getD .skip
def num_Put32_b4 (R : Value → IMem → SH → Prop) (out_5 : Option Addr) (out_5n : Nat) (out_5c : Nat) (I : IMem) (S : SH) : Prop :=
  R (.slice out_5 out_5n out_5c) I S
def num_Put32_l3 (again3 : Option Addr → Nat → Nat → Option Addr → Nat → Nat → Int → Int → IMem → SH → Prop) (R : Value → IMem → SH → Prop) (out_5 : Option Addr) (out_5n : Nat) (out_5c : Nat) (x10 : Option Addr) (x10n : Nat) (x10c : Nat) (x11 : Int) (x12 : Int) (I : IMem) (S : SH) : Prop :=
  bcase (decide (x12 < x11))
    (ptrP x10 fun x14 => (0 : Int) ≤ x12 ∧ x12 < (x10n : Int) ∧
    ∃ x15, Cell I S (x14.add (x12.toNat * 1)) (.int .u32 x15) ∧
    ∀ b28 : Nat,
    AppG 5 1 1 [.int .u8 0] (some (.slice 5)) I ((b28, .cells #[.int .u8 (IntKind.wrap .u8 (x15.fdiv (2 ^ (min (24 : Int).toNat (IntKind.bits .u32))))), .int .u8 (IntKind.wrap .u8 (x15.fdiv (2 ^ (min (16 : Int).toNat (IntKind.bits .u32))))), .int .u8 (IntKind.wrap .u8 (x15.fdiv (2 ^ (min (8 : Int).toNat (IntKind.bits .u32))))), .int .u8 (IntKind.wrap .u8 x15)] 5 (0, 0)) :: S) (.slice out_5 out_5n out_5c) (.slice (some ⟨b28, 0, none⟩) 4 4) fun x29 x29n x29c S1 =>
    again3 x29 x29n x29c x10 x10n x10c x11 (IntKind.wrap .i64 (x12 + (1 : Int))) I S1)
    (num_Put32_b4 R out_5 out_5n out_5c I S)
def num_Put32_b2 (R : Value → IMem → SH → Prop) (out_5 : Option Addr) (out_5n : Nat) (out_5c : Nat) (x10 : Option Addr) (x10n : Nat) (x10c : Nat) (x11 : Int) (x12 : Int) (I : IMem) (S : SH) : Prop :=
  ∃ (Inv : Nat → Option Addr → Nat → Nat → Option Addr → Nat → Nat → Int → Int → IMem → SH → Prop) (m : Nat), Inv m out_5 out_5n out_5c x10 x10n x10c x11 x12 I S ∧
    ∀ (m : Nat) (out_5 : Option Addr) (out_5n : Nat) (out_5c : Nat) (x10 : Option Addr) (x10n : Nat) (x10c : Nat) (x11 : Int) (x12 : Int) (J : IMem) (T : SH), I.le J → Inv m out_5 out_5n out_5c x10 x10n x10c x11 x12 J T →
      num_Put32_l3 (fun out_5 out_5n out_5c x10 x10n x10c x11 x12 I S => ∃ m', m' < m ∧ Inv m' out_5 out_5n out_5c x10 x10n x10c x11 x12 I S) R out_5 out_5n out_5c x10 x10n x10c x11 x12 J T
def num_Put32_b1 (R : Value → IMem → SH → Prop) (ns_1 : Option Addr) (ns_1n : Nat) (ns_1c : Nat) (out_5 : Option Addr) (out_5n : Nat) (out_5c : Nat) (I : IMem) (S : SH) : Prop :=
  num_Put32_b2 R out_5 out_5n out_5c ns_1 ns_1n ns_1c (ns_1n : Int) 0 I S
def num_Put32 (R : Value → IMem → SH → Prop) (b_0 : Option Addr) (b_0n : Nat) (b_0c : Nat) (ns_1 : Option Addr) (ns_1n : Nat) (ns_1c : Nat) (I : IMem) (S : SH) : Prop :=
  AppG 5 1 1 [.int .u8 0] (some (.slice 5)) I S (.slice none 0 0) (.slice b_0 b_0n b_0c) fun x9 x9n x9c S1 =>
  num_Put32_b1 R ns_1 ns_1n ns_1c x9 x9n x9c I S1
theorem num_Put32_fn (R : Value → IMem → SH → Prop) (b_0 : Option Addr) (b_0n : Nat) (b_0c : Nat) (ns_1 : Option Addr) (ns_1n : Nat) (ns_1c : Nat) (I : IMem) (S : SH) (h : num_Put32 R b_0 b_0n b_0c ns_1 ns_1n ns_1c I S) :
    Runs Tryd.prog 52 #[.slice b_0 b_0n b_0c, .slice ns_1 ns_1n ns_1c] I S R := by
  refine Runs.of_wp (args := [.slice b_0 b_0n b_0c, .slice ns_1 ns_1n ns_1c]) (c := num_Put32_code) Tryd.func52 (by kernel_rfl) (by kernel_rfl) ?_
  refine WP.cut 2 (fun l I S => asSl (l 1) fun ns_1 ns_1n ns_1c => asSl (l 5) fun out_5 out_5n out_5c => num_Put32_b1 R ns_1 ns_1n ns_1c out_5 out_5n out_5c I S) (cast (by kernel_rfl) h) ?_
  clear h
  intro l I S _ h
  obtain ⟨ns_1, ns_1n, ns_1c, e1, h⟩ := asSl_e h
  obtain ⟨out_5, out_5n, out_5c, e5, h⟩ := asSl_e h
  rw [upd_eta e1, upd_eta e5]
  refine WP.seqY (by kernel_rfl) (fun l I S => asSl (l 5) fun out_5 out_5n out_5c => num_Put32_b4 R out_5 out_5n out_5c I S) ?_ ?_
  ·
    refine WP.cut 1 (fun l I S => asSl (l 5) fun out_5 out_5n out_5c => asSl (l 10) fun x10 x10n x10c => asI .i64 (l 11) fun x11 => asI .i64 (l 12) fun x12 => num_Put32_b2 R out_5 out_5n out_5c x10 x10n x10c x11 x12 I S) (cast (by kernel_rfl) h) ?_
    clear h
    intro l I S _ h
    obtain ⟨out_5, out_5n, out_5c, e5, h⟩ := asSl_e h
    obtain ⟨x10, x10n, x10c, e10, h⟩ := asSl_e h
    obtain ⟨x11, e11, h⟩ := asI_e h
    obtain ⟨x12, e12, h⟩ := asI_e h
    rw [upd_eta e5, upd_eta e10, upd_eta e11, upd_eta e12]
    refine WP.block' (by kernel_rfl) ?_
    obtain ⟨Inv_again3, m_again3, h0, hr⟩ := h
    refine WP.loop' (by kernel_rfl) (fun m_again3 => fun l I S => asSl (l 5) fun out_5 out_5n out_5c => asSl (l 10) fun x10 x10n x10c => asI .i64 (l 11) fun x11 => asI .i64 (l 12) fun x12 => Inv_again3 m_again3 out_5 out_5n out_5c x10 x10n x10c x11 x12 I S) m_again3 (cast (by kernel_rfl) h0) ?_
    clear h0
    intro m_again3 l I S hle h
    obtain ⟨out_5, out_5n, out_5c, e5, h⟩ := asSl_e h
    obtain ⟨x10, x10n, x10c, e10, h⟩ := asSl_e h
    obtain ⟨x11, e11, h⟩ := asI_e h
    obtain ⟨x12, e12, h⟩ := asI_e h
    rw [upd_eta e5, upd_eta e10, upd_eta e11, upd_eta e12]
    have h := hr m_again3 out_5 out_5n out_5c x10 x10n x10c x11 x12 I S hle h
    clear hr hle
    exact Pre.sound _ _ _ _ _ (cast (by kernel_rfl) h)
  · clear h
    intro l I S _ h
    obtain ⟨out_5, out_5n, out_5c, e5, h⟩ := asSl_e h
    rw [upd_eta e5]
    exact Pre.sound _ _ _ _ _ (cast (by kernel_rfl) h)
/-! ### num_Put16: function 53, bolter/num.Put16 -/
noncomputable def num_Put16_code : Code := (Tryd.f53.body).getD .skip
def num_Put16_b4 (R : Value → IMem → SH → Prop) (out_5 : Option Addr) (out_5n : Nat) (out_5c : Nat) (I : IMem) (S : SH) : Prop :=
  R (.slice out_5 out_5n out_5c) I S
def num_Put16_l3 (again3 : Option Addr → Nat → Nat → Option Addr → Nat → Nat → Int → Int → IMem → SH → Prop) (R : Value → IMem → SH → Prop) (out_5 : Option Addr) (out_5n : Nat) (out_5c : Nat) (x10 : Option Addr) (x10n : Nat) (x10c : Nat) (x11 : Int) (x12 : Int) (I : IMem) (S : SH) : Prop :=
  bcase (decide (x12 < x11))
    (ptrP x10 fun x14 => (0 : Int) ≤ x12 ∧ x12 < (x10n : Int) ∧
    ∃ x15, Cell I S (x14.add (x12.toNat * 1)) (.int .u16 x15) ∧
    ∀ b22 : Nat,
    AppG 5 1 1 [.int .u8 0] (some (.slice 5)) I ((b22, .cells #[.int .u8 (IntKind.wrap .u8 (x15.fdiv (2 ^ (min (8 : Int).toNat (IntKind.bits .u16))))), .int .u8 (IntKind.wrap .u8 x15)] 5 (0, 0)) :: S) (.slice out_5 out_5n out_5c) (.slice (some ⟨b22, 0, none⟩) 2 2) fun x23 x23n x23c S1 =>
    again3 x23 x23n x23c x10 x10n x10c x11 (IntKind.wrap .i64 (x12 + (1 : Int))) I S1)
    (num_Put16_b4 R out_5 out_5n out_5c I S)
def num_Put16_b2 (R : Value → IMem → SH → Prop) (out_5 : Option Addr) (out_5n : Nat) (out_5c : Nat) (x10 : Option Addr) (x10n : Nat) (x10c : Nat) (x11 : Int) (x12 : Int) (I : IMem) (S : SH) : Prop :=
  ∃ (Inv : Nat → Option Addr → Nat → Nat → Option Addr → Nat → Nat → Int → Int → IMem → SH → Prop) (m : Nat), Inv m out_5 out_5n out_5c x10 x10n x10c x11 x12 I S ∧
    ∀ (m : Nat) (out_5 : Option Addr) (out_5n : Nat) (out_5c : Nat) (x10 : Option Addr) (x10n : Nat) (x10c : Nat) (x11 : Int) (x12 : Int) (J : IMem) (T : SH), I.le J → Inv m out_5 out_5n out_5c x10 x10n x10c x11 x12 J T →
      num_Put16_l3 (fun out_5 out_5n out_5c x10 x10n x10c x11 x12 I S => ∃ m', m' < m ∧ Inv m' out_5 out_5n out_5c x10 x10n x10c x11 x12 I S) R out_5 out_5n out_5c x10 x10n x10c x11 x12 J T
def num_Put16_b1 (R : Value → IMem → SH → Prop) (ns_1 : Option Addr) (ns_1n : Nat) (ns_1c : Nat) (out_5 : Option Addr) (out_5n : Nat) (out_5c : Nat) (I : IMem) (S : SH) : Prop :=
  num_Put16_b2 R out_5 out_5n out_5c ns_1 ns_1n ns_1c (ns_1n : Int) 0 I S
def num_Put16 (R : Value → IMem → SH → Prop) (b_0 : Option Addr) (b_0n : Nat) (b_0c : Nat) (ns_1 : Option Addr) (ns_1n : Nat) (ns_1c : Nat) (I : IMem) (S : SH) : Prop :=
  AppG 5 1 1 [.int .u8 0] (some (.slice 5)) I S (.slice none 0 0) (.slice b_0 b_0n b_0c) fun x9 x9n x9c S1 =>
  num_Put16_b1 R ns_1 ns_1n ns_1c x9 x9n x9c I S1
theorem num_Put16_fn (R : Value → IMem → SH → Prop) (b_0 : Option Addr) (b_0n : Nat) (b_0c : Nat) (ns_1 : Option Addr) (ns_1n : Nat) (ns_1c : Nat) (I : IMem) (S : SH) (h : num_Put16 R b_0 b_0n b_0c ns_1 ns_1n ns_1c I S) :
    Runs Tryd.prog 53 #[.slice b_0 b_0n b_0c, .slice ns_1 ns_1n ns_1c] I S R := by
  refine Runs.of_wp (args := [.slice b_0 b_0n b_0c, .slice ns_1 ns_1n ns_1c]) (c := num_Put16_code) Tryd.func53 (by kernel_rfl) (by kernel_rfl) ?_
  refine WP.cut 2 (fun l I S => asSl (l 1) fun ns_1 ns_1n ns_1c => asSl (l 5) fun out_5 out_5n out_5c => num_Put16_b1 R ns_1 ns_1n ns_1c out_5 out_5n out_5c I S) (cast (by kernel_rfl) h) ?_
  clear h
  intro l I S _ h
  obtain ⟨ns_1, ns_1n, ns_1c, e1, h⟩ := asSl_e h
  obtain ⟨out_5, out_5n, out_5c, e5, h⟩ := asSl_e h
  rw [upd_eta e1, upd_eta e5]
  refine WP.seqY (by kernel_rfl) (fun l I S => asSl (l 5) fun out_5 out_5n out_5c => num_Put16_b4 R out_5 out_5n out_5c I S) ?_ ?_
  ·
    refine WP.cut 1 (fun l I S => asSl (l 5) fun out_5 out_5n out_5c => asSl (l 10) fun x10 x10n x10c => asI .i64 (l 11) fun x11 => asI .i64 (l 12) fun x12 => num_Put16_b2 R out_5 out_5n out_5c x10 x10n x10c x11 x12 I S) (cast (by kernel_rfl) h) ?_
    clear h
    intro l I S _ h
    obtain ⟨out_5, out_5n, out_5c, e5, h⟩ := asSl_e h
    obtain ⟨x10, x10n, x10c, e10, h⟩ := asSl_e h
    obtain ⟨x11, e11, h⟩ := asI_e h
    obtain ⟨x12, e12, h⟩ := asI_e h
    rw [upd_eta e5, upd_eta e10, upd_eta e11, upd_eta e12]
    refine WP.block' (by kernel_rfl) ?_
    obtain ⟨Inv_again3, m_again3, h0, hr⟩ := h
    refine WP.loop' (by kernel_rfl) (fun m_again3 => fun l I S => asSl (l 5) fun out_5 out_5n out_5c => asSl (l 10) fun x10 x10n x10c => asI .i64 (l 11) fun x11 => asI .i64 (l 12) fun x12 => Inv_again3 m_again3 out_5 out_5n out_5c x10 x10n x10c x11 x12 I S) m_again3 (cast (by kernel_rfl) h0) ?_
    clear h0
    intro m_again3 l I S hle h
    obtain ⟨out_5, out_5n, out_5c, e5, h⟩ := asSl_e h
    obtain ⟨x10, x10n, x10c, e10, h⟩ := asSl_e h
    obtain ⟨x11, e11, h⟩ := asI_e h
    obtain ⟨x12, e12, h⟩ := asI_e h
    rw [upd_eta e5, upd_eta e10, upd_eta e11, upd_eta e12]
    have h := hr m_again3 out_5 out_5n out_5c x10 x10n x10c x11 x12 I S hle h
    clear hr hle
    exact Pre.sound _ _ _ _ _ (cast (by kernel_rfl) h)
  · clear h
    intro l I S _ h
    obtain ⟨out_5, out_5n, out_5c, e5, h⟩ := asSl_e h
    rw [upd_eta e5]
    exact Pre.sound _ _ _ _ _ (cast (by kernel_rfl) h)
/-! ### bolterlaw25_bytes_f1: function 54, bolter/bolterlaw25.bytes$1 -/
noncomputable def bolterlaw25_bytes_f1_code : Code := (Tryd.f54.body).getD .skip
def bolterlaw25_bytes_f1 (R : Value → IMem → SH → Prop) (s_0 : ByteArray) (I : IMem) (S : SH) : Prop :=
  ∀ b6 : Nat,
  ∃ x7 : ByteArray, BytesAt I ((b6, .cells #[.int .u8 (IntKind.wrap .u8 (s_0.size : Int))] 5 (0, 0)) :: S) (some ⟨b6, 0, none⟩) 1 x7 ∧
  ((x7.size + s_0.size : Nat) : Int) ≤ 9223372036854775807 ∧
  R (.string (x7 ++ s_0)) I ((b6, .cells #[.int .u8 (IntKind.wrap .u8 (s_0.size : Int))] 5 (0, 0)) :: S)
theorem bolterlaw25_bytes_f1_fn (R : Value → IMem → SH → Prop) (s_0 : ByteArray) (I : IMem) (S : SH) (h : bolterlaw25_bytes_f1 R s_0 I S) :
    Runs Tryd.prog 54 #[.string s_0] I S R := by
  refine Runs.of_wp (args := [.string s_0]) (c := bolterlaw25_bytes_f1_code) Tryd.func54 (by kernel_rfl) (by kernel_rfl) ?_
  exact Pre.sound _ _ _ _ _ (cast (by kernel_rfl) h)
/-! ### num_Get32: function 55, bolter/num.Get32 -/
noncomputable def num_Get32_code : Code := (Tryd.f55.body).getD .skip
def num_Get32_b3 (R : Value → IMem → SH → Prop) (high_6 : Int) (low_8 : Int) (I : IMem) (S : SH) : Prop :=
  R (.tuple #[.int .u32 (ior .u32 (IntKind.wrap .u32 ((IntKind.wrap .u32 high_6) * 2 ^ (min (16 : Int).toNat (IntKind.bits .u32)))) (IntKind.wrap .u32 low_8)), .bool true]) I S
def num_Get32_b2 (R : Value → IMem → SH → Prop) (high_6 : Int) (low_8 : Int) (x28 : Bool) (I : IMem) (S : SH) : Prop :=
  bcase x28
    (R (.tuple #[.int .u32 0, .bool false]) I S)
    (num_Get32_b3 R high_6 low_8 I S)
def num_Get32_b1 (R : Value → IMem → SH → Prop) (high_6 : Int) (ok_7 : Bool) (low_8 : Int) (is_9 : Bool) (I : IMem) (S : SH) : Prop :=
  bcase (!ok_7)
    (num_Get32_b2 R high_6 low_8 true I S)
    (num_Get32_b2 R high_6 low_8 (!is_9) I S)
def num_Get32 (R : Value → IMem → SH → Prop) (b_0 : ByteArray) (at_1 : Int) (I : IMem) (S : SH) : Prop :=
  Runs Tryd.prog 57 #[.string b_0, .int .i64 at_1] I S fun v I1 S1 => ∃ x13_0 x13_1, v = .tuple #[.int .u16 x13_0, .bool x13_1] ∧
  Runs Tryd.prog 57 #[.string b_0, .int .i64 (IntKind.wrap .i64 (at_1 + (2 : Int)))] I1 S1 fun v' I1' S1' => ∃ x20_0 x20_1, v' = .tuple #[.int .u16 x20_0, .bool x20_1] ∧
  num_Get32_b1 R x13_0 x13_1 x20_0 x20_1 I1' S1'
theorem num_Get32_fn (R : Value → IMem → SH → Prop) (b_0 : ByteArray) (at_1 : Int) (I : IMem) (S : SH) (h : num_Get32 R b_0 at_1 I S) :
    Runs Tryd.prog 55 #[.string b_0, .int .i64 at_1] I S R := by
  refine Runs.of_wp (args := [.string b_0, .int .i64 at_1]) (c := num_Get32_code) Tryd.func55 (by kernel_rfl) (by kernel_rfl) ?_
  refine WP.cut 3 (fun l I S => asI .u16 (l 6) fun high_6 => asB (l 7) fun ok_7 => asI .u16 (l 8) fun low_8 => asB (l 9) fun is_9 => num_Get32_b1 R high_6 ok_7 low_8 is_9 I S) (cast (by kernel_rfl) h) ?_
  clear h
  intro l I S _ h
  obtain ⟨high_6, e6, h⟩ := asI_e h
  obtain ⟨ok_7, e7, h⟩ := asB_e h
  obtain ⟨low_8, e8, h⟩ := asI_e h
  obtain ⟨is_9, e9, h⟩ := asB_e h
  rw [upd_eta e6, upd_eta e7, upd_eta e8, upd_eta e9]
  refine WP.seqY (by kernel_rfl) (fun l I S => asI .u16 (l 6) fun high_6 => asI .u16 (l 8) fun low_8 => num_Get32_b3 R high_6 low_8 I S) ?_ ?_
  ·
    refine WP.cut 1 (fun l I S => asI .u16 (l 6) fun high_6 => asI .u16 (l 8) fun low_8 => asB (l 28) fun x28 => num_Get32_b2 R high_6 low_8 x28 I S) (cast (by kernel_rfl) h) ?_
    clear h
    intro l I S _ h
    obtain ⟨high_6, e6, h⟩ := asI_e h
    obtain ⟨low_8, e8, h⟩ := asI_e h
    obtain ⟨x28, e28, h⟩ := asB_e h
    rw [upd_eta e6, upd_eta e8, upd_eta e28]
    exact Pre.sound _ _ _ _ _ (cast (by kernel_rfl) h)
  · clear h
    intro l I S _ h
    obtain ⟨high_6, e6, h⟩ := asI_e h
    obtain ⟨low_8, e8, h⟩ := asI_e h
    rw [upd_eta e6, upd_eta e8]
    exact Pre.sound _ _ _ _ _ (cast (by kernel_rfl) h)
/-! ### event_text: function 56, bolter/event.text -/
noncomputable def event_text_code : Code := (Tryd.f56.body).getD .skip
def event_text_b4 (R : Value → IMem → SH → Prop) (x2 : ByteArray) (x3 : ByteArray) (x4 : Bool) (I : IMem) (S : SH) : Prop :=
  R (.tuple #[.string x2, .string x3, .bool x4]) I S
def event_text_b3 (R : Value → IMem → SH → Prop) (b_0 : ByteArray) (I : IMem) (S : SH) : Prop :=
  ∃ cx19 : UInt8, (0 : Int) ≤ (0 : Int) ∧ b_0[(0 : Int).toNat]? = some cx19 ∧
  (0 : Int) ≤ (IntKind.wrap .i64 ((1 : Int) + (IntKind.wrap .i64 (cx19.toNat : Int)))) ∧ (IntKind.wrap .i64 ((1 : Int) + (IntKind.wrap .i64 (cx19.toNat : Int)))) ≤ ((b_0.size : Nat) : Int) ∧
  (0 : Int) ≤ (1 : Int) ∧ (1 : Int) ≤ (((IntKind.wrap .i64 ((1 : Int) + (IntKind.wrap .i64 (cx19.toNat : Int)))).toNat : Nat) : Int) ∧
  ∃ cx25 : UInt8, (0 : Int) ≤ (0 : Int) ∧ b_0[(0 : Int).toNat]? = some cx25 ∧
  (0 : Int) ≤ (IntKind.wrap .i64 ((1 : Int) + (IntKind.wrap .i64 (cx25.toNat : Int)))) ∧ (IntKind.wrap .i64 ((1 : Int) + (IntKind.wrap .i64 (cx25.toNat : Int)))) ≤ ((b_0.size : Nat) : Int) ∧
  event_text_b4 R (b_0.extract ((1 : Int).toNat) ((IntKind.wrap .i64 ((1 : Int) + (IntKind.wrap .i64 (cx19.toNat : Int)))).toNat)) (b_0.extract ((IntKind.wrap .i64 ((1 : Int) + (IntKind.wrap .i64 (cx25.toNat : Int)))).toNat) b_0.size) true I S
def event_text_b2 (R : Value → IMem → SH → Prop) (b_0 : ByteArray) (x16 : Bool) (I : IMem) (S : SH) : Prop :=
  bcase x16
    (R (.tuple #[.string ⟨#[]⟩, .string ⟨#[]⟩, .bool false]) I S)
    (event_text_b3 R b_0 I S)
def event_text_b1 (R : Value → IMem → SH → Prop) (b_0 : ByteArray) (I : IMem) (S : SH) : Prop :=
  bcase ((b_0.size : Int) == (0 : Int))
    (event_text_b2 R b_0 true I S)
    (∃ cx12 : UInt8, (0 : Int) ≤ (0 : Int) ∧ b_0[(0 : Int).toNat]? = some cx12 ∧
    event_text_b2 R b_0 (decide ((b_0.size : Int) < (IntKind.wrap .i64 ((1 : Int) + (IntKind.wrap .i64 (cx12.toNat : Int)))))) I S)
def event_text (R : Value → IMem → SH → Prop) (b_0 : ByteArray) (I : IMem) (S : SH) : Prop :=
  event_text_b1 R b_0 I S
theorem event_text_fn (R : Value → IMem → SH → Prop) (b_0 : ByteArray) (I : IMem) (S : SH) (h : event_text R b_0 I S) :
    Runs Tryd.prog 56 #[.string b_0] I S R := by
  refine Runs.of_wp (args := [.string b_0]) (c := event_text_code) Tryd.func56 (by kernel_rfl) (by kernel_rfl) ?_
  refine WP.cut 1 (fun l I S => asStr (l 0) fun b_0 => event_text_b1 R b_0 I S) (cast (by kernel_rfl) h) ?_
  clear h
  intro l I S _ h
  obtain ⟨b_0, e0, h⟩ := asStr_e h
  rw [upd_eta e0]
  refine WP.seqY (by kernel_rfl) (fun l I S => asStr (l 0) fun b_0 => event_text_b3 R b_0 I S) ?_ ?_
  ·
    refine WP.cut 1 (fun l I S => asStr (l 0) fun b_0 => asB (l 16) fun x16 => event_text_b2 R b_0 x16 I S) (cast (by kernel_rfl) h) ?_
    clear h
    intro l I S _ h
    obtain ⟨b_0, e0, h⟩ := asStr_e h
    obtain ⟨x16, e16, h⟩ := asB_e h
    rw [upd_eta e0, upd_eta e16]
    exact Pre.sound _ _ _ _ _ (cast (by kernel_rfl) h)
  · clear h
    intro l I S _ h
    obtain ⟨b_0, e0, h⟩ := asStr_e h
    rw [upd_eta e0]
    refine WP.seqY (by kernel_rfl) (fun l I S => asStr (l 2) fun x2 => asStr (l 3) fun x3 => asB (l 4) fun x4 => event_text_b4 R x2 x3 x4 I S) ?_ ?_
    ·
      exact WP.quiet' (by kernel_rfl) (by kernel_rfl) (by kernel_rfl) (cast (by kernel_rfl) h)
    · clear h
      intro l I S _ h
      obtain ⟨x2, e2, h⟩ := asStr_e h
      obtain ⟨x3, e3, h⟩ := asStr_e h
      obtain ⟨x4, e4, h⟩ := asB_e h
      rw [upd_eta e2, upd_eta e3, upd_eta e4]
      exact Pre.sound _ _ _ _ _ (cast (by kernel_rfl) h)
/-! ### num_Get16: function 57, bolter/num.Get16 -/
noncomputable def num_Get16_code : Code := (Tryd.f57.body).getD .skip
def num_Get16_b4 (R : Value → IMem → SH → Prop) (x4 : Int) (x5 : Bool) (I : IMem) (S : SH) : Prop :=
  R (.tuple #[.int .u16 x4, .bool x5]) I S
def num_Get16_b3 (R : Value → IMem → SH → Prop) (b_0 : ByteArray) (at_1 : Int) (I : IMem) (S : SH) : Prop :=
  ∃ cx17 : UInt8, (0 : Int) ≤ at_1 ∧ b_0[at_1.toNat]? = some cx17 ∧
  ∃ cx23 : UInt8, (0 : Int) ≤ (IntKind.wrap .i64 (at_1 + (1 : Int))) ∧ b_0[(IntKind.wrap .i64 (at_1 + (1 : Int))).toNat]? = some cx23 ∧
  num_Get16_b4 R (ior .u16 (IntKind.wrap .u16 ((IntKind.wrap .u16 (cx17.toNat : Int)) * 2 ^ (min (8 : Int).toNat (IntKind.bits .u16)))) (IntKind.wrap .u16 (cx23.toNat : Int))) true I S
def num_Get16_b2 (R : Value → IMem → SH → Prop) (b_0 : ByteArray) (at_1 : Int) (x14 : Bool) (I : IMem) (S : SH) : Prop :=
  bcase x14
    (R (.tuple #[.int .u16 0, .bool false]) I S)
    (num_Get16_b3 R b_0 at_1 I S)
def num_Get16_b1 (R : Value → IMem → SH → Prop) (b_0 : ByteArray) (at_1 : Int) (I : IMem) (S : SH) : Prop :=
  bcase (decide (at_1 < (0 : Int)))
    (num_Get16_b2 R b_0 at_1 true I S)
    (num_Get16_b2 R b_0 at_1 (decide (at_1 > (IntKind.wrap .i64 ((b_0.size : Int) - (2 : Int))))) I S)
def num_Get16 (R : Value → IMem → SH → Prop) (b_0 : ByteArray) (at_1 : Int) (I : IMem) (S : SH) : Prop :=
  num_Get16_b1 R b_0 at_1 I S
theorem num_Get16_fn (R : Value → IMem → SH → Prop) (b_0 : ByteArray) (at_1 : Int) (I : IMem) (S : SH) (h : num_Get16 R b_0 at_1 I S) :
    Runs Tryd.prog 57 #[.string b_0, .int .i64 at_1] I S R := by
  refine Runs.of_wp (args := [.string b_0, .int .i64 at_1]) (c := num_Get16_code) Tryd.func57 (by kernel_rfl) (by kernel_rfl) ?_
  refine WP.cut 1 (fun l I S => asStr (l 0) fun b_0 => asI .i64 (l 1) fun at_1 => num_Get16_b1 R b_0 at_1 I S) (cast (by kernel_rfl) h) ?_
  clear h
  intro l I S _ h
  obtain ⟨b_0, e0, h⟩ := asStr_e h
  obtain ⟨at_1, e1, h⟩ := asI_e h
  rw [upd_eta e0, upd_eta e1]
  refine WP.seqY (by kernel_rfl) (fun l I S => asStr (l 0) fun b_0 => asI .i64 (l 1) fun at_1 => num_Get16_b3 R b_0 at_1 I S) ?_ ?_
  ·
    refine WP.cut 1 (fun l I S => asStr (l 0) fun b_0 => asI .i64 (l 1) fun at_1 => asB (l 14) fun x14 => num_Get16_b2 R b_0 at_1 x14 I S) (cast (by kernel_rfl) h) ?_
    clear h
    intro l I S _ h
    obtain ⟨b_0, e0, h⟩ := asStr_e h
    obtain ⟨at_1, e1, h⟩ := asI_e h
    obtain ⟨x14, e14, h⟩ := asB_e h
    rw [upd_eta e0, upd_eta e1, upd_eta e14]
    exact Pre.sound _ _ _ _ _ (cast (by kernel_rfl) h)
  · clear h
    intro l I S _ h
    obtain ⟨b_0, e0, h⟩ := asStr_e h
    obtain ⟨at_1, e1, h⟩ := asI_e h
    rw [upd_eta e0, upd_eta e1]
    refine WP.seqY (by kernel_rfl) (fun l I S => asI .u16 (l 4) fun x4 => asB (l 5) fun x5 => num_Get16_b4 R x4 x5 I S) ?_ ?_
    ·
      exact WP.quiet' (by kernel_rfl) (by kernel_rfl) (by kernel_rfl) (cast (by kernel_rfl) h)
    · clear h
      intro l I S _ h
      obtain ⟨x4, e4, h⟩ := asI_e h
      obtain ⟨x5, e5, h⟩ := asB_e h
      rw [upd_eta e4, upd_eta e5]
      exact Pre.sound _ _ _ _ _ (cast (by kernel_rfl) h)
end Go.Proofs.YtkagfmlaolmdnaaDoor
