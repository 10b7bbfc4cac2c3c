import Derived.Test.YtkagfmlaolmdnaaDoorProg
import Derived.Test.YtkagfmlaolmdnaaDoorPx6
set_option linter.unusedVariables false
set_option maxRecDepth 8000
set_option maxHeartbeats 2000000
namespace Go.Proofs.YtkagfmlaolmdnaaDoor
open Go.Px
def strT3_5b7e : ByteArray := ⟨#[97, 98, 99, 100, 101, 102, 103, 104, 105, 106, 107, 108, 109, 110, 111, 112, 113, 114, 115, 116, 117, 118, 119, 120, 121, 122, 97, 98, 99, 100, 101, 102, 103, 104, 105, 106, 107, 108, 109, 110, 111, 112, 113, 114, 115, 116, 117, 118, 119, 120, 121, 122, 97, 98, 99, 100, 101, 102, 103, 104, 105, 106, 107]⟩
/-! ### bolterlaw13_OwnerPrefix: function 3, bolter/bolterlaw13.OwnerPrefix -/
noncomputable def bolterlaw13_OwnerPrefix_code : Code := (Tryd.f3.body).getD .skip
def bolterlaw13_OwnerPrefix_b4 (R : Value → IMem → SH → Prop) (x8 : Bool) (I : IMem) (S : SH) : Prop :=
  R (.bool x8) I S
def bolterlaw13_OwnerPrefix_b3 (R : Value → IMem → SH → Prop) (p_7 : Addr) (I : IMem) (S : SH) : Prop :=
  ∃ x41_0, Cell I S p_7 (.string x41_0) ∧
  ∃ x41_1, Cell I S (p_7.add 1) (.int .i64 x41_1) ∧
  Runs Tryd.prog 20 #[.agg #[.string x41_0, .int .i64 x41_1]] I S fun v I1 S1 => ∃ x42, v = .bool x42 ∧
  bcase x42
    (bolterlaw13_OwnerPrefix_b4 R true I1 S1)
    (∃ x44_0, Cell I1 S1 p_7 (.string x44_0) ∧
    ∃ x44_1, Cell I1 S1 (p_7.add 1) (.int .i64 x44_1) ∧
    Runs Tryd.prog 16 #[.agg #[.string x44_0, .int .i64 x44_1]] I1 S1 fun v' I1' S1' => ∃ x45 x45n x45c, v' = .slice x45 x45n x45c ∧
    bolterlaw13_OwnerPrefix_b4 R ((x45n : Int) == (0 : Int)) I1' S1')
def bolterlaw13_OwnerPrefix_b2 (R : Value → IMem → SH → Prop) (p_7 : Addr) (x40 : Bool) (I : IMem) (S : SH) : Prop :=
  bcase x40
    (R (.bool false) I S)
    (bolterlaw13_OwnerPrefix_b3 R p_7 I S)
def bolterlaw13_OwnerPrefix_b1 (R : Value → IMem → SH → Prop) (p_7 : Addr) (x_9 : Addr) (ls_10 : Option Addr) (ls_10n : Nat) (ls_10c : Nat) (y_11 : Addr) (ok_12 : Bool) (I : IMem) (S : SH) : Prop :=
  ∃ x28_0, Cell I S x_9 (.string x28_0) ∧
  ∃ x28_1, Cell I S (x_9.add 1) (.int .i64 x28_1) ∧
  Runs Tryd.prog 19 #[.agg #[.string x28_0, .int .i64 x28_1]] I S fun v I1 S1 => ∃ x29 x29n x29c, v = .slice x29 x29n x29c ∧
  Runs Tryd.prog 18 #[.slice ls_10 ls_10n ls_10c, .slice x29 x29n x29c] I1 S1 fun v' I1' S1' => ∃ x30, v' = .bool x30 ∧
  bcase (!x30)
    (bolterlaw13_OwnerPrefix_b2 R p_7 true I1' S1')
    (bcase (!ok_12)
      (bolterlaw13_OwnerPrefix_b2 R p_7 true I1' S1')
      (∃ x37_0, Cell I1' S1' y_11 (.string x37_0) ∧
      ∃ x37_1, Cell I1' S1' (y_11.add 1) (.int .i64 x37_1) ∧
      ∃ x38_0, Cell I1' S1' x_9 (.string x38_0) ∧
      ∃ x38_1, Cell I1' S1' (x_9.add 1) (.int .i64 x38_1) ∧
      bolterlaw13_OwnerPrefix_b2 R p_7 (!(((x37_0 : ByteArray) == (x38_0 : ByteArray)) && (((x37_1 : Int) == (x38_1 : Int)) && true))) I1' S1'))
def bolterlaw13_OwnerPrefix (R : Value → IMem → SH → Prop) (six_0 : Bool) (ns_1 : Option Addr) (ns_1n : Nat) (ns_1c : Nat) (bits_2 : Int) (p_3_0 : ByteArray) (p_3_1 : Int) (I : IMem) (S : SH) : Prop :=
  ∀ b7 : Nat,
  Runs Tryd.prog 14 #[] I ((b7, .cells #[.string p_3_0, .int .i64 p_3_1] 24 (0, 0)) :: S) fun v I1 S1 => ∃ x13, v = .bool x13 ∧
  bcase (!x13)
    (R (.bool false) I1 S1)
    (Runs Tryd.prog 15 #[.int .u8 0, .slice ns_1 ns_1n ns_1c, .bool six_0, .int .u8 bits_2] I1 S1 fun v' I1' S1' => ∃ x18_0 x18_1 x18_2 x18_3, v' = .agg #[.int .i64 x18_0, .string x18_1, .string x18_2, .int .i64 x18_3] ∧
    ∀ b9 : Nat,
    StP ((b9, .cells #[.string ⟨#[]⟩, .int .i64 0] 24 (0, 0)) :: S1') ⟨b9, 0, none⟩ [.string x18_2, .int .i64 x18_3] fun S1'' =>
    ∃ x20_0, Cell I1' S1'' ⟨b9, 0, none⟩ (.string x20_0) ∧
    ∃ x20_1, Cell I1' S1'' ⟨b9, 1, none⟩ (.int .i64 x20_1) ∧
    Runs Tryd.prog 16 #[.agg #[.string x20_0, .int .i64 x20_1]] I1' S1'' fun v'' I1'' S1_r3 => ∃ x21 x21n x21c, v'' = .slice x21 x21n x21c ∧
    Runs Tryd.prog 17 #[.slice x21 x21n x21c] I1'' S1_r3 fun v_r3 I1_r3 S1_r4 => ∃ x24_0_0 x24_0_1 x24_1, v_r3 = .tuple #[.agg #[.string x24_0_0, .int .i64 x24_0_1], .bool x24_1] ∧
    ∀ b11 : Nat,
    StP ((b11, .cells #[.string ⟨#[]⟩, .int .i64 0] 24 (0, 0)) :: S1_r4) ⟨b11, 0, none⟩ [.string x24_0_0, .int .i64 x24_0_1] fun S1_r5 =>
    bolterlaw13_OwnerPrefix_b1 R ⟨b7, 0, none⟩ ⟨b9, 0, none⟩ x21 x21n x21c ⟨b11, 0, none⟩ x24_1 I1_r3 S1_r5)
theorem bolterlaw13_OwnerPrefix_fn (R : Value → IMem → SH → Prop) (six_0 : Bool) (ns_1 : Option Addr) (ns_1n : Nat) (ns_1c : Nat) (bits_2 : Int) (p_3_0 : ByteArray) (p_3_1 : Int) (I : IMem) (S : SH) (h : bolterlaw13_OwnerPrefix R six_0 ns_1 ns_1n ns_1c bits_2 p_3_0 p_3_1 I S) :
    Runs Tryd.prog 3 #[.bool six_0, .slice ns_1 ns_1n ns_1c, .int .u8 bits_2, .agg #[.string p_3_0, .int .i64 p_3_1]] I S R := by
  refine Runs.of_wp (args := [.bool six_0, .slice ns_1 ns_1n ns_1c, .int .u8 bits_2, .agg #[.string p_3_0, .int .i64 p_3_1]]) (c := bolterlaw13_OwnerPrefix_code) Tryd.func3 (by kernel_rfl) (by kernel_rfl) ?_
  refine WP.cut 5 (fun l I S => asAdr (l 7) fun p_7 => asAdr (l 9) fun x_9 => asSl (l 10) fun ls_10 ls_10n ls_10c => asAdr (l 11) fun y_11 => asB (l 12) fun ok_12 => bolterlaw13_OwnerPrefix_b1 R p_7 x_9 ls_10 ls_10n ls_10c y_11 ok_12 I S) (cast (by kernel_rfl) h) ?_
  clear h
  intro l I S _ h
  obtain ⟨p_7, e7, h⟩ := asAdr_e h
  obtain ⟨x_9, e9, h⟩ := asAdr_e h
  obtain ⟨ls_10, ls_10n, ls_10c, e10, h⟩ := asSl_e h
  obtain ⟨y_11, e11, h⟩ := asAdr_e h
  obtain ⟨ok_12, e12, h⟩ := asB_e h
  rw [upd_eta e7, upd_eta e9, upd_eta e10, upd_eta e11, upd_eta e12]
  refine WP.seqY (by kernel_rfl) (fun l I S => asAdr (l 7) fun p_7 => bolterlaw13_OwnerPrefix_b3 R p_7 I S) ?_ ?_
  ·
    refine WP.cut 1 (fun l I S => asAdr (l 7) fun p_7 => asB (l 40) fun x40 => bolterlaw13_OwnerPrefix_b2 R p_7 x40 I S) (cast (by kernel_rfl) h) ?_
    clear h
    intro l I S _ h
    obtain ⟨p_7, e7, h⟩ := asAdr_e h
    obtain ⟨x40, e40, h⟩ := asB_e h
    rw [upd_eta e7, upd_eta e40]
    exact Pre.sound _ _ _ _ _ (cast (by kernel_rfl) h)
  · clear h
    intro l I S _ h
    obtain ⟨p_7, e7, h⟩ := asAdr_e h
    rw [upd_eta e7]
    refine WP.cut 1 (fun l I S => asB (l 8) fun x8 => bolterlaw13_OwnerPrefix_b4 R x8 I S) (cast (by kernel_rfl) h) ?_
    clear h
    intro l I S _ h
    obtain ⟨x8, e8, h⟩ := asB_e h
    rw [upd_eta e8]
    exact Pre.sound _ _ _ _ _ (cast (by kernel_rfl) h)
/-! ### bolterlaw13_OwnerAddress: function 4, bolter/bolterlaw13.OwnerAddress -/
noncomputable def bolterlaw13_OwnerAddress_code : Code := (Tryd.f4.body).getD .skip
def bolterlaw13_OwnerAddress_b7 (again4 : Option Addr → Nat → Nat → Int → Int → IMem → SH → Prop) (R : Value → IMem → SH → Prop) (x41 : Option Addr) (x41n : Nat) (x41c : Nat) (x42 : Int) (x43 : Int) (I : IMem) (S : SH) : Prop :=
  again4 x41 x41n x41c x42 (IntKind.wrap .i64 (x43 + (1 : Int))) I S
def bolterlaw13_OwnerAddress_b6 (again4 : Option Addr → Nat → Nat → Int → Int → IMem → SH → Prop) (R : Value → IMem → SH → Prop) (x41 : Option Addr) (x41n : Nat) (x41c : Nat) (x42 : Int) (x43 : Int) (x73 : Bool) (I : IMem) (S : SH) : Prop :=
  bcase x73
    (R (.bool false) I S)
    (bolterlaw13_OwnerAddress_b7 again4 R x41 x41n x41c x42 x43 I S)
def bolterlaw13_OwnerAddress_b5 (again4 : Option Addr → Nat → Nat → Int → Int → IMem → SH → Prop) (R : Value → IMem → SH → Prop) (x41 : Option Addr) (x41n : Nat) (x41c : Nat) (x42 : Int) (x43 : Int) (I : IMem) (S : SH) : Prop :=
  ptrP x41 fun x45 => (0 : Int) ≤ x43 ∧ x43 < (x41n : Int) ∧
  ∃ x46 x46n x46c, Cell I S (x45.add (x43.toNat * 1)) (.slice x46 x46n x46c) ∧
  Runs Tryd.prog 17 #[.slice x46 x46n x46c] I S fun v I1 S1 => ∃ x49_0_0 x49_0_1 x49_1, v = .tuple #[.agg #[.string x49_0_0, .int .i64 x49_0_1], .bool x49_1] ∧
  ∀ b16 : Nat,
  StP ((b16, .cells #[.string ⟨#[]⟩, .int .i64 0] 24 (0, 0)) :: S1) ⟨b16, 0, none⟩ [.string x49_0_0, .int .i64 x49_0_1] fun S1' =>
  bcase x49_1
    (∃ x54_0, Cell I1 S1' ⟨b16, 0, none⟩ (.string x54_0) ∧
    ∃ x54_1, Cell I1 S1' ⟨b16, 1, none⟩ (.int .i64 x54_1) ∧
    Runs Tryd.prog 20 #[.agg #[.string x54_0, .int .i64 x54_1]] I1 S1' fun v' I1' S1'' => ∃ x55, v' = .bool x55 ∧
    bcase (!x55)
      (bolterlaw13_OwnerAddress_b6 again4 R x41 x41n x41c x42 x43 true I1' S1'')
      (∃ x58_0, Cell I1' S1'' ⟨b16, 0, none⟩ (.string x58_0) ∧
      ∃ x58_1, Cell I1' S1'' ⟨b16, 1, none⟩ (.int .i64 x58_1) ∧
      Runs Tryd.prog 19 #[.agg #[.string x58_0, .int .i64 x58_1]] I1' S1'' fun v'' I1'' S1_r3 => ∃ x59 x59n x59c, v'' = .slice x59 x59n x59c ∧
      Runs Tryd.prog 18 #[.slice x59 x59n x59c, .slice x46 x46n x46c] I1'' S1_r3 fun v_r3 I1_r3 S1_r4 => ∃ x61, v_r3 = .bool x61 ∧
      bcase (!x61)
        (bolterlaw13_OwnerAddress_b6 again4 R x41 x41n x41c x42 x43 true I1_r3 S1_r4)
        (bcase (!x49_1)
          (∃ x69_0, Cell I1_r3 S1_r4 ⟨b16, 0, none⟩ (.string x69_0) ∧
          ∃ x69_1, Cell I1_r3 S1_r4 ⟨b16, 1, none⟩ (.int .i64 x69_1) ∧
          bolterlaw13_OwnerAddress_b6 again4 R x41 x41n x41c x42 x43 (!(((x69_0 : ByteArray) == (⟨#[]⟩ : ByteArray)) && (((x69_1 : Int) == (0 : Int)) && true))) I1_r3 S1_r4)
          (bolterlaw13_OwnerAddress_b6 again4 R x41 x41n x41c x42 x43 false I1_r3 S1_r4))))
    (bcase (!x49_1)
      (∃ x69_0', Cell I1 S1' ⟨b16, 0, none⟩ (.string x69_0') ∧
      ∃ x69_1', Cell I1 S1' ⟨b16, 1, none⟩ (.int .i64 x69_1') ∧
      bolterlaw13_OwnerAddress_b6 again4 R x41 x41n x41c x42 x43 (!(((x69_0' : ByteArray) == (⟨#[]⟩ : ByteArray)) && (((x69_1' : Int) == (0 : Int)) && true))) I1 S1')
      (bolterlaw13_OwnerAddress_b6 again4 R x41 x41n x41c x42 x43 false I1 S1'))
def bolterlaw13_OwnerAddress_b8 (R : Value → IMem → SH → Prop) (I : IMem) (S : SH) : Prop :=
  R (.bool true) I S
def bolterlaw13_OwnerAddress_l4 (again4 : Option Addr → Nat → Nat → Int → Int → IMem → SH → Prop) (R : Value → IMem → SH → Prop) (x41 : Option Addr) (x41n : Nat) (x41c : Nat) (x42 : Int) (x43 : Int) (I : IMem) (S : SH) : Prop :=
  bcase (decide (x43 < x42))
    (bolterlaw13_OwnerAddress_b5 again4 R x41 x41n x41c x42 x43 I S)
    (bolterlaw13_OwnerAddress_b8 R I S)
def bolterlaw13_OwnerAddress_b3 (R : Value → IMem → SH → Prop) (x41 : Option Addr) (x41n : Nat) (x41c : Nat) (x42 : Int) (x43 : Int) (I : IMem) (S : SH) : Prop :=
  ∃ (Inv : Nat → Option Addr → Nat → Nat → Int → Int → IMem → SH → Prop) (m : Nat), Inv m x41 x41n x41c x42 x43 I S ∧
    ∀ (m : Nat) (x41 : Option Addr) (x41n : Nat) (x41c : Nat) (x42 : Int) (x43 : Int) (J : IMem) (T : SH), I.le J → Inv m x41 x41n x41c x42 x43 J T →
      bolterlaw13_OwnerAddress_l4 (fun x41 x41n x41c x42 x43 I S => ∃ m', m' < m ∧ Inv m' x41 x41n x41c x42 x43 I S) R x41 x41n x41c x42 x43 J T
def bolterlaw13_OwnerAddress_b2 (R : Value → IMem → SH → Prop) (ls_0 : Option Addr) (ls_0n : Nat) (ls_0c : Nat) (turned_13 : Option Addr) (turned_13n : Nat) (turned_13c : Nat) (I : IMem) (S : SH) : Prop :=
  ∀ b41 : Nat,
  bolterlaw13_OwnerAddress_b3 R (some ⟨b41, 0, none⟩) 2 2 (2 : Int) 0 I ((b41, .cells #[.slice ls_0 ls_0n ls_0c, .slice turned_13 turned_13n turned_13c] 31 (0, 0)) :: S)
def bolterlaw13_OwnerAddress_b1 (R : Value → IMem → SH → Prop) (ls_0 : Option Addr) (ls_0n : Nat) (ls_0c : Nat) (at_4 : Int) (with_5 : Int) (turned_13 : Option Addr) (turned_13n : Nat) (turned_13c : Nat) (I : IMem) (S : SH) : Prop :=
  bcase (decide ((turned_13n : Int) = 0)) False (∀ b33 : Nat,
  ptrP (some ⟨b33, 0, none⟩) fun x36 => (0 : Int) ≤ (with_5.tmod (10 : Int)) ∧ (with_5.tmod (10 : Int)) < (10 : Int) ∧
  ∃ x37, Cell I ((b33, .cells #[.string ⟨#[48]⟩, .string ⟨#[122, 122]⟩, .string ⟨#[49]⟩, .string ⟨#[48, 48]⟩, .string ⟨#[50, 53, 53]⟩, .string ⟨#[50, 53, 54]⟩, .string ⟨#[97]⟩, .string ⟨#[102, 102, 102, 102]⟩, .string ⟨#[45, 49]⟩, .string ⟨#[49, 50, 57]⟩] 9 (0, 0)) :: S) (x36.add ((with_5.tmod (10 : Int)).toNat * 1)) (.string x37) ∧
  ptrP turned_13 fun x38 => (0 : Int) ≤ ((IntKind.wrap .i64 at_4).tmod (turned_13n : Int)) ∧ ((IntKind.wrap .i64 at_4).tmod (turned_13n : Int)) < (turned_13n : Int) ∧
  StP ((b33, .cells #[.string ⟨#[48]⟩, .string ⟨#[122, 122]⟩, .string ⟨#[49]⟩, .string ⟨#[48, 48]⟩, .string ⟨#[50, 53, 53]⟩, .string ⟨#[50, 53, 54]⟩, .string ⟨#[97]⟩, .string ⟨#[102, 102, 102, 102]⟩, .string ⟨#[45, 49]⟩, .string ⟨#[49, 50, 57]⟩] 9 (0, 0)) :: S) (x38.add (((IntKind.wrap .i64 at_4).tmod (turned_13n : Int)).toNat * 1)) [.string x37] fun S1 =>
  bolterlaw13_OwnerAddress_b2 R ls_0 ls_0n ls_0c turned_13 turned_13n turned_13c I S1)
def bolterlaw13_OwnerAddress (R : Value → IMem → SH → Prop) (ls_0 : Option Addr) (ls_0n : Nat) (ls_0c : Nat) (six_1 : Bool) (ns_2 : Option Addr) (ns_2n : Nat) (ns_2c : Nat) (bits_3 : Int) (at_4 : Int) (with_5 : Int) (I : IMem) (S : SH) : Prop :=
  Runs Tryd.prog 14 #[] I S fun v I1 S1 => ∃ x18, v = .bool x18 ∧
  bcase (!x18)
    (R (.bool false) I1 S1)
    (Runs Tryd.prog 15 #[.int .u8 0, .slice ns_2 ns_2n ns_2c, .bool six_1, .int .u8 bits_3] I1 S1 fun v' I1' S1' => ∃ x23_0 x23_1 x23_2 x23_3, v' = .agg #[.int .i64 x23_0, .string x23_1, .string x23_2, .int .i64 x23_3] ∧
    Runs Tryd.prog 19 #[.agg #[.string x23_2, .int .i64 x23_3]] I1' S1' fun v'' I1'' S1'' => ∃ x25 x25n x25c, v'' = .slice x25 x25n x25c ∧
    AppG 9 1 16 [.string ⟨#[]⟩] (some (.slice 9)) I1'' S1'' (.slice none 0 0) (.slice x25 x25n x25c) fun x26 x26n x26c S1_r3 =>
    bolterlaw13_OwnerAddress_b1 R ls_0 ls_0n ls_0c at_4 with_5 x26 x26n x26c I1'' S1_r3)
theorem bolterlaw13_OwnerAddress_fn (R : Value → IMem → SH → Prop) (ls_0 : Option Addr) (ls_0n : Nat) (ls_0c : Nat) (six_1 : Bool) (ns_2 : Option Addr) (ns_2n : Nat) (ns_2c : Nat) (bits_3 : Int) (at_4 : Int) (with_5 : Int) (I : IMem) (S : SH) (h : bolterlaw13_OwnerAddress R ls_0 ls_0n ls_0c six_1 ns_2 ns_2n ns_2c bits_3 at_4 with_5 I S) :
    Runs Tryd.prog 4 #[.slice ls_0 ls_0n ls_0c, .bool six_1, .slice ns_2 ns_2n ns_2c, .int .u8 bits_3, .int .u8 at_4, .int .u8 with_5] I S R := by
  refine Runs.of_wp (args := [.slice ls_0 ls_0n ls_0c, .bool six_1, .slice ns_2 ns_2n ns_2c, .int .u8 bits_3, .int .u8 at_4, .int .u8 with_5]) (c := bolterlaw13_OwnerAddress_code) Tryd.func4 (by kernel_rfl) (by kernel_rfl) ?_
  refine WP.cut 3 (fun l I S => asSl (l 0) fun ls_0 ls_0n ls_0c => asI .u8 (l 4) fun at_4 => asI .u8 (l 5) fun with_5 => asSl (l 13) fun turned_13 turned_13n turned_13c => bolterlaw13_OwnerAddress_b1 R ls_0 ls_0n ls_0c at_4 with_5 turned_13 turned_13n turned_13c I S) (cast (by kernel_rfl) h) ?_
  clear h
  intro l I S _ h
  obtain ⟨ls_0, ls_0n, ls_0c, e0, h⟩ := asSl_e h
  obtain ⟨at_4, e4, h⟩ := asI_e h
  obtain ⟨with_5, e5, h⟩ := asI_e h
  obtain ⟨turned_13, turned_13n, turned_13c, e13, h⟩ := asSl_e h
  rw [upd_eta e0, upd_eta e4, upd_eta e5, upd_eta e13]
  refine WP.seqY (by kernel_rfl) (fun l I S => asSl (l 0) fun ls_0 ls_0n ls_0c => asSl (l 13) fun turned_13 turned_13n turned_13c => bolterlaw13_OwnerAddress_b2 R ls_0 ls_0n ls_0c turned_13 turned_13n turned_13c I S) ?_ ?_
  ·
    exact WP.draw' (.take 0 (.take 1 (.take 2 (.take 3 (.take 4 (.take 5 (.take 7 (.take 8 (.step 6 (.take 9 (.step 10 (.take 11 (.step 12 .done))))))))))))) [6, 10, 12] (by kernel_rfl) (by kernel_rfl) (by kernel_rfl) (by kernel_rfl) (by kernel_rfl) (cast (by kernel_rfl) h)
  · clear h
    intro l I S _ h
    obtain ⟨ls_0, ls_0n, ls_0c, e0, h⟩ := asSl_e h
    obtain ⟨turned_13, turned_13n, turned_13c, e13, h⟩ := asSl_e h
    rw [upd_eta e0, upd_eta e13]
    refine WP.seqY (by kernel_rfl) (fun l I S => bolterlaw13_OwnerAddress_b8 R I S) ?_ ?_
    ·
      refine WP.cut 1 (fun l I S => asSl (l 41) fun x41 x41n x41c => asI .i64 (l 42) fun x42 => asI .i64 (l 43) fun x43 => bolterlaw13_OwnerAddress_b3 R x41 x41n x41c x42 x43 I S) (cast (by kernel_rfl) h) ?_
      clear h
      intro l I S _ h
      obtain ⟨x41, x41n, x41c, e41, h⟩ := asSl_e h
      obtain ⟨x42, e42, h⟩ := asI_e h
      obtain ⟨x43, e43, h⟩ := asI_e h
      rw [upd_eta e41, upd_eta e42, upd_eta e43]
      refine WP.block' (by kernel_rfl) ?_
      obtain ⟨Inv_again4, m_again4, h0, hr⟩ := h
      refine WP.loop' (by kernel_rfl) (fun m_again4 => fun l I S => asSl (l 41) fun x41 x41n x41c => asI .i64 (l 42) fun x42 => asI .i64 (l 43) fun x43 => Inv_again4 m_again4 x41 x41n x41c x42 x43 I S) m_again4 (cast (by kernel_rfl) h0) ?_
      clear h0
      intro m_again4 l I S hle h
      obtain ⟨x41, x41n, x41c, e41, h⟩ := asSl_e h
      obtain ⟨x42, e42, h⟩ := asI_e h
      obtain ⟨x43, e43, h⟩ := asI_e h
      rw [upd_eta e41, upd_eta e42, upd_eta e43]
      have h := hr m_again4 x41 x41n x41c x42 x43 I S hle h
      clear hr hle
      refine WP.cut 2 (fun l I S => asSl (l 41) fun x41 x41n x41c => asI .i64 (l 42) fun x42 => asI .i64 (l 43) fun x43 => bolterlaw13_OwnerAddress_b5 (fun x41 x41n x41c x42 x43 I S => ∃ m', m' < m_again4 ∧ Inv_again4 m' x41 x41n x41c x42 x43 I S) R x41 x41n x41c x42 x43 I S) (cast (by kernel_rfl) h) ?_
      clear h
      intro l I S _ h
      obtain ⟨x41, x41n, x41c, e41, h⟩ := asSl_e h
      obtain ⟨x42, e42, h⟩ := asI_e h
      obtain ⟨x43, e43, h⟩ := asI_e h
      rw [upd_eta e41, upd_eta e42, upd_eta e43]
      refine WP.seqY (by kernel_rfl) (fun l I S => asSl (l 41) fun x41 x41n x41c => asI .i64 (l 42) fun x42 => asI .i64 (l 43) fun x43 => bolterlaw13_OwnerAddress_b7 (fun x41 x41n x41c x42 x43 I S => ∃ m', m' < m_again4 ∧ Inv_again4 m' x41 x41n x41c x42 x43 I S) R x41 x41n x41c x42 x43 I S) ?_ ?_
      ·
        refine WP.block' (by kernel_rfl) ?_
        refine WP.cut 3 (fun l I S => asSl (l 41) fun x41 x41n x41c => asI .i64 (l 42) fun x42 => asI .i64 (l 43) fun x43 => asB (l 73) fun x73 => bolterlaw13_OwnerAddress_b6 (fun x41 x41n x41c x42 x43 I S => ∃ m', m' < m_again4 ∧ Inv_again4 m' x41 x41n x41c x42 x43 I S) R x41 x41n x41c x42 x43 x73 I S) (cast (by kernel_rfl) h) ?_
        clear h
        intro l I S _ h
        obtain ⟨x41, x41n, x41c, e41, h⟩ := asSl_e h
        obtain ⟨x42, e42, h⟩ := asI_e h
        obtain ⟨x43, e43, h⟩ := asI_e h
        obtain ⟨x73, e73, h⟩ := asB_e h
        rw [upd_eta e41, upd_eta e42, upd_eta e43, upd_eta e73]
        exact Pre.sound _ _ _ _ _ (cast (by kernel_rfl) h)
      · clear h
        intro l I S _ h
        obtain ⟨x41, x41n, x41c, e41, h⟩ := asSl_e h
        obtain ⟨x42, e42, h⟩ := asI_e h
        obtain ⟨x43, e43, h⟩ := asI_e h
        rw [upd_eta e41, upd_eta e42, upd_eta e43]
        exact Pre.sound _ _ _ _ _ (cast (by kernel_rfl) h)
    · clear h
      intro l I S _ h
      exact Pre.sound _ _ _ _ _ (cast (by kernel_rfl) h)
/-! ### bolterlaw13_OwnerBack: function 5, bolter/bolterlaw13.OwnerBack -/
noncomputable def bolterlaw13_OwnerBack_code : Code := (Tryd.f5.body).getD .skip
def bolterlaw13_OwnerBack_b5 (R : Value → IMem → SH → Prop) (x8 : Bool) (I : IMem) (S : SH) : Prop :=
  R (.bool x8) I S
def bolterlaw13_OwnerBack_b4 (R : Value → IMem → SH → Prop) (t_9 : Addr) (ok_11 : Bool) (x_12 : Addr) (is_13 : Bool) (ls_14 : Option Addr) (ls_14n : Nat) (ls_14c : Nat) (want_16 : Option Addr) (want_16n : Nat) (want_16c : Nat) (I : IMem) (S : SH) : Prop :=
  bcase ok_11
    (bcase is_13
      (∃ x96_0, Cell I S x_12 (.int .i64 x96_0) ∧
      ∃ x96_1, Cell I S (x_12.add 1) (.string x96_1) ∧
      ∃ x96_2, Cell I S (x_12.add 2) (.string x96_2) ∧
      ∃ x96_3, Cell I S (x_12.add 3) (.int .i64 x96_3) ∧
      ∃ x97_0, Cell I S t_9 (.int .i64 x97_0) ∧
      ∃ x97_1, Cell I S (t_9.add 1) (.string x97_1) ∧
      ∃ x97_2, Cell I S (t_9.add 2) (.string x97_2) ∧
      ∃ x97_3, Cell I S (t_9.add 3) (.int .i64 x97_3) ∧
      bcase (((x96_0 : Int) == (x97_0 : Int)) && (((x96_1 : ByteArray) == (x97_1 : ByteArray)) && ((((x96_2 : ByteArray) == (x97_2 : ByteArray)) && (((x96_3 : Int) == (x97_3 : Int)) && true)) && true)))
        (Runs Tryd.prog 18 #[.slice ls_14 ls_14n ls_14c, .slice want_16 want_16n want_16c] I S fun v I1 S1 => ∃ x103, v = .bool x103 ∧
        bolterlaw13_OwnerBack_b5 R x103 I1 S1)
        (bolterlaw13_OwnerBack_b5 R false I S))
      (bolterlaw13_OwnerBack_b5 R false I S))
    (bolterlaw13_OwnerBack_b5 R false I S)
def bolterlaw13_OwnerBack_b11 (R : Value → IMem → SH → Prop) (t_9 : Addr) (ok_11 : Bool) (x_12 : Addr) (is_13 : Bool) (ls_14 : Option Addr) (ls_14n : Nat) (ls_14c : Nat) (want_16 : Option Addr) (want_16n : Nat) (want_16c : Nat) (x65 : Bool) (I : IMem) (S : SH) : Prop :=
  bcase x65
    (AppG 9 1 16 [.string ⟨#[]⟩] (some (.slice 9)) I S (.slice none 0 0) (.slice want_16 want_16n want_16c) fun x67 x67n x67c S1 =>
    ∀ b68 : Nat,
    AppG 9 1 16 [.string ⟨#[]⟩] (some (.slice 9)) I ((b68, .cells #[.string ⟨#[114, 112, 122, 45, 110, 115, 100, 110, 97, 109, 101]⟩] 9 (0, 0)) :: S1) (.slice x67 x67n x67c) (.slice (some ⟨b68, 0, none⟩) 1 1) fun x69 x69n x69c S1' =>
    bolterlaw13_OwnerBack_b4 R t_9 ok_11 x_12 is_13 ls_14 ls_14n ls_14c x69 x69n x69c I S1')
    (bolterlaw13_OwnerBack_b4 R t_9 ok_11 x_12 is_13 ls_14 ls_14n ls_14c want_16 want_16n want_16c I S)
def bolterlaw13_OwnerBack_b10 (R : Value → IMem → SH → Prop) (t_9 : Addr) (ok_11 : Bool) (x_12 : Addr) (is_13 : Bool) (ls_14 : Option Addr) (ls_14n : Nat) (ls_14c : Nat) (want_16 : Option Addr) (want_16n : Nat) (want_16c : Nat) (I : IMem) (S : SH) : Prop :=
  ∃ x59, Cell I S t_9 (.int .i64 x59) ∧
  bcase (x59 == (4 : Int))
    (bolterlaw13_OwnerBack_b11 R t_9 ok_11 x_12 is_13 ls_14 ls_14n ls_14c want_16 want_16n want_16c true I S)
    (∃ x63, Cell I S t_9 (.int .i64 x63) ∧
    bolterlaw13_OwnerBack_b11 R t_9 ok_11 x_12 is_13 ls_14 ls_14n ls_14c want_16 want_16n want_16c (x63 == (5 : Int)) I S)
def bolterlaw13_OwnerBack_b9 (R : Value → IMem → SH → Prop) (t_9 : Addr) (ok_11 : Bool) (x_12 : Addr) (is_13 : Bool) (ls_14 : Option Addr) (ls_14n : Nat) (ls_14c : Nat) (want_16 : Option Addr) (want_16n : Nat) (want_16c : Nat) (x54 : Bool) (I : IMem) (S : SH) : Prop :=
  bcase x54
    (∀ b55 : Nat,
    AppG 9 1 16 [.string ⟨#[]⟩] (some (.slice 9)) I ((b55, .cells #[.string ⟨#[42]⟩] 9 (0, 0)) :: S) (.slice (some ⟨b55, 0, none⟩) 1 1) (.slice want_16 want_16n want_16c) fun x57 x57n x57c S1 =>
    bolterlaw13_OwnerBack_b10 R t_9 ok_11 x_12 is_13 ls_14 ls_14n ls_14c x57 x57n x57c I S1)
    (bolterlaw13_OwnerBack_b10 R t_9 ok_11 x_12 is_13 ls_14 ls_14n ls_14c want_16 want_16n want_16c I S)
def bolterlaw13_OwnerBack_b8 (R : Value → IMem → SH → Prop) (t_9 : Addr) (ok_11 : Bool) (x_12 : Addr) (is_13 : Bool) (ls_14 : Option Addr) (ls_14n : Nat) (ls_14c : Nat) (want_16 : Option Addr) (want_16n : Nat) (want_16c : Nat) (I : IMem) (S : SH) : Prop :=
  ∃ x48, Cell I S t_9 (.int .i64 x48) ∧
  bcase (x48 == (2 : Int))
    (bolterlaw13_OwnerBack_b9 R t_9 ok_11 x_12 is_13 ls_14 ls_14n ls_14c want_16 want_16n want_16c true I S)
    (∃ x52, Cell I S t_9 (.int .i64 x52) ∧
    bolterlaw13_OwnerBack_b9 R t_9 ok_11 x_12 is_13 ls_14 ls_14n ls_14c want_16 want_16n want_16c (x52 == (5 : Int)) I S)
def bolterlaw13_OwnerBack_b7 (R : Value → IMem → SH → Prop) (t_9 : Addr) (ok_11 : Bool) (x_12 : Addr) (is_13 : Bool) (ls_14 : Option Addr) (ls_14n : Nat) (ls_14c : Nat) (x84 : Bool) (I : IMem) (S : SH) : Prop :=
  bcase x84
    (∃ x87_0, Cell I S (t_9.add 2) (.string x87_0) ∧
    ∃ x87_1, Cell I S ((t_9.add 2).add 1) (.int .i64 x87_1) ∧
    Runs Tryd.prog 19 #[.agg #[.string x87_0, .int .i64 x87_1]] I S fun v I1 S1 => ∃ x88 x88n x88c, v = .slice x88 x88n x88c ∧
    ∀ b89 : Nat,
    AppG 9 1 16 [.string ⟨#[]⟩] (some (.slice 9)) I1 ((b89, .cells #[.string ⟨#[114, 112, 122, 45, 110, 115, 105, 112]⟩] 9 (0, 0)) :: S1) (.slice x88 x88n x88c) (.slice (some ⟨b89, 0, none⟩) 1 1) fun x90 x90n x90c S1' =>
    bolterlaw13_OwnerBack_b4 R t_9 ok_11 x_12 is_13 ls_14 ls_14n ls_14c x90 x90n x90c I1 S1')
    (∃ x43, Cell I S (t_9.add 1) (.string x43) ∧
    Runs Tryd.prog 23 #[.string x43] I S fun v' I1' S1'' => ∃ x44_0 x44_0n x44_0c x44_1, v' = .tuple #[.slice x44_0 x44_0n x44_0c, .bool x44_1] ∧
    bolterlaw13_OwnerBack_b8 R t_9 ok_11 x_12 is_13 ls_14 ls_14n ls_14c x44_0 x44_0n x44_0c I1' S1'')
def bolterlaw13_OwnerBack_b6 (R : Value → IMem → SH → Prop) (t_9 : Addr) (ok_11 : Bool) (x_12 : Addr) (is_13 : Bool) (ls_14 : Option Addr) (ls_14n : Nat) (ls_14c : Nat) (x40 : Int) (x77 : Bool) (I : IMem) (S : SH) : Prop :=
  bcase x77
    (∃ x80_0, Cell I S (t_9.add 2) (.string x80_0) ∧
    ∃ x80_1, Cell I S ((t_9.add 2).add 1) (.int .i64 x80_1) ∧
    Runs Tryd.prog 19 #[.agg #[.string x80_0, .int .i64 x80_1]] I S fun v I1 S1 => ∃ x81 x81n x81c, v = .slice x81 x81n x81c ∧
    ∀ b82 : Nat,
    AppG 9 1 16 [.string ⟨#[]⟩] (some (.slice 9)) I1 ((b82, .cells #[.string ⟨#[114, 112, 122, 45, 105, 112]⟩] 9 (0, 0)) :: S1) (.slice x81 x81n x81c) (.slice (some ⟨b82, 0, none⟩) 1 1) fun x83 x83n x83c S1' =>
    bolterlaw13_OwnerBack_b4 R t_9 ok_11 x_12 is_13 ls_14 ls_14n ls_14c x83 x83n x83c I1 S1')
    (bolterlaw13_OwnerBack_b7 R t_9 ok_11 x_12 is_13 ls_14 ls_14n ls_14c (x40 == (6 : Int)) I S)
def bolterlaw13_OwnerBack_b3 (R : Value → IMem → SH → Prop) (t_9 : Addr) (ok_11 : Bool) (x_12 : Addr) (is_13 : Bool) (ls_14 : Option Addr) (ls_14n : Nat) (ls_14c : Nat) (x40 : Int) (x70 : Bool) (I : IMem) (S : SH) : Prop :=
  bcase x70
    (∃ x73_0, Cell I S (t_9.add 2) (.string x73_0) ∧
    ∃ x73_1, Cell I S ((t_9.add 2).add 1) (.int .i64 x73_1) ∧
    Runs Tryd.prog 19 #[.agg #[.string x73_0, .int .i64 x73_1]] I S fun v I1 S1 => ∃ x74 x74n x74c, v = .slice x74 x74n x74c ∧
    ∀ b75 : Nat,
    AppG 9 1 16 [.string ⟨#[]⟩] (some (.slice 9)) I1 ((b75, .cells #[.string ⟨#[114, 112, 122, 45, 99, 108, 105, 101, 110, 116, 45, 105, 112]⟩] 9 (0, 0)) :: S1) (.slice x74 x74n x74c) (.slice (some ⟨b75, 0, none⟩) 1 1) fun x76 x76n x76c S1' =>
    bolterlaw13_OwnerBack_b4 R t_9 ok_11 x_12 is_13 ls_14 ls_14n ls_14c x76 x76n x76c I1 S1')
    (bolterlaw13_OwnerBack_b6 R t_9 ok_11 x_12 is_13 ls_14 ls_14n ls_14c x40 (x40 == (3 : Int)) I S)
def bolterlaw13_OwnerBack_b2 (R : Value → IMem → SH → Prop) (t_9 : Addr) (ok_11 : Bool) (x_12 : Addr) (is_13 : Bool) (ls_14 : Option Addr) (ls_14n : Nat) (ls_14c : Nat) (x40 : Int) (I : IMem) (S : SH) : Prop :=
  bolterlaw13_OwnerBack_b3 R t_9 ok_11 x_12 is_13 ls_14 ls_14n ls_14c x40 (x40 == (0 : Int)) I S
def bolterlaw13_OwnerBack_b1 (R : Value → IMem → SH → Prop) (t_9 : Addr) (ok_11 : Bool) (x_12 : Addr) (is_13 : Bool) (ls_14 : Option Addr) (ls_14n : Nat) (ls_14c : Nat) (I : IMem) (S : SH) : Prop :=
  ∃ x40, Cell I S t_9 (.int .i64 x40) ∧
  bolterlaw13_OwnerBack_b2 R t_9 ok_11 x_12 is_13 ls_14 ls_14n ls_14c x40 I S
def bolterlaw13_OwnerBack (R : Value → IMem → SH → Prop) (kind_0 : Int) (ns_1 : Option Addr) (ns_1n : Nat) (ns_1c : Nat) (six_2 : Bool) (bits_3 : Int) (I : IMem) (S : SH) : Prop :=
  Runs Tryd.prog 14 #[] I S fun v I1 S1 => ∃ x17, v = .bool x17 ∧
  bcase (!x17)
    (R (.bool false) I1 S1)
    (Runs Tryd.prog 15 #[.int .u8 kind_0, .slice ns_1 ns_1n ns_1c, .bool six_2, .int .u8 bits_3] I1 S1 fun v' I1' S1' => ∃ x23_0 x23_1 x23_2 x23_3, v' = .agg #[.int .i64 x23_0, .string x23_1, .string x23_2, .int .i64 x23_3] ∧
    ∀ b9 : Nat,
    StP ((b9, .cells #[.int .i64 0, .string ⟨#[]⟩, .string ⟨#[]⟩, .int .i64 0] 29 (0, 0)) :: S1') ⟨b9, 0, none⟩ [.int .i64 x23_0, .string x23_1, .string x23_2, .int .i64 x23_3] fun S1'' =>
    ∃ x25_0, Cell I1' S1'' ⟨b9, 0, none⟩ (.int .i64 x25_0) ∧
    ∃ x25_1, Cell I1' S1'' ⟨b9, 1, none⟩ (.string x25_1) ∧
    ∃ x25_2, Cell I1' S1'' ⟨b9, 2, none⟩ (.string x25_2) ∧
    ∃ x25_3, Cell I1' S1'' ⟨b9, 3, none⟩ (.int .i64 x25_3) ∧
    Runs Tryd.prog 21 #[.agg #[.int .i64 x25_0, .string x25_1, .string x25_2, .int .i64 x25_3]] I1' S1'' fun v'' I1'' S1_r3 => ∃ x26_0 x26_1, v'' = .tuple #[.string x26_0, .bool x26_1] ∧
    Runs Tryd.prog 22 #[.string x26_0] I1'' S1_r3 fun v_r3 I1_r3 S1_r4 => ∃ x31_0_0 x31_0_1 x31_0_2 x31_0_3 x31_1, v_r3 = .tuple #[.agg #[.int .i64 x31_0_0, .string x31_0_1, .string x31_0_2, .int .i64 x31_0_3], .bool x31_1] ∧
    ∀ b12 : Nat,
    StP ((b12, .cells #[.int .i64 0, .string ⟨#[]⟩, .string ⟨#[]⟩, .int .i64 0] 29 (0, 0)) :: S1_r4) ⟨b12, 0, none⟩ [.int .i64 x31_0_0, .string x31_0_1, .string x31_0_2, .int .i64 x31_0_3] fun S1_r5 =>
    Runs Tryd.prog 23 #[.string x26_0] I1_r3 S1_r5 fun v_r4 I1_r4 S1_r6 => ∃ x36_0 x36_0n x36_0c x36_1, v_r4 = .tuple #[.slice x36_0 x36_0n x36_0c, .bool x36_1] ∧
    bolterlaw13_OwnerBack_b1 R ⟨b9, 0, none⟩ x26_1 ⟨b12, 0, none⟩ x31_1 x36_0 x36_0n x36_0c I1_r4 S1_r6)
theorem bolterlaw13_OwnerBack_fn (R : Value → IMem → SH → Prop) (kind_0 : Int) (ns_1 : Option Addr) (ns_1n : Nat) (ns_1c : Nat) (six_2 : Bool) (bits_3 : Int) (I : IMem) (S : SH) (h : bolterlaw13_OwnerBack R kind_0 ns_1 ns_1n ns_1c six_2 bits_3 I S) :
    Runs Tryd.prog 5 #[.int .u8 kind_0, .slice ns_1 ns_1n ns_1c, .bool six_2, .int .u8 bits_3] I S R := by
  refine Runs.of_wp (args := [.int .u8 kind_0, .slice ns_1 ns_1n ns_1c, .bool six_2, .int .u8 bits_3]) (c := bolterlaw13_OwnerBack_code) Tryd.func5 (by kernel_rfl) (by kernel_rfl) ?_
  refine WP.cut 7 (fun l I S => asAdr (l 9) fun t_9 => asB (l 11) fun ok_11 => asAdr (l 12) fun x_12 => asB (l 13) fun is_13 => asSl (l 14) fun ls_14 ls_14n ls_14c => bolterlaw13_OwnerBack_b1 R t_9 ok_11 x_12 is_13 ls_14 ls_14n ls_14c I S) (cast (by kernel_rfl) h) ?_
  clear h
  intro l I S _ h
  obtain ⟨t_9, e9, h⟩ := asAdr_e h
  obtain ⟨ok_11, e11, h⟩ := asB_e h
  obtain ⟨x_12, e12, h⟩ := asAdr_e h
  obtain ⟨is_13, e13, h⟩ := asB_e h
  obtain ⟨ls_14, ls_14n, ls_14c, e14, h⟩ := asSl_e h
  rw [upd_eta e9, upd_eta e11, upd_eta e12, upd_eta e13, upd_eta e14]
  refine WP.seqY (by kernel_rfl) (fun l I S => asAdr (l 9) fun t_9 => asB (l 11) fun ok_11 => asAdr (l 12) fun x_12 => asB (l 13) fun is_13 => asSl (l 14) fun ls_14 ls_14n ls_14c => asSl (l 16) fun want_16 want_16n want_16c => bolterlaw13_OwnerBack_b4 R t_9 ok_11 x_12 is_13 ls_14 ls_14n ls_14c want_16 want_16n want_16c I S) ?_ ?_
  ·
    refine WP.cut 1 (fun l I S => asAdr (l 9) fun t_9 => asB (l 11) fun ok_11 => asAdr (l 12) fun x_12 => asB (l 13) fun is_13 => asSl (l 14) fun ls_14 ls_14n ls_14c => asI .i64 (l 40) fun x40 => bolterlaw13_OwnerBack_b2 R t_9 ok_11 x_12 is_13 ls_14 ls_14n ls_14c x40 I S) (cast (by kernel_rfl) h) ?_
    clear h
    intro l I S _ h
    obtain ⟨t_9, e9, h⟩ := asAdr_e h
    obtain ⟨ok_11, e11, h⟩ := asB_e h
    obtain ⟨x_12, e12, h⟩ := asAdr_e h
    obtain ⟨is_13, e13, h⟩ := asB_e h
    obtain ⟨ls_14, ls_14n, ls_14c, e14, h⟩ := asSl_e h
    obtain ⟨x40, e40, h⟩ := asI_e h
    rw [upd_eta e9, upd_eta e11, upd_eta e12, upd_eta e13, upd_eta e14, upd_eta e40]
    refine WP.block' (by kernel_rfl) ?_
    refine WP.cut 1 (fun l I S => asAdr (l 9) fun t_9 => asB (l 11) fun ok_11 => asAdr (l 12) fun x_12 => asB (l 13) fun is_13 => asSl (l 14) fun ls_14 ls_14n ls_14c => asI .i64 (l 40) fun x40 => asB (l 70) fun x70 => bolterlaw13_OwnerBack_b3 R t_9 ok_11 x_12 is_13 ls_14 ls_14n ls_14c x40 x70 I S) (cast (by kernel_rfl) h) ?_
    clear h
    intro l I S _ h
    obtain ⟨t_9, e9, h⟩ := asAdr_e h
    obtain ⟨ok_11, e11, h⟩ := asB_e h
    obtain ⟨x_12, e12, h⟩ := asAdr_e h
    obtain ⟨is_13, e13, h⟩ := asB_e h
    obtain ⟨ls_14, ls_14n, ls_14c, e14, h⟩ := asSl_e h
    obtain ⟨x40, e40, h⟩ := asI_e h
    obtain ⟨x70, e70, h⟩ := asB_e h
    rw [upd_eta e9, upd_eta e11, upd_eta e12, upd_eta e13, upd_eta e14, upd_eta e40, upd_eta e70]
    refine WP.cond' (by kernel_rfl) (by kernel_rfl) h ?_ ?_
    · clear h
      intro h
      exact Pre.sound _ _ _ _ _ (cast (by kernel_rfl) h)
    · clear h
      intro h
      refine WP.cut 1 (fun l I S => asAdr (l 9) fun t_9 => asB (l 11) fun ok_11 => asAdr (l 12) fun x_12 => asB (l 13) fun is_13 => asSl (l 14) fun ls_14 ls_14n ls_14c => asI .i64 (l 40) fun x40 => asB (l 77) fun x77 => bolterlaw13_OwnerBack_b6 R t_9 ok_11 x_12 is_13 ls_14 ls_14n ls_14c x40 x77 I S) (cast (by kernel_rfl) h) ?_
      clear h
      intro l I S _ h
      obtain ⟨t_9, e9, h⟩ := asAdr_e h
      obtain ⟨ok_11, e11, h⟩ := asB_e h
      obtain ⟨x_12, e12, h⟩ := asAdr_e h
      obtain ⟨is_13, e13, h⟩ := asB_e h
      obtain ⟨ls_14, ls_14n, ls_14c, e14, h⟩ := asSl_e h
      obtain ⟨x40, e40, h⟩ := asI_e h
      obtain ⟨x77, e77, h⟩ := asB_e h
      rw [upd_eta e9, upd_eta e11, upd_eta e12, upd_eta e13, upd_eta e14, upd_eta e40, upd_eta e77]
      refine WP.cond' (by kernel_rfl) (by kernel_rfl) h ?_ ?_
      · clear h
        intro h
        exact Pre.sound _ _ _ _ _ (cast (by kernel_rfl) h)
      · clear h
        intro h
        refine WP.cut 1 (fun l I S => asAdr (l 9) fun t_9 => asB (l 11) fun ok_11 => asAdr (l 12) fun x_12 => asB (l 13) fun is_13 => asSl (l 14) fun ls_14 ls_14n ls_14c => asB (l 84) fun x84 => bolterlaw13_OwnerBack_b7 R t_9 ok_11 x_12 is_13 ls_14 ls_14n ls_14c x84 I S) (cast (by kernel_rfl) h) ?_
        clear h
        intro l I S _ h
        obtain ⟨t_9, e9, h⟩ := asAdr_e h
        obtain ⟨ok_11, e11, h⟩ := asB_e h
        obtain ⟨x_12, e12, h⟩ := asAdr_e h
        obtain ⟨is_13, e13, h⟩ := asB_e h
        obtain ⟨ls_14, ls_14n, ls_14c, e14, h⟩ := asSl_e h
        obtain ⟨x84, e84, h⟩ := asB_e h
        rw [upd_eta e9, upd_eta e11, upd_eta e12, upd_eta e13, upd_eta e14, upd_eta e84]
        refine WP.cond' (by kernel_rfl) (by kernel_rfl) h ?_ ?_
        · clear h
          intro h
          exact Pre.sound _ _ _ _ _ (cast (by kernel_rfl) h)
        · clear h
          intro h
          refine WP.cut 1 (fun l I S => asAdr (l 9) fun t_9 => asB (l 11) fun ok_11 => asAdr (l 12) fun x_12 => asB (l 13) fun is_13 => asSl (l 14) fun ls_14 ls_14n ls_14c => asSl (l 16) fun want_16 want_16n want_16c => bolterlaw13_OwnerBack_b8 R t_9 ok_11 x_12 is_13 ls_14 ls_14n ls_14c want_16 want_16n want_16c I S) (cast (by kernel_rfl) h) ?_
          clear h
          intro l I S _ h
          obtain ⟨t_9, e9, h⟩ := asAdr_e h
          obtain ⟨ok_11, e11, h⟩ := asB_e h
          obtain ⟨x_12, e12, h⟩ := asAdr_e h
          obtain ⟨is_13, e13, h⟩ := asB_e h
          obtain ⟨ls_14, ls_14n, ls_14c, e14, h⟩ := asSl_e h
          obtain ⟨want_16, want_16n, want_16c, e16, h⟩ := asSl_e h
          rw [upd_eta e9, upd_eta e11, upd_eta e12, upd_eta e13, upd_eta e14, upd_eta e16]
          refine WP.seqY (by kernel_rfl) (fun l I S => asAdr (l 9) fun t_9 => asB (l 11) fun ok_11 => asAdr (l 12) fun x_12 => asB (l 13) fun is_13 => asSl (l 14) fun ls_14 ls_14n ls_14c => asSl (l 16) fun want_16 want_16n want_16c => bolterlaw13_OwnerBack_b10 R t_9 ok_11 x_12 is_13 ls_14 ls_14n ls_14c want_16 want_16n want_16c I S) ?_ ?_
          ·
            refine WP.cut 1 (fun l I S => asAdr (l 9) fun t_9 => asB (l 11) fun ok_11 => asAdr (l 12) fun x_12 => asB (l 13) fun is_13 => asSl (l 14) fun ls_14 ls_14n ls_14c => asSl (l 16) fun want_16 want_16n want_16c => asB (l 54) fun x54 => bolterlaw13_OwnerBack_b9 R t_9 ok_11 x_12 is_13 ls_14 ls_14n ls_14c want_16 want_16n want_16c x54 I S) (cast (by kernel_rfl) h) ?_
            clear h
            intro l I S _ h
            obtain ⟨t_9, e9, h⟩ := asAdr_e h
            obtain ⟨ok_11, e11, h⟩ := asB_e h
            obtain ⟨x_12, e12, h⟩ := asAdr_e h
            obtain ⟨is_13, e13, h⟩ := asB_e h
            obtain ⟨ls_14, ls_14n, ls_14c, e14, h⟩ := asSl_e h
            obtain ⟨want_16, want_16n, want_16c, e16, h⟩ := asSl_e h
            obtain ⟨x54, e54, h⟩ := asB_e h
            rw [upd_eta e9, upd_eta e11, upd_eta e12, upd_eta e13, upd_eta e14, upd_eta e16, upd_eta e54]
            exact Pre.sound _ _ _ _ _ (cast (by kernel_rfl) h)
          · clear h
            intro l I S _ h
            obtain ⟨t_9, e9, h⟩ := asAdr_e h
            obtain ⟨ok_11, e11, h⟩ := asB_e h
            obtain ⟨x_12, e12, h⟩ := asAdr_e h
            obtain ⟨is_13, e13, h⟩ := asB_e h
            obtain ⟨ls_14, ls_14n, ls_14c, e14, h⟩ := asSl_e h
            obtain ⟨want_16, want_16n, want_16c, e16, h⟩ := asSl_e h
            rw [upd_eta e9, upd_eta e11, upd_eta e12, upd_eta e13, upd_eta e14, upd_eta e16]
            refine WP.cut 1 (fun l I S => asAdr (l 9) fun t_9 => asB (l 11) fun ok_11 => asAdr (l 12) fun x_12 => asB (l 13) fun is_13 => asSl (l 14) fun ls_14 ls_14n ls_14c => asSl (l 16) fun want_16 want_16n want_16c => asB (l 65) fun x65 => bolterlaw13_OwnerBack_b11 R t_9 ok_11 x_12 is_13 ls_14 ls_14n ls_14c want_16 want_16n want_16c x65 I S) (cast (by kernel_rfl) h) ?_
            clear h
            intro l I S _ h
            obtain ⟨t_9, e9, h⟩ := asAdr_e h
            obtain ⟨ok_11, e11, h⟩ := asB_e h
            obtain ⟨x_12, e12, h⟩ := asAdr_e h
            obtain ⟨is_13, e13, h⟩ := asB_e h
            obtain ⟨ls_14, ls_14n, ls_14c, e14, h⟩ := asSl_e h
            obtain ⟨want_16, want_16n, want_16c, e16, h⟩ := asSl_e h
            obtain ⟨x65, e65, h⟩ := asB_e h
            rw [upd_eta e9, upd_eta e11, upd_eta e12, upd_eta e13, upd_eta e14, upd_eta e16, upd_eta e65]
            exact Pre.sound _ _ _ _ _ (cast (by kernel_rfl) h)
  · clear h
    intro l I S _ h
    obtain ⟨t_9, e9, h⟩ := asAdr_e h
    obtain ⟨ok_11, e11, h⟩ := asB_e h
    obtain ⟨x_12, e12, h⟩ := asAdr_e h
    obtain ⟨is_13, e13, h⟩ := asB_e h
    obtain ⟨ls_14, ls_14n, ls_14c, e14, h⟩ := asSl_e h
    obtain ⟨want_16, want_16n, want_16c, e16, h⟩ := asSl_e h
    rw [upd_eta e9, upd_eta e11, upd_eta e12, upd_eta e13, upd_eta e14, upd_eta e16]
    refine WP.cut 1 (fun l I S => asB (l 8) fun x8 => bolterlaw13_OwnerBack_b5 R x8 I S) (cast (by kernel_rfl) h) ?_
    clear h
    intro l I S _ h
    obtain ⟨x8, e8, h⟩ := asB_e h
    rw [upd_eta e8]
    exact Pre.sound _ _ _ _ _ (cast (by kernel_rfl) h)
/-! ### bolterlaw13_OwnerNone: function 6, bolter/bolterlaw13.OwnerNone -/
noncomputable def bolterlaw13_OwnerNone_code : Code := (Tryd.f6.body).getD .skip
def bolterlaw13_OwnerNone_b1 (R : Value → IMem → SH → Prop) (x2 : Bool) (I : IMem) (S : SH) : Prop :=
  R (.bool x2) I S
def bolterlaw13_OwnerNone (R : Value → IMem → SH → Prop) (t_0_0 : Int) (t_0_1 : ByteArray) (t_0_2 : ByteArray) (t_0_3 : Int) (I : IMem) (S : SH) : Prop :=
  ∀ b1 : Nat,
  Runs Tryd.prog 14 #[] I ((b1, .cells #[.int .i64 t_0_0, .string t_0_1, .string t_0_2, .int .i64 t_0_3] 29 (0, 0)) :: S) fun v I1 S1 => ∃ x7, v = .bool x7 ∧
  bcase (!x7)
    (R (.bool false) I1 S1)
    (∃ x10_0, Cell I1 S1 ⟨b1, 0, none⟩ (.int .i64 x10_0) ∧
    ∃ x10_1, Cell I1 S1 ⟨b1, 1, none⟩ (.string x10_1) ∧
    ∃ x10_2, Cell I1 S1 ⟨b1, 2, none⟩ (.string x10_2) ∧
    ∃ x10_3, Cell I1 S1 ⟨b1, 3, none⟩ (.int .i64 x10_3) ∧
    Runs Tryd.prog 21 #[.agg #[.int .i64 x10_0, .string x10_1, .string x10_2, .int .i64 x10_3]] I1 S1 fun v' I1' S1' => ∃ x11_0 x11_1, v' = .tuple #[.string x11_0, .bool x11_1] ∧
    bcase (!x11_1)
      (R (.bool (x11_0.toList == (⟨#[]⟩ : ByteArray).toList)) I1' S1')
      (Runs Tryd.prog 22 #[.string x11_0] I1' S1' fun v'' I1'' S1'' => ∃ x20_0_0 x20_0_1 x20_0_2 x20_0_3 x20_1, v'' = .tuple #[.agg #[.int .i64 x20_0_0, .string x20_0_1, .string x20_0_2, .int .i64 x20_0_3], .bool x20_1] ∧
      ∀ b5 : Nat,
      StP ((b5, .cells #[.int .i64 0, .string ⟨#[]⟩, .string ⟨#[]⟩, .int .i64 0] 29 (0, 0)) :: S1'') ⟨b5, 0, none⟩ [.int .i64 x20_0_0, .string x20_0_1, .string x20_0_2, .int .i64 x20_0_3] fun S1_r3 =>
      bcase x20_1
        (∃ x25_0, Cell I1'' S1_r3 ⟨b5, 0, none⟩ (.int .i64 x25_0) ∧
        ∃ x25_1, Cell I1'' S1_r3 ⟨b5, 1, none⟩ (.string x25_1) ∧
        ∃ x25_2, Cell I1'' S1_r3 ⟨b5, 2, none⟩ (.string x25_2) ∧
        ∃ x25_3, Cell I1'' S1_r3 ⟨b5, 3, none⟩ (.int .i64 x25_3) ∧
        ∃ x26_0, Cell I1'' S1_r3 ⟨b1, 0, none⟩ (.int .i64 x26_0) ∧
        ∃ x26_1, Cell I1'' S1_r3 ⟨b1, 1, none⟩ (.string x26_1) ∧
        ∃ x26_2, Cell I1'' S1_r3 ⟨b1, 2, none⟩ (.string x26_2) ∧
        ∃ x26_3, Cell I1'' S1_r3 ⟨b1, 3, none⟩ (.int .i64 x26_3) ∧
        bolterlaw13_OwnerNone_b1 R (((x25_0 : Int) == (x26_0 : Int)) && (((x25_1 : ByteArray) == (x26_1 : ByteArray)) && ((((x25_2 : ByteArray) == (x26_2 : ByteArray)) && (((x25_3 : Int) == (x26_3 : Int)) && true)) && true))) I1'' S1_r3)
        (bolterlaw13_OwnerNone_b1 R false I1'' S1_r3)))
theorem bolterlaw13_OwnerNone_fn (R : Value → IMem → SH → Prop) (t_0_0 : Int) (t_0_1 : ByteArray) (t_0_2 : ByteArray) (t_0_3 : Int) (I : IMem) (S : SH) (h : bolterlaw13_OwnerNone R t_0_0 t_0_1 t_0_2 t_0_3 I S) :
    Runs Tryd.prog 6 #[.agg #[.int .i64 t_0_0, .string t_0_1, .string t_0_2, .int .i64 t_0_3]] I S R := by
  refine Runs.of_wp (args := [.agg #[.int .i64 t_0_0, .string t_0_1, .string t_0_2, .int .i64 t_0_3]]) (c := bolterlaw13_OwnerNone_code) Tryd.func6 (by kernel_rfl) (by kernel_rfl) ?_
  refine WP.cut 6 (fun l I S => asB (l 2) fun x2 => bolterlaw13_OwnerNone_b1 R x2 I S) (cast (by kernel_rfl) h) ?_
  clear h
  intro l I S _ h
  obtain ⟨x2, e2, h⟩ := asB_e h
  rw [upd_eta e2]
  exact Pre.sound _ _ _ _ _ (cast (by kernel_rfl) h)
/-! ### bolterlaw13_OwnerApart: function 7, bolter/bolterlaw13.OwnerApart -/
noncomputable def bolterlaw13_OwnerApart_code : Code := (Tryd.f7.body).getD .skip
def bolterlaw13_OwnerApart_b3 (R : Value → IMem → SH → Prop) (x4 : Bool) (I : IMem) (S : SH) : Prop :=
  R (.bool x4) I S
def bolterlaw13_OwnerApart_b2 (R : Value → IMem → SH → Prop) (a_5 : Addr) (b_6 : Addr) (I : IMem) (S : SH) : Prop :=
  ∃ x18_0, Cell I S a_5 (.int .i64 x18_0) ∧
  ∃ x18_1, Cell I S (a_5.add 1) (.string x18_1) ∧
  ∃ x18_2, Cell I S (a_5.add 2) (.string x18_2) ∧
  ∃ x18_3, Cell I S (a_5.add 3) (.int .i64 x18_3) ∧
  Runs Tryd.prog 21 #[.agg #[.int .i64 x18_0, .string x18_1, .string x18_2, .int .i64 x18_3]] I S fun v I1 S1 => ∃ x19_0 x19_1, v = .tuple #[.string x19_0, .bool x19_1] ∧
  ∃ x23_0, Cell I1 S1 b_6 (.int .i64 x23_0) ∧
  ∃ x23_1, Cell I1 S1 (b_6.add 1) (.string x23_1) ∧
  ∃ x23_2, Cell I1 S1 (b_6.add 2) (.string x23_2) ∧
  ∃ x23_3, Cell I1 S1 (b_6.add 3) (.int .i64 x23_3) ∧
  Runs Tryd.prog 21 #[.agg #[.int .i64 x23_0, .string x23_1, .string x23_2, .int .i64 x23_3]] I1 S1 fun v' I1' S1' => ∃ x24_0 x24_1, v' = .tuple #[.string x24_0, .bool x24_1] ∧
  bcase x19_1
    (bcase x24_1
      (∃ x35_0, Cell I1' S1' a_5 (.int .i64 x35_0) ∧
      ∃ x35_1, Cell I1' S1' (a_5.add 1) (.string x35_1) ∧
      ∃ x35_2, Cell I1' S1' (a_5.add 2) (.string x35_2) ∧
      ∃ x35_3, Cell I1' S1' (a_5.add 3) (.int .i64 x35_3) ∧
      ∃ x36_0, Cell I1' S1' b_6 (.int .i64 x36_0) ∧
      ∃ x36_1, Cell I1' S1' (b_6.add 1) (.string x36_1) ∧
      ∃ x36_2, Cell I1' S1' (b_6.add 2) (.string x36_2) ∧
      ∃ x36_3, Cell I1' S1' (b_6.add 3) (.int .i64 x36_3) ∧
      bolterlaw13_OwnerApart_b3 R ((x19_0.toList == x24_0.toList) == (((x35_0 : Int) == (x36_0 : Int)) && (((x35_1 : ByteArray) == (x36_1 : ByteArray)) && ((((x35_2 : ByteArray) == (x36_2 : ByteArray)) && (((x35_3 : Int) == (x36_3 : Int)) && true)) && true)))) I1' S1')
      (bolterlaw13_OwnerApart_b3 R false I1' S1'))
    (bolterlaw13_OwnerApart_b3 R false I1' S1')
def bolterlaw13_OwnerApart_b1 (R : Value → IMem → SH → Prop) (c_2 : Addr) (d_3 : Addr) (I : IMem) (S : SH) : Prop :=
  ∃ x13_0, Cell I S c_2 (.int .u8 x13_0) ∧
  ∃ x13_1 x13_1n x13_1c, Cell I S (c_2.add 1) (.slice x13_1 x13_1n x13_1c) ∧
  ∃ x13_2, Cell I S (c_2.add 2) (.bool x13_2) ∧
  ∃ x13_3, Cell I S (c_2.add 3) (.int .u8 x13_3) ∧
  ∃ x15_0, Cell I S d_3 (.int .u8 x15_0) ∧
  ∃ x15_1 x15_1n x15_1c, Cell I S (d_3.add 1) (.slice x15_1 x15_1n x15_1c) ∧
  ∃ x15_2, Cell I S (d_3.add 2) (.bool x15_2) ∧
  ∃ x15_3, Cell I S (d_3.add 3) (.int .u8 x15_3) ∧
  (Runs Tryd.prog 24 #[.agg #[.int .u8 x13_0, .slice x13_1 x13_1n x13_1c, .bool x13_2, .int .u8 x13_3]] I S fun v I1 S1 => ∃ x14_0 x14_1 x14_2 x14_3, v = .agg #[.int .i64 x14_0, .string x14_1, .string x14_2, .int .i64 x14_3] ∧
  Keep I S I1 S1 ∧
  (Runs Tryd.prog 24 #[.agg #[.int .u8 x15_0, .slice x15_1 x15_1n x15_1c, .bool x15_2, .int .u8 x15_3]] I1 S1 fun v' I1' S1' => ∃ x16_0 x16_1 x16_2 x16_3, v' = .agg #[.int .i64 x16_0, .string x16_1, .string x16_2, .int .i64 x16_3] ∧
  (∀ b5 : Nat,
  Keep I S I1' ((b5, .cells #[.int .i64 0, .string ⟨#[]⟩, .string ⟨#[]⟩, .int .i64 0] 29 (0, 0)) :: S1') ∧
  ∀ b6 : Nat,
  Keep I S I1' ((b6, .cells #[.int .i64 0, .string ⟨#[]⟩, .string ⟨#[]⟩, .int .i64 0] 29 (0, 0)) :: ((b5, .cells #[.int .i64 0, .string ⟨#[]⟩, .string ⟨#[]⟩, .int .i64 0] 29 (0, 0)) :: S1')) ∧
  StP ((b6, .cells #[.int .i64 0, .string ⟨#[]⟩, .string ⟨#[]⟩, .int .i64 0] 29 (0, 0)) :: ((b5, .cells #[.int .i64 0, .string ⟨#[]⟩, .string ⟨#[]⟩, .int .i64 0] 29 (0, 0)) :: S1')) ⟨b5, 0, none⟩ [.int .i64 x14_0, .string x14_1, .string x14_2, .int .i64 x14_3] fun S1'' =>
  StP S1'' ⟨b6, 0, none⟩ [.int .i64 x16_0, .string x16_1, .string x16_2, .int .i64 x16_3] fun S1_r3 =>
  bolterlaw13_OwnerApart_b2 R ⟨b5, 0, none⟩ ⟨b6, 0, none⟩ I1' S1_r3) ∧
  (∀ b6' : Nat,
  Keep I S I1' ((b6', .cells #[.int .i64 0, .string ⟨#[]⟩, .string ⟨#[]⟩, .int .i64 0] 29 (0, 0)) :: S1') ∧
  ∀ b5' : Nat,
  Keep I S I1' ((b5', .cells #[.int .i64 0, .string ⟨#[]⟩, .string ⟨#[]⟩, .int .i64 0] 29 (0, 0)) :: ((b6', .cells #[.int .i64 0, .string ⟨#[]⟩, .string ⟨#[]⟩, .int .i64 0] 29 (0, 0)) :: S1')) ∧
  StP ((b5', .cells #[.int .i64 0, .string ⟨#[]⟩, .string ⟨#[]⟩, .int .i64 0] 29 (0, 0)) :: ((b6', .cells #[.int .i64 0, .string ⟨#[]⟩, .string ⟨#[]⟩, .int .i64 0] 29 (0, 0)) :: S1')) ⟨b5', 0, none⟩ [.int .i64 x14_0, .string x14_1, .string x14_2, .int .i64 x14_3] fun S1_r4 =>
  StP S1_r4 ⟨b6', 0, none⟩ [.int .i64 x16_0, .string x16_1, .string x16_2, .int .i64 x16_3] fun S1_r5 =>
  bolterlaw13_OwnerApart_b2 R ⟨b5', 0, none⟩ ⟨b6', 0, none⟩ I1' S1_r5)) ∧
  (∀ b5'' : Nat,
  Keep I S I1 ((b5'', .cells #[.int .i64 0, .string ⟨#[]⟩, .string ⟨#[]⟩, .int .i64 0] 29 (0, 0)) :: S1) ∧
  (Runs Tryd.prog 24 #[.agg #[.int .u8 x15_0, .slice x15_1 x15_1n x15_1c, .bool x15_2, .int .u8 x15_3]] I1 ((b5'', .cells #[.int .i64 0, .string ⟨#[]⟩, .string ⟨#[]⟩, .int .i64 0] 29 (0, 0)) :: S1) fun v'' I1'' S1_r6 => ∃ x16_0' x16_1' x16_2' x16_3', v'' = .agg #[.int .i64 x16_0', .string x16_1', .string x16_2', .int .i64 x16_3'] ∧
  ∀ b6'' : Nat,
  Keep I S I1'' ((b6'', .cells #[.int .i64 0, .string ⟨#[]⟩, .string ⟨#[]⟩, .int .i64 0] 29 (0, 0)) :: S1_r6) ∧
  StP ((b6'', .cells #[.int .i64 0, .string ⟨#[]⟩, .string ⟨#[]⟩, .int .i64 0] 29 (0, 0)) :: S1_r6) ⟨b5'', 0, none⟩ [.int .i64 x14_0, .string x14_1, .string x14_2, .int .i64 x14_3] fun S1_r7 =>
  StP S1_r7 ⟨b6'', 0, none⟩ [.int .i64 x16_0', .string x16_1', .string x16_2', .int .i64 x16_3'] fun S1_r8 =>
  bolterlaw13_OwnerApart_b2 R ⟨b5'', 0, none⟩ ⟨b6'', 0, none⟩ I1'' S1_r8) ∧
  (∀ b6_r3 : Nat,
  Keep I S I1 ((b6_r3, .cells #[.int .i64 0, .string ⟨#[]⟩, .string ⟨#[]⟩, .int .i64 0] 29 (0, 0)) :: ((b5'', .cells #[.int .i64 0, .string ⟨#[]⟩, .string ⟨#[]⟩, .int .i64 0] 29 (0, 0)) :: S1)) ∧
  Runs Tryd.prog 24 #[.agg #[.int .u8 x15_0, .slice x15_1 x15_1n x15_1c, .bool x15_2, .int .u8 x15_3]] I1 ((b6_r3, .cells #[.int .i64 0, .string ⟨#[]⟩, .string ⟨#[]⟩, .int .i64 0] 29 (0, 0)) :: ((b5'', .cells #[.int .i64 0, .string ⟨#[]⟩, .string ⟨#[]⟩, .int .i64 0] 29 (0, 0)) :: S1)) fun v_r3 I1_r3 S1_r9 => ∃ x16_0'' x16_1'' x16_2'' x16_3'', v_r3 = .agg #[.int .i64 x16_0'', .string x16_1'', .string x16_2'', .int .i64 x16_3''] ∧
  StP S1_r9 ⟨b5'', 0, none⟩ [.int .i64 x14_0, .string x14_1, .string x14_2, .int .i64 x14_3] fun S1_r10 =>
  StP S1_r10 ⟨b6_r3, 0, none⟩ [.int .i64 x16_0'', .string x16_1'', .string x16_2'', .int .i64 x16_3''] fun S1_r11 =>
  bolterlaw13_OwnerApart_b2 R ⟨b5'', 0, none⟩ ⟨b6_r3, 0, none⟩ I1_r3 S1_r11)) ∧
  (∀ b6_r4 : Nat,
  Keep I S I1 ((b6_r4, .cells #[.int .i64 0, .string ⟨#[]⟩, .string ⟨#[]⟩, .int .i64 0] 29 (0, 0)) :: S1) ∧
  (Runs Tryd.prog 24 #[.agg #[.int .u8 x15_0, .slice x15_1 x15_1n x15_1c, .bool x15_2, .int .u8 x15_3]] I1 ((b6_r4, .cells #[.int .i64 0, .string ⟨#[]⟩, .string ⟨#[]⟩, .int .i64 0] 29 (0, 0)) :: S1) fun v_r4 I1_r4 S1_r12 => ∃ x16_0_r3 x16_1_r3 x16_2_r3 x16_3_r3, v_r4 = .agg #[.int .i64 x16_0_r3, .string x16_1_r3, .string x16_2_r3, .int .i64 x16_3_r3] ∧
  ∀ b5_r3 : Nat,
  Keep I S I1_r4 ((b5_r3, .cells #[.int .i64 0, .string ⟨#[]⟩, .string ⟨#[]⟩, .int .i64 0] 29 (0, 0)) :: S1_r12) ∧
  StP ((b5_r3, .cells #[.int .i64 0, .string ⟨#[]⟩, .string ⟨#[]⟩, .int .i64 0] 29 (0, 0)) :: S1_r12) ⟨b5_r3, 0, none⟩ [.int .i64 x14_0, .string x14_1, .string x14_2, .int .i64 x14_3] fun S1_r13 =>
  StP S1_r13 ⟨b6_r4, 0, none⟩ [.int .i64 x16_0_r3, .string x16_1_r3, .string x16_2_r3, .int .i64 x16_3_r3] fun S1_r14 =>
  bolterlaw13_OwnerApart_b2 R ⟨b5_r3, 0, none⟩ ⟨b6_r4, 0, none⟩ I1_r4 S1_r14) ∧
  (∀ b5_r4 : Nat,
  Keep I S I1 ((b5_r4, .cells #[.int .i64 0, .string ⟨#[]⟩, .string ⟨#[]⟩, .int .i64 0] 29 (0, 0)) :: ((b6_r4, .cells #[.int .i64 0, .string ⟨#[]⟩, .string ⟨#[]⟩, .int .i64 0] 29 (0, 0)) :: S1)) ∧
  Runs Tryd.prog 24 #[.agg #[.int .u8 x15_0, .slice x15_1 x15_1n x15_1c, .bool x15_2, .int .u8 x15_3]] I1 ((b5_r4, .cells #[.int .i64 0, .string ⟨#[]⟩, .string ⟨#[]⟩, .int .i64 0] 29 (0, 0)) :: ((b6_r4, .cells #[.int .i64 0, .string ⟨#[]⟩, .string ⟨#[]⟩, .int .i64 0] 29 (0, 0)) :: S1)) fun v_r5 I1_r5 S1_r15 => ∃ x16_0_r4 x16_1_r4 x16_2_r4 x16_3_r4, v_r5 = .agg #[.int .i64 x16_0_r4, .string x16_1_r4, .string x16_2_r4, .int .i64 x16_3_r4] ∧
  StP S1_r15 ⟨b5_r4, 0, none⟩ [.int .i64 x14_0, .string x14_1, .string x14_2, .int .i64 x14_3] fun S1_r16 =>
  StP S1_r16 ⟨b6_r4, 0, none⟩ [.int .i64 x16_0_r4, .string x16_1_r4, .string x16_2_r4, .int .i64 x16_3_r4] fun S1_r17 =>
  bolterlaw13_OwnerApart_b2 R ⟨b5_r4, 0, none⟩ ⟨b6_r4, 0, none⟩ I1_r5 S1_r17))) ∧
  (∀ b5_r5 : Nat,
  Keep I S I ((b5_r5, .cells #[.int .i64 0, .string ⟨#[]⟩, .string ⟨#[]⟩, .int .i64 0] 29 (0, 0)) :: S) ∧
  (Runs Tryd.prog 24 #[.agg #[.int .u8 x13_0, .slice x13_1 x13_1n x13_1c, .bool x13_2, .int .u8 x13_3]] I ((b5_r5, .cells #[.int .i64 0, .string ⟨#[]⟩, .string ⟨#[]⟩, .int .i64 0] 29 (0, 0)) :: S) fun v_r6 I1_r6 S1_r18 => ∃ x14_0' x14_1' x14_2' x14_3', v_r6 = .agg #[.int .i64 x14_0', .string x14_1', .string x14_2', .int .i64 x14_3'] ∧
  Keep I S I1_r6 S1_r18 ∧
  (Runs Tryd.prog 24 #[.agg #[.int .u8 x15_0, .slice x15_1 x15_1n x15_1c, .bool x15_2, .int .u8 x15_3]] I1_r6 S1_r18 fun v_r7 I1_r7 S1_r19 => ∃ x16_0_r5 x16_1_r5 x16_2_r5 x16_3_r5, v_r7 = .agg #[.int .i64 x16_0_r5, .string x16_1_r5, .string x16_2_r5, .int .i64 x16_3_r5] ∧
  ∀ b6_r5 : Nat,
  Keep I S I1_r7 ((b6_r5, .cells #[.int .i64 0, .string ⟨#[]⟩, .string ⟨#[]⟩, .int .i64 0] 29 (0, 0)) :: S1_r19) ∧
  StP ((b6_r5, .cells #[.int .i64 0, .string ⟨#[]⟩, .string ⟨#[]⟩, .int .i64 0] 29 (0, 0)) :: S1_r19) ⟨b5_r5, 0, none⟩ [.int .i64 x14_0', .string x14_1', .string x14_2', .int .i64 x14_3'] fun S1_r20 =>
  StP S1_r20 ⟨b6_r5, 0, none⟩ [.int .i64 x16_0_r5, .string x16_1_r5, .string x16_2_r5, .int .i64 x16_3_r5] fun S1_r21 =>
  bolterlaw13_OwnerApart_b2 R ⟨b5_r5, 0, none⟩ ⟨b6_r5, 0, none⟩ I1_r7 S1_r21) ∧
  (∀ b6_r6 : Nat,
  Keep I S I1_r6 ((b6_r6, .cells #[.int .i64 0, .string ⟨#[]⟩, .string ⟨#[]⟩, .int .i64 0] 29 (0, 0)) :: S1_r18) ∧
  Runs Tryd.prog 24 #[.agg #[.int .u8 x15_0, .slice x15_1 x15_1n x15_1c, .bool x15_2, .int .u8 x15_3]] I1_r6 ((b6_r6, .cells #[.int .i64 0, .string ⟨#[]⟩, .string ⟨#[]⟩, .int .i64 0] 29 (0, 0)) :: S1_r18) fun v_r8 I1_r8 S1_r22 => ∃ x16_0_r6 x16_1_r6 x16_2_r6 x16_3_r6, v_r8 = .agg #[.int .i64 x16_0_r6, .string x16_1_r6, .string x16_2_r6, .int .i64 x16_3_r6] ∧
  StP S1_r22 ⟨b5_r5, 0, none⟩ [.int .i64 x14_0', .string x14_1', .string x14_2', .int .i64 x14_3'] fun S1_r23 =>
  StP S1_r23 ⟨b6_r6, 0, none⟩ [.int .i64 x16_0_r6, .string x16_1_r6, .string x16_2_r6, .int .i64 x16_3_r6] fun S1_r24 =>
  bolterlaw13_OwnerApart_b2 R ⟨b5_r5, 0, none⟩ ⟨b6_r6, 0, none⟩ I1_r8 S1_r24)) ∧
  (∀ b6_r7 : Nat,
  Keep I S I ((b6_r7, .cells #[.int .i64 0, .string ⟨#[]⟩, .string ⟨#[]⟩, .int .i64 0] 29 (0, 0)) :: ((b5_r5, .cells #[.int .i64 0, .string ⟨#[]⟩, .string ⟨#[]⟩, .int .i64 0] 29 (0, 0)) :: S)) ∧
  Runs Tryd.prog 24 #[.agg #[.int .u8 x13_0, .slice x13_1 x13_1n x13_1c, .bool x13_2, .int .u8 x13_3]] I ((b6_r7, .cells #[.int .i64 0, .string ⟨#[]⟩, .string ⟨#[]⟩, .int .i64 0] 29 (0, 0)) :: ((b5_r5, .cells #[.int .i64 0, .string ⟨#[]⟩, .string ⟨#[]⟩, .int .i64 0] 29 (0, 0)) :: S)) fun v_r9 I1_r9 S1_r25 => ∃ x14_0'' x14_1'' x14_2'' x14_3'', v_r9 = .agg #[.int .i64 x14_0'', .string x14_1'', .string x14_2'', .int .i64 x14_3''] ∧
  Keep I S I1_r9 S1_r25 ∧
  Runs Tryd.prog 24 #[.agg #[.int .u8 x15_0, .slice x15_1 x15_1n x15_1c, .bool x15_2, .int .u8 x15_3]] I1_r9 S1_r25 fun v_r10 I1_r10 S1_r26 => ∃ x16_0_r7 x16_1_r7 x16_2_r7 x16_3_r7, v_r10 = .agg #[.int .i64 x16_0_r7, .string x16_1_r7, .string x16_2_r7, .int .i64 x16_3_r7] ∧
  StP S1_r26 ⟨b5_r5, 0, none⟩ [.int .i64 x14_0'', .string x14_1'', .string x14_2'', .int .i64 x14_3''] fun S1_r27 =>
  StP S1_r27 ⟨b6_r7, 0, none⟩ [.int .i64 x16_0_r7, .string x16_1_r7, .string x16_2_r7, .int .i64 x16_3_r7] fun S1_r28 =>
  bolterlaw13_OwnerApart_b2 R ⟨b5_r5, 0, none⟩ ⟨b6_r7, 0, none⟩ I1_r10 S1_r28)) ∧
  (∀ b6_r8 : Nat,
  Keep I S I ((b6_r8, .cells #[.int .i64 0, .string ⟨#[]⟩, .string ⟨#[]⟩, .int .i64 0] 29 (0, 0)) :: S) ∧
  (Runs Tryd.prog 24 #[.agg #[.int .u8 x13_0, .slice x13_1 x13_1n x13_1c, .bool x13_2, .int .u8 x13_3]] I ((b6_r8, .cells #[.int .i64 0, .string ⟨#[]⟩, .string ⟨#[]⟩, .int .i64 0] 29 (0, 0)) :: S) fun v_r11 I1_r11 S1_r29 => ∃ x14_0_r3 x14_1_r3 x14_2_r3 x14_3_r3, v_r11 = .agg #[.int .i64 x14_0_r3, .string x14_1_r3, .string x14_2_r3, .int .i64 x14_3_r3] ∧
  Keep I S I1_r11 S1_r29 ∧
  (Runs Tryd.prog 24 #[.agg #[.int .u8 x15_0, .slice x15_1 x15_1n x15_1c, .bool x15_2, .int .u8 x15_3]] I1_r11 S1_r29 fun v_r12 I1_r12 S1_r30 => ∃ x16_0_r8 x16_1_r8 x16_2_r8 x16_3_r8, v_r12 = .agg #[.int .i64 x16_0_r8, .string x16_1_r8, .string x16_2_r8, .int .i64 x16_3_r8] ∧
  ∀ b5_r6 : Nat,
  Keep I S I1_r12 ((b5_r6, .cells #[.int .i64 0, .string ⟨#[]⟩, .string ⟨#[]⟩, .int .i64 0] 29 (0, 0)) :: S1_r30) ∧
  StP ((b5_r6, .cells #[.int .i64 0, .string ⟨#[]⟩, .string ⟨#[]⟩, .int .i64 0] 29 (0, 0)) :: S1_r30) ⟨b5_r6, 0, none⟩ [.int .i64 x14_0_r3, .string x14_1_r3, .string x14_2_r3, .int .i64 x14_3_r3] fun S1_r31 =>
  StP S1_r31 ⟨b6_r8, 0, none⟩ [.int .i64 x16_0_r8, .string x16_1_r8, .string x16_2_r8, .int .i64 x16_3_r8] fun S1_r32 =>
  bolterlaw13_OwnerApart_b2 R ⟨b5_r6, 0, none⟩ ⟨b6_r8, 0, none⟩ I1_r12 S1_r32) ∧
  (∀ b5_r7 : Nat,
  Keep I S I1_r11 ((b5_r7, .cells #[.int .i64 0, .string ⟨#[]⟩, .string ⟨#[]⟩, .int .i64 0] 29 (0, 0)) :: S1_r29) ∧
  Runs Tryd.prog 24 #[.agg #[.int .u8 x15_0, .slice x15_1 x15_1n x15_1c, .bool x15_2, .int .u8 x15_3]] I1_r11 ((b5_r7, .cells #[.int .i64 0, .string ⟨#[]⟩, .string ⟨#[]⟩, .int .i64 0] 29 (0, 0)) :: S1_r29) fun v_r13 I1_r13 S1_r33 => ∃ x16_0_r9 x16_1_r9 x16_2_r9 x16_3_r9, v_r13 = .agg #[.int .i64 x16_0_r9, .string x16_1_r9, .string x16_2_r9, .int .i64 x16_3_r9] ∧
  StP S1_r33 ⟨b5_r7, 0, none⟩ [.int .i64 x14_0_r3, .string x14_1_r3, .string x14_2_r3, .int .i64 x14_3_r3] fun S1_r34 =>
  StP S1_r34 ⟨b6_r8, 0, none⟩ [.int .i64 x16_0_r9, .string x16_1_r9, .string x16_2_r9, .int .i64 x16_3_r9] fun S1_r35 =>
  bolterlaw13_OwnerApart_b2 R ⟨b5_r7, 0, none⟩ ⟨b6_r8, 0, none⟩ I1_r13 S1_r35)) ∧
  (∀ b5_r8 : Nat,
  Keep I S I ((b5_r8, .cells #[.int .i64 0, .string ⟨#[]⟩, .string ⟨#[]⟩, .int .i64 0] 29 (0, 0)) :: ((b6_r8, .cells #[.int .i64 0, .string ⟨#[]⟩, .string ⟨#[]⟩, .int .i64 0] 29 (0, 0)) :: S)) ∧
  Runs Tryd.prog 24 #[.agg #[.int .u8 x13_0, .slice x13_1 x13_1n x13_1c, .bool x13_2, .int .u8 x13_3]] I ((b5_r8, .cells #[.int .i64 0, .string ⟨#[]⟩, .string ⟨#[]⟩, .int .i64 0] 29 (0, 0)) :: ((b6_r8, .cells #[.int .i64 0, .string ⟨#[]⟩, .string ⟨#[]⟩, .int .i64 0] 29 (0, 0)) :: S)) fun v_r14 I1_r14 S1_r36 => ∃ x14_0_r4 x14_1_r4 x14_2_r4 x14_3_r4, v_r14 = .agg #[.int .i64 x14_0_r4, .string x14_1_r4, .string x14_2_r4, .int .i64 x14_3_r4] ∧
  Keep I S I1_r14 S1_r36 ∧
  Runs Tryd.prog 24 #[.agg #[.int .u8 x15_0, .slice x15_1 x15_1n x15_1c, .bool x15_2, .int .u8 x15_3]] I1_r14 S1_r36 fun v_r15 I1_r15 S1_r37 => ∃ x16_0_r10 x16_1_r10 x16_2_r10 x16_3_r10, v_r15 = .agg #[.int .i64 x16_0_r10, .string x16_1_r10, .string x16_2_r10, .int .i64 x16_3_r10] ∧
  StP S1_r37 ⟨b5_r8, 0, none⟩ [.int .i64 x14_0_r4, .string x14_1_r4, .string x14_2_r4, .int .i64 x14_3_r4] fun S1_r38 =>
  StP S1_r38 ⟨b6_r8, 0, none⟩ [.int .i64 x16_0_r10, .string x16_1_r10, .string x16_2_r10, .int .i64 x16_3_r10] fun S1_r39 =>
  bolterlaw13_OwnerApart_b2 R ⟨b5_r8, 0, none⟩ ⟨b6_r8, 0, none⟩ I1_r15 S1_r39))
def bolterlaw13_OwnerApart (R : Value → IMem → SH → Prop) (c_0_0 : Int) (c_0_1 : Option Addr) (c_0_1n : Nat) (c_0_1c : Nat) (c_0_2 : Bool) (c_0_3 : Int) (d_1_0 : Int) (d_1_1 : Option Addr) (d_1_1n : Nat) (d_1_1c : Nat) (d_1_2 : Bool) (d_1_3 : Int) (I : IMem) (S : SH) : Prop :=
  ∀ b2 : Nat,
  ∀ b3 : Nat,
  Runs Tryd.prog 14 #[] I ((b3, .cells #[.int .u8 d_1_0, .slice d_1_1 d_1_1n d_1_1c, .bool d_1_2, .int .u8 d_1_3] 49 (0, 0)) :: ((b2, .cells #[.int .u8 c_0_0, .slice c_0_1 c_0_1n c_0_1c, .bool c_0_2, .int .u8 c_0_3] 49 (0, 0)) :: S)) fun v I1 S1 => ∃ x11, v = .bool x11 ∧
  bcase (!x11)
    (R (.bool false) I1 S1)
    (bolterlaw13_OwnerApart_b1 R ⟨b2, 0, none⟩ ⟨b3, 0, none⟩ I1 S1)
theorem bolterlaw13_OwnerApart_fn (R : Value → IMem → SH → Prop) (c_0_0 : Int) (c_0_1 : Option Addr) (c_0_1n : Nat) (c_0_1c : Nat) (c_0_2 : Bool) (c_0_3 : Int) (d_1_0 : Int) (d_1_1 : Option Addr) (d_1_1n : Nat) (d_1_1c : Nat) (d_1_2 : Bool) (d_1_3 : Int) (I : IMem) (S : SH) (h : bolterlaw13_OwnerApart R c_0_0 c_0_1 c_0_1n c_0_1c c_0_2 c_0_3 d_1_0 d_1_1 d_1_1n d_1_1c d_1_2 d_1_3 I S) :
    Runs Tryd.prog 7 #[.agg #[.int .u8 c_0_0, .slice c_0_1 c_0_1n c_0_1c, .bool c_0_2, .int .u8 c_0_3], .agg #[.int .u8 d_1_0, .slice d_1_1 d_1_1n d_1_1c, .bool d_1_2, .int .u8 d_1_3]] I S R := by
  refine Runs.of_wp (args := [.agg #[.int .u8 c_0_0, .slice c_0_1 c_0_1n c_0_1c, .bool c_0_2, .int .u8 c_0_3], .agg #[.int .u8 d_1_0, .slice d_1_1 d_1_1n d_1_1c, .bool d_1_2, .int .u8 d_1_3]]) (c := bolterlaw13_OwnerApart_code) Tryd.func7 (by kernel_rfl) (by kernel_rfl) ?_
  refine WP.cut 2 (fun l I S => asAdr (l 2) fun c_2 => asAdr (l 3) fun d_3 => bolterlaw13_OwnerApart_b1 R c_2 d_3 I S) (cast (by kernel_rfl) h) ?_
  clear h
  intro l I S _ h
  obtain ⟨c_2, e2, h⟩ := asAdr_e h
  obtain ⟨d_3, e3, h⟩ := asAdr_e h
  rw [upd_eta e2, upd_eta e3]
  refine WP.seqY (by kernel_rfl) (fun l I S => asAdr (l 5) fun a_5 => asAdr (l 6) fun b_6 => bolterlaw13_OwnerApart_b2 R a_5 b_6 I S) ?_ ?_
  ·
    exact WP.draw' (.take 0 (.take 2 (.fork3 1 (.fork3 3 (.fork 4 (.step 5 (.step 6 (.step 7 .done))) 5 (.step 4 (.step 6 (.step 7 .done)))) 4 (.fork 3 (.step 5 (.step 6 (.step 7 .done))) 5 (.step 3 (.step 6 (.step 7 .done)))) 5 (.fork 3 (.step 4 (.step 6 (.step 7 .done))) 4 (.step 3 (.step 6 (.step 7 .done))))) 4 (.fork 1 (.fork 3 (.step 5 (.step 6 (.step 7 .done))) 5 (.step 3 (.step 6 (.step 7 .done)))) 5 (.step 1 (.step 3 (.step 6 (.step 7 .done))))) 5 (.fork 1 (.fork 3 (.step 4 (.step 6 (.step 7 .done))) 4 (.step 3 (.step 6 (.step 7 .done)))) 4 (.step 1 (.step 3 (.step 6 (.step 7 .done)))))))) [1, 3, 4, 5, 6, 7] (by kernel_rfl) (by kernel_rfl) (by kernel_rfl) (by kernel_rfl) (by kernel_rfl) (cast (by kernel_rfl) h)
  · clear h
    intro l I S _ h
    obtain ⟨a_5, e5, h⟩ := asAdr_e h
    obtain ⟨b_6, e6, h⟩ := asAdr_e h
    rw [upd_eta e5, upd_eta e6]
    refine WP.cut 3 (fun l I S => asB (l 4) fun x4 => bolterlaw13_OwnerApart_b3 R x4 I S) (cast (by kernel_rfl) h) ?_
    clear h
    intro l I S _ h
    obtain ⟨x4, e4, h⟩ := asB_e h
    rw [upd_eta e4]
    exact Pre.sound _ _ _ _ _ (cast (by kernel_rfl) h)
/-! ### bolterlaw13_OwnerLong: function 8, bolter/bolterlaw13.OwnerLong -/
noncomputable def bolterlaw13_OwnerLong_code : Code := (Tryd.f8.body).getD .skip
def bolterlaw13_OwnerLong_b6 (again3 : Option Addr → Nat → Nat → Int → Addr → Option Addr → Nat → Nat → Int → IMem → SH → Prop) (R : Value → IMem → SH → Prop) (ns_0 : Option Addr) (ns_0n : Nat) (ns_0c : Nat) (kind_1 : Int) (t_5 : Addr) (ls_6 : Option Addr) (ls_6n : Nat) (ls_6c : Nat) (k_7 : Int) (I : IMem) (S : SH) : Prop :=
  again3 ns_0 ns_0n ns_0c kind_1 t_5 ls_6 ls_6n ls_6c (IntKind.wrap .i64 (k_7 + (1 : Int))) I S
def bolterlaw13_OwnerLong_b5 (again3 : Option Addr → Nat → Nat → Int → Addr → Option Addr → Nat → Nat → Int → IMem → SH → Prop) (R : Value → IMem → SH → Prop) (ns_0 : Option Addr) (ns_0n : Nat) (ns_0c : Nat) (kind_1 : Int) (t_5 : Addr) (ls_6 : Option Addr) (ls_6n : Nat) (ls_6c : Nat) (k_7 : Int) (l_8 : ByteArray) (I : IMem) (S : SH) : Prop :=
  ∀ b41 : Nat,
  AppG 9 1 16 [.string ⟨#[]⟩] (some (.slice 9)) I ((b41, .cells #[.string l_8] 9 (0, 0)) :: S) (.slice ls_6 ls_6n ls_6c) (.slice (some ⟨b41, 0, none⟩) 1 1) fun x42 x42n x42c S1 =>
  bolterlaw13_OwnerLong_b6 again3 R ns_0 ns_0n ns_0c kind_1 t_5 x42 x42n x42c k_7 I S1
def bolterlaw13_OwnerLong_b4 (again3 : Option Addr → Nat → Nat → Int → Addr → Option Addr → Nat → Nat → Int → IMem → SH → Prop) (R : Value → IMem → SH → Prop) (ns_0 : Option Addr) (ns_0n : Nat) (ns_0c : Nat) (kind_1 : Int) (t_5 : Addr) (ls_6 : Option Addr) (ls_6n : Nat) (ls_6c : Nat) (k_7 : Int) (I : IMem) (S : SH) : Prop :=
  bcase (decide (k_7 < (ns_0n : Int)))
    (ptrP ns_0 fun x33 => (0 : Int) ≤ k_7 ∧ k_7 < (ns_0n : Int) ∧
    ∃ x34, Cell I S (x33.add (k_7.toNat * 1)) (.int .u8 x34) ∧
    (0 : Int) ≤ (IntKind.wrap .i64 ((1 : Int) + ((IntKind.wrap .i64 x34).tmod (63 : Int)))) ∧ (IntKind.wrap .i64 ((1 : Int) + ((IntKind.wrap .i64 x34).tmod (63 : Int)))) ≤ ((strT3_5b7e.size : Nat) : Int) ∧
    bolterlaw13_OwnerLong_b5 again3 R ns_0 ns_0n ns_0c kind_1 t_5 ls_6 ls_6n ls_6c k_7 (strT3_5b7e.extract 0 ((IntKind.wrap .i64 ((1 : Int) + ((IntKind.wrap .i64 x34).tmod (63 : Int)))).toNat)) I S)
    (bolterlaw13_OwnerLong_b5 again3 R ns_0 ns_0n ns_0c kind_1 t_5 ls_6 ls_6n ls_6c k_7 strT3_5b7e I S)
def bolterlaw13_OwnerLong_b8 (R : Value → IMem → SH → Prop) (x4 : Bool) (I : IMem) (S : SH) : Prop :=
  R (.bool x4) I S
def bolterlaw13_OwnerLong_b7 (R : Value → IMem → SH → Prop) (kind_1 : Int) (t_5 : Addr) (ls_6 : Option Addr) (ls_6n : Nat) (ls_6c : Nat) (I : IMem) (S : SH) : Prop :=
  Runs Tryd.prog 25 #[.slice ls_6 ls_6n ls_6c] I S fun v I1 S1 => ∃ x45_0 x45_1, v = .tuple #[.string x45_0, .bool x45_1] ∧
  bcase (!x45_1)
    (R (.bool true) I1 S1)
    (StP S1 (t_5.add 1) [.string x45_0] fun S1' =>
    ∀ b52 : Nat,
    ptrP (some ⟨b52, 0, none⟩) fun x55 => (0 : Int) ≤ (kind_1.tmod (4 : Int)) ∧ (kind_1.tmod (4 : Int)) < (4 : Int) ∧
    ∃ x56, Cell I1 ((b52, .cells #[.int .i64 0, .int .i64 2, .int .i64 12, .int .i64 14] 3 (0, 0)) :: S1') (x55.add ((kind_1.tmod (4 : Int)).toNat * 1)) (.int .i64 x56) ∧
    ∃ x58_0, Cell I1 ((b52, .cells #[.int .i64 0, .int .i64 2, .int .i64 12, .int .i64 14] 3 (0, 0)) :: S1') t_5 (.int .i64 x58_0) ∧
    ∃ x58_1, Cell I1 ((b52, .cells #[.int .i64 0, .int .i64 2, .int .i64 12, .int .i64 14] 3 (0, 0)) :: S1') (t_5.add 1) (.string x58_1) ∧
    ∃ x58_2, Cell I1 ((b52, .cells #[.int .i64 0, .int .i64 2, .int .i64 12, .int .i64 14] 3 (0, 0)) :: S1') (t_5.add 2) (.string x58_2) ∧
    ∃ x58_3, Cell I1 ((b52, .cells #[.int .i64 0, .int .i64 2, .int .i64 12, .int .i64 14] 3 (0, 0)) :: S1') (t_5.add 3) (.int .i64 x58_3) ∧
    Runs Tryd.prog 21 #[.agg #[.int .i64 x58_0, .string x58_1, .string x58_2, .int .i64 x58_3]] I1 ((b52, .cells #[.int .i64 0, .int .i64 2, .int .i64 12, .int .i64 14] 3 (0, 0)) :: S1') fun v' I1' S1'' => ∃ x59_0 x59_1, v' = .tuple #[.string x59_0, .bool x59_1] ∧
    bcase (x59_1 == (decide ((IntKind.wrap .i64 ((x45_0.size : Int) + x56)) ≤ (254 : Int))))
      (bcase x59_1
        (bcase ((x59_0.size : Int) == (IntKind.wrap .i64 ((x45_0.size : Int) + x56)))
          (bolterlaw13_OwnerLong_b8 R true I1' S1'')
          (bcase (!x59_1)
            (bolterlaw13_OwnerLong_b8 R (x59_0.toList == (⟨#[]⟩ : ByteArray).toList) I1' S1'')
            (bolterlaw13_OwnerLong_b8 R false I1' S1'')))
        (bcase (!x59_1)
          (bolterlaw13_OwnerLong_b8 R (x59_0.toList == (⟨#[]⟩ : ByteArray).toList) I1' S1'')
          (bolterlaw13_OwnerLong_b8 R false I1' S1'')))
      (bolterlaw13_OwnerLong_b8 R false I1' S1''))
def bolterlaw13_OwnerLong_l3 (again3 : Option Addr → Nat → Nat → Int → Addr → Option Addr → Nat → Nat → Int → IMem → SH → Prop) (R : Value → IMem → SH → Prop) (ns_0 : Option Addr) (ns_0n : Nat) (ns_0c : Nat) (kind_1 : Int) (t_5 : Addr) (ls_6 : Option Addr) (ls_6n : Nat) (ls_6c : Nat) (k_7 : Int) (I : IMem) (S : SH) : Prop :=
  bcase (decide (k_7 < (4 : Int)))
    (bolterlaw13_OwnerLong_b4 again3 R ns_0 ns_0n ns_0c kind_1 t_5 ls_6 ls_6n ls_6c k_7 I S)
    (bolterlaw13_OwnerLong_b7 R kind_1 t_5 ls_6 ls_6n ls_6c I S)
def bolterlaw13_OwnerLong_b2 (R : Value → IMem → SH → Prop) (ns_0 : Option Addr) (ns_0n : Nat) (ns_0c : Nat) (kind_1 : Int) (t_5 : Addr) (ls_6 : Option Addr) (ls_6n : Nat) (ls_6c : Nat) (k_7 : Int) (I : IMem) (S : SH) : Prop :=
  ∃ (Inv : Nat → Option Addr → Nat → Nat → Int → Addr → Option Addr → Nat → Nat → Int → IMem → SH → Prop) (m : Nat), Inv m ns_0 ns_0n ns_0c kind_1 t_5 ls_6 ls_6n ls_6c k_7 I S ∧
    ∀ (m : Nat) (ns_0 : Option Addr) (ns_0n : Nat) (ns_0c : Nat) (kind_1 : Int) (t_5 : Addr) (ls_6 : Option Addr) (ls_6n : Nat) (ls_6c : Nat) (k_7 : Int) (J : IMem) (T : SH), I.le J → Inv m ns_0 ns_0n ns_0c kind_1 t_5 ls_6 ls_6n ls_6c k_7 J T →
      bolterlaw13_OwnerLong_l3 (fun ns_0 ns_0n ns_0c kind_1 t_5 ls_6 ls_6n ls_6c k_7 I S => ∃ m', m' < m ∧ Inv m' ns_0 ns_0n ns_0c kind_1 t_5 ls_6 ls_6n ls_6c k_7 I S) R ns_0 ns_0n ns_0c kind_1 t_5 ls_6 ls_6n ls_6c k_7 J T
def bolterlaw13_OwnerLong_b1 (R : Value → IMem → SH → Prop) (ns_0 : Option Addr) (ns_0n : Nat) (ns_0c : Nat) (kind_1 : Int) (t_5 : Addr) (ls_6 : Option Addr) (ls_6n : Nat) (ls_6c : Nat) (I : IMem) (S : SH) : Prop :=
  bolterlaw13_OwnerLong_b2 R ns_0 ns_0n ns_0c kind_1 t_5 ls_6 ls_6n ls_6c 0 I S
def bolterlaw13_OwnerLong (R : Value → IMem → SH → Prop) (ns_0 : Option Addr) (ns_0n : Nat) (ns_0c : Nat) (kind_1 : Int) (I : IMem) (S : SH) : Prop :=
  Runs Tryd.prog 14 #[] I S fun v I1 S1 => ∃ x14, v = .bool x14 ∧
  bcase (!x14)
    (R (.bool false) I1 S1)
    (∀ b16 : Nat,
    ptrP (some ⟨b16, 0, none⟩) fun x19 => (0 : Int) ≤ (kind_1.tmod (4 : Int)) ∧ (kind_1.tmod (4 : Int)) < (4 : Int) ∧
    ∃ x20, Cell I1 ((b16, .cells #[.int .i64 1, .int .i64 2, .int .i64 4, .int .i64 5] 26 (0, 0)) :: S1) (x19.add ((kind_1.tmod (4 : Int)).toNat * 1)) (.int .i64 x20) ∧
    ∀ b5 : Nat,
    StP ((b5, .cells #[.int .i64 0, .string ⟨#[]⟩, .string ⟨#[]⟩, .int .i64 0] 29 (0, 0)) :: ((b16, .cells #[.int .i64 1, .int .i64 2, .int .i64 4, .int .i64 5] 26 (0, 0)) :: S1)) ⟨b5, 0, none⟩ [.int .i64 x20, .string ⟨#[]⟩, .string ⟨#[]⟩, .int .i64 0] fun S1' =>
    bolterlaw13_OwnerLong_b1 R ns_0 ns_0n ns_0c kind_1 ⟨b5, 0, none⟩ none 0 0 I1 S1')
theorem bolterlaw13_OwnerLong_fn (R : Value → IMem → SH → Prop) (ns_0 : Option Addr) (ns_0n : Nat) (ns_0c : Nat) (kind_1 : Int) (I : IMem) (S : SH) (h : bolterlaw13_OwnerLong R ns_0 ns_0n ns_0c kind_1 I S) :
    Runs Tryd.prog 8 #[.slice ns_0 ns_0n ns_0c, .int .u8 kind_1] I S R := by
  refine Runs.of_wp (args := [.slice ns_0 ns_0n ns_0c, .int .u8 kind_1]) (c := bolterlaw13_OwnerLong_code) Tryd.func8 (by kernel_rfl) (by kernel_rfl) ?_
  refine WP.cut 4 (fun l I S => asSl (l 0) fun ns_0 ns_0n ns_0c => asI .u8 (l 1) fun kind_1 => asAdr (l 5) fun t_5 => asSl (l 6) fun ls_6 ls_6n ls_6c => bolterlaw13_OwnerLong_b1 R ns_0 ns_0n ns_0c kind_1 t_5 ls_6 ls_6n ls_6c I S) (cast (by kernel_rfl) h) ?_
  clear h
  intro l I S _ h
  obtain ⟨ns_0, ns_0n, ns_0c, e0, h⟩ := asSl_e h
  obtain ⟨kind_1, e1, h⟩ := asI_e h
  obtain ⟨t_5, e5, h⟩ := asAdr_e h
  obtain ⟨ls_6, ls_6n, ls_6c, e6, h⟩ := asSl_e h
  rw [upd_eta e0, upd_eta e1, upd_eta e5, upd_eta e6]
  refine WP.seqY (by kernel_rfl) (fun l I S => asI .u8 (l 1) fun kind_1 => asAdr (l 5) fun t_5 => asSl (l 6) fun ls_6 ls_6n ls_6c => bolterlaw13_OwnerLong_b7 R kind_1 t_5 ls_6 ls_6n ls_6c I S) ?_ ?_
  ·
    refine WP.cut 1 (fun l I S => asSl (l 0) fun ns_0 ns_0n ns_0c => asI .u8 (l 1) fun kind_1 => asAdr (l 5) fun t_5 => asSl (l 6) fun ls_6 ls_6n ls_6c => asI .i64 (l 7) fun k_7 => bolterlaw13_OwnerLong_b2 R ns_0 ns_0n ns_0c kind_1 t_5 ls_6 ls_6n ls_6c k_7 I S) (cast (by kernel_rfl) h) ?_
    clear h
    intro l I S _ h
    obtain ⟨ns_0, ns_0n, ns_0c, e0, h⟩ := asSl_e h
    obtain ⟨kind_1, e1, h⟩ := asI_e h
    obtain ⟨t_5, e5, h⟩ := asAdr_e h
    obtain ⟨ls_6, ls_6n, ls_6c, e6, h⟩ := asSl_e h
    obtain ⟨k_7, e7, h⟩ := asI_e h
    rw [upd_eta e0, upd_eta e1, upd_eta e5, upd_eta e6, upd_eta e7]
    refine WP.block' (by kernel_rfl) ?_
    obtain ⟨Inv_again3, m_again3, h0, hr⟩ := h
    refine WP.loop' (by kernel_rfl) (fun m_again3 => fun l I S => asSl (l 0) fun ns_0 ns_0n ns_0c => asI .u8 (l 1) fun kind_1 => asAdr (l 5) fun t_5 => asSl (l 6) fun ls_6 ls_6n ls_6c => asI .i64 (l 7) fun k_7 => Inv_again3 m_again3 ns_0 ns_0n ns_0c kind_1 t_5 ls_6 ls_6n ls_6c k_7 I S) m_again3 (cast (by kernel_rfl) h0) ?_
    clear h0
    intro m_again3 l I S hle h
    obtain ⟨ns_0, ns_0n, ns_0c, e0, h⟩ := asSl_e h
    obtain ⟨kind_1, e1, h⟩ := asI_e h
    obtain ⟨t_5, e5, h⟩ := asAdr_e h
    obtain ⟨ls_6, ls_6n, ls_6c, e6, h⟩ := asSl_e h
    obtain ⟨k_7, e7, h⟩ := asI_e h
    rw [upd_eta e0, upd_eta e1, upd_eta e5, upd_eta e6, upd_eta e7]
    have h := hr m_again3 ns_0 ns_0n ns_0c kind_1 t_5 ls_6 ls_6n ls_6c k_7 I S hle h
    clear hr hle
    refine WP.cut 1 (fun l I S => asSl (l 0) fun ns_0 ns_0n ns_0c => asI .u8 (l 1) fun kind_1 => asAdr (l 5) fun t_5 => asSl (l 6) fun ls_6 ls_6n ls_6c => asI .i64 (l 7) fun k_7 => bolterlaw13_OwnerLong_b4 (fun ns_0 ns_0n ns_0c kind_1 t_5 ls_6 ls_6n ls_6c k_7 I S => ∃ m', m' < m_again3 ∧ Inv_again3 m' ns_0 ns_0n ns_0c kind_1 t_5 ls_6 ls_6n ls_6c k_7 I S) R ns_0 ns_0n ns_0c kind_1 t_5 ls_6 ls_6n ls_6c k_7 I S) (cast (by kernel_rfl) h) ?_
    clear h
    intro l I S _ h
    obtain ⟨ns_0, ns_0n, ns_0c, e0, h⟩ := asSl_e h
    obtain ⟨kind_1, e1, h⟩ := asI_e h
    obtain ⟨t_5, e5, h⟩ := asAdr_e h
    obtain ⟨ls_6, ls_6n, ls_6c, e6, h⟩ := asSl_e h
    obtain ⟨k_7, e7, h⟩ := asI_e h
    rw [upd_eta e0, upd_eta e1, upd_eta e5, upd_eta e6, upd_eta e7]
    refine WP.seqY (by kernel_rfl) (fun l I S => asSl (l 0) fun ns_0 ns_0n ns_0c => asI .u8 (l 1) fun kind_1 => asAdr (l 5) fun t_5 => asSl (l 6) fun ls_6 ls_6n ls_6c => asI .i64 (l 7) fun k_7 => bolterlaw13_OwnerLong_b6 (fun ns_0 ns_0n ns_0c kind_1 t_5 ls_6 ls_6n ls_6c k_7 I S => ∃ m', m' < m_again3 ∧ Inv_again3 m' ns_0 ns_0n ns_0c kind_1 t_5 ls_6 ls_6n ls_6c k_7 I S) R ns_0 ns_0n ns_0c kind_1 t_5 ls_6 ls_6n ls_6c k_7 I S) ?_ ?_
    ·
      refine WP.block' (by kernel_rfl) ?_
      refine WP.cut 2 (fun l I S => asSl (l 0) fun ns_0 ns_0n ns_0c => asI .u8 (l 1) fun kind_1 => asAdr (l 5) fun t_5 => asSl (l 6) fun ls_6 ls_6n ls_6c => asI .i64 (l 7) fun k_7 => asStr (l 8) fun l_8 => bolterlaw13_OwnerLong_b5 (fun ns_0 ns_0n ns_0c kind_1 t_5 ls_6 ls_6n ls_6c k_7 I S => ∃ m', m' < m_again3 ∧ Inv_again3 m' ns_0 ns_0n ns_0c kind_1 t_5 ls_6 ls_6n ls_6c k_7 I S) R ns_0 ns_0n ns_0c kind_1 t_5 ls_6 ls_6n ls_6c k_7 l_8 I S) (cast (by kernel_rfl) h) ?_
      clear h
      intro l I S _ h
      obtain ⟨ns_0, ns_0n, ns_0c, e0, h⟩ := asSl_e h
      obtain ⟨kind_1, e1, h⟩ := asI_e h
      obtain ⟨t_5, e5, h⟩ := asAdr_e h
      obtain ⟨ls_6, ls_6n, ls_6c, e6, h⟩ := asSl_e h
      obtain ⟨k_7, e7, h⟩ := asI_e h
      obtain ⟨l_8, e8, h⟩ := asStr_e h
      rw [upd_eta e0, upd_eta e1, upd_eta e5, upd_eta e6, upd_eta e7, upd_eta e8]
      exact Pre.sound _ _ _ _ _ (cast (by kernel_rfl) h)
    · clear h
      intro l I S _ h
      obtain ⟨ns_0, ns_0n, ns_0c, e0, h⟩ := asSl_e h
      obtain ⟨kind_1, e1, h⟩ := asI_e h
      obtain ⟨t_5, e5, h⟩ := asAdr_e h
      obtain ⟨ls_6, ls_6n, ls_6c, e6, h⟩ := asSl_e h
      obtain ⟨k_7, e7, h⟩ := asI_e h
      rw [upd_eta e0, upd_eta e1, upd_eta e5, upd_eta e6, upd_eta e7]
      exact Pre.sound _ _ _ _ _ (cast (by kernel_rfl) h)
  · clear h
    intro l I S _ h
    obtain ⟨kind_1, e1, h⟩ := asI_e h
    obtain ⟨t_5, e5, h⟩ := asAdr_e h
    obtain ⟨ls_6, ls_6n, ls_6c, e6, h⟩ := asSl_e h
    rw [upd_eta e1, upd_eta e5, upd_eta e6]
    refine WP.cut 6 (fun l I S => asB (l 4) fun x4 => bolterlaw13_OwnerLong_b8 R x4 I S) (cast (by kernel_rfl) h) ?_
    clear h
    intro l I S _ h
    obtain ⟨x4, e4, h⟩ := asB_e h
    rw [upd_eta e4]
    exact Pre.sound _ _ _ _ _ (cast (by kernel_rfl) h)
/-! ### bolterlaw13_OwnerRead: function 9, bolter/bolterlaw13.OwnerRead -/
noncomputable def bolterlaw13_OwnerRead_code : Code := (Tryd.f9.body).getD .skip
def bolterlaw13_OwnerRead_b6 (again3 : Option Addr → Nat → Nat → Int → Int → IMem → SH → Prop) (R : Value → IMem → SH → Prop) (x37 : Option Addr) (x37n : Nat) (x37c : Nat) (x38 : Int) (x39 : Int) (I : IMem) (S : SH) : Prop :=
  again3 x37 x37n x37c x38 (IntKind.wrap .i64 (x39 + (1 : Int))) I S
def bolterlaw13_OwnerRead_b5 (again3 : Option Addr → Nat → Nat → Int → Int → IMem → SH → Prop) (R : Value → IMem → SH → Prop) (x37 : Option Addr) (x37n : Nat) (x37c : Nat) (x38 : Int) (x39 : Int) (x86 : Bool) (I : IMem) (S : SH) : Prop :=
  bcase x86
    (R (.bool false) I S)
    (bolterlaw13_OwnerRead_b6 again3 R x37 x37n x37c x38 x39 I S)
def bolterlaw13_OwnerRead_b4 (again3 : Option Addr → Nat → Nat → Int → Int → IMem → SH → Prop) (R : Value → IMem → SH → Prop) (x37 : Option Addr) (x37n : Nat) (x37c : Nat) (x38 : Int) (x39 : Int) (I : IMem) (S : SH) : Prop :=
  ptrP x37 fun x41 => (0 : Int) ≤ x39 ∧ x39 < (x37n : Int) ∧
  ∃ x42, Cell I S (x41.add (x39.toNat * 1)) (.string x42) ∧
  Runs Tryd.prog 22 #[.string x42] I S fun v I1 S1 => ∃ x45_0_0 x45_0_1 x45_0_2 x45_0_3 x45_1, v = .tuple #[.agg #[.int .i64 x45_0_0, .string x45_0_1, .string x45_0_2, .int .i64 x45_0_3], .bool x45_1] ∧
  ∀ b12 : Nat,
  StP ((b12, .cells #[.int .i64 0, .string ⟨#[]⟩, .string ⟨#[]⟩, .int .i64 0] 29 (0, 0)) :: S1) ⟨b12, 0, none⟩ [.int .i64 x45_0_0, .string x45_0_1, .string x45_0_2, .int .i64 x45_0_3] fun S1' =>
  ∃ x49_0, Cell I1 S1' ⟨b12, 0, none⟩ (.int .i64 x49_0) ∧
  ∃ x49_1, Cell I1 S1' ⟨b12, 1, none⟩ (.string x49_1) ∧
  ∃ x49_2, Cell I1 S1' ⟨b12, 2, none⟩ (.string x49_2) ∧
  ∃ x49_3, Cell I1 S1' ⟨b12, 3, none⟩ (.int .i64 x49_3) ∧
  Runs Tryd.prog 21 #[.agg #[.int .i64 x49_0, .string x49_1, .string x49_2, .int .i64 x49_3]] I1 S1' fun v' I1' S1'' => ∃ x50_0 x50_1, v' = .tuple #[.string x50_0, .bool x50_1] ∧
  bcase x45_1
    (bcase (!x50_1)
      (bolterlaw13_OwnerRead_b5 again3 R x37 x37n x37c x38 x39 true I1' S1'')
      (bcase (!(x50_0.toList == x42.toList))
        (bolterlaw13_OwnerRead_b5 again3 R x37 x37n x37c x38 x39 true I1' S1'')
        (bcase (!x45_1)
          (∃ x67_0, Cell I1' S1'' ⟨b12, 0, none⟩ (.int .i64 x67_0) ∧
          ∃ x67_1, Cell I1' S1'' ⟨b12, 1, none⟩ (.string x67_1) ∧
          ∃ x67_2, Cell I1' S1'' ⟨b12, 2, none⟩ (.string x67_2) ∧
          ∃ x67_3, Cell I1' S1'' ⟨b12, 3, none⟩ (.int .i64 x67_3) ∧
          bcase (!(((x67_0 : Int) == (0 : Int)) && (((x67_1 : ByteArray) == (⟨#[]⟩ : ByteArray)) && ((((x67_2 : ByteArray) == (⟨#[]⟩ : ByteArray)) && (((x67_3 : Int) == (0 : Int)) && true)) && true))))
            (bolterlaw13_OwnerRead_b5 again3 R x37 x37n x37c x38 x39 true I1' S1'')
            (Runs Tryd.prog 28 #[.string x42] I1' S1'' fun v'' I1'' S1_r3 => ∃ x74, v'' = .bool x74 ∧
            bcase (!x74)
              (bcase x45_1
                (bolterlaw13_OwnerRead_b5 again3 R x37 x37n x37c x38 x39 true I1'' S1_r3)
                (bcase (x42.toList == (⟨#[]⟩ : ByteArray).toList)
                  (bolterlaw13_OwnerRead_b5 again3 R x37 x37n x37c x38 x39 x45_1 I1'' S1_r3)
                  (bolterlaw13_OwnerRead_b5 again3 R x37 x37n x37c x38 x39 false I1'' S1_r3)))
              (bcase (x42.toList == (⟨#[]⟩ : ByteArray).toList)
                (bolterlaw13_OwnerRead_b5 again3 R x37 x37n x37c x38 x39 x45_1 I1'' S1_r3)
                (bolterlaw13_OwnerRead_b5 again3 R x37 x37n x37c x38 x39 false I1'' S1_r3))))
          (Runs Tryd.prog 28 #[.string x42] I1' S1'' fun v_r3 I1_r3 S1_r4 => ∃ x74', v_r3 = .bool x74' ∧
          bcase (!x74')
            (bcase x45_1
              (bolterlaw13_OwnerRead_b5 again3 R x37 x37n x37c x38 x39 true I1_r3 S1_r4)
              (bcase (x42.toList == (⟨#[]⟩ : ByteArray).toList)
                (bolterlaw13_OwnerRead_b5 again3 R x37 x37n x37c x38 x39 x45_1 I1_r3 S1_r4)
                (bolterlaw13_OwnerRead_b5 again3 R x37 x37n x37c x38 x39 false I1_r3 S1_r4)))
            (bcase (x42.toList == (⟨#[]⟩ : ByteArray).toList)
              (bolterlaw13_OwnerRead_b5 again3 R x37 x37n x37c x38 x39 x45_1 I1_r3 S1_r4)
              (bolterlaw13_OwnerRead_b5 again3 R x37 x37n x37c x38 x39 false I1_r3 S1_r4))))))
    (bcase (!x45_1)
      (∃ x67_0', Cell I1' S1'' ⟨b12, 0, none⟩ (.int .i64 x67_0') ∧
      ∃ x67_1', Cell I1' S1'' ⟨b12, 1, none⟩ (.string x67_1') ∧
      ∃ x67_2', Cell I1' S1'' ⟨b12, 2, none⟩ (.string x67_2') ∧
      ∃ x67_3', Cell I1' S1'' ⟨b12, 3, none⟩ (.int .i64 x67_3') ∧
      bcase (!(((x67_0' : Int) == (0 : Int)) && (((x67_1' : ByteArray) == (⟨#[]⟩ : ByteArray)) && ((((x67_2' : ByteArray) == (⟨#[]⟩ : ByteArray)) && (((x67_3' : Int) == (0 : Int)) && true)) && true))))
        (bolterlaw13_OwnerRead_b5 again3 R x37 x37n x37c x38 x39 true I1' S1'')
        (Runs Tryd.prog 28 #[.string x42] I1' S1'' fun v_r4 I1_r4 S1_r5 => ∃ x74'', v_r4 = .bool x74'' ∧
        bcase (!x74'')
          (bcase x45_1
            (bolterlaw13_OwnerRead_b5 again3 R x37 x37n x37c x38 x39 true I1_r4 S1_r5)
            (bcase (x42.toList == (⟨#[]⟩ : ByteArray).toList)
              (bolterlaw13_OwnerRead_b5 again3 R x37 x37n x37c x38 x39 x45_1 I1_r4 S1_r5)
              (bolterlaw13_OwnerRead_b5 again3 R x37 x37n x37c x38 x39 false I1_r4 S1_r5)))
          (bcase (x42.toList == (⟨#[]⟩ : ByteArray).toList)
            (bolterlaw13_OwnerRead_b5 again3 R x37 x37n x37c x38 x39 x45_1 I1_r4 S1_r5)
            (bolterlaw13_OwnerRead_b5 again3 R x37 x37n x37c x38 x39 false I1_r4 S1_r5))))
      (Runs Tryd.prog 28 #[.string x42] I1' S1'' fun v_r5 I1_r5 S1_r6 => ∃ x74_r3, v_r5 = .bool x74_r3 ∧
      bcase (!x74_r3)
        (bcase x45_1
          (bolterlaw13_OwnerRead_b5 again3 R x37 x37n x37c x38 x39 true I1_r5 S1_r6)
          (bcase (x42.toList == (⟨#[]⟩ : ByteArray).toList)
            (bolterlaw13_OwnerRead_b5 again3 R x37 x37n x37c x38 x39 x45_1 I1_r5 S1_r6)
            (bolterlaw13_OwnerRead_b5 again3 R x37 x37n x37c x38 x39 false I1_r5 S1_r6)))
        (bcase (x42.toList == (⟨#[]⟩ : ByteArray).toList)
          (bolterlaw13_OwnerRead_b5 again3 R x37 x37n x37c x38 x39 x45_1 I1_r5 S1_r6)
          (bolterlaw13_OwnerRead_b5 again3 R x37 x37n x37c x38 x39 false I1_r5 S1_r6))))
def bolterlaw13_OwnerRead_b7 (R : Value → IMem → SH → Prop) (I : IMem) (S : SH) : Prop :=
  R (.bool true) I S
def bolterlaw13_OwnerRead_l3 (again3 : Option Addr → Nat → Nat → Int → Int → IMem → SH → Prop) (R : Value → IMem → SH → Prop) (x37 : Option Addr) (x37n : Nat) (x37c : Nat) (x38 : Int) (x39 : Int) (I : IMem) (S : SH) : Prop :=
  bcase (decide (x39 < x38))
    (bolterlaw13_OwnerRead_b4 again3 R x37 x37n x37c x38 x39 I S)
    (bolterlaw13_OwnerRead_b7 R I S)
def bolterlaw13_OwnerRead_b2 (R : Value → IMem → SH → Prop) (x37 : Option Addr) (x37n : Nat) (x37c : Nat) (x38 : Int) (x39 : Int) (I : IMem) (S : SH) : Prop :=
  ∃ (Inv : Nat → Option Addr → Nat → Nat → Int → Int → IMem → SH → Prop) (m : Nat), Inv m x37 x37n x37c x38 x39 I S ∧
    ∀ (m : Nat) (x37 : Option Addr) (x37n : Nat) (x37c : Nat) (x38 : Int) (x39 : Int) (J : IMem) (T : SH), I.le J → Inv m x37 x37n x37c x38 x39 J T →
      bolterlaw13_OwnerRead_l3 (fun x37 x37n x37c x38 x39 I S => ∃ m', m' < m ∧ Inv m' x37 x37n x37c x38 x39 I S) R x37 x37n x37c x38 x39 J T
def bolterlaw13_OwnerRead_b1 (R : Value → IMem → SH → Prop) (ns_0 : Option Addr) (ns_0n : Nat) (ns_0c : Nat) (raw_1 : ByteArray) (m_8 : ByteArray) (I : IMem) (S : SH) : Prop :=
  Runs Tryd.prog 27 #[.slice ns_0 ns_0n ns_0c] I S fun v I1 S1 => ∃ x35, v = .string x35 ∧
  ∀ b37 : Nat,
  bolterlaw13_OwnerRead_b2 R (some ⟨b37, 0, none⟩) 3 3 (3 : Int) 0 I1 ((b37, .cells #[.string m_8, .string x35, .string raw_1] 27 (0, 0)) :: S1)
def bolterlaw13_OwnerRead (R : Value → IMem → SH → Prop) (ns_0 : Option Addr) (ns_0n : Nat) (ns_0c : Nat) (raw_1 : ByteArray) (last_2 : Int) (I : IMem) (S : SH) : Prop :=
  Runs Tryd.prog 14 #[] I S fun v I1 S1 => ∃ x16, v = .bool x16 ∧
  bcase (!x16)
    (R (.bool false) I1 S1)
    (Runs Tryd.prog 26 #[.slice ns_0 ns_0n ns_0c] I1 S1 fun v' I1' S1' => ∃ x19 x19n x19c, v' = .slice x19 x19n x19c ∧
    ∀ b21 : Nat,
    ptrP (some ⟨b21, 0, none⟩) fun x24 => (0 : Int) ≤ (last_2.tmod (6 : Int)) ∧ (last_2.tmod (6 : Int)) < (6 : Int) ∧
    ∃ x25, Cell I1' ((b21, .cells #[.string ⟨#[114, 112, 122, 45, 105, 112]⟩, .string ⟨#[114, 112, 122, 45, 99, 108, 105, 101, 110, 116, 45, 105, 112]⟩, .string ⟨#[114, 112, 122, 45, 110, 115, 105, 112]⟩, .string ⟨#[114, 112, 122, 45, 110, 115, 100, 110, 97, 109, 101]⟩, .string ⟨#[120]⟩, .string ⟨#[42]⟩] 9 (0, 0)) :: S1') (x24.add ((last_2.tmod (6 : Int)).toNat * 1)) (.string x25) ∧
    ∀ b26 : Nat,
    AppG 9 1 16 [.string ⟨#[]⟩] (some (.slice 9)) I1' ((b26, .cells #[.string x25] 9 (0, 0)) :: ((b21, .cells #[.string ⟨#[114, 112, 122, 45, 105, 112]⟩, .string ⟨#[114, 112, 122, 45, 99, 108, 105, 101, 110, 116, 45, 105, 112]⟩, .string ⟨#[114, 112, 122, 45, 110, 115, 105, 112]⟩, .string ⟨#[114, 112, 122, 45, 110, 115, 100, 110, 97, 109, 101]⟩, .string ⟨#[120]⟩, .string ⟨#[42]⟩] 9 (0, 0)) :: S1')) (.slice x19 x19n x19c) (.slice (some ⟨b26, 0, none⟩) 1 1) fun x27 x27n x27c S1'' =>
    Runs Tryd.prog 25 #[.slice x27 x27n x27c] I1' S1'' fun v'' I1'' S1_r3 => ∃ x30_0 x30_1, v'' = .tuple #[.string x30_0, .bool x30_1] ∧
    bolterlaw13_OwnerRead_b1 R ns_0 ns_0n ns_0c raw_1 x30_0 I1'' S1_r3)
theorem bolterlaw13_OwnerRead_fn (R : Value → IMem → SH → Prop) (ns_0 : Option Addr) (ns_0n : Nat) (ns_0c : Nat) (raw_1 : ByteArray) (last_2 : Int) (I : IMem) (S : SH) (h : bolterlaw13_OwnerRead R ns_0 ns_0n ns_0c raw_1 last_2 I S) :
    Runs Tryd.prog 9 #[.slice ns_0 ns_0n ns_0c, .string raw_1, .int .u8 last_2] I S R := by
  refine Runs.of_wp (args := [.slice ns_0 ns_0n ns_0c, .string raw_1, .int .u8 last_2]) (c := bolterlaw13_OwnerRead_code) Tryd.func9 (by kernel_rfl) (by kernel_rfl) ?_
  refine WP.cut 5 (fun l I S => asSl (l 0) fun ns_0 ns_0n ns_0c => asStr (l 1) fun raw_1 => asStr (l 8) fun m_8 => bolterlaw13_OwnerRead_b1 R ns_0 ns_0n ns_0c raw_1 m_8 I S) (cast (by kernel_rfl) h) ?_
  clear h
  intro l I S _ h
  obtain ⟨ns_0, ns_0n, ns_0c, e0, h⟩ := asSl_e h
  obtain ⟨raw_1, e1, h⟩ := asStr_e h
  obtain ⟨m_8, e8, h⟩ := asStr_e h
  rw [upd_eta e0, upd_eta e1, upd_eta e8]
  refine WP.seqY (by kernel_rfl) (fun l I S => bolterlaw13_OwnerRead_b7 R I S) ?_ ?_
  ·
    refine WP.cut 1 (fun l I S => asSl (l 37) fun x37 x37n x37c => asI .i64 (l 38) fun x38 => asI .i64 (l 39) fun x39 => bolterlaw13_OwnerRead_b2 R x37 x37n x37c x38 x39 I S) (cast (by kernel_rfl) h) ?_
    clear h
    intro l I S _ h
    obtain ⟨x37, x37n, x37c, e37, h⟩ := asSl_e h
    obtain ⟨x38, e38, h⟩ := asI_e h
    obtain ⟨x39, e39, h⟩ := asI_e h
    rw [upd_eta e37, upd_eta e38, upd_eta e39]
    refine WP.block' (by kernel_rfl) ?_
    obtain ⟨Inv_again3, m_again3, h0, hr⟩ := h
    refine WP.loop' (by kernel_rfl) (fun m_again3 => fun l I S => asSl (l 37) fun x37 x37n x37c => asI .i64 (l 38) fun x38 => asI .i64 (l 39) fun x39 => Inv_again3 m_again3 x37 x37n x37c x38 x39 I S) m_again3 (cast (by kernel_rfl) h0) ?_
    clear h0
    intro m_again3 l I S hle h
    obtain ⟨x37, x37n, x37c, e37, h⟩ := asSl_e h
    obtain ⟨x38, e38, h⟩ := asI_e h
    obtain ⟨x39, e39, h⟩ := asI_e h
    rw [upd_eta e37, upd_eta e38, upd_eta e39]
    have h := hr m_again3 x37 x37n x37c x38 x39 I S hle h
    clear hr hle
    refine WP.cut 2 (fun l I S => asSl (l 37) fun x37 x37n x37c => asI .i64 (l 38) fun x38 => asI .i64 (l 39) fun x39 => bolterlaw13_OwnerRead_b4 (fun x37 x37n x37c x38 x39 I S => ∃ m', m' < m_again3 ∧ Inv_again3 m' x37 x37n x37c x38 x39 I S) R x37 x37n x37c x38 x39 I S) (cast (by kernel_rfl) h) ?_
    clear h
    intro l I S _ h
    obtain ⟨x37, x37n, x37c, e37, h⟩ := asSl_e h
    obtain ⟨x38, e38, h⟩ := asI_e h
    obtain ⟨x39, e39, h⟩ := asI_e h
    rw [upd_eta e37, upd_eta e38, upd_eta e39]
    refine WP.seqY (by kernel_rfl) (fun l I S => asSl (l 37) fun x37 x37n x37c => asI .i64 (l 38) fun x38 => asI .i64 (l 39) fun x39 => bolterlaw13_OwnerRead_b6 (fun x37 x37n x37c x38 x39 I S => ∃ m', m' < m_again3 ∧ Inv_again3 m' x37 x37n x37c x38 x39 I S) R x37 x37n x37c x38 x39 I S) ?_ ?_
    ·
      refine WP.block' (by kernel_rfl) ?_
      refine WP.cut 4 (fun l I S => asSl (l 37) fun x37 x37n x37c => asI .i64 (l 38) fun x38 => asI .i64 (l 39) fun x39 => asB (l 86) fun x86 => bolterlaw13_OwnerRead_b5 (fun x37 x37n x37c x38 x39 I S => ∃ m', m' < m_again3 ∧ Inv_again3 m' x37 x37n x37c x38 x39 I S) R x37 x37n x37c x38 x39 x86 I S) (cast (by kernel_rfl) h) ?_
      clear h
      intro l I S _ h
      obtain ⟨x37, x37n, x37c, e37, h⟩ := asSl_e h
      obtain ⟨x38, e38, h⟩ := asI_e h
      obtain ⟨x39, e39, h⟩ := asI_e h
      obtain ⟨x86, e86, h⟩ := asB_e h
      rw [upd_eta e37, upd_eta e38, upd_eta e39, upd_eta e86]
      exact Pre.sound _ _ _ _ _ (cast (by kernel_rfl) h)
    · clear h
      intro l I S _ h
      obtain ⟨x37, x37n, x37c, e37, h⟩ := asSl_e h
      obtain ⟨x38, e38, h⟩ := asI_e h
      obtain ⟨x39, e39, h⟩ := asI_e h
      rw [upd_eta e37, upd_eta e38, upd_eta e39]
      exact Pre.sound _ _ _ _ _ (cast (by kernel_rfl) h)
  · clear h
    intro l I S _ h
    exact Pre.sound _ _ _ _ _ (cast (by kernel_rfl) h)
/-! ### bolterlaw13_awake: function 14, bolter/bolterlaw13.awake -/
noncomputable def bolterlaw13_awake_code : Code := (Tryd.f14.body).getD .skip
def bolterlaw13_awake_b1 (R : Value → IMem → SH → Prop) (x0 : Bool) (I : IMem) (S : SH) : Prop :=
  R (.bool x0) I S
def bolterlaw13_awake (R : Value → IMem → SH → Prop) (I : IMem) (S : SH) : Prop :=
  ∀ b10 : Nat,
  Runs Tryd.prog 25 #[.slice (some ⟨b10, 0, none⟩) 6 6] I ((b10, .cells #[.string ⟨#[50, 52]⟩, .string ⟨#[48]⟩, .string ⟨#[50]⟩, .string ⟨#[48]⟩, .string ⟨#[49, 57, 50]⟩, .string ⟨#[114, 112, 122, 45, 105, 112]⟩] 9 (0, 0)) :: S) fun v I1 S1 => ∃ x11_0 x11_1, v = .tuple #[.string x11_0, .bool x11_1] ∧
  Runs Tryd.prog 22 #[.string x11_0] I1 S1 fun v' I1' S1' => ∃ x16_0_0 x16_0_1 x16_0_2 x16_0_3 x16_1, v' = .tuple #[.agg #[.int .i64 x16_0_0, .string x16_0_1, .string x16_0_2, .int .i64 x16_0_3], .bool x16_1] ∧
  ∀ b3 : Nat,
  StP ((b3, .cells #[.int .i64 0, .string ⟨#[]⟩, .string ⟨#[]⟩, .int .i64 0] 29 (0, 0)) :: S1') ⟨b3, 0, none⟩ [.int .i64 x16_0_0, .string x16_0_1, .string x16_0_2, .int .i64 x16_0_3] fun S1'' =>
  ∀ b20 : Nat,
  Runs Tryd.prog 25 #[.slice (some ⟨b20, 0, none⟩) 5 5] I1' ((b20, .cells #[.string ⟨#[51, 50]⟩, .string ⟨#[122, 122]⟩, .string ⟨#[49]⟩, .string ⟨#[50, 48, 48, 49]⟩, .string ⟨#[114, 112, 122, 45, 99, 108, 105, 101, 110, 116, 45, 105, 112]⟩] 9 (0, 0)) :: S1'') fun v'' I1'' S1_r3 => ∃ x21_0 x21_1, v'' = .tuple #[.string x21_0, .bool x21_1] ∧
  Runs Tryd.prog 22 #[.string x21_0] I1'' S1_r3 fun v_r3 I1_r3 S1_r4 => ∃ x26_0_0 x26_0_1 x26_0_2 x26_0_3 x26_1, v_r3 = .tuple #[.agg #[.int .i64 x26_0_0, .string x26_0_1, .string x26_0_2, .int .i64 x26_0_3], .bool x26_1] ∧
  ∀ b7 : Nat,
  StP ((b7, .cells #[.int .i64 0, .string ⟨#[]⟩, .string ⟨#[]⟩, .int .i64 0] 29 (0, 0)) :: S1_r4) ⟨b7, 0, none⟩ [.int .i64 x26_0_0, .string x26_0_1, .string x26_0_2, .int .i64 x26_0_3] fun S1_r5 =>
  bcase x16_1
    (∃ x31_0, Cell I1_r3 S1_r5 ⟨b3, 0, none⟩ (.int .i64 x31_0) ∧
    ∃ x31_1, Cell I1_r3 S1_r5 ⟨b3, 1, none⟩ (.string x31_1) ∧
    ∃ x31_2, Cell I1_r3 S1_r5 ⟨b3, 2, none⟩ (.string x31_2) ∧
    ∃ x31_3, Cell I1_r3 S1_r5 ⟨b3, 3, none⟩ (.int .i64 x31_3) ∧
    bcase (((x31_0 : Int) == (3 : Int)) && (((x31_1 : ByteArray) == (⟨#[]⟩ : ByteArray)) && ((((x31_2 : ByteArray) == (⟨#[192, 0, 2, 0]⟩ : ByteArray)) && (((x31_3 : Int) == (24 : Int)) && true)) && true)))
      (bcase x26_1
        (∃ x41, Cell I1_r3 S1_r5 ⟨b7, 0, none⟩ (.int .i64 x41) ∧
        bcase (x41 == (0 : Int))
          (∃ x47, Cell I1_r3 S1_r5 ⟨b7, 3, none⟩ (.int .i64 x47) ∧
          bcase (x47 == (32 : Int))
            (∃ x53, Cell I1_r3 S1_r5 ⟨b7, 2, none⟩ (.string x53) ∧
            bcase ((x53.size : Int) == (16 : Int))
              (∃ x60, Cell I1_r3 S1_r5 ⟨b7, 2, none⟩ (.string x60) ∧
              (0 : Int) ≤ (4 : Int) ∧ (4 : Int) ≤ ((x60.size : Nat) : Int) ∧
              bolterlaw13_awake_b1 R ((x60.extract 0 ((4 : Int).toNat)).toList == (⟨#[32, 1, 0, 1]⟩ : ByteArray).toList) I1_r3 S1_r5)
              (bolterlaw13_awake_b1 R false I1_r3 S1_r5))
            (bolterlaw13_awake_b1 R false I1_r3 S1_r5))
          (bolterlaw13_awake_b1 R false I1_r3 S1_r5))
        (bolterlaw13_awake_b1 R false I1_r3 S1_r5))
      (bolterlaw13_awake_b1 R false I1_r3 S1_r5))
    (bolterlaw13_awake_b1 R false I1_r3 S1_r5)
theorem bolterlaw13_awake_fn (R : Value → IMem → SH → Prop) (I : IMem) (S : SH) (h : bolterlaw13_awake R I S) :
    Runs Tryd.prog 14 #[] I S R := by
  refine Runs.of_wp (args := []) (c := bolterlaw13_awake_code) Tryd.func14 (by kernel_rfl) (by kernel_rfl) ?_
  refine WP.cut 6 (fun l I S => asB (l 0) fun x0 => bolterlaw13_awake_b1 R x0 I S) (cast (by kernel_rfl) h) ?_
  clear h
  intro l I S _ h
  obtain ⟨x0, e0, h⟩ := asB_e h
  rw [upd_eta e0]
  exact Pre.sound _ _ _ _ _ (cast (by kernel_rfl) h)
/-! ### bolterlaw13_Trigger: function 15, bolter/bolterlaw13.Trigger -/
noncomputable def bolterlaw13_Trigger_code : Code := (Tryd.f15.body).getD .skip
def bolterlaw13_Trigger_b4 (R : Value → IMem → SH → Prop) (x8 : Addr) (t_9 : Addr) (I : IMem) (S : SH) : Prop :=
  ∃ x78_0, Cell I S t_9 (.int .i64 x78_0) ∧
  ∃ x78_1, Cell I S (t_9.add 1) (.string x78_1) ∧
  ∃ x78_2, Cell I S (t_9.add 2) (.string x78_2) ∧
  ∃ x78_3, Cell I S (t_9.add 3) (.int .i64 x78_3) ∧
  StP S x8 [.int .i64 x78_0, .string x78_1, .string x78_2, .int .i64 x78_3] fun S1 =>
  ∃ r8_0, Cell I S1 x8 (.int .i64 r8_0) ∧
  ∃ r8_1, Cell I S1 (x8.add 1) (.string r8_1) ∧
  ∃ r8_2, Cell I S1 (x8.add 2) (.string r8_2) ∧
  ∃ r8_3, Cell I S1 (x8.add 3) (.int .i64 r8_3) ∧
  R (.agg #[.int .i64 r8_0, .string r8_1, .string r8_2, .int .i64 r8_3]) I S1
def bolterlaw13_Trigger_b8 (again7 : Addr → Addr → Option Addr → Nat → Nat → Option Addr → Nat → Nat → Int → Int → IMem → SH → Prop) (R : Value → IMem → SH → Prop) (x8 : Addr) (t_9 : Addr) (ls_11 : Option Addr) (ls_11n : Nat) (ls_11c : Nat) (x20 : Option Addr) (x20n : Nat) (x20c : Nat) (x21 : Int) (x22 : Int) (I : IMem) (S : SH) : Prop :=
  again7 x8 t_9 ls_11 ls_11n ls_11c x20 x20n x20c x21 (IntKind.wrap .i64 (x22 + (1 : Int))) I S
def bolterlaw13_Trigger_b11 (R : Value → IMem → SH → Prop) (x8 : Addr) (t_9 : Addr) (ls_11 : Option Addr) (ls_11n : Nat) (ls_11c : Nat) (I : IMem) (S : SH) : Prop :=
  Runs Tryd.prog 25 #[.slice ls_11 ls_11n ls_11c] I S fun v I1 S1 => ∃ x54_0 x54_1, v = .tuple #[.string x54_0, .bool x54_1] ∧
  StP S1 (t_9.add 1) [.string x54_0] fun S1' =>
  bolterlaw13_Trigger_b4 R x8 t_9 I1 S1'
def bolterlaw13_Trigger_b10 (R : Value → IMem → SH → Prop) (x8 : Addr) (t_9 : Addr) (ls_11 : Option Addr) (ls_11n : Nat) (ls_11c : Nat) (x50 : Bool) (I : IMem) (S : SH) : Prop :=
  bcase x50
    (∀ b51 : Nat,
    bolterlaw13_Trigger_b11 R x8 t_9 (some ⟨b51, 0, none⟩) 1 1 I ((b51, .cells #[.string ⟨#[97]⟩] 9 (0, 0)) :: S))
    (bolterlaw13_Trigger_b11 R x8 t_9 ls_11 ls_11n ls_11c I S)
def bolterlaw13_Trigger_b9 (R : Value → IMem → SH → Prop) (x8 : Addr) (t_9 : Addr) (ls_11 : Option Addr) (ls_11n : Nat) (ls_11c : Nat) (I : IMem) (S : SH) : Prop :=
  bcase ((ls_11n : Int) == (0 : Int))
    (∃ x43, Cell I S t_9 (.int .i64 x43) ∧
    bcase (x43 == (1 : Int))
      (bolterlaw13_Trigger_b10 R x8 t_9 ls_11 ls_11n ls_11c true I S)
      (∃ x47, Cell I S t_9 (.int .i64 x47) ∧
      bolterlaw13_Trigger_b10 R x8 t_9 ls_11 ls_11n ls_11c (x47 == (4 : Int)) I S))
    (bolterlaw13_Trigger_b10 R x8 t_9 ls_11 ls_11n ls_11c false I S)
def bolterlaw13_Trigger_l7 (again7 : Addr → Addr → Option Addr → Nat → Nat → Option Addr → Nat → Nat → Int → Int → IMem → SH → Prop) (R : Value → IMem → SH → Prop) (x8 : Addr) (t_9 : Addr) (ls_11 : Option Addr) (ls_11n : Nat) (ls_11c : Nat) (x20 : Option Addr) (x20n : Nat) (x20c : Nat) (x21 : Int) (x22 : Int) (I : IMem) (S : SH) : Prop :=
  bcase (decide (x22 < x21))
    (ptrP x20 fun x24 => (0 : Int) ≤ x22 ∧ x22 < (x20n : Int) ∧
    ∃ x25, Cell I S (x24.add (x22.toNat * 1)) (.int .u8 x25) ∧
    bcase (decide ((ls_11n : Int) < (5 : Int)))
      (∀ b30 : Nat,
      ptrP (some ⟨b30, 0, none⟩) fun x33 => (0 : Int) ≤ (x25.tmod (5 : Int)) ∧ (x25.tmod (5 : Int)) < (5 : Int) ∧
      ∃ x34, Cell I ((b30, .cells #[.string ⟨#[97]⟩, .string ⟨#[98]⟩, .string ⟨#[119, 119, 119]⟩, .string ⟨#[101, 120]⟩, .string ⟨#[111, 114, 103]⟩] 9 (0, 0)) :: S) (x33.add ((x25.tmod (5 : Int)).toNat * 1)) (.string x34) ∧
      ∀ b35 : Nat,
      AppG 9 1 16 [.string ⟨#[]⟩] (some (.slice 9)) I ((b35, .cells #[.string x34] 9 (0, 0)) :: ((b30, .cells #[.string ⟨#[97]⟩, .string ⟨#[98]⟩, .string ⟨#[119, 119, 119]⟩, .string ⟨#[101, 120]⟩, .string ⟨#[111, 114, 103]⟩] 9 (0, 0)) :: S)) (.slice ls_11 ls_11n ls_11c) (.slice (some ⟨b35, 0, none⟩) 1 1) fun x36 x36n x36c S1 =>
      bolterlaw13_Trigger_b8 again7 R x8 t_9 x36 x36n x36c x20 x20n x20c x21 x22 I S1)
      (bolterlaw13_Trigger_b8 again7 R x8 t_9 ls_11 ls_11n ls_11c x20 x20n x20c x21 x22 I S))
    (bolterlaw13_Trigger_b9 R x8 t_9 ls_11 ls_11n ls_11c I S)
def bolterlaw13_Trigger_b6 (R : Value → IMem → SH → Prop) (x8 : Addr) (t_9 : Addr) (ls_11 : Option Addr) (ls_11n : Nat) (ls_11c : Nat) (x20 : Option Addr) (x20n : Nat) (x20c : Nat) (x21 : Int) (x22 : Int) (I : IMem) (S : SH) : Prop :=
  ∃ (Inv : Nat → Addr → Addr → Option Addr → Nat → Nat → Option Addr → Nat → Nat → Int → Int → IMem → SH → Prop) (m : Nat), Inv m x8 t_9 ls_11 ls_11n ls_11c x20 x20n x20c x21 x22 I S ∧
    ∀ (m : Nat) (x8 : Addr) (t_9 : Addr) (ls_11 : Option Addr) (ls_11n : Nat) (ls_11c : Nat) (x20 : Option Addr) (x20n : Nat) (x20c : Nat) (x21 : Int) (x22 : Int) (J : IMem) (T : SH), I.le J → Inv m x8 t_9 ls_11 ls_11n ls_11c x20 x20n x20c x21 x22 J T →
      bolterlaw13_Trigger_l7 (fun x8 t_9 ls_11 ls_11n ls_11c x20 x20n x20c x21 x22 I S => ∃ m', m' < m ∧ Inv m' x8 t_9 ls_11 ls_11n ls_11c x20 x20n x20c x21 x22 I S) R x8 t_9 ls_11 ls_11n ls_11c x20 x20n x20c x21 x22 J T
def bolterlaw13_Trigger_b5 (R : Value → IMem → SH → Prop) (ns_1 : Option Addr) (ns_1n : Nat) (ns_1c : Nat) (x8 : Addr) (t_9 : Addr) (ls_11 : Option Addr) (ls_11n : Nat) (ls_11c : Nat) (I : IMem) (S : SH) : Prop :=
  bolterlaw13_Trigger_b6 R x8 t_9 ls_11 ls_11n ls_11c ns_1 ns_1n ns_1c (ns_1n : Int) 0 I S
def bolterlaw13_Trigger_b3 (R : Value → IMem → SH → Prop) (ns_1 : Option Addr) (ns_1n : Nat) (ns_1c : Nat) (six_2 : Bool) (bits_3 : Int) (x8 : Addr) (t_9 : Addr) (x58 : Bool) (I : IMem) (S : SH) : Prop :=
  bcase x58
    (Runs Tryd.prog 36 #[.bool six_2, .slice ns_1 ns_1n ns_1c] I S fun v I1 S1 => ∃ x64, v = .string x64 ∧
    bcase (decide ((IntKind.wrap .i64 ((IntKind.wrap .i64 ((8 : Int) * (x64.size : Int))) + (1 : Int))) = 0)) False (Runs Tryd.prog 37 #[.string x64, .int .i64 ((IntKind.wrap .i64 bits_3).tmod (IntKind.wrap .i64 ((IntKind.wrap .i64 ((8 : Int) * (x64.size : Int))) + (1 : Int))))] I1 S1 fun v' I1' S1' => ∃ x74_0_0 x74_0_1 x74_1, v' = .tuple #[.agg #[.string x74_0_0, .int .i64 x74_0_1], .bool x74_1] ∧
    StP S1' (t_9.add 2) [.string x74_0_0, .int .i64 x74_0_1] fun S1'' =>
    bolterlaw13_Trigger_b4 R x8 t_9 I1' S1''))
    (bolterlaw13_Trigger_b5 R ns_1 ns_1n ns_1c x8 t_9 none 0 0 I S)
def bolterlaw13_Trigger_b2 (R : Value → IMem → SH → Prop) (ns_1 : Option Addr) (ns_1n : Nat) (ns_1c : Nat) (six_2 : Bool) (bits_3 : Int) (x8 : Addr) (t_9 : Addr) (x19 : Int) (I : IMem) (S : SH) : Prop :=
  bcase (x19 == (0 : Int))
    (bolterlaw13_Trigger_b3 R ns_1 ns_1n ns_1c six_2 bits_3 x8 t_9 (x19 == (0 : Int)) I S)
    (bcase (x19 == (3 : Int))
      (bolterlaw13_Trigger_b3 R ns_1 ns_1n ns_1c six_2 bits_3 x8 t_9 (x19 == (3 : Int)) I S)
      (bolterlaw13_Trigger_b3 R ns_1 ns_1n ns_1c six_2 bits_3 x8 t_9 (x19 == (6 : Int)) I S))
def bolterlaw13_Trigger_b1 (R : Value → IMem → SH → Prop) (ns_1 : Option Addr) (ns_1n : Nat) (ns_1c : Nat) (six_2 : Bool) (bits_3 : Int) (x8 : Addr) (t_9 : Addr) (I : IMem) (S : SH) : Prop :=
  ∃ x19, Cell I S t_9 (.int .i64 x19) ∧
  bolterlaw13_Trigger_b2 R ns_1 ns_1n ns_1c six_2 bits_3 x8 t_9 x19 I S
def bolterlaw13_Trigger (R : Value → IMem → SH → Prop) (kind_0 : Int) (ns_1 : Option Addr) (ns_1n : Nat) (ns_1c : Nat) (six_2 : Bool) (bits_3 : Int) (I : IMem) (S : SH) : Prop :=
  ∀ b8 : Nat,
  ∀ b9 : Nat,
  StP ((b9, .cells #[.int .i64 0, .string ⟨#[]⟩, .string ⟨#[]⟩, .int .i64 0] 29 (0, 0)) :: ((b8, .cells #[.int .i64 0, .string ⟨#[]⟩, .string ⟨#[]⟩, .int .i64 0] 29 (0, 0)) :: S)) ⟨b9, 0, none⟩ [.int .i64 (IntKind.wrap .i64 (kind_0.tmod (7 : Int))), .string ⟨#[]⟩, .string ⟨#[]⟩, .int .i64 0] fun S1 =>
  bolterlaw13_Trigger_b1 R ns_1 ns_1n ns_1c six_2 bits_3 ⟨b8, 0, none⟩ ⟨b9, 0, none⟩ I S1
theorem bolterlaw13_Trigger_fn (R : Value → IMem → SH → Prop) (kind_0 : Int) (ns_1 : Option Addr) (ns_1n : Nat) (ns_1c : Nat) (six_2 : Bool) (bits_3 : Int) (I : IMem) (S : SH) (h : bolterlaw13_Trigger R kind_0 ns_1 ns_1n ns_1c six_2 bits_3 I S) :
    Runs Tryd.prog 15 #[.int .u8 kind_0, .slice ns_1 ns_1n ns_1c, .bool six_2, .int .u8 bits_3] I S R := by
  refine Runs.of_wp (args := [.int .u8 kind_0, .slice ns_1 ns_1n ns_1c, .bool six_2, .int .u8 bits_3]) (c := bolterlaw13_Trigger_code) Tryd.func15 (by kernel_rfl) (by kernel_rfl) ?_
  refine WP.cut 2 (fun l I S => asSl (l 1) fun ns_1 ns_1n ns_1c => asB (l 2) fun six_2 => asI .u8 (l 3) fun bits_3 => asAdr (l 8) fun x8 => asAdr (l 9) fun t_9 => bolterlaw13_Trigger_b1 R ns_1 ns_1n ns_1c six_2 bits_3 x8 t_9 I S) (cast (by kernel_rfl) h) ?_
  clear h
  intro l I S _ h
  obtain ⟨ns_1, ns_1n, ns_1c, e1, h⟩ := asSl_e h
  obtain ⟨six_2, e2, h⟩ := asB_e h
  obtain ⟨bits_3, e3, h⟩ := asI_e h
  obtain ⟨x8, e8, h⟩ := asAdr_e h
  obtain ⟨t_9, e9, h⟩ := asAdr_e h
  rw [upd_eta e1, upd_eta e2, upd_eta e3, upd_eta e8, upd_eta e9]
  refine WP.seqY (by kernel_rfl) (fun l I S => asAdr (l 8) fun x8 => asAdr (l 9) fun t_9 => bolterlaw13_Trigger_b4 R x8 t_9 I S) ?_ ?_
  ·
    refine WP.cut 1 (fun l I S => asSl (l 1) fun ns_1 ns_1n ns_1c => asB (l 2) fun six_2 => asI .u8 (l 3) fun bits_3 => asAdr (l 8) fun x8 => asAdr (l 9) fun t_9 => asI .i64 (l 19) fun x19 => bolterlaw13_Trigger_b2 R ns_1 ns_1n ns_1c six_2 bits_3 x8 t_9 x19 I S) (cast (by kernel_rfl) h) ?_
    clear h
    intro l I S _ h
    obtain ⟨ns_1, ns_1n, ns_1c, e1, h⟩ := asSl_e h
    obtain ⟨six_2, e2, h⟩ := asB_e h
    obtain ⟨bits_3, e3, h⟩ := asI_e h
    obtain ⟨x8, e8, h⟩ := asAdr_e h
    obtain ⟨t_9, e9, h⟩ := asAdr_e h
    obtain ⟨x19, e19, h⟩ := asI_e h
    rw [upd_eta e1, upd_eta e2, upd_eta e3, upd_eta e8, upd_eta e9, upd_eta e19]
    refine WP.block' (by kernel_rfl) ?_
    refine WP.cut 1 (fun l I S => asSl (l 1) fun ns_1 ns_1n ns_1c => asB (l 2) fun six_2 => asI .u8 (l 3) fun bits_3 => asAdr (l 8) fun x8 => asAdr (l 9) fun t_9 => asB (l 58) fun x58 => bolterlaw13_Trigger_b3 R ns_1 ns_1n ns_1c six_2 bits_3 x8 t_9 x58 I S) (cast (by kernel_rfl) h) ?_
    clear h
    intro l I S _ h
    obtain ⟨ns_1, ns_1n, ns_1c, e1, h⟩ := asSl_e h
    obtain ⟨six_2, e2, h⟩ := asB_e h
    obtain ⟨bits_3, e3, h⟩ := asI_e h
    obtain ⟨x8, e8, h⟩ := asAdr_e h
    obtain ⟨t_9, e9, h⟩ := asAdr_e h
    obtain ⟨x58, e58, h⟩ := asB_e h
    rw [upd_eta e1, upd_eta e2, upd_eta e3, upd_eta e8, upd_eta e9, upd_eta e58]
    refine WP.cond' (by kernel_rfl) (by kernel_rfl) h ?_ ?_
    · clear h
      intro h
      exact Pre.sound _ _ _ _ _ (cast (by kernel_rfl) h)
    · clear h
      intro h
      refine WP.cut 1 (fun l I S => asSl (l 1) fun ns_1 ns_1n ns_1c => asAdr (l 8) fun x8 => asAdr (l 9) fun t_9 => asSl (l 11) fun ls_11 ls_11n ls_11c => bolterlaw13_Trigger_b5 R ns_1 ns_1n ns_1c x8 t_9 ls_11 ls_11n ls_11c I S) (cast (by kernel_rfl) h) ?_
      clear h
      intro l I S _ h
      obtain ⟨ns_1, ns_1n, ns_1c, e1, h⟩ := asSl_e h
      obtain ⟨x8, e8, h⟩ := asAdr_e h
      obtain ⟨t_9, e9, h⟩ := asAdr_e h
      obtain ⟨ls_11, ls_11n, ls_11c, e11, h⟩ := asSl_e h
      rw [upd_eta e1, upd_eta e8, upd_eta e9, upd_eta e11]
      refine WP.seqY (by kernel_rfl) (fun l I S => asAdr (l 8) fun x8 => asAdr (l 9) fun t_9 => asSl (l 11) fun ls_11 ls_11n ls_11c => bolterlaw13_Trigger_b9 R x8 t_9 ls_11 ls_11n ls_11c I S) ?_ ?_
      ·
        refine WP.cut 1 (fun l I S => asAdr (l 8) fun x8 => asAdr (l 9) fun t_9 => asSl (l 11) fun ls_11 ls_11n ls_11c => asSl (l 20) fun x20 x20n x20c => asI .i64 (l 21) fun x21 => asI .i64 (l 22) fun x22 => bolterlaw13_Trigger_b6 R x8 t_9 ls_11 ls_11n ls_11c x20 x20n x20c x21 x22 I S) (cast (by kernel_rfl) h) ?_
        clear h
        intro l I S _ h
        obtain ⟨x8, e8, h⟩ := asAdr_e h
        obtain ⟨t_9, e9, h⟩ := asAdr_e h
        obtain ⟨ls_11, ls_11n, ls_11c, e11, h⟩ := asSl_e h
        obtain ⟨x20, x20n, x20c, e20, h⟩ := asSl_e h
        obtain ⟨x21, e21, h⟩ := asI_e h
        obtain ⟨x22, e22, h⟩ := asI_e h
        rw [upd_eta e8, upd_eta e9, upd_eta e11, upd_eta e20, upd_eta e21, upd_eta e22]
        refine WP.block' (by kernel_rfl) ?_
        obtain ⟨Inv_again7, m_again7, h0, hr⟩ := h
        refine WP.loop' (by kernel_rfl) (fun m_again7 => fun l I S => asAdr (l 8) fun x8 => asAdr (l 9) fun t_9 => asSl (l 11) fun ls_11 ls_11n ls_11c => asSl (l 20) fun x20 x20n x20c => asI .i64 (l 21) fun x21 => asI .i64 (l 22) fun x22 => Inv_again7 m_again7 x8 t_9 ls_11 ls_11n ls_11c x20 x20n x20c x21 x22 I S) m_again7 (cast (by kernel_rfl) h0) ?_
        clear h0
        intro m_again7 l I S hle h
        obtain ⟨x8, e8, h⟩ := asAdr_e h
        obtain ⟨t_9, e9, h⟩ := asAdr_e h
        obtain ⟨ls_11, ls_11n, ls_11c, e11, h⟩ := asSl_e h
        obtain ⟨x20, x20n, x20c, e20, h⟩ := asSl_e h
        obtain ⟨x21, e21, h⟩ := asI_e h
        obtain ⟨x22, e22, h⟩ := asI_e h
        rw [upd_eta e8, upd_eta e9, upd_eta e11, upd_eta e20, upd_eta e21, upd_eta e22]
        have h := hr m_again7 x8 t_9 ls_11 ls_11n ls_11c x20 x20n x20c x21 x22 I S hle h
        clear hr hle
        refine WP.cut 3 (fun l I S => asAdr (l 8) fun x8 => asAdr (l 9) fun t_9 => asSl (l 11) fun ls_11 ls_11n ls_11c => asSl (l 20) fun x20 x20n x20c => asI .i64 (l 21) fun x21 => asI .i64 (l 22) fun x22 => bolterlaw13_Trigger_b8 (fun x8 t_9 ls_11 ls_11n ls_11c x20 x20n x20c x21 x22 I S => ∃ m', m' < m_again7 ∧ Inv_again7 m' x8 t_9 ls_11 ls_11n ls_11c x20 x20n x20c x21 x22 I S) R x8 t_9 ls_11 ls_11n ls_11c x20 x20n x20c x21 x22 I S) (cast (by kernel_rfl) h) ?_
        clear h
        intro l I S _ h
        obtain ⟨x8, e8, h⟩ := asAdr_e h
        obtain ⟨t_9, e9, h⟩ := asAdr_e h
        obtain ⟨ls_11, ls_11n, ls_11c, e11, h⟩ := asSl_e h
        obtain ⟨x20, x20n, x20c, e20, h⟩ := asSl_e h
        obtain ⟨x21, e21, h⟩ := asI_e h
        obtain ⟨x22, e22, h⟩ := asI_e h
        rw [upd_eta e8, upd_eta e9, upd_eta e11, upd_eta e20, upd_eta e21, upd_eta e22]
        exact Pre.sound _ _ _ _ _ (cast (by kernel_rfl) h)
      · clear h
        intro l I S _ h
        obtain ⟨x8, e8, h⟩ := asAdr_e h
        obtain ⟨t_9, e9, h⟩ := asAdr_e h
        obtain ⟨ls_11, ls_11n, ls_11c, e11, h⟩ := asSl_e h
        rw [upd_eta e8, upd_eta e9, upd_eta e11]
        refine WP.seqY (by kernel_rfl) (fun l I S => asAdr (l 8) fun x8 => asAdr (l 9) fun t_9 => asSl (l 11) fun ls_11 ls_11n ls_11c => bolterlaw13_Trigger_b11 R x8 t_9 ls_11 ls_11n ls_11c I S) ?_ ?_
        ·
          refine WP.cut 1 (fun l I S => asAdr (l 8) fun x8 => asAdr (l 9) fun t_9 => asSl (l 11) fun ls_11 ls_11n ls_11c => asB (l 50) fun x50 => bolterlaw13_Trigger_b10 R x8 t_9 ls_11 ls_11n ls_11c x50 I S) (cast (by kernel_rfl) h) ?_
          clear h
          intro l I S _ h
          obtain ⟨x8, e8, h⟩ := asAdr_e h
          obtain ⟨t_9, e9, h⟩ := asAdr_e h
          obtain ⟨ls_11, ls_11n, ls_11c, e11, h⟩ := asSl_e h
          obtain ⟨x50, e50, h⟩ := asB_e h
          rw [upd_eta e8, upd_eta e9, upd_eta e11, upd_eta e50]
          exact Pre.sound _ _ _ _ _ (cast (by kernel_rfl) h)
        · clear h
          intro l I S _ h
          obtain ⟨x8, e8, h⟩ := asAdr_e h
          obtain ⟨t_9, e9, h⟩ := asAdr_e h
          obtain ⟨ls_11, ls_11n, ls_11c, e11, h⟩ := asSl_e h
          rw [upd_eta e8, upd_eta e9, upd_eta e11]
          exact Pre.sound _ _ _ _ _ (cast (by kernel_rfl) h)
  · clear h
    intro l I S _ h
    obtain ⟨x8, e8, h⟩ := asAdr_e h
    obtain ⟨t_9, e9, h⟩ := asAdr_e h
    rw [upd_eta e8, upd_eta e9]
    exact Pre.sound _ _ _ _ _ (cast (by kernel_rfl) h)
/-! ### bolterlaw13_same: function 18, bolter/bolterlaw13.same -/
noncomputable def bolterlaw13_same_code : Code := (Tryd.f18.body).getD .skip
def bolterlaw13_same_b7 (again3 : Option Addr → Nat → Nat → Option Addr → Nat → Nat → Int → Int → IMem → SH → Prop) (R : Value → IMem → SH → Prop) (a_0 : Option Addr) (a_0n : Nat) (a_0c : Nat) (b_1 : Option Addr) (b_1n : Nat) (b_1c : Nat) (x12 : Int) (x13 : Int) (I : IMem) (S : SH) : Prop :=
  again3 a_0 a_0n a_0c b_1 b_1n b_1c x12 (IntKind.wrap .i64 (x13 + (1 : Int))) I S
def bolterlaw13_same_b6 (again3 : Option Addr → Nat → Nat → Option Addr → Nat → Nat → Int → Int → IMem → SH → Prop) (R : Value → IMem → SH → Prop) (a_0 : Option Addr) (a_0n : Nat) (a_0c : Nat) (b_1 : Option Addr) (b_1n : Nat) (b_1c : Nat) (x12 : Int) (x13 : Int) (x24 : Bool) (I : IMem) (S : SH) : Prop :=
  bcase x24
    (R (.bool false) I S)
    (bolterlaw13_same_b7 again3 R a_0 a_0n a_0c b_1 b_1n b_1c x12 x13 I S)
def bolterlaw13_same_b5 (again3 : Option Addr → Nat → Nat → Option Addr → Nat → Nat → Int → Int → IMem → SH → Prop) (R : Value → IMem → SH → Prop) (a_0 : Option Addr) (a_0n : Nat) (a_0c : Nat) (b_1 : Option Addr) (b_1n : Nat) (b_1c : Nat) (k_5 : Int) (x12 : Int) (x13 : Int) (I : IMem) (S : SH) : Prop :=
  ptrP a_0 fun x18 => (0 : Int) ≤ k_5 ∧ k_5 < (a_0n : Int) ∧
  ∃ x19, Cell I S (x18.add (k_5.toNat * 1)) (.string x19) ∧
  ptrP b_1 fun x22 => (0 : Int) ≤ k_5 ∧ k_5 < (b_1n : Int) ∧
  ∃ x23, Cell I S (x22.add (k_5.toNat * 1)) (.string x23) ∧
  bolterlaw13_same_b6 again3 R a_0 a_0n a_0c b_1 b_1n b_1c x12 x13 (!(x19.toList == x23.toList)) I S
def bolterlaw13_same_b4 (again3 : Option Addr → Nat → Nat → Option Addr → Nat → Nat → Int → Int → IMem → SH → Prop) (R : Value → IMem → SH → Prop) (a_0 : Option Addr) (a_0n : Nat) (a_0c : Nat) (b_1 : Option Addr) (b_1n : Nat) (b_1c : Nat) (x12 : Int) (x13 : Int) (I : IMem) (S : SH) : Prop :=
  bolterlaw13_same_b5 again3 R a_0 a_0n a_0c b_1 b_1n b_1c x13 x12 x13 I S
def bolterlaw13_same_b8 (R : Value → IMem → SH → Prop) (I : IMem) (S : SH) : Prop :=
  R (.bool true) I S
def bolterlaw13_same_l3 (again3 : Option Addr → Nat → Nat → Option Addr → Nat → Nat → Int → Int → IMem → SH → Prop) (R : Value → IMem → SH → Prop) (a_0 : Option Addr) (a_0n : Nat) (a_0c : Nat) (b_1 : Option Addr) (b_1n : Nat) (b_1c : Nat) (x12 : Int) (x13 : Int) (I : IMem) (S : SH) : Prop :=
  bcase (decide (x13 < x12))
    (bolterlaw13_same_b4 again3 R a_0 a_0n a_0c b_1 b_1n b_1c x12 x13 I S)
    (bolterlaw13_same_b8 R I S)
def bolterlaw13_same_b2 (R : Value → IMem → SH → Prop) (a_0 : Option Addr) (a_0n : Nat) (a_0c : Nat) (b_1 : Option Addr) (b_1n : Nat) (b_1c : Nat) (x12 : Int) (x13 : Int) (I : IMem) (S : SH) : Prop :=
  ∃ (Inv : Nat → Option Addr → Nat → Nat → Option Addr → Nat → Nat → Int → Int → IMem → SH → Prop) (m : Nat), Inv m a_0 a_0n a_0c b_1 b_1n b_1c x12 x13 I S ∧
    ∀ (m : Nat) (a_0 : Option Addr) (a_0n : Nat) (a_0c : Nat) (b_1 : Option Addr) (b_1n : Nat) (b_1c : Nat) (x12 : Int) (x13 : Int) (J : IMem) (T : SH), I.le J → Inv m a_0 a_0n a_0c b_1 b_1n b_1c x12 x13 J T →
      bolterlaw13_same_l3 (fun a_0 a_0n a_0c b_1 b_1n b_1c x12 x13 I S => ∃ m', m' < m ∧ Inv m' a_0 a_0n a_0c b_1 b_1n b_1c x12 x13 I S) R a_0 a_0n a_0c b_1 b_1n b_1c x12 x13 J T
def bolterlaw13_same_b1 (R : Value → IMem → SH → Prop) (a_0 : Option Addr) (a_0n : Nat) (a_0c : Nat) (b_1 : Option Addr) (b_1n : Nat) (b_1c : Nat) (I : IMem) (S : SH) : Prop :=
  bolterlaw13_same_b2 R a_0 a_0n a_0c b_1 b_1n b_1c (a_0n : Int) 0 I S
def bolterlaw13_same (R : Value → IMem → SH → Prop) (a_0 : Option Addr) (a_0n : Nat) (a_0c : Nat) (b_1 : Option Addr) (b_1n : Nat) (b_1c : Nat) (I : IMem) (S : SH) : Prop :=
  bcase ((a_0n : Int) != (b_1n : Int))
    (R (.bool false) I S)
    (bolterlaw13_same_b1 R a_0 a_0n a_0c b_1 b_1n b_1c I S)
theorem bolterlaw13_same_fn (R : Value → IMem → SH → Prop) (a_0 : Option Addr) (a_0n : Nat) (a_0c : Nat) (b_1 : Option Addr) (b_1n : Nat) (b_1c : Nat) (I : IMem) (S : SH) (h : bolterlaw13_same R a_0 a_0n a_0c b_1 b_1n b_1c I S) :
    Runs Tryd.prog 18 #[.slice a_0 a_0n a_0c, .slice b_1 b_1n b_1c] I S R := by
  refine Runs.of_wp (args := [.slice a_0 a_0n a_0c, .slice b_1 b_1n b_1c]) (c := bolterlaw13_same_code) Tryd.func18 (by kernel_rfl) (by kernel_rfl) ?_
  refine WP.cut 2 (fun l I S => asSl (l 0) fun a_0 a_0n a_0c => asSl (l 1) fun b_1 b_1n b_1c => bolterlaw13_same_b1 R a_0 a_0n a_0c b_1 b_1n b_1c I S) (cast (by kernel_rfl) h) ?_
  clear h
  intro l I S _ h
  obtain ⟨a_0, a_0n, a_0c, e0, h⟩ := asSl_e h
  obtain ⟨b_1, b_1n, b_1c, e1, h⟩ := asSl_e h
  rw [upd_eta e0, upd_eta e1]
  refine WP.seqY (by kernel_rfl) (fun l I S => bolterlaw13_same_b8 R I S) ?_ ?_
  ·
    refine WP.cut 1 (fun l I S => asSl (l 0) fun a_0 a_0n a_0c => asSl (l 1) fun b_1 b_1n b_1c => asI .i64 (l 12) fun x12 => asI .i64 (l 13) fun x13 => bolterlaw13_same_b2 R a_0 a_0n a_0c b_1 b_1n b_1c x12 x13 I S) (cast (by kernel_rfl) h) ?_
    clear h
    intro l I S _ h
    obtain ⟨a_0, a_0n, a_0c, e0, h⟩ := asSl_e h
    obtain ⟨b_1, b_1n, b_1c, e1, h⟩ := asSl_e h
    obtain ⟨x12, e12, h⟩ := asI_e h
    obtain ⟨x13, e13, h⟩ := asI_e h
    rw [upd_eta e0, upd_eta e1, upd_eta e12, upd_eta e13]
    refine WP.block' (by kernel_rfl) ?_
    obtain ⟨Inv_again3, m_again3, h0, hr⟩ := h
    refine WP.loop' (by kernel_rfl) (fun m_again3 => fun l I S => asSl (l 0) fun a_0 a_0n a_0c => asSl (l 1) fun b_1 b_1n b_1c => asI .i64 (l 12) fun x12 => asI .i64 (l 13) fun x13 => Inv_again3 m_again3 a_0 a_0n a_0c b_1 b_1n b_1c x12 x13 I S) m_again3 (cast (by kernel_rfl) h0) ?_
    clear h0
    intro m_again3 l I S hle h
    obtain ⟨a_0, a_0n, a_0c, e0, h⟩ := asSl_e h
    obtain ⟨b_1, b_1n, b_1c, e1, h⟩ := asSl_e h
    obtain ⟨x12, e12, h⟩ := asI_e h
    obtain ⟨x13, e13, h⟩ := asI_e h
    rw [upd_eta e0, upd_eta e1, upd_eta e12, upd_eta e13]
    have h := hr m_again3 a_0 a_0n a_0c b_1 b_1n b_1c x12 x13 I S hle h
    clear hr hle
    refine WP.cut 2 (fun l I S => asSl (l 0) fun a_0 a_0n a_0c => asSl (l 1) fun b_1 b_1n b_1c => asI .i64 (l 12) fun x12 => asI .i64 (l 13) fun x13 => bolterlaw13_same_b4 (fun a_0 a_0n a_0c b_1 b_1n b_1c x12 x13 I S => ∃ m', m' < m_again3 ∧ Inv_again3 m' a_0 a_0n a_0c b_1 b_1n b_1c x12 x13 I S) R a_0 a_0n a_0c b_1 b_1n b_1c x12 x13 I S) (cast (by kernel_rfl) h) ?_
    clear h
    intro l I S _ h
    obtain ⟨a_0, a_0n, a_0c, e0, h⟩ := asSl_e h
    obtain ⟨b_1, b_1n, b_1c, e1, h⟩ := asSl_e h
    obtain ⟨x12, e12, h⟩ := asI_e h
    obtain ⟨x13, e13, h⟩ := asI_e h
    rw [upd_eta e0, upd_eta e1, upd_eta e12, upd_eta e13]
    refine WP.seqY (by kernel_rfl) (fun l I S => asSl (l 0) fun a_0 a_0n a_0c => asSl (l 1) fun b_1 b_1n b_1c => asI .i64 (l 12) fun x12 => asI .i64 (l 13) fun x13 => bolterlaw13_same_b7 (fun a_0 a_0n a_0c b_1 b_1n b_1c x12 x13 I S => ∃ m', m' < m_again3 ∧ Inv_again3 m' a_0 a_0n a_0c b_1 b_1n b_1c x12 x13 I S) R a_0 a_0n a_0c b_1 b_1n b_1c x12 x13 I S) ?_ ?_
    ·
      refine WP.block' (by kernel_rfl) ?_
      refine WP.cut 1 (fun l I S => asSl (l 0) fun a_0 a_0n a_0c => asSl (l 1) fun b_1 b_1n b_1c => asI .i64 (l 5) fun k_5 => asI .i64 (l 12) fun x12 => asI .i64 (l 13) fun x13 => bolterlaw13_same_b5 (fun a_0 a_0n a_0c b_1 b_1n b_1c x12 x13 I S => ∃ m', m' < m_again3 ∧ Inv_again3 m' a_0 a_0n a_0c b_1 b_1n b_1c x12 x13 I S) R a_0 a_0n a_0c b_1 b_1n b_1c k_5 x12 x13 I S) (cast (by kernel_rfl) h) ?_
      clear h
      intro l I S _ h
      obtain ⟨a_0, a_0n, a_0c, e0, h⟩ := asSl_e h
      obtain ⟨b_1, b_1n, b_1c, e1, h⟩ := asSl_e h
      obtain ⟨k_5, e5, h⟩ := asI_e h
      obtain ⟨x12, e12, h⟩ := asI_e h
      obtain ⟨x13, e13, h⟩ := asI_e h
      rw [upd_eta e0, upd_eta e1, upd_eta e5, upd_eta e12, upd_eta e13]
      refine WP.seqY (by kernel_rfl) (fun l I S => asSl (l 0) fun a_0 a_0n a_0c => asSl (l 1) fun b_1 b_1n b_1c => asI .i64 (l 12) fun x12 => asI .i64 (l 13) fun x13 => asB (l 24) fun x24 => bolterlaw13_same_b6 (fun a_0 a_0n a_0c b_1 b_1n b_1c x12 x13 I S => ∃ m', m' < m_again3 ∧ Inv_again3 m' a_0 a_0n a_0c b_1 b_1n b_1c x12 x13 I S) R a_0 a_0n a_0c b_1 b_1n b_1c x12 x13 x24 I S) ?_ ?_
      ·
        exact WP.quiet' (by kernel_rfl) (by kernel_rfl) (by kernel_rfl) (cast (by kernel_rfl) h)
      · clear h
        intro l I S _ h
        obtain ⟨a_0, a_0n, a_0c, e0, h⟩ := asSl_e h
        obtain ⟨b_1, b_1n, b_1c, e1, h⟩ := asSl_e h
        obtain ⟨x12, e12, h⟩ := asI_e h
        obtain ⟨x13, e13, h⟩ := asI_e h
        obtain ⟨x24, e24, h⟩ := asB_e h
        rw [upd_eta e0, upd_eta e1, upd_eta e12, upd_eta e13, upd_eta e24]
        exact Pre.sound _ _ _ _ _ (cast (by kernel_rfl) h)
    · clear h
      intro l I S _ h
      obtain ⟨a_0, a_0n, a_0c, e0, h⟩ := asSl_e h
      obtain ⟨b_1, b_1n, b_1c, e1, h⟩ := asSl_e h
      obtain ⟨x12, e12, h⟩ := asI_e h
      obtain ⟨x13, e13, h⟩ := asI_e h
      rw [upd_eta e0, upd_eta e1, upd_eta e12, upd_eta e13]
      exact Pre.sound _ _ _ _ _ (cast (by kernel_rfl) h)
  · clear h
    intro l I S _ h
    exact Pre.sound _ _ _ _ _ (cast (by kernel_rfl) h)
/-! ### bolterlaw13_labels: function 19, bolter/bolterlaw13.labels -/
noncomputable def bolterlaw13_labels_code : Code := (Tryd.f19.body).getD .skip
def bolterlaw13_labels_b5 (R : Value → IMem → SH → Prop) (out_3 : Option Addr) (out_3n : Nat) (out_3c : Nat) (I : IMem) (S : SH) : Prop :=
  R (.slice out_3 out_3n out_3c) I S
def bolterlaw13_labels_l4 (again4 : Addr → Option Addr → Nat → Nat → Int → IMem → SH → Prop) (R : Value → IMem → SH → Prop) (p_1 : Addr) (out_3 : Option Addr) (out_3n : Nat) (out_3c : Nat) (k_4 : Int) (I : IMem) (S : SH) : Prop :=
  bcase (decide (k_4 ≥ (0 : Int)))
    (∃ x26, Cell I S p_1 (.string x26) ∧
    ∃ cx28 : UInt8, (0 : Int) ≤ k_4 ∧ x26[k_4.toNat]? = some cx28 ∧
    Runs Tryd.prog 44 #[.int .i64 (IntKind.wrap .i64 (cx28.toNat : Int)), .int .i64 10] I S fun v I1 S1 => ∃ x30, v = .string x30 ∧
    ∀ b31 : Nat,
    AppG 9 1 16 [.string ⟨#[]⟩] (some (.slice 9)) I1 ((b31, .cells #[.string x30] 9 (0, 0)) :: S1) (.slice out_3 out_3n out_3c) (.slice (some ⟨b31, 0, none⟩) 1 1) fun x32 x32n x32c S1' =>
    again4 p_1 x32 x32n x32c (IntKind.wrap .i64 (k_4 - (1 : Int))) I1 S1')
    (bolterlaw13_labels_b5 R out_3 out_3n out_3c I S)
def bolterlaw13_labels_b3 (R : Value → IMem → SH → Prop) (p_1 : Addr) (out_3 : Option Addr) (out_3n : Nat) (out_3c : Nat) (k_4 : Int) (I : IMem) (S : SH) : Prop :=
  ∃ (Inv : Nat → Addr → Option Addr → Nat → Nat → Int → IMem → SH → Prop) (m : Nat), Inv m p_1 out_3 out_3n out_3c k_4 I S ∧
    ∀ (m : Nat) (p_1 : Addr) (out_3 : Option Addr) (out_3n : Nat) (out_3c : Nat) (k_4 : Int) (J : IMem) (T : SH), I.le J → Inv m p_1 out_3 out_3n out_3c k_4 J T →
      bolterlaw13_labels_l4 (fun p_1 out_3 out_3n out_3c k_4 I S => ∃ m', m' < m ∧ Inv m' p_1 out_3 out_3n out_3c k_4 I S) R p_1 out_3 out_3n out_3c k_4 J T
def bolterlaw13_labels_b11 (again9 : Addr → Option Addr → Nat → Nat → Option Addr → Nat → Nat → Int → IMem → SH → Prop) (R : Value → IMem → SH → Prop) (p_1 : Addr) (out_3 : Option Addr) (out_3n : Nat) (out_3c : Nat) (words_5 : Option Addr) (words_5n : Nat) (words_5c : Nat) (k_6 : Int) (I : IMem) (S : SH) : Prop :=
  again9 p_1 out_3 out_3n out_3c words_5 words_5n words_5c (IntKind.wrap .i64 (k_6 + (2 : Int))) I S
def bolterlaw13_labels_b10 (again9 : Addr → Option Addr → Nat → Nat → Option Addr → Nat → Nat → Int → IMem → SH → Prop) (R : Value → IMem → SH → Prop) (p_1 : Addr) (out_3 : Option Addr) (out_3n : Nat) (out_3c : Nat) (words_5 : Option Addr) (words_5n : Nat) (words_5c : Nat) (k_6 : Int) (I : IMem) (S : SH) : Prop :=
  ∃ x40, Cell I S p_1 (.string x40) ∧
  ∃ cx42 : UInt8, (0 : Int) ≤ k_6 ∧ x40[k_6.toNat]? = some cx42 ∧
  ∃ x46, Cell I S p_1 (.string x46) ∧
  ∃ cx49 : UInt8, (0 : Int) ≤ (IntKind.wrap .i64 (k_6 + (1 : Int))) ∧ x46[(IntKind.wrap .i64 (k_6 + (1 : Int))).toNat]? = some cx49 ∧
  ∀ b52 : Nat,
  AppG 3 1 8 [.int .i64 0] (some (.slice 3)) I ((b52, .cells #[.int .i64 (IntKind.wrap .i64 ((IntKind.wrap .i64 ((IntKind.wrap .i64 (cx42.toNat : Int)) * (256 : Int))) + (IntKind.wrap .i64 (cx49.toNat : Int))))] 3 (0, 0)) :: S) (.slice words_5 words_5n words_5c) (.slice (some ⟨b52, 0, none⟩) 1 1) fun x53 x53n x53c S1 =>
  bolterlaw13_labels_b11 again9 R p_1 out_3 out_3n out_3c x53 x53n x53c k_6 I S1
def bolterlaw13_labels_b20 (again15 : Option Addr → Nat → Nat → Option Addr → Nat → Nat → Int → Int → Int → IMem → SH → Prop) (again18 : Option Addr → Nat → Nat → Option Addr → Nat → Nat → Int → Int → Int → Int → IMem → SH → Prop) (R : Value → IMem → SH → Prop) (out_3 : Option Addr) (out_3n : Nat) (out_3c : Nat) (words_5 : Option Addr) (words_5n : Nat) (words_5c : Nat) (from_7 : Int) (most_8 : Int) (k_9 : Int) (n_10 : Int) (I : IMem) (S : SH) : Prop :=
  again18 out_3 out_3n out_3c words_5 words_5n words_5c from_7 most_8 k_9 (IntKind.wrap .i64 (n_10 + (1 : Int))) I S
def bolterlaw13_labels_b22 (again15 : Option Addr → Nat → Nat → Option Addr → Nat → Nat → Int → Int → Int → IMem → SH → Prop) (R : Value → IMem → SH → Prop) (out_3 : Option Addr) (out_3n : Nat) (out_3c : Nat) (words_5 : Option Addr) (words_5n : Nat) (words_5c : Nat) (from_7 : Int) (most_8 : Int) (k_9 : Int) (I : IMem) (S : SH) : Prop :=
  again15 out_3 out_3n out_3c words_5 words_5n words_5c from_7 most_8 (IntKind.wrap .i64 (k_9 - (1 : Int))) I S
def bolterlaw13_labels_b21 (again15 : Option Addr → Nat → Nat → Option Addr → Nat → Nat → Int → Int → Int → IMem → SH → Prop) (R : Value → IMem → SH → Prop) (out_3 : Option Addr) (out_3n : Nat) (out_3c : Nat) (words_5 : Option Addr) (words_5n : Nat) (words_5c : Nat) (from_7 : Int) (most_8 : Int) (k_9 : Int) (n_10 : Int) (I : IMem) (S : SH) : Prop :=
  bcase (decide (n_10 ≥ (if most_8 > (2 : Int) then most_8 else (2 : Int))))
    (bolterlaw13_labels_b22 again15 R out_3 out_3n out_3c words_5 words_5n words_5c k_9 n_10 k_9 I S)
    (bolterlaw13_labels_b22 again15 R out_3 out_3n out_3c words_5 words_5n words_5c from_7 most_8 k_9 I S)
def bolterlaw13_labels_b19 (again15 : Option Addr → Nat → Nat → Option Addr → Nat → Nat → Int → Int → Int → IMem → SH → Prop) (again18 : Option Addr → Nat → Nat → Option Addr → Nat → Nat → Int → Int → Int → Int → IMem → SH → Prop) (R : Value → IMem → SH → Prop) (out_3 : Option Addr) (out_3n : Nat) (out_3c : Nat) (words_5 : Option Addr) (words_5n : Nat) (words_5c : Nat) (from_7 : Int) (most_8 : Int) (k_9 : Int) (n_10 : Int) (x70 : Bool) (I : IMem) (S : SH) : Prop :=
  bcase x70
    (bolterlaw13_labels_b20 again15 again18 R out_3 out_3n out_3c words_5 words_5n words_5c from_7 most_8 k_9 n_10 I S)
    (bolterlaw13_labels_b21 again15 R out_3 out_3n out_3c words_5 words_5n words_5c from_7 most_8 k_9 n_10 I S)
def bolterlaw13_labels_l18 (again15 : Option Addr → Nat → Nat → Option Addr → Nat → Nat → Int → Int → Int → IMem → SH → Prop) (again18 : Option Addr → Nat → Nat → Option Addr → Nat → Nat → Int → Int → Int → Int → IMem → SH → Prop) (R : Value → IMem → SH → Prop) (out_3 : Option Addr) (out_3n : Nat) (out_3c : Nat) (words_5 : Option Addr) (words_5n : Nat) (words_5c : Nat) (from_7 : Int) (most_8 : Int) (k_9 : Int) (n_10 : Int) (I : IMem) (S : SH) : Prop :=
  bcase (decide ((IntKind.wrap .i64 (k_9 + n_10)) < (8 : Int)))
    (ptrP words_5 fun x67 => (0 : Int) ≤ (IntKind.wrap .i64 (k_9 + n_10)) ∧ (IntKind.wrap .i64 (k_9 + n_10)) < (words_5n : Int) ∧
    ∃ x68, Cell I S (x67.add ((IntKind.wrap .i64 (k_9 + n_10)).toNat * 1)) (.int .i64 x68) ∧
    bolterlaw13_labels_b19 again15 again18 R out_3 out_3n out_3c words_5 words_5n words_5c from_7 most_8 k_9 n_10 (x68 == (0 : Int)) I S)
    (bolterlaw13_labels_b19 again15 again18 R out_3 out_3n out_3c words_5 words_5n words_5c from_7 most_8 k_9 n_10 false I S)
def bolterlaw13_labels_b17 (again15 : Option Addr → Nat → Nat → Option Addr → Nat → Nat → Int → Int → Int → IMem → SH → Prop) (R : Value → IMem → SH → Prop) (out_3 : Option Addr) (out_3n : Nat) (out_3c : Nat) (words_5 : Option Addr) (words_5n : Nat) (words_5c : Nat) (from_7 : Int) (most_8 : Int) (k_9 : Int) (n_10 : Int) (I : IMem) (S : SH) : Prop :=
  ∃ (Inv : Nat → Option Addr → Nat → Nat → Option Addr → Nat → Nat → Int → Int → Int → Int → IMem → SH → Prop) (m : Nat), Inv m out_3 out_3n out_3c words_5 words_5n words_5c from_7 most_8 k_9 n_10 I S ∧
    ∀ (m : Nat) (out_3 : Option Addr) (out_3n : Nat) (out_3c : Nat) (words_5 : Option Addr) (words_5n : Nat) (words_5c : Nat) (from_7 : Int) (most_8 : Int) (k_9 : Int) (n_10 : Int) (J : IMem) (T : SH), I.le J → Inv m out_3 out_3n out_3c words_5 words_5n words_5c from_7 most_8 k_9 n_10 J T →
      bolterlaw13_labels_l18 again15 (fun out_3 out_3n out_3c words_5 words_5n words_5c from_7 most_8 k_9 n_10 I S => ∃ m', m' < m ∧ Inv m' out_3 out_3n out_3c words_5 words_5n words_5c from_7 most_8 k_9 n_10 I S) R out_3 out_3n out_3c words_5 words_5n words_5c from_7 most_8 k_9 n_10 J T
def bolterlaw13_labels_b16 (again15 : Option Addr → Nat → Nat → Option Addr → Nat → Nat → Int → Int → Int → IMem → SH → Prop) (R : Value → IMem → SH → Prop) (out_3 : Option Addr) (out_3n : Nat) (out_3c : Nat) (words_5 : Option Addr) (words_5n : Nat) (words_5c : Nat) (from_7 : Int) (most_8 : Int) (k_9 : Int) (I : IMem) (S : SH) : Prop :=
  bolterlaw13_labels_b17 again15 R out_3 out_3n out_3c words_5 words_5n words_5c from_7 most_8 k_9 0 I S
def bolterlaw13_labels_b28 (again25 : Option Addr → Nat → Nat → Option Addr → Nat → Nat → Int → Int → Int → IMem → SH → Prop) (R : Value → IMem → SH → Prop) (out_3 : Option Addr) (out_3n : Nat) (out_3c : Nat) (words_5 : Option Addr) (words_5n : Nat) (words_5c : Nat) (from_7 : Int) (most_8 : Int) (k_11 : Int) (I : IMem) (S : SH) : Prop :=
  again25 out_3 out_3n out_3c words_5 words_5n words_5c from_7 most_8 (IntKind.wrap .i64 (k_11 - (1 : Int))) I S
def bolterlaw13_labels_b29 (again25 : Option Addr → Nat → Nat → Option Addr → Nat → Nat → Int → Int → Int → IMem → SH → Prop) (R : Value → IMem → SH → Prop) (out_3 : Option Addr) (out_3n : Nat) (out_3c : Nat) (words_5 : Option Addr) (words_5n : Nat) (words_5c : Nat) (from_7 : Int) (most_8 : Int) (k_11 : Int) (x102 : Bool) (I : IMem) (S : SH) : Prop :=
  bcase x102
    (bolterlaw13_labels_b28 again25 R out_3 out_3n out_3c words_5 words_5n words_5c from_7 most_8 k_11 I S)
    (ptrP words_5 fun x86 => (0 : Int) ≤ k_11 ∧ k_11 < (words_5n : Int) ∧
    ∃ x87, Cell I S (x86.add (k_11.toNat * 1)) (.int .i64 x87) ∧
    Runs Tryd.prog 44 #[.int .i64 x87, .int .i64 16] I S fun v I1 S1 => ∃ x88, v = .string x88 ∧
    ∀ b89 : Nat,
    AppG 9 1 16 [.string ⟨#[]⟩] (some (.slice 9)) I1 ((b89, .cells #[.string x88] 9 (0, 0)) :: S1) (.slice out_3 out_3n out_3c) (.slice (some ⟨b89, 0, none⟩) 1 1) fun x90 x90n x90c S1' =>
    bolterlaw13_labels_b28 again25 R x90 x90n x90c words_5 words_5n words_5c from_7 most_8 k_11 I1 S1')
def bolterlaw13_labels_b27 (again25 : Option Addr → Nat → Nat → Option Addr → Nat → Nat → Int → Int → Int → IMem → SH → Prop) (R : Value → IMem → SH → Prop) (out_3 : Option Addr) (out_3n : Nat) (out_3c : Nat) (words_5 : Option Addr) (words_5n : Nat) (words_5c : Nat) (from_7 : Int) (most_8 : Int) (k_11 : Int) (x91 : Bool) (I : IMem) (S : SH) : Prop :=
  bcase x91
    (∀ b100 : Nat,
    AppG 9 1 16 [.string ⟨#[]⟩] (some (.slice 9)) I ((b100, .cells #[.string ⟨#[122, 122]⟩] 9 (0, 0)) :: S) (.slice out_3 out_3n out_3c) (.slice (some ⟨b100, 0, none⟩) 1 1) fun x101 x101n x101c S1 =>
    bolterlaw13_labels_b28 again25 R x101 x101n x101c words_5 words_5n words_5c from_7 most_8 k_11 I S1)
    (bcase (decide (from_7 ≥ (0 : Int)))
      (bcase (decide (k_11 > from_7))
        (bolterlaw13_labels_b29 again25 R out_3 out_3n out_3c words_5 words_5n words_5c from_7 most_8 k_11 (decide (k_11 < (IntKind.wrap .i64 (from_7 + most_8)))) I S)
        (bolterlaw13_labels_b29 again25 R out_3 out_3n out_3c words_5 words_5n words_5c from_7 most_8 k_11 false I S))
      (bolterlaw13_labels_b29 again25 R out_3 out_3n out_3c words_5 words_5n words_5c from_7 most_8 k_11 false I S))
def bolterlaw13_labels_b26 (again25 : Option Addr → Nat → Nat → Option Addr → Nat → Nat → Int → Int → Int → IMem → SH → Prop) (R : Value → IMem → SH → Prop) (out_3 : Option Addr) (out_3n : Nat) (out_3c : Nat) (words_5 : Option Addr) (words_5n : Nat) (words_5c : Nat) (from_7 : Int) (most_8 : Int) (k_11 : Int) (I : IMem) (S : SH) : Prop :=
  bcase (decide (from_7 ≥ (0 : Int)))
    (bolterlaw13_labels_b27 again25 R out_3 out_3n out_3c words_5 words_5n words_5c from_7 most_8 k_11 (k_11 == from_7) I S)
    (bolterlaw13_labels_b27 again25 R out_3 out_3n out_3c words_5 words_5n words_5c from_7 most_8 k_11 false I S)
def bolterlaw13_labels_b30 (R : Value → IMem → SH → Prop) (out_3 : Option Addr) (out_3n : Nat) (out_3c : Nat) (I : IMem) (S : SH) : Prop :=
  R (.slice out_3 out_3n out_3c) I S
def bolterlaw13_labels_l25 (again25 : Option Addr → Nat → Nat → Option Addr → Nat → Nat → Int → Int → Int → IMem → SH → Prop) (R : Value → IMem → SH → Prop) (out_3 : Option Addr) (out_3n : Nat) (out_3c : Nat) (words_5 : Option Addr) (words_5n : Nat) (words_5c : Nat) (from_7 : Int) (most_8 : Int) (k_11 : Int) (I : IMem) (S : SH) : Prop :=
  bcase (decide (k_11 ≥ (0 : Int)))
    (bolterlaw13_labels_b26 again25 R out_3 out_3n out_3c words_5 words_5n words_5c from_7 most_8 k_11 I S)
    (bolterlaw13_labels_b30 R out_3 out_3n out_3c I S)
def bolterlaw13_labels_b24 (R : Value → IMem → SH → Prop) (out_3 : Option Addr) (out_3n : Nat) (out_3c : Nat) (words_5 : Option Addr) (words_5n : Nat) (words_5c : Nat) (from_7 : Int) (most_8 : Int) (k_11 : Int) (I : IMem) (S : SH) : Prop :=
  ∃ (Inv : Nat → Option Addr → Nat → Nat → Option Addr → Nat → Nat → Int → Int → Int → IMem → SH → Prop) (m : Nat), Inv m out_3 out_3n out_3c words_5 words_5n words_5c from_7 most_8 k_11 I S ∧
    ∀ (m : Nat) (out_3 : Option Addr) (out_3n : Nat) (out_3c : Nat) (words_5 : Option Addr) (words_5n : Nat) (words_5c : Nat) (from_7 : Int) (most_8 : Int) (k_11 : Int) (J : IMem) (T : SH), I.le J → Inv m out_3 out_3n out_3c words_5 words_5n words_5c from_7 most_8 k_11 J T →
      bolterlaw13_labels_l25 (fun out_3 out_3n out_3c words_5 words_5n words_5c from_7 most_8 k_11 I S => ∃ m', m' < m ∧ Inv m' out_3 out_3n out_3c words_5 words_5n words_5c from_7 most_8 k_11 I S) R out_3 out_3n out_3c words_5 words_5n words_5c from_7 most_8 k_11 J T
def bolterlaw13_labels_b23 (R : Value → IMem → SH → Prop) (out_3 : Option Addr) (out_3n : Nat) (out_3c : Nat) (words_5 : Option Addr) (words_5n : Nat) (words_5c : Nat) (from_7 : Int) (most_8 : Int) (I : IMem) (S : SH) : Prop :=
  bolterlaw13_labels_b24 R out_3 out_3n out_3c words_5 words_5n words_5c from_7 most_8 7 I S
def bolterlaw13_labels_l15 (again15 : Option Addr → Nat → Nat → Option Addr → Nat → Nat → Int → Int → Int → IMem → SH → Prop) (R : Value → IMem → SH → Prop) (out_3 : Option Addr) (out_3n : Nat) (out_3c : Nat) (words_5 : Option Addr) (words_5n : Nat) (words_5c : Nat) (from_7 : Int) (most_8 : Int) (k_9 : Int) (I : IMem) (S : SH) : Prop :=
  bcase (decide (k_9 ≥ (0 : Int)))
    (bolterlaw13_labels_b16 again15 R out_3 out_3n out_3c words_5 words_5n words_5c from_7 most_8 k_9 I S)
    (bolterlaw13_labels_b23 R out_3 out_3n out_3c words_5 words_5n words_5c from_7 most_8 I S)
def bolterlaw13_labels_b14 (R : Value → IMem → SH → Prop) (out_3 : Option Addr) (out_3n : Nat) (out_3c : Nat) (words_5 : Option Addr) (words_5n : Nat) (words_5c : Nat) (from_7 : Int) (most_8 : Int) (k_9 : Int) (I : IMem) (S : SH) : Prop :=
  ∃ (Inv : Nat → Option Addr → Nat → Nat → Option Addr → Nat → Nat → Int → Int → Int → IMem → SH → Prop) (m : Nat), Inv m out_3 out_3n out_3c words_5 words_5n words_5c from_7 most_8 k_9 I S ∧
    ∀ (m : Nat) (out_3 : Option Addr) (out_3n : Nat) (out_3c : Nat) (words_5 : Option Addr) (words_5n : Nat) (words_5c : Nat) (from_7 : Int) (most_8 : Int) (k_9 : Int) (J : IMem) (T : SH), I.le J → Inv m out_3 out_3n out_3c words_5 words_5n words_5c from_7 most_8 k_9 J T →
      bolterlaw13_labels_l15 (fun out_3 out_3n out_3c words_5 words_5n words_5c from_7 most_8 k_9 I S => ∃ m', m' < m ∧ Inv m' out_3 out_3n out_3c words_5 words_5n words_5c from_7 most_8 k_9 I S) R out_3 out_3n out_3c words_5 words_5n words_5c from_7 most_8 k_9 J T
def bolterlaw13_labels_b13 (R : Value → IMem → SH → Prop) (out_3 : Option Addr) (out_3n : Nat) (out_3c : Nat) (words_5 : Option Addr) (words_5n : Nat) (words_5c : Nat) (from_7 : Int) (most_8 : Int) (I : IMem) (S : SH) : Prop :=
  bolterlaw13_labels_b14 R out_3 out_3n out_3c words_5 words_5n words_5c from_7 most_8 7 I S
def bolterlaw13_labels_b12 (R : Value → IMem → SH → Prop) (out_3 : Option Addr) (out_3n : Nat) (out_3c : Nat) (words_5 : Option Addr) (words_5n : Nat) (words_5c : Nat) (I : IMem) (S : SH) : Prop :=
  bolterlaw13_labels_b13 R out_3 out_3n out_3c words_5 words_5n words_5c (-1) 1 I S
def bolterlaw13_labels_l9 (again9 : Addr → Option Addr → Nat → Nat → Option Addr → Nat → Nat → Int → IMem → SH → Prop) (R : Value → IMem → SH → Prop) (p_1 : Addr) (out_3 : Option Addr) (out_3n : Nat) (out_3c : Nat) (words_5 : Option Addr) (words_5n : Nat) (words_5c : Nat) (k_6 : Int) (I : IMem) (S : SH) : Prop :=
  bcase (decide (k_6 < (16 : Int)))
    (bolterlaw13_labels_b10 again9 R p_1 out_3 out_3n out_3c words_5 words_5n words_5c k_6 I S)
    (bolterlaw13_labels_b12 R out_3 out_3n out_3c words_5 words_5n words_5c I S)
def bolterlaw13_labels_b8 (R : Value → IMem → SH → Prop) (p_1 : Addr) (out_3 : Option Addr) (out_3n : Nat) (out_3c : Nat) (words_5 : Option Addr) (words_5n : Nat) (words_5c : Nat) (k_6 : Int) (I : IMem) (S : SH) : Prop :=
  ∃ (Inv : Nat → Addr → Option Addr → Nat → Nat → Option Addr → Nat → Nat → Int → IMem → SH → Prop) (m : Nat), Inv m p_1 out_3 out_3n out_3c words_5 words_5n words_5c k_6 I S ∧
    ∀ (m : Nat) (p_1 : Addr) (out_3 : Option Addr) (out_3n : Nat) (out_3c : Nat) (words_5 : Option Addr) (words_5n : Nat) (words_5c : Nat) (k_6 : Int) (J : IMem) (T : SH), I.le J → Inv m p_1 out_3 out_3n out_3c words_5 words_5n words_5c k_6 J T →
      bolterlaw13_labels_l9 (fun p_1 out_3 out_3n out_3c words_5 words_5n words_5c k_6 I S => ∃ m', m' < m ∧ Inv m' p_1 out_3 out_3n out_3c words_5 words_5n words_5c k_6 I S) R p_1 out_3 out_3n out_3c words_5 words_5n words_5c k_6 J T
def bolterlaw13_labels_b7 (R : Value → IMem → SH → Prop) (p_1 : Addr) (out_3 : Option Addr) (out_3n : Nat) (out_3c : Nat) (words_5 : Option Addr) (words_5n : Nat) (words_5c : Nat) (I : IMem) (S : SH) : Prop :=
  bolterlaw13_labels_b8 R p_1 out_3 out_3n out_3c words_5 words_5n words_5c 0 I S
def bolterlaw13_labels_b6 (R : Value → IMem → SH → Prop) (p_1 : Addr) (out_3 : Option Addr) (out_3n : Nat) (out_3c : Nat) (I : IMem) (S : SH) : Prop :=
  bolterlaw13_labels_b7 R p_1 out_3 out_3n out_3c none 0 0 I S
def bolterlaw13_labels_b2 (R : Value → IMem → SH → Prop) (p_1 : Addr) (out_3 : Option Addr) (out_3n : Nat) (out_3c : Nat) (x19 : Bool) (I : IMem) (S : SH) : Prop :=
  bcase x19
    (bolterlaw13_labels_b3 R p_1 out_3 out_3n out_3c 3 I S)
    (bolterlaw13_labels_b6 R p_1 out_3 out_3n out_3c I S)
def bolterlaw13_labels_b1 (R : Value → IMem → SH → Prop) (p_1 : Addr) (out_3 : Option Addr) (out_3n : Nat) (out_3c : Nat) (I : IMem) (S : SH) : Prop :=
  ∃ x17, Cell I S p_1 (.string x17) ∧
  bolterlaw13_labels_b2 R p_1 out_3 out_3n out_3c ((x17.size : Int) == (4 : Int)) I S
def bolterlaw13_labels (R : Value → IMem → SH → Prop) (p_0_0 : ByteArray) (p_0_1 : Int) (I : IMem) (S : SH) : Prop :=
  ∀ b1 : Nat,
  ∃ x13, Cell I ((b1, .cells #[.string p_0_0, .int .i64 p_0_1] 24 (0, 0)) :: S) ⟨b1, 1, none⟩ (.int .i64 x13) ∧
  Runs Tryd.prog 44 #[.int .i64 x13, .int .i64 10] I ((b1, .cells #[.string p_0_0, .int .i64 p_0_1] 24 (0, 0)) :: S) fun v I1 S1 => ∃ x14, v = .string x14 ∧
  ∀ b15 : Nat,
  bolterlaw13_labels_b1 R ⟨b1, 0, none⟩ (some ⟨b15, 0, none⟩) 1 1 I1 ((b15, .cells #[.string x14] 9 (0, 0)) :: S1)
theorem bolterlaw13_labels_fn (R : Value → IMem → SH → Prop) (p_0_0 : ByteArray) (p_0_1 : Int) (I : IMem) (S : SH) (h : bolterlaw13_labels R p_0_0 p_0_1 I S) :
    Runs Tryd.prog 19 #[.agg #[.string p_0_0, .int .i64 p_0_1]] I S R := by
  refine Runs.of_wp (args := [.agg #[.string p_0_0, .int .i64 p_0_1]]) (c := bolterlaw13_labels_code) Tryd.func19 (by kernel_rfl) (by kernel_rfl) ?_
  refine WP.cut 2 (fun l I S => asAdr (l 1) fun p_1 => asSl (l 3) fun out_3 out_3n out_3c => bolterlaw13_labels_b1 R p_1 out_3 out_3n out_3c I S) (cast (by kernel_rfl) h) ?_
  clear h
  intro l I S _ h
  obtain ⟨p_1, e1, h⟩ := asAdr_e h
  obtain ⟨out_3, out_3n, out_3c, e3, h⟩ := asSl_e h
  rw [upd_eta e1, upd_eta e3]
  refine WP.seqY (by kernel_rfl) (fun l I S => asAdr (l 1) fun p_1 => asSl (l 3) fun out_3 out_3n out_3c => bolterlaw13_labels_b6 R p_1 out_3 out_3n out_3c I S) ?_ ?_
  ·
    refine WP.cut 1 (fun l I S => asAdr (l 1) fun p_1 => asSl (l 3) fun out_3 out_3n out_3c => asB (l 19) fun x19 => bolterlaw13_labels_b2 R p_1 out_3 out_3n out_3c x19 I S) (cast (by kernel_rfl) h) ?_
    clear h
    intro l I S _ h
    obtain ⟨p_1, e1, h⟩ := asAdr_e h
    obtain ⟨out_3, out_3n, out_3c, e3, h⟩ := asSl_e h
    obtain ⟨x19, e19, h⟩ := asB_e h
    rw [upd_eta e1, upd_eta e3, upd_eta e19]
    refine WP.cond' (by kernel_rfl) (by kernel_rfl) h ?_ ?_
    · clear h
      intro h
      refine WP.seqY (by kernel_rfl) (fun l I S => asSl (l 3) fun out_3 out_3n out_3c => bolterlaw13_labels_b5 R out_3 out_3n out_3c I S) ?_ ?_
      ·
        refine WP.cut 1 (fun l I S => asAdr (l 1) fun p_1 => asSl (l 3) fun out_3 out_3n out_3c => asI .i64 (l 4) fun k_4 => bolterlaw13_labels_b3 R p_1 out_3 out_3n out_3c k_4 I S) (cast (by kernel_rfl) h) ?_
        clear h
        intro l I S _ h
        obtain ⟨p_1, e1, h⟩ := asAdr_e h
        obtain ⟨out_3, out_3n, out_3c, e3, h⟩ := asSl_e h
        obtain ⟨k_4, e4, h⟩ := asI_e h
        rw [upd_eta e1, upd_eta e3, upd_eta e4]
        refine WP.block' (by kernel_rfl) ?_
        obtain ⟨Inv_again4, m_again4, h0, hr⟩ := h
        refine WP.loop' (by kernel_rfl) (fun m_again4 => fun l I S => asAdr (l 1) fun p_1 => asSl (l 3) fun out_3 out_3n out_3c => asI .i64 (l 4) fun k_4 => Inv_again4 m_again4 p_1 out_3 out_3n out_3c k_4 I S) m_again4 (cast (by kernel_rfl) h0) ?_
        clear h0
        intro m_again4 l I S hle h
        obtain ⟨p_1, e1, h⟩ := asAdr_e h
        obtain ⟨out_3, out_3n, out_3c, e3, h⟩ := asSl_e h
        obtain ⟨k_4, e4, h⟩ := asI_e h
        rw [upd_eta e1, upd_eta e3, upd_eta e4]
        have h := hr m_again4 p_1 out_3 out_3n out_3c k_4 I S hle h
        clear hr hle
        exact Pre.sound _ _ _ _ _ (cast (by kernel_rfl) h)
      · clear h
        intro l I S _ h
        obtain ⟨out_3, out_3n, out_3c, e3, h⟩ := asSl_e h
        rw [upd_eta e3]
        exact Pre.sound _ _ _ _ _ (cast (by kernel_rfl) h)
    · clear h
      intro h
      exact Pre.sound _ _ _ _ _ (cast (by kernel_rfl) h)
  · clear h
    intro l I S _ h
    obtain ⟨p_1, e1, h⟩ := asAdr_e h
    obtain ⟨out_3, out_3n, out_3c, e3, h⟩ := asSl_e h
    rw [upd_eta e1, upd_eta e3]
    refine WP.cut 1 (fun l I S => asAdr (l 1) fun p_1 => asSl (l 3) fun out_3 out_3n out_3c => asSl (l 5) fun words_5 words_5n words_5c => bolterlaw13_labels_b7 R p_1 out_3 out_3n out_3c words_5 words_5n words_5c I S) (cast (by kernel_rfl) h) ?_
    clear h
    intro l I S _ h
    obtain ⟨p_1, e1, h⟩ := asAdr_e h
    obtain ⟨out_3, out_3n, out_3c, e3, h⟩ := asSl_e h
    obtain ⟨words_5, words_5n, words_5c, e5, h⟩ := asSl_e h
    rw [upd_eta e1, upd_eta e3, upd_eta e5]
    refine WP.seqY (by kernel_rfl) (fun l I S => asSl (l 3) fun out_3 out_3n out_3c => asSl (l 5) fun words_5 words_5n words_5c => bolterlaw13_labels_b12 R out_3 out_3n out_3c words_5 words_5n words_5c I S) ?_ ?_
    ·
      refine WP.cut 1 (fun l I S => asAdr (l 1) fun p_1 => asSl (l 3) fun out_3 out_3n out_3c => asSl (l 5) fun words_5 words_5n words_5c => asI .i64 (l 6) fun k_6 => bolterlaw13_labels_b8 R p_1 out_3 out_3n out_3c words_5 words_5n words_5c k_6 I S) (cast (by kernel_rfl) h) ?_
      clear h
      intro l I S _ h
      obtain ⟨p_1, e1, h⟩ := asAdr_e h
      obtain ⟨out_3, out_3n, out_3c, e3, h⟩ := asSl_e h
      obtain ⟨words_5, words_5n, words_5c, e5, h⟩ := asSl_e h
      obtain ⟨k_6, e6, h⟩ := asI_e h
      rw [upd_eta e1, upd_eta e3, upd_eta e5, upd_eta e6]
      refine WP.block' (by kernel_rfl) ?_
      obtain ⟨Inv_again9, m_again9, h0, hr⟩ := h
      refine WP.loop' (by kernel_rfl) (fun m_again9 => fun l I S => asAdr (l 1) fun p_1 => asSl (l 3) fun out_3 out_3n out_3c => asSl (l 5) fun words_5 words_5n words_5c => asI .i64 (l 6) fun k_6 => Inv_again9 m_again9 p_1 out_3 out_3n out_3c words_5 words_5n words_5c k_6 I S) m_again9 (cast (by kernel_rfl) h0) ?_
      clear h0
      intro m_again9 l I S hle h
      obtain ⟨p_1, e1, h⟩ := asAdr_e h
      obtain ⟨out_3, out_3n, out_3c, e3, h⟩ := asSl_e h
      obtain ⟨words_5, words_5n, words_5c, e5, h⟩ := asSl_e h
      obtain ⟨k_6, e6, h⟩ := asI_e h
      rw [upd_eta e1, upd_eta e3, upd_eta e5, upd_eta e6]
      have h := hr m_again9 p_1 out_3 out_3n out_3c words_5 words_5n words_5c k_6 I S hle h
      clear hr hle
      refine WP.cut 1 (fun l I S => asAdr (l 1) fun p_1 => asSl (l 3) fun out_3 out_3n out_3c => asSl (l 5) fun words_5 words_5n words_5c => asI .i64 (l 6) fun k_6 => bolterlaw13_labels_b10 (fun p_1 out_3 out_3n out_3c words_5 words_5n words_5c k_6 I S => ∃ m', m' < m_again9 ∧ Inv_again9 m' p_1 out_3 out_3n out_3c words_5 words_5n words_5c k_6 I S) R p_1 out_3 out_3n out_3c words_5 words_5n words_5c k_6 I S) (cast (by kernel_rfl) h) ?_
      clear h
      intro l I S _ h
      obtain ⟨p_1, e1, h⟩ := asAdr_e h
      obtain ⟨out_3, out_3n, out_3c, e3, h⟩ := asSl_e h
      obtain ⟨words_5, words_5n, words_5c, e5, h⟩ := asSl_e h
      obtain ⟨k_6, e6, h⟩ := asI_e h
      rw [upd_eta e1, upd_eta e3, upd_eta e5, upd_eta e6]
      refine WP.seqY (by kernel_rfl) (fun l I S => asAdr (l 1) fun p_1 => asSl (l 3) fun out_3 out_3n out_3c => asSl (l 5) fun words_5 words_5n words_5c => asI .i64 (l 6) fun k_6 => bolterlaw13_labels_b11 (fun p_1 out_3 out_3n out_3c words_5 words_5n words_5c k_6 I S => ∃ m', m' < m_again9 ∧ Inv_again9 m' p_1 out_3 out_3n out_3c words_5 words_5n words_5c k_6 I S) R p_1 out_3 out_3n out_3c words_5 words_5n words_5c k_6 I S) ?_ ?_
      ·
        refine WP.block' (by kernel_rfl) ?_
        exact WP.draw' (.take 0 (.take 1 (.take 2 (.take 3 (.take 4 (.take 5 (.take 6 (.take 7 (.take 8 (.take 9 (.take 10 (.take 11 (.take 12 (.take 13 (.step 14 (.step 15 (.take 16 .done))))))))))))))))) [14, 15] (by kernel_rfl) (by kernel_rfl) (by kernel_rfl) (by kernel_rfl) (by kernel_rfl) (cast (by kernel_rfl) h)
      · clear h
        intro l I S _ h
        obtain ⟨p_1, e1, h⟩ := asAdr_e h
        obtain ⟨out_3, out_3n, out_3c, e3, h⟩ := asSl_e h
        obtain ⟨words_5, words_5n, words_5c, e5, h⟩ := asSl_e h
        obtain ⟨k_6, e6, h⟩ := asI_e h
        rw [upd_eta e1, upd_eta e3, upd_eta e5, upd_eta e6]
        exact Pre.sound _ _ _ _ _ (cast (by kernel_rfl) h)
    · clear h
      intro l I S _ h
      obtain ⟨out_3, out_3n, out_3c, e3, h⟩ := asSl_e h
      obtain ⟨words_5, words_5n, words_5c, e5, h⟩ := asSl_e h
      rw [upd_eta e3, upd_eta e5]
      refine WP.cut 1 (fun l I S => asSl (l 3) fun out_3 out_3n out_3c => asSl (l 5) fun words_5 words_5n words_5c => asI .i64 (l 7) fun from_7 => asI .i64 (l 8) fun most_8 => bolterlaw13_labels_b13 R out_3 out_3n out_3c words_5 words_5n words_5c from_7 most_8 I S) (cast (by kernel_rfl) h) ?_
      clear h
      intro l I S _ h
      obtain ⟨out_3, out_3n, out_3c, e3, h⟩ := asSl_e h
      obtain ⟨words_5, words_5n, words_5c, e5, h⟩ := asSl_e h
      obtain ⟨from_7, e7, h⟩ := asI_e h
      obtain ⟨most_8, e8, h⟩ := asI_e h
      rw [upd_eta e3, upd_eta e5, upd_eta e7, upd_eta e8]
      refine WP.seqY (by kernel_rfl) (fun l I S => asSl (l 3) fun out_3 out_3n out_3c => asSl (l 5) fun words_5 words_5n words_5c => asI .i64 (l 7) fun from_7 => asI .i64 (l 8) fun most_8 => bolterlaw13_labels_b23 R out_3 out_3n out_3c words_5 words_5n words_5c from_7 most_8 I S) ?_ ?_
      ·
        refine WP.cut 1 (fun l I S => asSl (l 3) fun out_3 out_3n out_3c => asSl (l 5) fun words_5 words_5n words_5c => asI .i64 (l 7) fun from_7 => asI .i64 (l 8) fun most_8 => asI .i64 (l 9) fun k_9 => bolterlaw13_labels_b14 R out_3 out_3n out_3c words_5 words_5n words_5c from_7 most_8 k_9 I S) (cast (by kernel_rfl) h) ?_
        clear h
        intro l I S _ h
        obtain ⟨out_3, out_3n, out_3c, e3, h⟩ := asSl_e h
        obtain ⟨words_5, words_5n, words_5c, e5, h⟩ := asSl_e h
        obtain ⟨from_7, e7, h⟩ := asI_e h
        obtain ⟨most_8, e8, h⟩ := asI_e h
        obtain ⟨k_9, e9, h⟩ := asI_e h
        rw [upd_eta e3, upd_eta e5, upd_eta e7, upd_eta e8, upd_eta e9]
        refine WP.block' (by kernel_rfl) ?_
        obtain ⟨Inv_again15, m_again15, h0, hr⟩ := h
        refine WP.loop' (by kernel_rfl) (fun m_again15 => fun l I S => asSl (l 3) fun out_3 out_3n out_3c => asSl (l 5) fun words_5 words_5n words_5c => asI .i64 (l 7) fun from_7 => asI .i64 (l 8) fun most_8 => asI .i64 (l 9) fun k_9 => Inv_again15 m_again15 out_3 out_3n out_3c words_5 words_5n words_5c from_7 most_8 k_9 I S) m_again15 (cast (by kernel_rfl) h0) ?_
        clear h0
        intro m_again15 l I S hle h
        obtain ⟨out_3, out_3n, out_3c, e3, h⟩ := asSl_e h
        obtain ⟨words_5, words_5n, words_5c, e5, h⟩ := asSl_e h
        obtain ⟨from_7, e7, h⟩ := asI_e h
        obtain ⟨most_8, e8, h⟩ := asI_e h
        obtain ⟨k_9, e9, h⟩ := asI_e h
        rw [upd_eta e3, upd_eta e5, upd_eta e7, upd_eta e8, upd_eta e9]
        have h := hr m_again15 out_3 out_3n out_3c words_5 words_5n words_5c from_7 most_8 k_9 I S hle h
        clear hr hle
        refine WP.cut 1 (fun l I S => asSl (l 3) fun out_3 out_3n out_3c => asSl (l 5) fun words_5 words_5n words_5c => asI .i64 (l 7) fun from_7 => asI .i64 (l 8) fun most_8 => asI .i64 (l 9) fun k_9 => bolterlaw13_labels_b16 (fun out_3 out_3n out_3c words_5 words_5n words_5c from_7 most_8 k_9 I S => ∃ m', m' < m_again15 ∧ Inv_again15 m' out_3 out_3n out_3c words_5 words_5n words_5c from_7 most_8 k_9 I S) R out_3 out_3n out_3c words_5 words_5n words_5c from_7 most_8 k_9 I S) (cast (by kernel_rfl) h) ?_
        clear h
        intro l I S _ h
        obtain ⟨out_3, out_3n, out_3c, e3, h⟩ := asSl_e h
        obtain ⟨words_5, words_5n, words_5c, e5, h⟩ := asSl_e h
        obtain ⟨from_7, e7, h⟩ := asI_e h
        obtain ⟨most_8, e8, h⟩ := asI_e h
        obtain ⟨k_9, e9, h⟩ := asI_e h
        rw [upd_eta e3, upd_eta e5, upd_eta e7, upd_eta e8, upd_eta e9]
        refine WP.seqY (by kernel_rfl) (fun l I S => asSl (l 3) fun out_3 out_3n out_3c => asSl (l 5) fun words_5 words_5n words_5c => asI .i64 (l 7) fun from_7 => asI .i64 (l 8) fun most_8 => asI .i64 (l 9) fun k_9 => bolterlaw13_labels_b22 (fun out_3 out_3n out_3c words_5 words_5n words_5c from_7 most_8 k_9 I S => ∃ m', m' < m_again15 ∧ Inv_again15 m' out_3 out_3n out_3c words_5 words_5n words_5c from_7 most_8 k_9 I S) R out_3 out_3n out_3c words_5 words_5n words_5c from_7 most_8 k_9 I S) ?_ ?_
        ·
          refine WP.block' (by kernel_rfl) ?_
          refine WP.cut 1 (fun l I S => asSl (l 3) fun out_3 out_3n out_3c => asSl (l 5) fun words_5 words_5n words_5c => asI .i64 (l 7) fun from_7 => asI .i64 (l 8) fun most_8 => asI .i64 (l 9) fun k_9 => asI .i64 (l 10) fun n_10 => bolterlaw13_labels_b17 (fun out_3 out_3n out_3c words_5 words_5n words_5c from_7 most_8 k_9 I S => ∃ m', m' < m_again15 ∧ Inv_again15 m' out_3 out_3n out_3c words_5 words_5n words_5c from_7 most_8 k_9 I S) R out_3 out_3n out_3c words_5 words_5n words_5c from_7 most_8 k_9 n_10 I S) (cast (by kernel_rfl) h) ?_
          clear h
          intro l I S _ h
          obtain ⟨out_3, out_3n, out_3c, e3, h⟩ := asSl_e h
          obtain ⟨words_5, words_5n, words_5c, e5, h⟩ := asSl_e h
          obtain ⟨from_7, e7, h⟩ := asI_e h
          obtain ⟨most_8, e8, h⟩ := asI_e h
          obtain ⟨k_9, e9, h⟩ := asI_e h
          obtain ⟨n_10, e10, h⟩ := asI_e h
          rw [upd_eta e3, upd_eta e5, upd_eta e7, upd_eta e8, upd_eta e9, upd_eta e10]
          refine WP.seqY (by kernel_rfl) (fun l I S => asSl (l 3) fun out_3 out_3n out_3c => asSl (l 5) fun words_5 words_5n words_5c => asI .i64 (l 7) fun from_7 => asI .i64 (l 8) fun most_8 => asI .i64 (l 9) fun k_9 => asI .i64 (l 10) fun n_10 => bolterlaw13_labels_b21 (fun out_3 out_3n out_3c words_5 words_5n words_5c from_7 most_8 k_9 I S => ∃ m', m' < m_again15 ∧ Inv_again15 m' out_3 out_3n out_3c words_5 words_5n words_5c from_7 most_8 k_9 I S) R out_3 out_3n out_3c words_5 words_5n words_5c from_7 most_8 k_9 n_10 I S) ?_ ?_
          ·
            refine WP.block' (by kernel_rfl) ?_
            obtain ⟨Inv_again18, m_again18, h0, hr⟩ := h
            refine WP.loop' (by kernel_rfl) (fun m_again18 => fun l I S => asSl (l 3) fun out_3 out_3n out_3c => asSl (l 5) fun words_5 words_5n words_5c => asI .i64 (l 7) fun from_7 => asI .i64 (l 8) fun most_8 => asI .i64 (l 9) fun k_9 => asI .i64 (l 10) fun n_10 => Inv_again18 m_again18 out_3 out_3n out_3c words_5 words_5n words_5c from_7 most_8 k_9 n_10 I S) m_again18 (cast (by kernel_rfl) h0) ?_
            clear h0
            intro m_again18 l I S hle h
            obtain ⟨out_3, out_3n, out_3c, e3, h⟩ := asSl_e h
            obtain ⟨words_5, words_5n, words_5c, e5, h⟩ := asSl_e h
            obtain ⟨from_7, e7, h⟩ := asI_e h
            obtain ⟨most_8, e8, h⟩ := asI_e h
            obtain ⟨k_9, e9, h⟩ := asI_e h
            obtain ⟨n_10, e10, h⟩ := asI_e h
            rw [upd_eta e3, upd_eta e5, upd_eta e7, upd_eta e8, upd_eta e9, upd_eta e10]
            have h := hr m_again18 out_3 out_3n out_3c words_5 words_5n words_5c from_7 most_8 k_9 n_10 I S hle h
            clear hr hle
            refine WP.seqY (by kernel_rfl) (fun l I S => asSl (l 3) fun out_3 out_3n out_3c => asSl (l 5) fun words_5 words_5n words_5c => asI .i64 (l 7) fun from_7 => asI .i64 (l 8) fun most_8 => asI .i64 (l 9) fun k_9 => asI .i64 (l 10) fun n_10 => bolterlaw13_labels_b20 (fun out_3 out_3n out_3c words_5 words_5n words_5c from_7 most_8 k_9 I S => ∃ m', m' < m_again15 ∧ Inv_again15 m' out_3 out_3n out_3c words_5 words_5n words_5c from_7 most_8 k_9 I S) (fun out_3 out_3n out_3c words_5 words_5n words_5c from_7 most_8 k_9 n_10 I S => ∃ m', m' < m_again18 ∧ Inv_again18 m' out_3 out_3n out_3c words_5 words_5n words_5c from_7 most_8 k_9 n_10 I S) R out_3 out_3n out_3c words_5 words_5n words_5c from_7 most_8 k_9 n_10 I S) ?_ ?_
            ·
              refine WP.cut 1 (fun l I S => asSl (l 3) fun out_3 out_3n out_3c => asSl (l 5) fun words_5 words_5n words_5c => asI .i64 (l 7) fun from_7 => asI .i64 (l 8) fun most_8 => asI .i64 (l 9) fun k_9 => asI .i64 (l 10) fun n_10 => asB (l 70) fun x70 => bolterlaw13_labels_b19 (fun out_3 out_3n out_3c words_5 words_5n words_5c from_7 most_8 k_9 I S => ∃ m', m' < m_again15 ∧ Inv_again15 m' out_3 out_3n out_3c words_5 words_5n words_5c from_7 most_8 k_9 I S) (fun out_3 out_3n out_3c words_5 words_5n words_5c from_7 most_8 k_9 n_10 I S => ∃ m', m' < m_again18 ∧ Inv_again18 m' out_3 out_3n out_3c words_5 words_5n words_5c from_7 most_8 k_9 n_10 I S) R out_3 out_3n out_3c words_5 words_5n words_5c from_7 most_8 k_9 n_10 x70 I S) (cast (by kernel_rfl) h) ?_
              clear h
              intro l I S _ h
              obtain ⟨out_3, out_3n, out_3c, e3, h⟩ := asSl_e h
              obtain ⟨words_5, words_5n, words_5c, e5, h⟩ := asSl_e h
              obtain ⟨from_7, e7, h⟩ := asI_e h
              obtain ⟨most_8, e8, h⟩ := asI_e h
              obtain ⟨k_9, e9, h⟩ := asI_e h
              obtain ⟨n_10, e10, h⟩ := asI_e h
              obtain ⟨x70, e70, h⟩ := asB_e h
              rw [upd_eta e3, upd_eta e5, upd_eta e7, upd_eta e8, upd_eta e9, upd_eta e10, upd_eta e70]
              exact Pre.sound _ _ _ _ _ (cast (by kernel_rfl) h)
            · clear h
              intro l I S _ h
              obtain ⟨out_3, out_3n, out_3c, e3, h⟩ := asSl_e h
              obtain ⟨words_5, words_5n, words_5c, e5, h⟩ := asSl_e h
              obtain ⟨from_7, e7, h⟩ := asI_e h
              obtain ⟨most_8, e8, h⟩ := asI_e h
              obtain ⟨k_9, e9, h⟩ := asI_e h
              obtain ⟨n_10, e10, h⟩ := asI_e h
              rw [upd_eta e3, upd_eta e5, upd_eta e7, upd_eta e8, upd_eta e9, upd_eta e10]
              exact Pre.sound _ _ _ _ _ (cast (by kernel_rfl) h)
          · clear h
            intro l I S _ h
            obtain ⟨out_3, out_3n, out_3c, e3, h⟩ := asSl_e h
            obtain ⟨words_5, words_5n, words_5c, e5, h⟩ := asSl_e h
            obtain ⟨from_7, e7, h⟩ := asI_e h
            obtain ⟨most_8, e8, h⟩ := asI_e h
            obtain ⟨k_9, e9, h⟩ := asI_e h
            obtain ⟨n_10, e10, h⟩ := asI_e h
            rw [upd_eta e3, upd_eta e5, upd_eta e7, upd_eta e8, upd_eta e9, upd_eta e10]
            exact Pre.sound _ _ _ _ _ (cast (by kernel_rfl) h)
        · clear h
          intro l I S _ h
          obtain ⟨out_3, out_3n, out_3c, e3, h⟩ := asSl_e h
          obtain ⟨words_5, words_5n, words_5c, e5, h⟩ := asSl_e h
          obtain ⟨from_7, e7, h⟩ := asI_e h
          obtain ⟨most_8, e8, h⟩ := asI_e h
          obtain ⟨k_9, e9, h⟩ := asI_e h
          rw [upd_eta e3, upd_eta e5, upd_eta e7, upd_eta e8, upd_eta e9]
          exact Pre.sound _ _ _ _ _ (cast (by kernel_rfl) h)
      · clear h
        intro l I S _ h
        obtain ⟨out_3, out_3n, out_3c, e3, h⟩ := asSl_e h
        obtain ⟨words_5, words_5n, words_5c, e5, h⟩ := asSl_e h
        obtain ⟨from_7, e7, h⟩ := asI_e h
        obtain ⟨most_8, e8, h⟩ := asI_e h
        rw [upd_eta e3, upd_eta e5, upd_eta e7, upd_eta e8]
        refine WP.seqY (by kernel_rfl) (fun l I S => asSl (l 3) fun out_3 out_3n out_3c => bolterlaw13_labels_b30 R out_3 out_3n out_3c I S) ?_ ?_
        ·
          refine WP.cut 1 (fun l I S => asSl (l 3) fun out_3 out_3n out_3c => asSl (l 5) fun words_5 words_5n words_5c => asI .i64 (l 7) fun from_7 => asI .i64 (l 8) fun most_8 => asI .i64 (l 11) fun k_11 => bolterlaw13_labels_b24 R out_3 out_3n out_3c words_5 words_5n words_5c from_7 most_8 k_11 I S) (cast (by kernel_rfl) h) ?_
          clear h
          intro l I S _ h
          obtain ⟨out_3, out_3n, out_3c, e3, h⟩ := asSl_e h
          obtain ⟨words_5, words_5n, words_5c, e5, h⟩ := asSl_e h
          obtain ⟨from_7, e7, h⟩ := asI_e h
          obtain ⟨most_8, e8, h⟩ := asI_e h
          obtain ⟨k_11, e11, h⟩ := asI_e h
          rw [upd_eta e3, upd_eta e5, upd_eta e7, upd_eta e8, upd_eta e11]
          refine WP.block' (by kernel_rfl) ?_
          obtain ⟨Inv_again25, m_again25, h0, hr⟩ := h
          refine WP.loop' (by kernel_rfl) (fun m_again25 => fun l I S => asSl (l 3) fun out_3 out_3n out_3c => asSl (l 5) fun words_5 words_5n words_5c => asI .i64 (l 7) fun from_7 => asI .i64 (l 8) fun most_8 => asI .i64 (l 11) fun k_11 => Inv_again25 m_again25 out_3 out_3n out_3c words_5 words_5n words_5c from_7 most_8 k_11 I S) m_again25 (cast (by kernel_rfl) h0) ?_
          clear h0
          intro m_again25 l I S hle h
          obtain ⟨out_3, out_3n, out_3c, e3, h⟩ := asSl_e h
          obtain ⟨words_5, words_5n, words_5c, e5, h⟩ := asSl_e h
          obtain ⟨from_7, e7, h⟩ := asI_e h
          obtain ⟨most_8, e8, h⟩ := asI_e h
          obtain ⟨k_11, e11, h⟩ := asI_e h
          rw [upd_eta e3, upd_eta e5, upd_eta e7, upd_eta e8, upd_eta e11]
          have h := hr m_again25 out_3 out_3n out_3c words_5 words_5n words_5c from_7 most_8 k_11 I S hle h
          clear hr hle
          refine WP.cut 1 (fun l I S => asSl (l 3) fun out_3 out_3n out_3c => asSl (l 5) fun words_5 words_5n words_5c => asI .i64 (l 7) fun from_7 => asI .i64 (l 8) fun most_8 => asI .i64 (l 11) fun k_11 => bolterlaw13_labels_b26 (fun out_3 out_3n out_3c words_5 words_5n words_5c from_7 most_8 k_11 I S => ∃ m', m' < m_again25 ∧ Inv_again25 m' out_3 out_3n out_3c words_5 words_5n words_5c from_7 most_8 k_11 I S) R out_3 out_3n out_3c words_5 words_5n words_5c from_7 most_8 k_11 I S) (cast (by kernel_rfl) h) ?_
          clear h
          intro l I S _ h
          obtain ⟨out_3, out_3n, out_3c, e3, h⟩ := asSl_e h
          obtain ⟨words_5, words_5n, words_5c, e5, h⟩ := asSl_e h
          obtain ⟨from_7, e7, h⟩ := asI_e h
          obtain ⟨most_8, e8, h⟩ := asI_e h
          obtain ⟨k_11, e11, h⟩ := asI_e h
          rw [upd_eta e3, upd_eta e5, upd_eta e7, upd_eta e8, upd_eta e11]
          refine WP.seqY (by kernel_rfl) (fun l I S => asSl (l 3) fun out_3 out_3n out_3c => asSl (l 5) fun words_5 words_5n words_5c => asI .i64 (l 7) fun from_7 => asI .i64 (l 8) fun most_8 => asI .i64 (l 11) fun k_11 => bolterlaw13_labels_b28 (fun out_3 out_3n out_3c words_5 words_5n words_5c from_7 most_8 k_11 I S => ∃ m', m' < m_again25 ∧ Inv_again25 m' out_3 out_3n out_3c words_5 words_5n words_5c from_7 most_8 k_11 I S) R out_3 out_3n out_3c words_5 words_5n words_5c from_7 most_8 k_11 I S) ?_ ?_
          ·
            refine WP.block' (by kernel_rfl) ?_
            refine WP.block' (by kernel_rfl) ?_
            refine WP.cut 1 (fun l I S => asSl (l 3) fun out_3 out_3n out_3c => asSl (l 5) fun words_5 words_5n words_5c => asI .i64 (l 7) fun from_7 => asI .i64 (l 8) fun most_8 => asI .i64 (l 11) fun k_11 => asB (l 91) fun x91 => bolterlaw13_labels_b27 (fun out_3 out_3n out_3c words_5 words_5n words_5c from_7 most_8 k_11 I S => ∃ m', m' < m_again25 ∧ Inv_again25 m' out_3 out_3n out_3c words_5 words_5n words_5c from_7 most_8 k_11 I S) R out_3 out_3n out_3c words_5 words_5n words_5c from_7 most_8 k_11 x91 I S) (cast (by kernel_rfl) h) ?_
            clear h
            intro l I S _ h
            obtain ⟨out_3, out_3n, out_3c, e3, h⟩ := asSl_e h
            obtain ⟨words_5, words_5n, words_5c, e5, h⟩ := asSl_e h
            obtain ⟨from_7, e7, h⟩ := asI_e h
            obtain ⟨most_8, e8, h⟩ := asI_e h
            obtain ⟨k_11, e11, h⟩ := asI_e h
            obtain ⟨x91, e91, h⟩ := asB_e h
            rw [upd_eta e3, upd_eta e5, upd_eta e7, upd_eta e8, upd_eta e11, upd_eta e91]
            refine WP.cond' (by kernel_rfl) (by kernel_rfl) h ?_ ?_
            · clear h
              intro h
              exact Pre.sound _ _ _ _ _ (cast (by kernel_rfl) h)
            · clear h
              intro h
              refine WP.cut 1 (fun l I S => asSl (l 3) fun out_3 out_3n out_3c => asSl (l 5) fun words_5 words_5n words_5c => asI .i64 (l 7) fun from_7 => asI .i64 (l 8) fun most_8 => asI .i64 (l 11) fun k_11 => asB (l 102) fun x102 => bolterlaw13_labels_b29 (fun out_3 out_3n out_3c words_5 words_5n words_5c from_7 most_8 k_11 I S => ∃ m', m' < m_again25 ∧ Inv_again25 m' out_3 out_3n out_3c words_5 words_5n words_5c from_7 most_8 k_11 I S) R out_3 out_3n out_3c words_5 words_5n words_5c from_7 most_8 k_11 x102 I S) (cast (by kernel_rfl) h) ?_
              clear h
              intro l I S _ h
              obtain ⟨out_3, out_3n, out_3c, e3, h⟩ := asSl_e h
              obtain ⟨words_5, words_5n, words_5c, e5, h⟩ := asSl_e h
              obtain ⟨from_7, e7, h⟩ := asI_e h
              obtain ⟨most_8, e8, h⟩ := asI_e h
              obtain ⟨k_11, e11, h⟩ := asI_e h
              obtain ⟨x102, e102, h⟩ := asB_e h
              rw [upd_eta e3, upd_eta e5, upd_eta e7, upd_eta e8, upd_eta e11, upd_eta e102]
              exact Pre.sound _ _ _ _ _ (cast (by kernel_rfl) h)
          · clear h
            intro l I S _ h
            obtain ⟨out_3, out_3n, out_3c, e3, h⟩ := asSl_e h
            obtain ⟨words_5, words_5n, words_5c, e5, h⟩ := asSl_e h
            obtain ⟨from_7, e7, h⟩ := asI_e h
            obtain ⟨most_8, e8, h⟩ := asI_e h
            obtain ⟨k_11, e11, h⟩ := asI_e h
            rw [upd_eta e3, upd_eta e5, upd_eta e7, upd_eta e8, upd_eta e11]
            exact Pre.sound _ _ _ _ _ (cast (by kernel_rfl) h)
        · clear h
          intro l I S _ h
          obtain ⟨out_3, out_3n, out_3c, e3, h⟩ := asSl_e h
          rw [upd_eta e3]
          exact Pre.sound _ _ _ _ _ (cast (by kernel_rfl) h)
/-! ### bolterlaw13_Code_Trigger: function 24, (bolter/bolterlaw13.Code).Trigger -/
noncomputable def bolterlaw13_Code_Trigger_code : Code := (Tryd.f24.body).getD .skip
def bolterlaw13_Code_Trigger (R : Value → IMem → SH → Prop) (c_0_0 : Int) (c_0_1 : Option Addr) (c_0_1n : Nat) (c_0_1c : Nat) (c_0_2 : Bool) (c_0_3 : Int) (I : IMem) (S : SH) : Prop :=
  ∀ b1 : Nat,
  ∀ b2 : Nat,
  ∃ x4, Cell I ((b2, .cells #[.int .i64 0, .string ⟨#[]⟩, .string ⟨#[]⟩, .int .i64 0] 29 (0, 0)) :: ((b1, .cells #[.int .u8 c_0_0, .slice c_0_1 c_0_1n c_0_1c, .bool c_0_2, .int .u8 c_0_3] 49 (0, 0)) :: S)) ⟨b1, 0, none⟩ (.int .u8 x4) ∧
  ∃ x6 x6n x6c, Cell I ((b2, .cells #[.int .i64 0, .string ⟨#[]⟩, .string ⟨#[]⟩, .int .i64 0] 29 (0, 0)) :: ((b1, .cells #[.int .u8 c_0_0, .slice c_0_1 c_0_1n c_0_1c, .bool c_0_2, .int .u8 c_0_3] 49 (0, 0)) :: S)) ⟨b1, 1, none⟩ (.slice x6 x6n x6c) ∧
  ∃ x8, Cell I ((b2, .cells #[.int .i64 0, .string ⟨#[]⟩, .string ⟨#[]⟩, .int .i64 0] 29 (0, 0)) :: ((b1, .cells #[.int .u8 c_0_0, .slice c_0_1 c_0_1n c_0_1c, .bool c_0_2, .int .u8 c_0_3] 49 (0, 0)) :: S)) ⟨b1, 2, none⟩ (.bool x8) ∧
  ∃ x10, Cell I ((b2, .cells #[.int .i64 0, .string ⟨#[]⟩, .string ⟨#[]⟩, .int .i64 0] 29 (0, 0)) :: ((b1, .cells #[.int .u8 c_0_0, .slice c_0_1 c_0_1n c_0_1c, .bool c_0_2, .int .u8 c_0_3] 49 (0, 0)) :: S)) ⟨b1, 3, none⟩ (.int .u8 x10) ∧
  Runs Tryd.prog 15 #[.int .u8 x4, .slice x6 x6n x6c, .bool x8, .int .u8 x10] I ((b2, .cells #[.int .i64 0, .string ⟨#[]⟩, .string ⟨#[]⟩, .int .i64 0] 29 (0, 0)) :: ((b1, .cells #[.int .u8 c_0_0, .slice c_0_1 c_0_1n c_0_1c, .bool c_0_2, .int .u8 c_0_3] 49 (0, 0)) :: S)) fun v I1 S1 => ∃ x11_0 x11_1 x11_2 x11_3, v = .agg #[.int .i64 x11_0, .string x11_1, .string x11_2, .int .i64 x11_3] ∧
  StP S1 ⟨b2, 0, none⟩ [.int .i64 x11_0, .string x11_1, .string x11_2, .int .i64 x11_3] fun S1' =>
  ∃ r2_0, Cell I1 S1' ⟨b2, 0, none⟩ (.int .i64 r2_0) ∧
  ∃ r2_1, Cell I1 S1' ⟨b2, 1, none⟩ (.string r2_1) ∧
  ∃ r2_2, Cell I1 S1' ⟨b2, 2, none⟩ (.string r2_2) ∧
  ∃ r2_3, Cell I1 S1' ⟨b2, 3, none⟩ (.int .i64 r2_3) ∧
  R (.agg #[.int .i64 r2_0, .string r2_1, .string r2_2, .int .i64 r2_3]) I1 S1'
theorem bolterlaw13_Code_Trigger_fn (R : Value → IMem → SH → Prop) (c_0_0 : Int) (c_0_1 : Option Addr) (c_0_1n : Nat) (c_0_1c : Nat) (c_0_2 : Bool) (c_0_3 : Int) (I : IMem) (S : SH) (h : bolterlaw13_Code_Trigger R c_0_0 c_0_1 c_0_1n c_0_1c c_0_2 c_0_3 I S) :
    Runs Tryd.prog 24 #[.agg #[.int .u8 c_0_0, .slice c_0_1 c_0_1n c_0_1c, .bool c_0_2, .int .u8 c_0_3]] I S R := by
  refine Runs.of_wp (args := [.agg #[.int .u8 c_0_0, .slice c_0_1 c_0_1n c_0_1c, .bool c_0_2, .int .u8 c_0_3]]) (c := bolterlaw13_Code_Trigger_code) Tryd.func24 (by kernel_rfl) (by kernel_rfl) ?_
  exact Pre.sound _ _ _ _ _ (cast (by kernel_rfl) h)
/-! ### bolterlaw13_number: function 44, bolter/bolterlaw13.number -/
noncomputable def bolterlaw13_number_code : Code := (Tryd.f44.body).getD .skip
def bolterlaw13_number_b2 (R : Value → IMem → SH → Prop) (x4 : ByteArray) (I : IMem) (S : SH) : Prop :=
  R (.string x4) I S
def bolterlaw13_number_b1 (R : Value → IMem → SH → Prop) (n_0 : Int) (base_1 : Int) (I : IMem) (S : SH) : Prop :=
  bcase (decide (base_1 = 0)) False (bcase (decide (base_1 = 0)) False (Runs Tryd.prog 44 #[.int .i64 (IntKind.wrap .i64 (n_0.tdiv base_1)), .int .i64 base_1] I S fun v I1 S1 => ∃ x16, v = .string x16 ∧
  Runs Tryd.prog 44 #[.int .i64 (n_0.tmod base_1), .int .i64 base_1] I1 S1 fun v' I1' S1' => ∃ x21, v' = .string x21 ∧
  ((x16.size + x21.size : Nat) : Int) ≤ 9223372036854775807 ∧
  bolterlaw13_number_b2 R (x16 ++ x21) I1' S1'))
def bolterlaw13_number (R : Value → IMem → SH → Prop) (n_0 : Int) (base_1 : Int) (I : IMem) (S : SH) : Prop :=
  bcase (decide (n_0 < base_1))
    ((0 : Int) ≤ (IntKind.wrap .i64 (n_0 + (1 : Int))) ∧ (IntKind.wrap .i64 (n_0 + (1 : Int))) ≤ (((⟨#[48, 49, 50, 51, 52, 53, 54, 55, 56, 57, 97, 98, 99, 100, 101, 102]⟩ : ByteArray).size : Nat) : Int) ∧
    (0 : Int) ≤ n_0 ∧ n_0 ≤ (((IntKind.wrap .i64 (n_0 + (1 : Int))).toNat : Nat) : Int) ∧
    R (.string ((⟨#[48, 49, 50, 51, 52, 53, 54, 55, 56, 57, 97, 98, 99, 100, 101, 102]⟩ : ByteArray).extract n_0.toNat ((IntKind.wrap .i64 (n_0 + (1 : Int))).toNat))) I S)
    (bolterlaw13_number_b1 R n_0 base_1 I S)
theorem bolterlaw13_number_fn (R : Value → IMem → SH → Prop) (n_0 : Int) (base_1 : Int) (I : IMem) (S : SH) (h : bolterlaw13_number R n_0 base_1 I S) :
    Runs Tryd.prog 44 #[.int .i64 n_0, .int .i64 base_1] I S R := by
  refine Runs.of_wp (args := [.int .i64 n_0, .int .i64 base_1]) (c := bolterlaw13_number_code) Tryd.func44 (by kernel_rfl) (by kernel_rfl) ?_
  refine WP.cut 2 (fun l I S => asI .i64 (l 0) fun n_0 => asI .i64 (l 1) fun base_1 => bolterlaw13_number_b1 R n_0 base_1 I S) (cast (by kernel_rfl) h) ?_
  clear h
  intro l I S _ h
  obtain ⟨n_0, e0, h⟩ := asI_e h
  obtain ⟨base_1, e1, h⟩ := asI_e h
  rw [upd_eta e0, upd_eta e1]
  refine WP.seqY (by kernel_rfl) (fun l I S => asStr (l 4) fun x4 => bolterlaw13_number_b2 R x4 I S) ?_ ?_
  ·
    exact WP.draw' (.take 0 (.take 1 (.take 2 (.take 3 (.take 5 (.take 6 (.take 7 (.take 8 (.step 4 (.step 9 (.take 10 (.take 11 .done)))))))))))) [4, 9] (by kernel_rfl) (by kernel_rfl) (by kernel_rfl) (by kernel_rfl) (by kernel_rfl) (cast (by kernel_rfl) h)
  · clear h
    intro l I S _ h
    obtain ⟨x4, e4, h⟩ := asStr_e h
    rw [upd_eta e4]
    exact Pre.sound _ _ _ _ _ (cast (by kernel_rfl) h)
/-! ### bolterlaw12_Addr: function 36, bolter/bolterlaw12.Addr -/
noncomputable def bolterlaw12_Addr_code : Code := (Tryd.f36.body).getD .skip
def bolterlaw12_Addr_b6 (again3 : Option Addr → Nat → Nat → Option Addr → Nat → Nat → Int → Int → IMem → SH → Prop) (R : Value → IMem → SH → Prop) (b_5 : Option Addr) (b_5n : Nat) (b_5c : Nat) (x11 : Option Addr) (x11n : Nat) (x11c : Nat) (x12 : Int) (x13 : Int) (I : IMem) (S : SH) : Prop :=
  again3 b_5 b_5n b_5c x11 x11n x11c x12 (IntKind.wrap .i64 (x13 + (1 : Int))) I S
def bolterlaw12_Addr_b5 (again3 : Option Addr → Nat → Nat → Option Addr → Nat → Nat → Int → Int → IMem → SH → Prop) (R : Value → IMem → SH → Prop) (b_5 : Option Addr) (b_5n : Nat) (b_5c : Nat) (k_6 : Int) (n_7 : Int) (x11 : Option Addr) (x11n : Nat) (x11c : Nat) (x12 : Int) (x13 : Int) (x21 : Bool) (I : IMem) (S : SH) : Prop :=
  bcase x21
    (bcase (decide ((b_5n : Int) = 0)) False (∀ b29 : Nat,
    ptrP (some ⟨b29, 0, none⟩) fun x32 => (0 : Int) ≤ (n_7.tmod (6 : Int)) ∧ (n_7.tmod (6 : Int)) < (6 : Int) ∧
    ∃ x33, Cell I ((b29, .cells #[.int .u8 0, .int .u8 1, .int .u8 128, .int .u8 255, .int .u8 192, .int .u8 n_7] 5 (0, 0)) :: S) (x32.add ((n_7.tmod (6 : Int)).toNat * 1)) (.int .u8 x33) ∧
    ptrP b_5 fun x34 => (0 : Int) ≤ ((IntKind.wrap .i64 (k_6 * (7 : Int))).tmod (b_5n : Int)) ∧ ((IntKind.wrap .i64 (k_6 * (7 : Int))).tmod (b_5n : Int)) < (b_5n : Int) ∧
    StP ((b29, .cells #[.int .u8 0, .int .u8 1, .int .u8 128, .int .u8 255, .int .u8 192, .int .u8 n_7] 5 (0, 0)) :: S) (x34.add (((IntKind.wrap .i64 (k_6 * (7 : Int))).tmod (b_5n : Int)).toNat * 1)) [.int .u8 x33] fun S1 =>
    bolterlaw12_Addr_b6 again3 R b_5 b_5n b_5c x11 x11n x11c x12 x13 I S1))
    (bolterlaw12_Addr_b6 again3 R b_5 b_5n b_5c x11 x11n x11c x12 x13 I S)
def bolterlaw12_Addr_b4 (again3 : Option Addr → Nat → Nat → Option Addr → Nat → Nat → Int → Int → IMem → SH → Prop) (R : Value → IMem → SH → Prop) (b_5 : Option Addr) (b_5n : Nat) (b_5c : Nat) (x11 : Option Addr) (x11n : Nat) (x11c : Nat) (x12 : Int) (x13 : Int) (I : IMem) (S : SH) : Prop :=
  ptrP x11 fun x16 => (0 : Int) ≤ x13 ∧ x13 < (x11n : Int) ∧
  ∃ x17, Cell I S (x16.add (x13.toNat * 1)) (.int .u8 x17) ∧
  bolterlaw12_Addr_b5 again3 R b_5 b_5n b_5c x13 x17 x11 x11n x11c x12 x13 (decide (x13 < (b_5n : Int))) I S
def bolterlaw12_Addr_b7 (R : Value → IMem → SH → Prop) (b_5 : Option Addr) (b_5n : Nat) (b_5c : Nat) (I : IMem) (S : SH) : Prop :=
  ∃ x37 : ByteArray, BytesAt I S b_5 b_5n x37 ∧
  R (.string x37) I S
def bolterlaw12_Addr_l3 (again3 : Option Addr → Nat → Nat → Option Addr → Nat → Nat → Int → Int → IMem → SH → Prop) (R : Value → IMem → SH → Prop) (b_5 : Option Addr) (b_5n : Nat) (b_5c : Nat) (x11 : Option Addr) (x11n : Nat) (x11c : Nat) (x12 : Int) (x13 : Int) (I : IMem) (S : SH) : Prop :=
  bcase (decide (x13 < x12))
    (bolterlaw12_Addr_b4 again3 R b_5 b_5n b_5c x11 x11n x11c x12 x13 I S)
    (bolterlaw12_Addr_b7 R b_5 b_5n b_5c I S)
def bolterlaw12_Addr_b2 (R : Value → IMem → SH → Prop) (b_5 : Option Addr) (b_5n : Nat) (b_5c : Nat) (x11 : Option Addr) (x11n : Nat) (x11c : Nat) (x12 : Int) (x13 : Int) (I : IMem) (S : SH) : Prop :=
  ∃ (Inv : Nat → Option Addr → Nat → Nat → Option Addr → Nat → Nat → Int → Int → IMem → SH → Prop) (m : Nat), Inv m b_5 b_5n b_5c x11 x11n x11c x12 x13 I S ∧
    ∀ (m : Nat) (b_5 : Option Addr) (b_5n : Nat) (b_5c : Nat) (x11 : Option Addr) (x11n : Nat) (x11c : Nat) (x12 : Int) (x13 : Int) (J : IMem) (T : SH), I.le J → Inv m b_5 b_5n b_5c x11 x11n x11c x12 x13 J T →
      bolterlaw12_Addr_l3 (fun b_5 b_5n b_5c x11 x11n x11c x12 x13 I S => ∃ m', m' < m ∧ Inv m' b_5 b_5n b_5c x11 x11n x11c x12 x13 I S) R b_5 b_5n b_5c x11 x11n x11c x12 x13 J T
def bolterlaw12_Addr_b1 (R : Value → IMem → SH → Prop) (ns_1 : Option Addr) (ns_1n : Nat) (ns_1c : Nat) (b_5 : Option Addr) (b_5n : Nat) (b_5c : Nat) (I : IMem) (S : SH) : Prop :=
  bolterlaw12_Addr_b2 R b_5 b_5n b_5c ns_1 ns_1n ns_1c (ns_1n : Int) 0 I S
def bolterlaw12_Addr (R : Value → IMem → SH → Prop) (six_0 : Bool) (ns_1 : Option Addr) (ns_1n : Nat) (ns_1c : Nat) (I : IMem) (S : SH) : Prop :=
  (0 : Int) ≤ 4 ∧ (4 : Int) ≤ 4 ∧ (4 : Int) ≤ 9223372036854775807 ∧ (1 : Int) * 4 ≤ 281474976710656 ∧ ∀ b8 : Nat,
  bcase six_0
    ((0 : Int) ≤ 16 ∧ (16 : Int) ≤ 16 ∧ (16 : Int) ≤ 9223372036854775807 ∧ (1 : Int) * 16 ≤ 281474976710656 ∧ ∀ b10 : Nat,
    bolterlaw12_Addr_b1 R ns_1 ns_1n ns_1c (some ⟨b10, 0, none⟩) 16 16 I ((b10, .cells #[.int .u8 0, .int .u8 0, .int .u8 0, .int .u8 0, .int .u8 0, .int .u8 0, .int .u8 0, .int .u8 0, .int .u8 0, .int .u8 0, .int .u8 0, .int .u8 0, .int .u8 0, .int .u8 0, .int .u8 0, .int .u8 0] 5 (0, 0)) :: ((b8, .cells #[.int .u8 0, .int .u8 0, .int .u8 0, .int .u8 0] 5 (0, 0)) :: S)))
    (bolterlaw12_Addr_b1 R ns_1 ns_1n ns_1c (some ⟨b8, 0, none⟩) 4 4 I ((b8, .cells #[.int .u8 0, .int .u8 0, .int .u8 0, .int .u8 0] 5 (0, 0)) :: S))
theorem bolterlaw12_Addr_fn (R : Value → IMem → SH → Prop) (six_0 : Bool) (ns_1 : Option Addr) (ns_1n : Nat) (ns_1c : Nat) (I : IMem) (S : SH) (h : bolterlaw12_Addr R six_0 ns_1 ns_1n ns_1c I S) :
    Runs Tryd.prog 36 #[.bool six_0, .slice ns_1 ns_1n ns_1c] I S R := by
  refine Runs.of_wp (args := [.bool six_0, .slice ns_1 ns_1n ns_1c]) (c := bolterlaw12_Addr_code) Tryd.func36 (by kernel_rfl) (by kernel_rfl) ?_
  refine WP.cut 3 (fun l I S => asSl (l 1) fun ns_1 ns_1n ns_1c => asSl (l 5) fun b_5 b_5n b_5c => bolterlaw12_Addr_b1 R ns_1 ns_1n ns_1c b_5 b_5n b_5c I S) (cast (by kernel_rfl) h) ?_
  clear h
  intro l I S _ h
  obtain ⟨ns_1, ns_1n, ns_1c, e1, h⟩ := asSl_e h
  obtain ⟨b_5, b_5n, b_5c, e5, h⟩ := asSl_e h
  rw [upd_eta e1, upd_eta e5]
  refine WP.seqY (by kernel_rfl) (fun l I S => asSl (l 5) fun b_5 b_5n b_5c => bolterlaw12_Addr_b7 R b_5 b_5n b_5c I S) ?_ ?_
  ·
    refine WP.cut 1 (fun l I S => asSl (l 5) fun b_5 b_5n b_5c => asSl (l 11) fun x11 x11n x11c => asI .i64 (l 12) fun x12 => asI .i64 (l 13) fun x13 => bolterlaw12_Addr_b2 R b_5 b_5n b_5c x11 x11n x11c x12 x13 I S) (cast (by kernel_rfl) h) ?_
    clear h
    intro l I S _ h
    obtain ⟨b_5, b_5n, b_5c, e5, h⟩ := asSl_e h
    obtain ⟨x11, x11n, x11c, e11, h⟩ := asSl_e h
    obtain ⟨x12, e12, h⟩ := asI_e h
    obtain ⟨x13, e13, h⟩ := asI_e h
    rw [upd_eta e5, upd_eta e11, upd_eta e12, upd_eta e13]
    refine WP.block' (by kernel_rfl) ?_
    obtain ⟨Inv_again3, m_again3, h0, hr⟩ := h
    refine WP.loop' (by kernel_rfl) (fun m_again3 => fun l I S => asSl (l 5) fun b_5 b_5n b_5c => asSl (l 11) fun x11 x11n x11c => asI .i64 (l 12) fun x12 => asI .i64 (l 13) fun x13 => Inv_again3 m_again3 b_5 b_5n b_5c x11 x11n x11c x12 x13 I S) m_again3 (cast (by kernel_rfl) h0) ?_
    clear h0
    intro m_again3 l I S hle h
    obtain ⟨b_5, b_5n, b_5c, e5, h⟩ := asSl_e h
    obtain ⟨x11, x11n, x11c, e11, h⟩ := asSl_e h
    obtain ⟨x12, e12, h⟩ := asI_e h
    obtain ⟨x13, e13, h⟩ := asI_e h
    rw [upd_eta e5, upd_eta e11, upd_eta e12, upd_eta e13]
    have h := hr m_again3 b_5 b_5n b_5c x11 x11n x11c x12 x13 I S hle h
    clear hr hle
    refine WP.cut 2 (fun l I S => asSl (l 5) fun b_5 b_5n b_5c => asSl (l 11) fun x11 x11n x11c => asI .i64 (l 12) fun x12 => asI .i64 (l 13) fun x13 => bolterlaw12_Addr_b4 (fun b_5 b_5n b_5c x11 x11n x11c x12 x13 I S => ∃ m', m' < m_again3 ∧ Inv_again3 m' b_5 b_5n b_5c x11 x11n x11c x12 x13 I S) R b_5 b_5n b_5c x11 x11n x11c x12 x13 I S) (cast (by kernel_rfl) h) ?_
    clear h
    intro l I S _ h
    obtain ⟨b_5, b_5n, b_5c, e5, h⟩ := asSl_e h
    obtain ⟨x11, x11n, x11c, e11, h⟩ := asSl_e h
    obtain ⟨x12, e12, h⟩ := asI_e h
    obtain ⟨x13, e13, h⟩ := asI_e h
    rw [upd_eta e5, upd_eta e11, upd_eta e12, upd_eta e13]
    refine WP.seqY (by kernel_rfl) (fun l I S => asSl (l 5) fun b_5 b_5n b_5c => asSl (l 11) fun x11 x11n x11c => asI .i64 (l 12) fun x12 => asI .i64 (l 13) fun x13 => bolterlaw12_Addr_b6 (fun b_5 b_5n b_5c x11 x11n x11c x12 x13 I S => ∃ m', m' < m_again3 ∧ Inv_again3 m' b_5 b_5n b_5c x11 x11n x11c x12 x13 I S) R b_5 b_5n b_5c x11 x11n x11c x12 x13 I S) ?_ ?_
    ·
      refine WP.block' (by kernel_rfl) ?_
      refine WP.cut 2 (fun l I S => asSl (l 5) fun b_5 b_5n b_5c => asI .i64 (l 6) fun k_6 => asI .u8 (l 7) fun n_7 => asSl (l 11) fun x11 x11n x11c => asI .i64 (l 12) fun x12 => asI .i64 (l 13) fun x13 => asB (l 21) fun x21 => bolterlaw12_Addr_b5 (fun b_5 b_5n b_5c x11 x11n x11c x12 x13 I S => ∃ m', m' < m_again3 ∧ Inv_again3 m' b_5 b_5n b_5c x11 x11n x11c x12 x13 I S) R b_5 b_5n b_5c k_6 n_7 x11 x11n x11c x12 x13 x21 I S) (cast (by kernel_rfl) h) ?_
      clear h
      intro l I S _ h
      obtain ⟨b_5, b_5n, b_5c, e5, h⟩ := asSl_e h
      obtain ⟨k_6, e6, h⟩ := asI_e h
      obtain ⟨n_7, e7, h⟩ := asI_e h
      obtain ⟨x11, x11n, x11c, e11, h⟩ := asSl_e h
      obtain ⟨x12, e12, h⟩ := asI_e h
      obtain ⟨x13, e13, h⟩ := asI_e h
      obtain ⟨x21, e21, h⟩ := asB_e h
      rw [upd_eta e5, upd_eta e6, upd_eta e7, upd_eta e11, upd_eta e12, upd_eta e13, upd_eta e21]
      refine WP.cond' (by kernel_rfl) (by kernel_rfl) h ?_ ?_
      · clear h
        intro h
        exact WP.draw' (.take 0 (.take 1 (.take 2 (.take 3 (.take 4 (.take 5 (.take 6 (.take 8 (.take 9 (.step 7 (.take 10 (.step 11 (.take 12 (.step 13 .done)))))))))))))) [7, 11, 13] (by kernel_rfl) (by kernel_rfl) (by kernel_rfl) (by kernel_rfl) (by kernel_rfl) (cast (by kernel_rfl) h)
      · clear h
        intro h
        exact Pre.sound _ _ _ _ _ (cast (by kernel_rfl) h)
    · clear h
      intro l I S _ h
      obtain ⟨b_5, b_5n, b_5c, e5, h⟩ := asSl_e h
      obtain ⟨x11, x11n, x11c, e11, h⟩ := asSl_e h
      obtain ⟨x12, e12, h⟩ := asI_e h
      obtain ⟨x13, e13, h⟩ := asI_e h
      rw [upd_eta e5, upd_eta e11, upd_eta e12, upd_eta e13]
      exact Pre.sound _ _ _ _ _ (cast (by kernel_rfl) h)
  · clear h
    intro l I S _ h
    obtain ⟨b_5, b_5n, b_5c, e5, h⟩ := asSl_e h
    rw [upd_eta e5]
    exact Pre.sound _ _ _ _ _ (cast (by kernel_rfl) h)
/-! ### bolterlaw02_Words: function 26, bolter/bolterlaw02.Words -/
noncomputable def bolterlaw02_Words_code : Code := (Tryd.f26.body).getD .skip
def bolterlaw02_Words_b4 (R : Value → IMem → SH → Prop) (out_3 : Option Addr) (out_3n : Nat) (out_3c : Nat) (I : IMem) (S : SH) : Prop :=
  R (.slice out_3 out_3n out_3c) I S
def bolterlaw02_Words_l3 (again3 : Option Addr → Nat → Nat → Option Addr → Nat → Nat → Int → Int → IMem → SH → Prop) (R : Value → IMem → SH → Prop) (out_3 : Option Addr) (out_3n : Nat) (out_3c : Nat) (x7 : Option Addr) (x7n : Nat) (x7c : Nat) (x8 : Int) (x9 : Int) (I : IMem) (S : SH) : Prop :=
  bcase (decide (x9 < x8))
    (ptrP x7 fun x12 => (0 : Int) ≤ x9 ∧ x9 < (x7n : Int) ∧
    ∃ x13, Cell I S (x12.add (x9.toNat * 1)) (.int .u8 x13) ∧
    bcase (x9 == (12 : Int))
      (bolterlaw02_Words_b4 R out_3 out_3n out_3c I S)
      (∀ b16 : Nat,
      ptrP (some ⟨b16, 0, none⟩) fun x21 => (0 : Int) ≤ (x13.tmod (8 : Int)) ∧ (x13.tmod (8 : Int)) < (8 : Int) ∧
      ∃ x22, Cell I ((b16, .cells #[.string ⟨#[97]⟩, .string ⟨#[98]⟩, .string ⟨#[99]⟩, .string ⟨#[119, 119, 119]⟩, .string ⟨#[101, 120]⟩, .string ⟨#[111, 114, 103]⟩, .string ⟨#[42]⟩, .string ⟨#[114, 112, 122, 45, 105, 112]⟩] 9 (0, 0)) :: S) (x21.add ((x13.tmod (8 : Int)).toNat * 1)) (.string x22) ∧
      ∀ b23 : Nat,
      AppG 9 1 16 [.string ⟨#[]⟩] (some (.slice 9)) I ((b23, .cells #[.string x22] 9 (0, 0)) :: ((b16, .cells #[.string ⟨#[97]⟩, .string ⟨#[98]⟩, .string ⟨#[99]⟩, .string ⟨#[119, 119, 119]⟩, .string ⟨#[101, 120]⟩, .string ⟨#[111, 114, 103]⟩, .string ⟨#[42]⟩, .string ⟨#[114, 112, 122, 45, 105, 112]⟩] 9 (0, 0)) :: S)) (.slice out_3 out_3n out_3c) (.slice (some ⟨b23, 0, none⟩) 1 1) fun x24 x24n x24c S1 =>
      again3 x24 x24n x24c x7 x7n x7c x8 (IntKind.wrap .i64 (x9 + (1 : Int))) I S1))
    (bolterlaw02_Words_b4 R out_3 out_3n out_3c I S)
def bolterlaw02_Words_b2 (R : Value → IMem → SH → Prop) (out_3 : Option Addr) (out_3n : Nat) (out_3c : Nat) (x7 : Option Addr) (x7n : Nat) (x7c : Nat) (x8 : Int) (x9 : Int) (I : IMem) (S : SH) : Prop :=
  ∃ (Inv : Nat → Option Addr → Nat → Nat → Option Addr → Nat → Nat → Int → Int → IMem → SH → Prop) (m : Nat), Inv m out_3 out_3n out_3c x7 x7n x7c x8 x9 I S ∧
    ∀ (m : Nat) (out_3 : Option Addr) (out_3n : Nat) (out_3c : Nat) (x7 : Option Addr) (x7n : Nat) (x7c : Nat) (x8 : Int) (x9 : Int) (J : IMem) (T : SH), I.le J → Inv m out_3 out_3n out_3c x7 x7n x7c x8 x9 J T →
      bolterlaw02_Words_l3 (fun out_3 out_3n out_3c x7 x7n x7c x8 x9 I S => ∃ m', m' < m ∧ Inv m' out_3 out_3n out_3c x7 x7n x7c x8 x9 I S) R out_3 out_3n out_3c x7 x7n x7c x8 x9 J T
def bolterlaw02_Words_b1 (R : Value → IMem → SH → Prop) (ns_0 : Option Addr) (ns_0n : Nat) (ns_0c : Nat) (out_3 : Option Addr) (out_3n : Nat) (out_3c : Nat) (I : IMem) (S : SH) : Prop :=
  bolterlaw02_Words_b2 R out_3 out_3n out_3c ns_0 ns_0n ns_0c (ns_0n : Int) 0 I S
def bolterlaw02_Words (R : Value → IMem → SH → Prop) (ns_0 : Option Addr) (ns_0n : Nat) (ns_0c : Nat) (I : IMem) (S : SH) : Prop :=
  bolterlaw02_Words_b1 R ns_0 ns_0n ns_0c none 0 0 I S
theorem bolterlaw02_Words_fn (R : Value → IMem → SH → Prop) (ns_0 : Option Addr) (ns_0n : Nat) (ns_0c : Nat) (I : IMem) (S : SH) (h : bolterlaw02_Words R ns_0 ns_0n ns_0c I S) :
    Runs Tryd.prog 26 #[.slice ns_0 ns_0n ns_0c] I S R := by
  refine Runs.of_wp (args := [.slice ns_0 ns_0n ns_0c]) (c := bolterlaw02_Words_code) Tryd.func26 (by kernel_rfl) (by kernel_rfl) ?_
  refine WP.cut 2 (fun l I S => asSl (l 0) fun ns_0 ns_0n ns_0c => asSl (l 3) fun out_3 out_3n out_3c => bolterlaw02_Words_b1 R ns_0 ns_0n ns_0c out_3 out_3n out_3c I S) (cast (by kernel_rfl) h) ?_
  clear h
  intro l I S _ h
  obtain ⟨ns_0, ns_0n, ns_0c, e0, h⟩ := asSl_e h
  obtain ⟨out_3, out_3n, out_3c, e3, h⟩ := asSl_e h
  rw [upd_eta e0, upd_eta e3]
  refine WP.seqY (by kernel_rfl) (fun l I S => asSl (l 3) fun out_3 out_3n out_3c => bolterlaw02_Words_b4 R out_3 out_3n out_3c I S) ?_ ?_
  ·
    refine WP.cut 1 (fun l I S => asSl (l 3) fun out_3 out_3n out_3c => asSl (l 7) fun x7 x7n x7c => asI .i64 (l 8) fun x8 => asI .i64 (l 9) fun x9 => bolterlaw02_Words_b2 R out_3 out_3n out_3c x7 x7n x7c x8 x9 I S) (cast (by kernel_rfl) h) ?_
    clear h
    intro l I S _ h
    obtain ⟨out_3, out_3n, out_3c, e3, h⟩ := asSl_e h
    obtain ⟨x7, x7n, x7c, e7, h⟩ := asSl_e h
    obtain ⟨x8, e8, h⟩ := asI_e h
    obtain ⟨x9, e9, h⟩ := asI_e h
    rw [upd_eta e3, upd_eta e7, upd_eta e8, upd_eta e9]
    refine WP.block' (by kernel_rfl) ?_
    obtain ⟨Inv_again3, m_again3, h0, hr⟩ := h
    refine WP.loop' (by kernel_rfl) (fun m_again3 => fun l I S => asSl (l 3) fun out_3 out_3n out_3c => asSl (l 7) fun x7 x7n x7c => asI .i64 (l 8) fun x8 => asI .i64 (l 9) fun x9 => Inv_again3 m_again3 out_3 out_3n out_3c x7 x7n x7c x8 x9 I S) m_again3 (cast (by kernel_rfl) h0) ?_
    clear h0
    intro m_again3 l I S hle h
    obtain ⟨out_3, out_3n, out_3c, e3, h⟩ := asSl_e h
    obtain ⟨x7, x7n, x7c, e7, h⟩ := asSl_e h
    obtain ⟨x8, e8, h⟩ := asI_e h
    obtain ⟨x9, e9, h⟩ := asI_e h
    rw [upd_eta e3, upd_eta e7, upd_eta e8, upd_eta e9]
    have h := hr m_again3 out_3 out_3n out_3c x7 x7n x7c x8 x9 I S hle h
    clear hr hle
    exact Pre.sound _ _ _ _ _ (cast (by kernel_rfl) h)
  · clear h
    intro l I S _ h
    obtain ⟨out_3, out_3n, out_3c, e3, h⟩ := asSl_e h
    rw [upd_eta e3]
    exact Pre.sound _ _ _ _ _ (cast (by kernel_rfl) h)
/-! ### bolterlaw02_Name: function 27, bolter/bolterlaw02.Name -/
noncomputable def bolterlaw02_Name_code : Code := (Tryd.f27.body).getD .skip
def bolterlaw02_Name (R : Value → IMem → SH → Prop) (ns_0 : Option Addr) (ns_0n : Nat) (ns_0c : Nat) (I : IMem) (S : SH) : Prop :=
  Runs Tryd.prog 26 #[.slice ns_0 ns_0n ns_0c] I S fun v I1 S1 => ∃ x7 x7n x7c, v = .slice x7 x7n x7c ∧
  Runs Tryd.prog 25 #[.slice x7 x7n x7c] I1 S1 fun v' I1' S1' => ∃ x8_0 x8_1, v' = .tuple #[.string x8_0, .bool x8_1] ∧
  R (.string x8_0) I1' S1'
theorem bolterlaw02_Name_fn (R : Value → IMem → SH → Prop) (ns_0 : Option Addr) (ns_0n : Nat) (ns_0c : Nat) (I : IMem) (S : SH) (h : bolterlaw02_Name R ns_0 ns_0n ns_0c I S) :
    Runs Tryd.prog 27 #[.slice ns_0 ns_0n ns_0c] I S R := by
  refine Runs.of_wp (args := [.slice ns_0 ns_0n ns_0c]) (c := bolterlaw02_Name_code) Tryd.func27 (by kernel_rfl) (by kernel_rfl) ?_
  exact Pre.sound _ _ _ _ _ (cast (by kernel_rfl) h)
/-! ### name_Labels: function 23, bolter/name.Labels -/
noncomputable def name_Labels_code : Code := (Tryd.f23.body).getD .skip
def name_Labels_b8 (again4 : Option Addr → Nat → Nat → ByteArray → IMem → SH → Prop) (R : Value → IMem → SH → Prop) (out_4 : Option Addr) (out_4n : Nat) (out_4c : Nat) (s_5 : ByteArray) (k_6 : Int) (I : IMem) (S : SH) : Prop :=
  (0 : Int) ≤ (IntKind.wrap .i64 ((1 : Int) + k_6)) ∧ (IntKind.wrap .i64 ((1 : Int) + k_6)) ≤ ((s_5.size : Nat) : Int) ∧
  (0 : Int) ≤ (1 : Int) ∧ (1 : Int) ≤ (((IntKind.wrap .i64 ((1 : Int) + k_6)).toNat : Nat) : Int) ∧
  ∀ b40 : Nat,
  AppG 9 1 16 [.string ⟨#[]⟩] (some (.slice 9)) I ((b40, .cells #[.string (s_5.extract ((1 : Int).toNat) ((IntKind.wrap .i64 ((1 : Int) + k_6)).toNat))] 9 (0, 0)) :: S) (.slice out_4 out_4n out_4c) (.slice (some ⟨b40, 0, none⟩) 1 1) fun x41 x41n x41c S1 =>
  (0 : Int) ≤ (IntKind.wrap .i64 ((1 : Int) + k_6)) ∧ (IntKind.wrap .i64 ((1 : Int) + k_6)) ≤ ((s_5.size : Nat) : Int) ∧
  again4 x41 x41n x41c (s_5.extract ((IntKind.wrap .i64 ((1 : Int) + k_6)).toNat) s_5.size) I S1
def name_Labels_b7 (again4 : Option Addr → Nat → Nat → ByteArray → IMem → SH → Prop) (R : Value → IMem → SH → Prop) (out_4 : Option Addr) (out_4n : Nat) (out_4c : Nat) (s_5 : ByteArray) (k_6 : Int) (x34 : Bool) (I : IMem) (S : SH) : Prop :=
  bcase x34
    (R (.tuple #[.slice none 0 0, .bool false]) I S)
    (name_Labels_b8 again4 R out_4 out_4n out_4c s_5 k_6 I S)
def name_Labels_b6 (again4 : Option Addr → Nat → Nat → ByteArray → IMem → SH → Prop) (R : Value → IMem → SH → Prop) (out_4 : Option Addr) (out_4n : Nat) (out_4c : Nat) (s_5 : ByteArray) (k_6 : Int) (I : IMem) (S : SH) : Prop :=
  bcase (decide (k_6 < (1 : Int)))
    (name_Labels_b7 again4 R out_4 out_4n out_4c s_5 k_6 true I S)
    (bcase (decide (k_6 > (63 : Int)))
      (name_Labels_b7 again4 R out_4 out_4n out_4c s_5 k_6 true I S)
      (name_Labels_b7 again4 R out_4 out_4n out_4c s_5 k_6 (decide (k_6 ≥ (s_5.size : Int))) I S))
def name_Labels_b5 (again4 : Option Addr → Nat → Nat → ByteArray → IMem → SH → Prop) (R : Value → IMem → SH → Prop) (out_4 : Option Addr) (out_4n : Nat) (out_4c : Nat) (s_5 : ByteArray) (I : IMem) (S : SH) : Prop :=
  ∃ cx21 : UInt8, (0 : Int) ≤ (0 : Int) ∧ s_5[(0 : Int).toNat]? = some cx21 ∧
  name_Labels_b6 again4 R out_4 out_4n out_4c s_5 (IntKind.wrap .i64 (cx21.toNat : Int)) I S
def name_Labels_b9 (R : Value → IMem → SH → Prop) (out_4 : Option Addr) (out_4n : Nat) (out_4c : Nat) (I : IMem) (S : SH) : Prop :=
  R (.tuple #[.slice out_4 out_4n out_4c, .bool true]) I S
def name_Labels_l4 (again4 : Option Addr → Nat → Nat → ByteArray → IMem → SH → Prop) (R : Value → IMem → SH → Prop) (out_4 : Option Addr) (out_4n : Nat) (out_4c : Nat) (s_5 : ByteArray) (I : IMem) (S : SH) : Prop :=
  bcase (decide ((s_5.size : Int) > (0 : Int)))
    (name_Labels_b5 again4 R out_4 out_4n out_4c s_5 I S)
    (name_Labels_b9 R out_4 out_4n out_4c I S)
def name_Labels_b3 (R : Value → IMem → SH → Prop) (out_4 : Option Addr) (out_4n : Nat) (out_4c : Nat) (s_5 : ByteArray) (I : IMem) (S : SH) : Prop :=
  ∃ (Inv : Nat → Option Addr → Nat → Nat → ByteArray → IMem → SH → Prop) (m : Nat), Inv m out_4 out_4n out_4c s_5 I S ∧
    ∀ (m : Nat) (out_4 : Option Addr) (out_4n : Nat) (out_4c : Nat) (s_5 : ByteArray) (J : IMem) (T : SH), I.le J → Inv m out_4 out_4n out_4c s_5 J T →
      name_Labels_l4 (fun out_4 out_4n out_4c s_5 I S => ∃ m', m' < m ∧ Inv m' out_4 out_4n out_4c s_5 I S) R out_4 out_4n out_4c s_5 J T
def name_Labels_b2 (R : Value → IMem → SH → Prop) (out_4 : Option Addr) (out_4n : Nat) (out_4c : Nat) (s_5 : ByteArray) (x16 : Bool) (I : IMem) (S : SH) : Prop :=
  bcase x16
    (R (.tuple #[.slice none 0 0, .bool false]) I S)
    (name_Labels_b3 R out_4 out_4n out_4c s_5 I S)
def name_Labels_b1 (R : Value → IMem → SH → Prop) (out_4 : Option Addr) (out_4n : Nat) (out_4c : Nat) (s_5 : ByteArray) (I : IMem) (S : SH) : Prop :=
  bcase (decide ((s_5.size : Int) > (254 : Int)))
    (name_Labels_b2 R out_4 out_4n out_4c s_5 true I S)
    (Runs Tryd.prog 47 #[.string s_5] I S fun v I1 S1 => ∃ x14, v = .string x14 ∧
    name_Labels_b2 R out_4 out_4n out_4c s_5 (!(s_5.toList == x14.toList)) I1 S1)
def name_Labels (R : Value → IMem → SH → Prop) (n_0 : ByteArray) (I : IMem) (S : SH) : Prop :=
  name_Labels_b1 R none 0 0 n_0 I S
theorem name_Labels_fn (R : Value → IMem → SH → Prop) (n_0 : ByteArray) (I : IMem) (S : SH) (h : name_Labels R n_0 I S) :
    Runs Tryd.prog 23 #[.string n_0] I S R := by
  refine Runs.of_wp (args := [.string n_0]) (c := name_Labels_code) Tryd.func23 (by kernel_rfl) (by kernel_rfl) ?_
  refine WP.cut 3 (fun l I S => asSl (l 4) fun out_4 out_4n out_4c => asStr (l 5) fun s_5 => name_Labels_b1 R out_4 out_4n out_4c s_5 I S) (cast (by kernel_rfl) h) ?_
  clear h
  intro l I S _ h
  obtain ⟨out_4, out_4n, out_4c, e4, h⟩ := asSl_e h
  obtain ⟨s_5, e5, h⟩ := asStr_e h
  rw [upd_eta e4, upd_eta e5]
  refine WP.seqY (by kernel_rfl) (fun l I S => asSl (l 4) fun out_4 out_4n out_4c => asStr (l 5) fun s_5 => name_Labels_b3 R out_4 out_4n out_4c s_5 I S) ?_ ?_
  ·
    refine WP.cut 1 (fun l I S => asSl (l 4) fun out_4 out_4n out_4c => asStr (l 5) fun s_5 => asB (l 16) fun x16 => name_Labels_b2 R out_4 out_4n out_4c s_5 x16 I S) (cast (by kernel_rfl) h) ?_
    clear h
    intro l I S _ h
    obtain ⟨out_4, out_4n, out_4c, e4, h⟩ := asSl_e h
    obtain ⟨s_5, e5, h⟩ := asStr_e h
    obtain ⟨x16, e16, h⟩ := asB_e h
    rw [upd_eta e4, upd_eta e5, upd_eta e16]
    exact Pre.sound _ _ _ _ _ (cast (by kernel_rfl) h)
  · clear h
    intro l I S _ h
    obtain ⟨out_4, out_4n, out_4c, e4, h⟩ := asSl_e h
    obtain ⟨s_5, e5, h⟩ := asStr_e h
    rw [upd_eta e4, upd_eta e5]
    refine WP.seqY (by kernel_rfl) (fun l I S => asSl (l 4) fun out_4 out_4n out_4c => name_Labels_b9 R out_4 out_4n out_4c I S) ?_ ?_
    ·
      refine WP.block' (by kernel_rfl) ?_
      obtain ⟨Inv_again4, m_again4, h0, hr⟩ := h
      refine WP.loop' (by kernel_rfl) (fun m_again4 => fun l I S => asSl (l 4) fun out_4 out_4n out_4c => asStr (l 5) fun s_5 => Inv_again4 m_again4 out_4 out_4n out_4c s_5 I S) m_again4 (cast (by kernel_rfl) h0) ?_
      clear h0
      intro m_again4 l I S hle h
      obtain ⟨out_4, out_4n, out_4c, e4, h⟩ := asSl_e h
      obtain ⟨s_5, e5, h⟩ := asStr_e h
      rw [upd_eta e4, upd_eta e5]
      have h := hr m_again4 out_4 out_4n out_4c s_5 I S hle h
      clear hr hle
      refine WP.cut 1 (fun l I S => asSl (l 4) fun out_4 out_4n out_4c => asStr (l 5) fun s_5 => name_Labels_b5 (fun out_4 out_4n out_4c s_5 I S => ∃ m', m' < m_again4 ∧ Inv_again4 m' out_4 out_4n out_4c s_5 I S) R out_4 out_4n out_4c s_5 I S) (cast (by kernel_rfl) h) ?_
      clear h
      intro l I S _ h
      obtain ⟨out_4, out_4n, out_4c, e4, h⟩ := asSl_e h
      obtain ⟨s_5, e5, h⟩ := asStr_e h
      rw [upd_eta e4, upd_eta e5]
      refine WP.block' (by kernel_rfl) ?_
      refine WP.cut 1 (fun l I S => asSl (l 4) fun out_4 out_4n out_4c => asStr (l 5) fun s_5 => asI .i64 (l 6) fun k_6 => name_Labels_b6 (fun out_4 out_4n out_4c s_5 I S => ∃ m', m' < m_again4 ∧ Inv_again4 m' out_4 out_4n out_4c s_5 I S) R out_4 out_4n out_4c s_5 k_6 I S) (cast (by kernel_rfl) h) ?_
      clear h
      intro l I S _ h
      obtain ⟨out_4, out_4n, out_4c, e4, h⟩ := asSl_e h
      obtain ⟨s_5, e5, h⟩ := asStr_e h
      obtain ⟨k_6, e6, h⟩ := asI_e h
      rw [upd_eta e4, upd_eta e5, upd_eta e6]
      refine WP.seqY (by kernel_rfl) (fun l I S => asSl (l 4) fun out_4 out_4n out_4c => asStr (l 5) fun s_5 => asI .i64 (l 6) fun k_6 => name_Labels_b8 (fun out_4 out_4n out_4c s_5 I S => ∃ m', m' < m_again4 ∧ Inv_again4 m' out_4 out_4n out_4c s_5 I S) R out_4 out_4n out_4c s_5 k_6 I S) ?_ ?_
      ·
        refine WP.cut 1 (fun l I S => asSl (l 4) fun out_4 out_4n out_4c => asStr (l 5) fun s_5 => asI .i64 (l 6) fun k_6 => asB (l 34) fun x34 => name_Labels_b7 (fun out_4 out_4n out_4c s_5 I S => ∃ m', m' < m_again4 ∧ Inv_again4 m' out_4 out_4n out_4c s_5 I S) R out_4 out_4n out_4c s_5 k_6 x34 I S) (cast (by kernel_rfl) h) ?_
        clear h
        intro l I S _ h
        obtain ⟨out_4, out_4n, out_4c, e4, h⟩ := asSl_e h
        obtain ⟨s_5, e5, h⟩ := asStr_e h
        obtain ⟨k_6, e6, h⟩ := asI_e h
        obtain ⟨x34, e34, h⟩ := asB_e h
        rw [upd_eta e4, upd_eta e5, upd_eta e6, upd_eta e34]
        exact Pre.sound _ _ _ _ _ (cast (by kernel_rfl) h)
      · clear h
        intro l I S _ h
        obtain ⟨out_4, out_4n, out_4c, e4, h⟩ := asSl_e h
        obtain ⟨s_5, e5, h⟩ := asStr_e h
        obtain ⟨k_6, e6, h⟩ := asI_e h
        rw [upd_eta e4, upd_eta e5, upd_eta e6]
        exact Pre.sound _ _ _ _ _ (cast (by kernel_rfl) h)
    · clear h
      intro l I S _ h
      obtain ⟨out_4, out_4n, out_4c, e4, h⟩ := asSl_e h
      rw [upd_eta e4]
      exact Pre.sound _ _ _ _ _ (cast (by kernel_rfl) h)
/-! ### name_Make: function 25, bolter/name.Make -/
noncomputable def name_Make_code : Code := (Tryd.f25.body).getD .skip
def name_Make_b8 (again3 : Addr → Option Addr → Nat → Nat → Int → Int → IMem → SH → Prop) (R : Value → IMem → SH → Prop) (out_4 : Addr) (x7 : Option Addr) (x7n : Nat) (x7c : Nat) (x8 : Int) (x9 : Int) (I : IMem) (S : SH) : Prop :=
  again3 out_4 x7 x7n x7c x8 (IntKind.wrap .i64 (x9 + (1 : Int))) I S
def name_Make_b7 (again3 : Addr → Option Addr → Nat → Nat → Int → Int → IMem → SH → Prop) (R : Value → IMem → SH → Prop) (out_4 : Addr) (l_6 : ByteArray) (x7 : Option Addr) (x7n : Nat) (x7c : Nat) (x8 : Int) (x9 : Int) (I : IMem) (S : SH) : Prop :=
  Runs Tryd.prog 49 #[.pointer (some out_4), .int .u8 (IntKind.wrap .u8 (l_6.size : Int))] I S fun v I1 S1 => ∃ x32, v = x32 ∧
  Runs Tryd.prog 47 #[.string l_6] I1 S1 fun v' I1' S1' => ∃ x34, v' = .string x34 ∧
  Runs Tryd.prog 50 #[.pointer (some out_4), .string x34] I1' S1' fun v'' I1'' S1'' => ∃ x35_0 x35_1, v'' = .tuple #[.int .i64 x35_0, x35_1] ∧
  name_Make_b8 again3 R out_4 x7 x7n x7c x8 x9 I1'' S1''
def name_Make_b6 (again3 : Addr → Option Addr → Nat → Nat → Int → Int → IMem → SH → Prop) (R : Value → IMem → SH → Prop) (out_4 : Addr) (l_6 : ByteArray) (x7 : Option Addr) (x7n : Nat) (x7c : Nat) (x8 : Int) (x9 : Int) (x28 : Bool) (I : IMem) (S : SH) : Prop :=
  bcase x28
    (R (.tuple #[.string ⟨#[]⟩, .bool false]) I S)
    (name_Make_b7 again3 R out_4 l_6 x7 x7n x7c x8 x9 I S)
def name_Make_b5 (again3 : Addr → Option Addr → Nat → Nat → Int → Int → IMem → SH → Prop) (R : Value → IMem → SH → Prop) (out_4 : Addr) (l_6 : ByteArray) (x7 : Option Addr) (x7n : Nat) (x7c : Nat) (x8 : Int) (x9 : Int) (I : IMem) (S : SH) : Prop :=
  bcase (decide ((l_6.size : Int) < (1 : Int)))
    (name_Make_b6 again3 R out_4 l_6 x7 x7n x7c x8 x9 true I S)
    (bcase (decide ((l_6.size : Int) > (63 : Int)))
      (name_Make_b6 again3 R out_4 l_6 x7 x7n x7c x8 x9 true I S)
      (Runs Tryd.prog 48 #[.pointer (some out_4)] I S fun v I1 S1 => ∃ x22, v = .int .i64 x22 ∧
      name_Make_b6 again3 R out_4 l_6 x7 x7n x7c x8 x9 (decide ((IntKind.wrap .i64 ((IntKind.wrap .i64 (x22 + (1 : Int))) + (l_6.size : Int))) > (254 : Int))) I1 S1))
def name_Make_b4 (again3 : Addr → Option Addr → Nat → Nat → Int → Int → IMem → SH → Prop) (R : Value → IMem → SH → Prop) (out_4 : Addr) (x7 : Option Addr) (x7n : Nat) (x7c : Nat) (x8 : Int) (x9 : Int) (I : IMem) (S : SH) : Prop :=
  ptrP x7 fun x11 => (0 : Int) ≤ x9 ∧ x9 < (x7n : Int) ∧
  ∃ x12, Cell I S (x11.add (x9.toNat * 1)) (.string x12) ∧
  name_Make_b5 again3 R out_4 x12 x7 x7n x7c x8 x9 I S
def name_Make_b9 (R : Value → IMem → SH → Prop) (out_4 : Addr) (I : IMem) (S : SH) : Prop :=
  Runs Tryd.prog 51 #[.pointer (some out_4)] I S fun v I1 S1 => ∃ x37, v = .string x37 ∧
  R (.tuple #[.string x37, .bool true]) I1 S1
def name_Make_l3 (again3 : Addr → Option Addr → Nat → Nat → Int → Int → IMem → SH → Prop) (R : Value → IMem → SH → Prop) (out_4 : Addr) (x7 : Option Addr) (x7n : Nat) (x7c : Nat) (x8 : Int) (x9 : Int) (I : IMem) (S : SH) : Prop :=
  bcase (decide (x9 < x8))
    (name_Make_b4 again3 R out_4 x7 x7n x7c x8 x9 I S)
    (name_Make_b9 R out_4 I S)
def name_Make_b2 (R : Value → IMem → SH → Prop) (out_4 : Addr) (x7 : Option Addr) (x7n : Nat) (x7c : Nat) (x8 : Int) (x9 : Int) (I : IMem) (S : SH) : Prop :=
  ∃ (Inv : Nat → Addr → Option Addr → Nat → Nat → Int → Int → IMem → SH → Prop) (m : Nat), Inv m out_4 x7 x7n x7c x8 x9 I S ∧
    ∀ (m : Nat) (out_4 : Addr) (x7 : Option Addr) (x7n : Nat) (x7c : Nat) (x8 : Int) (x9 : Int) (J : IMem) (T : SH), I.le J → Inv m out_4 x7 x7n x7c x8 x9 J T →
      name_Make_l3 (fun out_4 x7 x7n x7c x8 x9 I S => ∃ m', m' < m ∧ Inv m' out_4 x7 x7n x7c x8 x9 I S) R out_4 x7 x7n x7c x8 x9 J T
def name_Make_b1 (R : Value → IMem → SH → Prop) (labels_0 : Option Addr) (labels_0n : Nat) (labels_0c : Nat) (out_4 : Addr) (I : IMem) (S : SH) : Prop :=
  name_Make_b2 R out_4 labels_0 labels_0n labels_0c (labels_0n : Int) 0 I S
def name_Make (R : Value → IMem → SH → Prop) (labels_0 : Option Addr) (labels_0n : Nat) (labels_0c : Nat) (I : IMem) (S : SH) : Prop :=
  ∀ b4 : Nat,
  name_Make_b1 R labels_0 labels_0n labels_0c ⟨b4, 0, none⟩ I ((b4, .cells #[.pointer none, .slice none 0 0] 95 (0, 0)) :: S)
theorem name_Make_fn (R : Value → IMem → SH → Prop) (labels_0 : Option Addr) (labels_0n : Nat) (labels_0c : Nat) (I : IMem) (S : SH) (h : name_Make R labels_0 labels_0n labels_0c I S) :
    Runs Tryd.prog 25 #[.slice labels_0 labels_0n labels_0c] I S R := by
  refine Runs.of_wp (args := [.slice labels_0 labels_0n labels_0c]) (c := name_Make_code) Tryd.func25 (by kernel_rfl) (by kernel_rfl) ?_
  refine WP.cut 2 (fun l I S => asSl (l 0) fun labels_0 labels_0n labels_0c => asAdr (l 4) fun out_4 => name_Make_b1 R labels_0 labels_0n labels_0c out_4 I S) (cast (by kernel_rfl) h) ?_
  clear h
  intro l I S _ h
  obtain ⟨labels_0, labels_0n, labels_0c, e0, h⟩ := asSl_e h
  obtain ⟨out_4, e4, h⟩ := asAdr_e h
  rw [upd_eta e0, upd_eta e4]
  refine WP.seqY (by kernel_rfl) (fun l I S => asAdr (l 4) fun out_4 => name_Make_b9 R out_4 I S) ?_ ?_
  ·
    refine WP.cut 1 (fun l I S => asAdr (l 4) fun out_4 => asSl (l 7) fun x7 x7n x7c => asI .i64 (l 8) fun x8 => asI .i64 (l 9) fun x9 => name_Make_b2 R out_4 x7 x7n x7c x8 x9 I S) (cast (by kernel_rfl) h) ?_
    clear h
    intro l I S _ h
    obtain ⟨out_4, e4, h⟩ := asAdr_e h
    obtain ⟨x7, x7n, x7c, e7, h⟩ := asSl_e h
    obtain ⟨x8, e8, h⟩ := asI_e h
    obtain ⟨x9, e9, h⟩ := asI_e h
    rw [upd_eta e4, upd_eta e7, upd_eta e8, upd_eta e9]
    refine WP.block' (by kernel_rfl) ?_
    obtain ⟨Inv_again3, m_again3, h0, hr⟩ := h
    refine WP.loop' (by kernel_rfl) (fun m_again3 => fun l I S => asAdr (l 4) fun out_4 => asSl (l 7) fun x7 x7n x7c => asI .i64 (l 8) fun x8 => asI .i64 (l 9) fun x9 => Inv_again3 m_again3 out_4 x7 x7n x7c x8 x9 I S) m_again3 (cast (by kernel_rfl) h0) ?_
    clear h0
    intro m_again3 l I S hle h
    obtain ⟨out_4, e4, h⟩ := asAdr_e h
    obtain ⟨x7, x7n, x7c, e7, h⟩ := asSl_e h
    obtain ⟨x8, e8, h⟩ := asI_e h
    obtain ⟨x9, e9, h⟩ := asI_e h
    rw [upd_eta e4, upd_eta e7, upd_eta e8, upd_eta e9]
    have h := hr m_again3 out_4 x7 x7n x7c x8 x9 I S hle h
    clear hr hle
    refine WP.cut 2 (fun l I S => asAdr (l 4) fun out_4 => asSl (l 7) fun x7 x7n x7c => asI .i64 (l 8) fun x8 => asI .i64 (l 9) fun x9 => name_Make_b4 (fun out_4 x7 x7n x7c x8 x9 I S => ∃ m', m' < m_again3 ∧ Inv_again3 m' out_4 x7 x7n x7c x8 x9 I S) R out_4 x7 x7n x7c x8 x9 I S) (cast (by kernel_rfl) h) ?_
    clear h
    intro l I S _ h
    obtain ⟨out_4, e4, h⟩ := asAdr_e h
    obtain ⟨x7, x7n, x7c, e7, h⟩ := asSl_e h
    obtain ⟨x8, e8, h⟩ := asI_e h
    obtain ⟨x9, e9, h⟩ := asI_e h
    rw [upd_eta e4, upd_eta e7, upd_eta e8, upd_eta e9]
    refine WP.seqY (by kernel_rfl) (fun l I S => asAdr (l 4) fun out_4 => asSl (l 7) fun x7 x7n x7c => asI .i64 (l 8) fun x8 => asI .i64 (l 9) fun x9 => name_Make_b8 (fun out_4 x7 x7n x7c x8 x9 I S => ∃ m', m' < m_again3 ∧ Inv_again3 m' out_4 x7 x7n x7c x8 x9 I S) R out_4 x7 x7n x7c x8 x9 I S) ?_ ?_
    ·
      refine WP.block' (by kernel_rfl) ?_
      refine WP.cut 1 (fun l I S => asAdr (l 4) fun out_4 => asStr (l 6) fun l_6 => asSl (l 7) fun x7 x7n x7c => asI .i64 (l 8) fun x8 => asI .i64 (l 9) fun x9 => name_Make_b5 (fun out_4 x7 x7n x7c x8 x9 I S => ∃ m', m' < m_again3 ∧ Inv_again3 m' out_4 x7 x7n x7c x8 x9 I S) R out_4 l_6 x7 x7n x7c x8 x9 I S) (cast (by kernel_rfl) h) ?_
      clear h
      intro l I S _ h
      obtain ⟨out_4, e4, h⟩ := asAdr_e h
      obtain ⟨l_6, e6, h⟩ := asStr_e h
      obtain ⟨x7, x7n, x7c, e7, h⟩ := asSl_e h
      obtain ⟨x8, e8, h⟩ := asI_e h
      obtain ⟨x9, e9, h⟩ := asI_e h
      rw [upd_eta e4, upd_eta e6, upd_eta e7, upd_eta e8, upd_eta e9]
      refine WP.seqY (by kernel_rfl) (fun l I S => asAdr (l 4) fun out_4 => asStr (l 6) fun l_6 => asSl (l 7) fun x7 x7n x7c => asI .i64 (l 8) fun x8 => asI .i64 (l 9) fun x9 => name_Make_b7 (fun out_4 x7 x7n x7c x8 x9 I S => ∃ m', m' < m_again3 ∧ Inv_again3 m' out_4 x7 x7n x7c x8 x9 I S) R out_4 l_6 x7 x7n x7c x8 x9 I S) ?_ ?_
      ·
        refine WP.cut 1 (fun l I S => asAdr (l 4) fun out_4 => asStr (l 6) fun l_6 => asSl (l 7) fun x7 x7n x7c => asI .i64 (l 8) fun x8 => asI .i64 (l 9) fun x9 => asB (l 28) fun x28 => name_Make_b6 (fun out_4 x7 x7n x7c x8 x9 I S => ∃ m', m' < m_again3 ∧ Inv_again3 m' out_4 x7 x7n x7c x8 x9 I S) R out_4 l_6 x7 x7n x7c x8 x9 x28 I S) (cast (by kernel_rfl) h) ?_
        clear h
        intro l I S _ h
        obtain ⟨out_4, e4, h⟩ := asAdr_e h
        obtain ⟨l_6, e6, h⟩ := asStr_e h
        obtain ⟨x7, x7n, x7c, e7, h⟩ := asSl_e h
        obtain ⟨x8, e8, h⟩ := asI_e h
        obtain ⟨x9, e9, h⟩ := asI_e h
        obtain ⟨x28, e28, h⟩ := asB_e h
        rw [upd_eta e4, upd_eta e6, upd_eta e7, upd_eta e8, upd_eta e9, upd_eta e28]
        exact Pre.sound _ _ _ _ _ (cast (by kernel_rfl) h)
      · clear h
        intro l I S _ h
        obtain ⟨out_4, e4, h⟩ := asAdr_e h
        obtain ⟨l_6, e6, h⟩ := asStr_e h
        obtain ⟨x7, x7n, x7c, e7, h⟩ := asSl_e h
        obtain ⟨x8, e8, h⟩ := asI_e h
        obtain ⟨x9, e9, h⟩ := asI_e h
        rw [upd_eta e4, upd_eta e6, upd_eta e7, upd_eta e8, upd_eta e9]
        exact Pre.sound _ _ _ _ _ (cast (by kernel_rfl) h)
    · clear h
      intro l I S _ h
      obtain ⟨out_4, e4, h⟩ := asAdr_e h
      obtain ⟨x7, x7n, x7c, e7, h⟩ := asSl_e h
      obtain ⟨x8, e8, h⟩ := asI_e h
      obtain ⟨x9, e9, h⟩ := asI_e h
      rw [upd_eta e4, upd_eta e7, upd_eta e8, upd_eta e9]
      exact Pre.sound _ _ _ _ _ (cast (by kernel_rfl) h)
  · clear h
    intro l I S _ h
    obtain ⟨out_4, e4, h⟩ := asAdr_e h
    rw [upd_eta e4]
    exact Pre.sound _ _ _ _ _ (cast (by kernel_rfl) h)
/-! ### name_May: function 28, bolter/name.May -/
noncomputable def name_May_code : Code := (Tryd.f28.body).getD .skip
def name_May (R : Value → IMem → SH → Prop) (n_0 : ByteArray) (I : IMem) (S : SH) : Prop :=
  Runs Tryd.prog 23 #[.string n_0] I S fun v I1 S1 => ∃ x7_0 x7_0n x7_0c x7_1, v = .tuple #[.slice x7_0 x7_0n x7_0c, .bool x7_1] ∧
  R (.bool x7_1) I1 S1
theorem name_May_fn (R : Value → IMem → SH → Prop) (n_0 : ByteArray) (I : IMem) (S : SH) (h : name_May R n_0 I S) :
    Runs Tryd.prog 28 #[.string n_0] I S R := by
  refine Runs.of_wp (args := [.string n_0]) (c := name_May_code) Tryd.func28 (by kernel_rfl) (by kernel_rfl) ?_
  exact Pre.sound _ _ _ _ _ (cast (by kernel_rfl) h)
/-! ### name_folded: function 47, bolter/name.folded -/
noncomputable def name_folded_code : Code := (Tryd.f47.body).getD .skip
def name_folded_b4 (R : Value → IMem → SH → Prop) (b_3 : Option Addr) (b_3n : Nat) (b_3c : Nat) (I : IMem) (S : SH) : Prop :=
  ∃ x22 : ByteArray, BytesAt I S b_3 b_3n x22 ∧
  R (.string x22) I S
def name_folded_l3 (again3 : Option Addr → Nat → Nat → Option Addr → Nat → Nat → Int → Int → IMem → SH → Prop) (R : Value → IMem → SH → Prop) (b_3 : Option Addr) (b_3n : Nat) (b_3c : Nat) (x8 : Option Addr) (x8n : Nat) (x8c : Nat) (x9 : Int) (x10 : Int) (I : IMem) (S : SH) : Prop :=
  bcase (decide (x10 < x9))
    (ptrP x8 fun x13 => (0 : Int) ≤ x10 ∧ x10 < (x8n : Int) ∧
    ∃ x14, Cell I S (x13.add (x10.toNat * 1)) (.int .u8 x14) ∧
    Runs Tryd.prog 69 #[.int .u8 x14] I S fun v I1 S1 => ∃ x18, v = .int .u8 x18 ∧
    ptrP b_3 fun x19 => (0 : Int) ≤ x10 ∧ x10 < (b_3n : Int) ∧
    StP S1 (x19.add (x10.toNat * 1)) [.int .u8 x18] fun S1' =>
    again3 b_3 b_3n b_3c x8 x8n x8c x9 (IntKind.wrap .i64 (x10 + (1 : Int))) I1 S1')
    (name_folded_b4 R b_3 b_3n b_3c I S)
def name_folded_b2 (R : Value → IMem → SH → Prop) (b_3 : Option Addr) (b_3n : Nat) (b_3c : Nat) (x8 : Option Addr) (x8n : Nat) (x8c : Nat) (x9 : Int) (x10 : Int) (I : IMem) (S : SH) : Prop :=
  ∃ (Inv : Nat → Option Addr → Nat → Nat → Option Addr → Nat → Nat → Int → Int → IMem → SH → Prop) (m : Nat), Inv m b_3 b_3n b_3c x8 x8n x8c x9 x10 I S ∧
    ∀ (m : Nat) (b_3 : Option Addr) (b_3n : Nat) (b_3c : Nat) (x8 : Option Addr) (x8n : Nat) (x8c : Nat) (x9 : Int) (x10 : Int) (J : IMem) (T : SH), I.le J → Inv m b_3 b_3n b_3c x8 x8n x8c x9 x10 J T →
      name_folded_l3 (fun b_3 b_3n b_3c x8 x8n x8c x9 x10 I S => ∃ m', m' < m ∧ Inv m' b_3 b_3n b_3c x8 x8n x8c x9 x10 I S) R b_3 b_3n b_3c x8 x8n x8c x9 x10 J T
def name_folded_b1 (R : Value → IMem → SH → Prop) (b_3 : Option Addr) (b_3n : Nat) (b_3c : Nat) (I : IMem) (S : SH) : Prop :=
  name_folded_b2 R b_3 b_3n b_3c b_3 b_3n b_3c (b_3n : Int) 0 I S
def name_folded (R : Value → IMem → SH → Prop) (s_0 : ByteArray) (I : IMem) (S : SH) : Prop :=
  s_0.size ≤ maxLen ∧ ∀ b7 c7 : Nat, s_0.size ≤ c7 → c7 ≤ maxLen →
  name_folded_b1 R (some ⟨b7, 0, none⟩) s_0.size c7 I ((b7, .cells (byteCells s_0 ++ repV (c7 - s_0.size) [.int .u8 0]).toArray 5 (c7, c7 + 1)) :: S)
theorem name_folded_fn (R : Value → IMem → SH → Prop) (s_0 : ByteArray) (I : IMem) (S : SH) (h : name_folded R s_0 I S) :
    Runs Tryd.prog 47 #[.string s_0] I S R := by
  refine Runs.of_wp (args := [.string s_0]) (c := name_folded_code) Tryd.func47 (by kernel_rfl) (by kernel_rfl) ?_
  refine WP.cut 2 (fun l I S => asSl (l 3) fun b_3 b_3n b_3c => name_folded_b1 R b_3 b_3n b_3c I S) (cast (by kernel_rfl) h) ?_
  clear h
  intro l I S _ h
  obtain ⟨b_3, b_3n, b_3c, e3, h⟩ := asSl_e h
  rw [upd_eta e3]
  refine WP.seqY (by kernel_rfl) (fun l I S => asSl (l 3) fun b_3 b_3n b_3c => name_folded_b4 R b_3 b_3n b_3c I S) ?_ ?_
  ·
    refine WP.cut 1 (fun l I S => asSl (l 3) fun b_3 b_3n b_3c => asSl (l 8) fun x8 x8n x8c => asI .i64 (l 9) fun x9 => asI .i64 (l 10) fun x10 => name_folded_b2 R b_3 b_3n b_3c x8 x8n x8c x9 x10 I S) (cast (by kernel_rfl) h) ?_
    clear h
    intro l I S _ h
    obtain ⟨b_3, b_3n, b_3c, e3, h⟩ := asSl_e h
    obtain ⟨x8, x8n, x8c, e8, h⟩ := asSl_e h
    obtain ⟨x9, e9, h⟩ := asI_e h
    obtain ⟨x10, e10, h⟩ := asI_e h
    rw [upd_eta e3, upd_eta e8, upd_eta e9, upd_eta e10]
    refine WP.block' (by kernel_rfl) ?_
    obtain ⟨Inv_again3, m_again3, h0, hr⟩ := h
    refine WP.loop' (by kernel_rfl) (fun m_again3 => fun l I S => asSl (l 3) fun b_3 b_3n b_3c => asSl (l 8) fun x8 x8n x8c => asI .i64 (l 9) fun x9 => asI .i64 (l 10) fun x10 => Inv_again3 m_again3 b_3 b_3n b_3c x8 x8n x8c x9 x10 I S) m_again3 (cast (by kernel_rfl) h0) ?_
    clear h0
    intro m_again3 l I S hle h
    obtain ⟨b_3, b_3n, b_3c, e3, h⟩ := asSl_e h
    obtain ⟨x8, x8n, x8c, e8, h⟩ := asSl_e h
    obtain ⟨x9, e9, h⟩ := asI_e h
    obtain ⟨x10, e10, h⟩ := asI_e h
    rw [upd_eta e3, upd_eta e8, upd_eta e9, upd_eta e10]
    have h := hr m_again3 b_3 b_3n b_3c x8 x8n x8c x9 x10 I S hle h
    clear hr hle
    exact Pre.sound _ _ _ _ _ (cast (by kernel_rfl) h)
  · clear h
    intro l I S _ h
    obtain ⟨b_3, b_3n, b_3c, e3, h⟩ := asSl_e h
    rw [upd_eta e3]
    exact Pre.sound _ _ _ _ _ (cast (by kernel_rfl) h)
/-! ### strings_Builder_Len: function 48, (*strings.Builder).Len -/
noncomputable def strings_Builder_Len_code : Code := (Tryd.f48.body).getD .skip
def strings_Builder_Len (R : Value → IMem → SH → Prop) (b_0 : Option Addr) (I : IMem) (S : SH) : Prop :=
  ptrP b_0 fun x4 =>
  ∃ x6 x6n x6c, Cell I S (x4.add 1) (.slice x6 x6n x6c) ∧
  R (.int .i64 (x6n : Int)) I S
theorem strings_Builder_Len_fn (R : Value → IMem → SH → Prop) (b_0 : Option Addr) (I : IMem) (S : SH) (h : strings_Builder_Len R b_0 I S) :
    Runs Tryd.prog 48 #[.pointer b_0] I S R := by
  refine Runs.of_wp (args := [.pointer b_0]) (c := strings_Builder_Len_code) Tryd.func48 (by kernel_rfl) (by kernel_rfl) ?_
  exact Pre.sound _ _ _ _ _ (cast (by kernel_rfl) h)
/-! ### strings_Builder_WriteByte: function 49, (*strings.Builder).WriteByte -/
noncomputable def strings_Builder_WriteByte_code : Code := (Tryd.f49.body).getD .skip
def strings_Builder_WriteByte (R : Value → IMem → SH → Prop) (b_0 : Option Addr) (c_1 : Int) (I : IMem) (S : SH) : Prop :=
  Runs Tryd.prog 70 #[.pointer b_0] I S fun v I1 S1 => v = .tuple #[] ∧
  ptrP b_0 fun x9 =>
  ∃ x11 x11n x11c, Cell I1 S1 (x9.add 1) (.slice x11 x11n x11c) ∧
  ∀ b13 : Nat,
  AppG 5 1 1 [.int .u8 0] (some (.slice 5)) I1 ((b13, .cells #[.int .u8 c_1] 5 (0, 0)) :: S1) (.slice x11 x11n x11c) (.slice (some ⟨b13, 0, none⟩) 1 1) fun x14 x14n x14c S1' =>
  ptrP b_0 fun x15 =>
  StP S1' (x15.add 1) [.slice x14 x14n x14c] fun S1'' =>
  R .nilIface I1 S1''
theorem strings_Builder_WriteByte_fn (R : Value → IMem → SH → Prop) (b_0 : Option Addr) (c_1 : Int) (I : IMem) (S : SH) (h : strings_Builder_WriteByte R b_0 c_1 I S) :
    Runs Tryd.prog 49 #[.pointer b_0, .int .u8 c_1] I S R := by
  refine Runs.of_wp (args := [.pointer b_0, .int .u8 c_1]) (c := strings_Builder_WriteByte_code) Tryd.func49 (by kernel_rfl) (by kernel_rfl) ?_
  exact Pre.sound _ _ _ _ _ (cast (by kernel_rfl) h)
/-! ### strings_Builder_WriteString: function 50, (*strings.Builder).WriteString -/
noncomputable def strings_Builder_WriteString_code : Code := (Tryd.f50.body).getD .skip
def strings_Builder_WriteString (R : Value → IMem → SH → Prop) (b_0 : Option Addr) (s_1 : ByteArray) (I : IMem) (S : SH) : Prop :=
  Runs Tryd.prog 70 #[.pointer b_0] I S fun v I1 S1 => v = .tuple #[] ∧
  ptrP b_0 fun x10 =>
  ∃ x12 x12n x12c, Cell I1 S1 (x10.add 1) (.slice x12 x12n x12c) ∧
  AppG 5 1 1 [.int .u8 0] (some .string) I1 S1 (.slice x12 x12n x12c) (.string s_1) fun x14 x14n x14c S1' =>
  ptrP b_0 fun x15 =>
  StP S1' (x15.add 1) [.slice x14 x14n x14c] fun S1'' =>
  R (.tuple #[.int .i64 (s_1.size : Int), .nilIface]) I1 S1''
theorem strings_Builder_WriteString_fn (R : Value → IMem → SH → Prop) (b_0 : Option Addr) (s_1 : ByteArray) (I : IMem) (S : SH) (h : strings_Builder_WriteString R b_0 s_1 I S) :
    Runs Tryd.prog 50 #[.pointer b_0, .string s_1] I S R := by
  refine Runs.of_wp (args := [.pointer b_0, .string s_1]) (c := strings_Builder_WriteString_code) Tryd.func50 (by kernel_rfl) (by kernel_rfl) ?_
  exact Pre.sound _ _ _ _ _ (cast (by kernel_rfl) h)
/-! ### strings_Builder_String: function 51, (*strings.Builder).String -/
noncomputable def strings_Builder_String_code : Code := (Tryd.f51.body).getD .skip
def strings_Builder_String_b2 (R : Value → IMem → SH → Prop) (x2 : ByteArray) (I : IMem) (S : SH) : Prop :=
  R (.string x2) I S
def strings_Builder_String_b1 (R : Value → IMem → SH → Prop) (b_0 : Option Addr) (I : IMem) (S : SH) : Prop :=
  ptrP b_0 fun x4 =>
  ∃ x6 x6n x6c, Cell I S (x4.add 1) (.slice x6 x6n x6c) ∧
  ((x6 : Option Addr).isSome = true → x6c ≠ 0) ∧
  ptrP b_0 fun x9 =>
  ∃ x11 x11n x11c, Cell I S (x9.add 1) (.slice x11 x11n x11c) ∧
  UsP Tryd.prog 5 I S x6 (x11n : Int) fun x13 S1 =>
  strings_Builder_String_b2 R x13 I S1
def strings_Builder_String (R : Value → IMem → SH → Prop) (b_0 : Option Addr) (I : IMem) (S : SH) : Prop :=
  strings_Builder_String_b1 R b_0 I S
theorem strings_Builder_String_fn (R : Value → IMem → SH → Prop) (b_0 : Option Addr) (I : IMem) (S : SH) (h : strings_Builder_String R b_0 I S) :
    Runs Tryd.prog 51 #[.pointer b_0] I S R := by
  refine Runs.of_wp (args := [.pointer b_0]) (c := strings_Builder_String_code) Tryd.func51 (by kernel_rfl) (by kernel_rfl) ?_
  refine WP.cut 1 (fun l I S => asPtr (l 0) fun b_0 => strings_Builder_String_b1 R b_0 I S) (cast (by kernel_rfl) h) ?_
  clear h
  intro l I S _ h
  obtain ⟨b_0, e0, h⟩ := asPtr_e h
  rw [upd_eta e0]
  refine WP.seqY (by kernel_rfl) (fun l I S => asStr (l 2) fun x2 => strings_Builder_String_b2 R x2 I S) ?_ ?_
  ·
    exact WP.draw' (.take 0 (.take 1 (.take 2 (.take 3 (.take 4 (.take 5 (.take 6 (.take 7 (.take 8 (.take 9 (.step 10 (.take 11 .done)))))))))))) [10] (by kernel_rfl) (by kernel_rfl) (by kernel_rfl) (by kernel_rfl) (by kernel_rfl) (cast (by kernel_rfl) h)
  · clear h
    intro l I S _ h
    obtain ⟨x2, e2, h⟩ := asStr_e h
    rw [upd_eta e2]
    exact Pre.sound _ _ _ _ _ (cast (by kernel_rfl) h)
/-! ### name_Fold: function 69, bolter/name.Fold -/
noncomputable def name_Fold_code : Code := (Tryd.f69.body).getD .skip
def name_Fold_b3 (R : Value → IMem → SH → Prop) (c_0 : Int) (I : IMem) (S : SH) : Prop :=
  R (.int .u8 c_0) I S
def name_Fold_b2 (R : Value → IMem → SH → Prop) (c_0 : Int) (x8 : Bool) (I : IMem) (S : SH) : Prop :=
  bcase x8
    (R (.int .u8 (IntKind.wrap .u8 ((IntKind.wrap .u8 (c_0 + (97 : Int))) - (65 : Int)))) I S)
    (name_Fold_b3 R c_0 I S)
def name_Fold_b1 (R : Value → IMem → SH → Prop) (c_0 : Int) (I : IMem) (S : SH) : Prop :=
  bcase (decide (c_0 ≥ (65 : Int)))
    (name_Fold_b2 R c_0 (decide (c_0 ≤ (90 : Int))) I S)
    (name_Fold_b2 R c_0 false I S)
def name_Fold (R : Value → IMem → SH → Prop) (c_0 : Int) (I : IMem) (S : SH) : Prop :=
  name_Fold_b1 R c_0 I S
theorem name_Fold_fn (R : Value → IMem → SH → Prop) (c_0 : Int) (I : IMem) (S : SH) (h : name_Fold R c_0 I S) :
    Runs Tryd.prog 69 #[.int .u8 c_0] I S R := by
  refine Runs.of_wp (args := [.int .u8 c_0]) (c := name_Fold_code) Tryd.func69 (by kernel_rfl) (by kernel_rfl) ?_
  refine WP.cut 1 (fun l I S => asI .u8 (l 0) fun c_0 => name_Fold_b1 R c_0 I S) (cast (by kernel_rfl) h) ?_
  clear h
  intro l I S _ h
  obtain ⟨c_0, e0, h⟩ := asI_e h
  rw [upd_eta e0]
  refine WP.seqY (by kernel_rfl) (fun l I S => asI .u8 (l 0) fun c_0 => name_Fold_b3 R c_0 I S) ?_ ?_
  ·
    refine WP.cut 1 (fun l I S => asI .u8 (l 0) fun c_0 => asB (l 8) fun x8 => name_Fold_b2 R c_0 x8 I S) (cast (by kernel_rfl) h) ?_
    clear h
    intro l I S _ h
    obtain ⟨c_0, e0, h⟩ := asI_e h
    obtain ⟨x8, e8, h⟩ := asB_e h
    rw [upd_eta e0, upd_eta e8]
    exact Pre.sound _ _ _ _ _ (cast (by kernel_rfl) h)
  · clear h
    intro l I S _ h
    obtain ⟨c_0, e0, h⟩ := asI_e h
    rw [upd_eta e0]
    exact Pre.sound _ _ _ _ _ (cast (by kernel_rfl) h)
/-! ### strings_Builder_copyCheck: function 70, (*strings.Builder).copyCheck -/
noncomputable def strings_Builder_copyCheck_code : Code := (Tryd.f70.body).getD .skip
def strings_Builder_copyCheck (R : Value → IMem → SH → Prop) (b_0 : Addr) (I : IMem) (S : SH) : Prop :=
  ∃ x5, Cell I S b_0 (.pointer x5) ∧
  bcase ((x5 : Option Addr).isNone)
    (∃ csx9 ex9, BlkAt I S b_0.block csx9 ex9 ∧ b_0.off < csx9.size ∧
    RunsX Tryd.prog 81 #[.pointer (some b_0)] I S fun v I1 S1 => ∃ x10, v = .pointer x10 ∧
    ptrP x10 fun x11 => ∃ csx11 ex11, BlkAt I1 S1 x11.block csx11 ex11 ∧ liesAt Tryd.prog (Program.depth Tryd.prog) ex11 (csx11.size / Program.cellsOf Tryd.prog ex11) x11.off 95 1 = true ∧
    StP S1 b_0 [.pointer (some x11)] fun S1' =>
    R (.tuple #[]) I1 S1')
    (∃ x17, Cell I S b_0 (.pointer x17) ∧
    (x17 : Option Addr) = some b_0 ∧
    R (.tuple #[]) I S)
theorem strings_Builder_copyCheck_fn (R : Value → IMem → SH → Prop) (b_0 : Addr) (I : IMem) (S : SH) (h : strings_Builder_copyCheck R b_0 I S) :
    Runs Tryd.prog 70 #[.pointer (some b_0)] I S R := by
  refine Runs.of_wp (args := [.pointer (some b_0)]) (c := strings_Builder_copyCheck_code) Tryd.func70 (by kernel_rfl) (by kernel_rfl) ?_
  exact Pre.sound _ _ _ _ _ (cast (by kernel_rfl) h)
end Go.Proofs.YtkagfmlaolmdnaaDoor
