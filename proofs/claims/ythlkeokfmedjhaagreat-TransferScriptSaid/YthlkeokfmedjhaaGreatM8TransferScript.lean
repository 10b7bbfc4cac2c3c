import Derived.Test.YthlkeokfmedjhaaGreatProg
import Derived.Test.YthlkeokfmedjhaaGreatM1TransferScript
import Derived.Test.YthlkeokfmedjhaaGreatM2TransferScript
import Derived.Test.YthlkeokfmedjhaaGreatM3TransferScript
import Derived.Test.YthlkeokfmedjhaaGreatM4TransferScript
import Derived.Test.YthlkeokfmedjhaaGreatM5TransferScript
import Derived.Test.YthlkeokfmedjhaaGreatM6TransferScript
import Derived.Test.YthlkeokfmedjhaaGreatM7TransferScript
set_option linter.unusedVariables false
set_option maxRecDepth 8000
set_option maxHeartbeats 2000000
namespace Go.Proofs.YthlkeokfmedjhaaGreat
open Go.Px
/-! ### bolterlaw11_Act_message: function 23, (bolter/bolterlaw11.Act).message -/
noncomputable def bolterlaw11_Act_message_code : Code := (Tryz.f23.body).getD .skip
def bolterlaw11_Act_message_b11 (R : Value → IMem → SH → Prop) (x4 : Addr) (x_5 : Addr) (I : IMem) (S : SH) : Prop :=
  ∃ x227_0, Cell I S x_5 (.int .u16 x227_0) ∧
  ∃ x227_1, Cell I S (x_5.add 1) (.bool x227_1) ∧
  ∃ x227_2, Cell I S (x_5.add 2) (.int .i64 x227_2) ∧
  ∃ x227_3, Cell I S (x_5.add 3) (.bool x227_3) ∧
  ∃ x227_4, Cell I S (x_5.add 4) (.bool x227_4) ∧
  ∃ x227_5, Cell I S (x_5.add 5) (.bool x227_5) ∧
  ∃ x227_6, Cell I S (x_5.add 6) (.bool x227_6) ∧
  ∃ x227_7, Cell I S (x_5.add 7) (.int .i64 x227_7) ∧
  ∃ x227_8, Cell I S (x_5.add 8) (.string x227_8) ∧
  ∃ x227_9, Cell I S (x_5.add 9) (.int .u16 x227_9) ∧
  ∃ x227_10 x227_10n x227_10c, Cell I S (x_5.add 10) (.slice x227_10 x227_10n x227_10c) ∧
  ∃ x227_11 x227_11n x227_11c, Cell I S (x_5.add 11) (.slice x227_11 x227_11n x227_11c) ∧
  ∃ x227_12 x227_12n x227_12c, Cell I S (x_5.add 12) (.slice x227_12 x227_12n x227_12c) ∧
  ∃ x227_13, Cell I S (x_5.add 13) (.int .i64 x227_13) ∧
  StP S x4 [.int .u16 x227_0, .bool x227_1, .int .i64 x227_2, .bool x227_3, .bool x227_4, .bool x227_5, .bool x227_6, .int .i64 x227_7, .string x227_8, .int .u16 x227_9, .slice x227_10 x227_10n x227_10c, .slice x227_11 x227_11n x227_11c, .slice x227_12 x227_12n x227_12c, .int .i64 x227_13] fun S1 =>
  ∃ r4_0, Cell I S1 x4 (.int .u16 r4_0) ∧
  ∃ r4_1, Cell I S1 (x4.add 1) (.bool r4_1) ∧
  ∃ r4_2, Cell I S1 (x4.add 2) (.int .i64 r4_2) ∧
  ∃ r4_3, Cell I S1 (x4.add 3) (.bool r4_3) ∧
  ∃ r4_4, Cell I S1 (x4.add 4) (.bool r4_4) ∧
  ∃ r4_5, Cell I S1 (x4.add 5) (.bool r4_5) ∧
  ∃ r4_6, Cell I S1 (x4.add 6) (.bool r4_6) ∧
  ∃ r4_7, Cell I S1 (x4.add 7) (.int .i64 r4_7) ∧
  ∃ r4_8, Cell I S1 (x4.add 8) (.string r4_8) ∧
  ∃ r4_9, Cell I S1 (x4.add 9) (.int .u16 r4_9) ∧
  ∃ r4_10 r4_10n r4_10c, Cell I S1 (x4.add 10) (.slice r4_10 r4_10n r4_10c) ∧
  ∃ r4_11 r4_11n r4_11c, Cell I S1 (x4.add 11) (.slice r4_11 r4_11n r4_11c) ∧
  ∃ r4_12 r4_12n r4_12c, Cell I S1 (x4.add 12) (.slice r4_12 r4_12n r4_12c) ∧
  ∃ r4_13, Cell I S1 (x4.add 13) (.int .i64 r4_13) ∧
  R (.agg #[.int .u16 r4_0, .bool r4_1, .int .i64 r4_2, .bool r4_3, .bool r4_4, .bool r4_5, .bool r4_6, .int .i64 r4_7, .string r4_8, .int .u16 r4_9, .slice r4_10 r4_10n r4_10c, .slice r4_11 r4_11n r4_11c, .slice r4_12 r4_12n r4_12c, .int .i64 r4_13]) I S1
def bolterlaw11_Act_message_b10 (R : Value → IMem → SH → Prop) (x4 : Addr) (x_5 : Addr) (x217 : Bool) (I : IMem) (S : SH) : Prop :=
  bcase x217
    (∃ x219 x219n x219c, Cell I S (x_5.add 10) (.slice x219 x219n x219c) ∧
    ∃ x221 x221n x221c, Cell I S (x_5.add 10) (.slice x221 x221n x221c) ∧
    (0 : Int) ≤ (IntKind.wrap .i64 ((1 : Int) + (IntKind.wrap .i64 ((x221n : Int).tdiv (2 : Int))))) ∧ (IntKind.wrap .i64 ((1 : Int) + (IntKind.wrap .i64 ((x221n : Int).tdiv (2 : Int))))) ≤ ((x219c : Nat) : Int) ∧
    StP S (x_5.add 10) [.slice (slA x219 x219c 0 4) ((IntKind.wrap .i64 ((1 : Int) + (IntKind.wrap .i64 ((x221n : Int).tdiv (2 : Int))))).toNat - 0) (x219c - 0)] fun S1 =>
    bolterlaw11_Act_message_b11 R x4 x_5 I S1)
    (bolterlaw11_Act_message_b11 R x4 x_5 I S)
def bolterlaw11_Act_message_b9 (R : Value → IMem → SH → Prop) (a_2 : Addr) (x4 : Addr) (x_5 : Addr) (I : IMem) (S : SH) : Prop :=
  ∃ x209, Cell I S (a_2.add 2) (.int .u8 x209) ∧
  bcase ((IntKind.wrap .u8 (x209.tdiv (32 : Int))) == (7 : Int))
    (∃ x214 x214n x214c, Cell I S (x_5.add 10) (.slice x214 x214n x214c) ∧
    bolterlaw11_Act_message_b10 R x4 x_5 (decide ((x214n : Int) > (1 : Int))) I S)
    (bolterlaw11_Act_message_b10 R x4 x_5 false I S)
def bolterlaw11_Act_message_b17 (again16 : Addr → Addr → Addr → Addr → Option Addr → Nat → Nat → Option Addr → Nat → Nat → Int → Int → IMem → SH → Prop) (R : Value → IMem → SH → Prop) (a_2 : Addr) (x4 : Addr) (x_5 : Addr) (last_8 : Addr) (come_10 : Option Addr) (come_10n : Nat) (come_10c : Nat) (x164 : Option Addr) (x164n : Nat) (x164c : Nat) (x165 : Int) (x166 : Int) (I : IMem) (S : SH) : Prop :=
  again16 a_2 x4 x_5 last_8 come_10 come_10n come_10c x164 x164n x164c x165 (IntKind.wrap .i64 (x166 + (1 : Int))) I S
def bolterlaw11_Act_message_b22 (again21 : Addr → Addr → Addr → Addr → Option Addr → Nat → Nat → Int → Int → IMem → SH → Prop) (R : Value → IMem → SH → Prop) (a_2 : Addr) (x4 : Addr) (x_5 : Addr) (last_8 : Addr) (x186 : Option Addr) (x186n : Nat) (x186c : Nat) (x187 : Int) (x188 : Int) (I : IMem) (S : SH) : Prop :=
  again21 a_2 x4 x_5 last_8 x186 x186n x186c x187 (IntKind.wrap .i64 (x188 + (1 : Int))) I S
def bolterlaw11_Act_message_b23 (R : Value → IMem → SH → Prop) (a_2 : Addr) (x4 : Addr) (x_5 : Addr) (last_8 : Addr) (I : IMem) (S : SH) : Prop :=
  ∃ x203 x203n x203c, Cell I S (x_5.add 10) (.slice x203 x203n x203c) ∧
  ∃ x204_0, Cell I S last_8 (.string x204_0) ∧
  ∃ x204_1, Cell I S (last_8.add 1) (.int .u16 x204_1) ∧
  ∃ x204_2, Cell I S (last_8.add 2) (.int .u32 x204_2) ∧
  ∃ x204_3, Cell I S (last_8.add 3) (.string x204_3) ∧
  ∀ b205 : Nat,
  AppG 32 4 40 [.string ⟨#[]⟩, .int .u16 0, .int .u32 0, .string ⟨#[]⟩] (some (.slice 32)) I ((b205, .cells #[.string x204_0, .int .u16 x204_1, .int .u32 x204_2, .string x204_3] 32 (0, 0)) :: S) (.slice x203 x203n x203c) (.slice (some ⟨b205, 0, none⟩) 1 1) fun x206 x206n x206c S1 =>
  StP S1 (x_5.add 10) [.slice x206 x206n x206c] fun S1' =>
  bolterlaw11_Act_message_b9 R a_2 x4 x_5 I S1'
def bolterlaw11_Act_message_l21 (again21 : Addr → Addr → Addr → Addr → Option Addr → Nat → Nat → Int → Int → IMem → SH → Prop) (R : Value → IMem → SH → Prop) (a_2 : Addr) (x4 : Addr) (x_5 : Addr) (last_8 : Addr) (x186 : Option Addr) (x186n : Nat) (x186c : Nat) (x187 : Int) (x188 : Int) (I : IMem) (S : SH) : Prop :=
  bcase (decide (x188 < x187))
    (ptrP x186 fun x190 => (0 : Int) ≤ x188 ∧ x188 < (x186n : Int) ∧
    ∃ x191_0, Cell I S (x190.add (x188.toNat * 4)) (.string x191_0) ∧
    ∃ x191_1, Cell I S ((x190.add (x188.toNat * 4)).add 1) (.int .u16 x191_1) ∧
    ∃ x191_2, Cell I S ((x190.add (x188.toNat * 4)).add 2) (.int .u32 x191_2) ∧
    ∃ x191_3, Cell I S ((x190.add (x188.toNat * 4)).add 3) (.string x191_3) ∧
    ∀ b16 : Nat,
    StP ((b16, .cells #[.string ⟨#[]⟩, .int .u16 0, .int .u32 0, .string ⟨#[]⟩] 32 (0, 0)) :: S) ⟨b16, 0, none⟩ [.string x191_0, .int .u16 x191_1, .int .u32 x191_2, .string x191_3] fun S1 =>
    ∃ x193, Cell I S1 ⟨b16, 1, none⟩ (.int .u16 x193) ∧
    bcase (x193 != (6 : Int))
      (∃ x196 x196n x196c, Cell I S1 (x_5.add 10) (.slice x196 x196n x196c) ∧
      ∃ x197_0, Cell I S1 ⟨b16, 0, none⟩ (.string x197_0) ∧
      ∃ x197_1, Cell I S1 ⟨b16, 1, none⟩ (.int .u16 x197_1) ∧
      ∃ x197_2, Cell I S1 ⟨b16, 2, none⟩ (.int .u32 x197_2) ∧
      ∃ x197_3, Cell I S1 ⟨b16, 3, none⟩ (.string x197_3) ∧
      ∀ b198 : Nat,
      AppG 32 4 40 [.string ⟨#[]⟩, .int .u16 0, .int .u32 0, .string ⟨#[]⟩] (some (.slice 32)) I ((b198, .cells #[.string x197_0, .int .u16 x197_1, .int .u32 x197_2, .string x197_3] 32 (0, 0)) :: S1) (.slice x196 x196n x196c) (.slice (some ⟨b198, 0, none⟩) 1 1) fun x199 x199n x199c S1' =>
      StP S1' (x_5.add 10) [.slice x199 x199n x199c] fun S1'' =>
      bolterlaw11_Act_message_b22 again21 R a_2 x4 x_5 last_8 x186 x186n x186c x187 x188 I S1'')
      (bolterlaw11_Act_message_b22 again21 R a_2 x4 x_5 last_8 x186 x186n x186c x187 x188 I S1))
    (bolterlaw11_Act_message_b23 R a_2 x4 x_5 last_8 I S)
def bolterlaw11_Act_message_b20 (R : Value → IMem → SH → Prop) (a_2 : Addr) (x4 : Addr) (x_5 : Addr) (last_8 : Addr) (x186 : Option Addr) (x186n : Nat) (x186c : Nat) (x187 : Int) (x188 : Int) (I : IMem) (S : SH) : Prop :=
  ∃ (Inv : Nat → Addr → Addr → Addr → Addr → Option Addr → Nat → Nat → Int → Int → IMem → SH → Prop) (m : Nat), Inv m a_2 x4 x_5 last_8 x186 x186n x186c x187 x188 I S ∧
    ∀ (m : Nat) (a_2 : Addr) (x4 : Addr) (x_5 : Addr) (last_8 : Addr) (x186 : Option Addr) (x186n : Nat) (x186c : Nat) (x187 : Int) (x188 : Int) (J : IMem) (T : SH), I.le J → Inv m a_2 x4 x_5 last_8 x186 x186n x186c x187 x188 J T →
      bolterlaw11_Act_message_l21 (fun a_2 x4 x_5 last_8 x186 x186n x186c x187 x188 I S => ∃ m', m' < m ∧ Inv m' a_2 x4 x_5 last_8 x186 x186n x186c x187 x188 I S) R a_2 x4 x_5 last_8 x186 x186n x186c x187 x188 J T
def bolterlaw11_Act_message_b19 (R : Value → IMem → SH → Prop) (a_2 : Addr) (x4 : Addr) (x_5 : Addr) (last_8 : Addr) (come_10 : Option Addr) (come_10n : Nat) (come_10c : Nat) (I : IMem) (S : SH) : Prop :=
  bolterlaw11_Act_message_b20 R a_2 x4 x_5 last_8 come_10 come_10n come_10c (come_10n : Int) 0 I S
def bolterlaw11_Act_message_b18 (R : Value → IMem → SH → Prop) (a_2 : Addr) (x4 : Addr) (x_5 : Addr) (last_8 : Addr) (come_10 : Option Addr) (come_10n : Nat) (come_10c : Nat) (I : IMem) (S : SH) : Prop :=
  ∃ x181 x181n x181c, Cell I S (x_5.add 10) (.slice x181 x181n x181c) ∧
  ∃ x182_0, Cell I S last_8 (.string x182_0) ∧
  ∃ x182_1, Cell I S (last_8.add 1) (.int .u16 x182_1) ∧
  ∃ x182_2, Cell I S (last_8.add 2) (.int .u32 x182_2) ∧
  ∃ x182_3, Cell I S (last_8.add 3) (.string x182_3) ∧
  ∀ b183 : Nat,
  AppG 32 4 40 [.string ⟨#[]⟩, .int .u16 0, .int .u32 0, .string ⟨#[]⟩] (some (.slice 32)) I ((b183, .cells #[.string x182_0, .int .u16 x182_1, .int .u32 x182_2, .string x182_3] 32 (0, 0)) :: S) (.slice x181 x181n x181c) (.slice (some ⟨b183, 0, none⟩) 1 1) fun x184 x184n x184c S1 =>
  StP S1 (x_5.add 10) [.slice x184 x184n x184c] fun S1' =>
  bolterlaw11_Act_message_b19 R a_2 x4 x_5 last_8 come_10 come_10n come_10c I S1'
def bolterlaw11_Act_message_l16 (again16 : Addr → Addr → Addr → Addr → Option Addr → Nat → Nat → Option Addr → Nat → Nat → Int → Int → IMem → SH → Prop) (R : Value → IMem → SH → Prop) (a_2 : Addr) (x4 : Addr) (x_5 : Addr) (last_8 : Addr) (come_10 : Option Addr) (come_10n : Nat) (come_10c : Nat) (x164 : Option Addr) (x164n : Nat) (x164c : Nat) (x165 : Int) (x166 : Int) (I : IMem) (S : SH) : Prop :=
  bcase (decide (x166 < x165))
    (ptrP x164 fun x168 => (0 : Int) ≤ x166 ∧ x166 < (x164n : Int) ∧
    ∃ x169_0, Cell I S (x168.add (x166.toNat * 4)) (.string x169_0) ∧
    ∃ x169_1, Cell I S ((x168.add (x166.toNat * 4)).add 1) (.int .u16 x169_1) ∧
    ∃ x169_2, Cell I S ((x168.add (x166.toNat * 4)).add 2) (.int .u32 x169_2) ∧
    ∃ x169_3, Cell I S ((x168.add (x166.toNat * 4)).add 3) (.string x169_3) ∧
    ∀ b14 : Nat,
    StP ((b14, .cells #[.string ⟨#[]⟩, .int .u16 0, .int .u32 0, .string ⟨#[]⟩] 32 (0, 0)) :: S) ⟨b14, 0, none⟩ [.string x169_0, .int .u16 x169_1, .int .u32 x169_2, .string x169_3] fun S1 =>
    ∃ x171, Cell I S1 ⟨b14, 1, none⟩ (.int .u16 x171) ∧
    bcase (x171 != (6 : Int))
      (∃ x174 x174n x174c, Cell I S1 (x_5.add 10) (.slice x174 x174n x174c) ∧
      ∃ x175_0, Cell I S1 ⟨b14, 0, none⟩ (.string x175_0) ∧
      ∃ x175_1, Cell I S1 ⟨b14, 1, none⟩ (.int .u16 x175_1) ∧
      ∃ x175_2, Cell I S1 ⟨b14, 2, none⟩ (.int .u32 x175_2) ∧
      ∃ x175_3, Cell I S1 ⟨b14, 3, none⟩ (.string x175_3) ∧
      ∀ b176 : Nat,
      AppG 32 4 40 [.string ⟨#[]⟩, .int .u16 0, .int .u32 0, .string ⟨#[]⟩] (some (.slice 32)) I ((b176, .cells #[.string x175_0, .int .u16 x175_1, .int .u32 x175_2, .string x175_3] 32 (0, 0)) :: S1) (.slice x174 x174n x174c) (.slice (some ⟨b176, 0, none⟩) 1 1) fun x177 x177n x177c S1' =>
      StP S1' (x_5.add 10) [.slice x177 x177n x177c] fun S1'' =>
      bolterlaw11_Act_message_b17 again16 R a_2 x4 x_5 last_8 come_10 come_10n come_10c x164 x164n x164c x165 x166 I S1'')
      (bolterlaw11_Act_message_b17 again16 R a_2 x4 x_5 last_8 come_10 come_10n come_10c x164 x164n x164c x165 x166 I S1))
    (bolterlaw11_Act_message_b18 R a_2 x4 x_5 last_8 come_10 come_10n come_10c I S)
def bolterlaw11_Act_message_b15 (R : Value → IMem → SH → Prop) (a_2 : Addr) (x4 : Addr) (x_5 : Addr) (last_8 : Addr) (come_10 : Option Addr) (come_10n : Nat) (come_10c : Nat) (x164 : Option Addr) (x164n : Nat) (x164c : Nat) (x165 : Int) (x166 : Int) (I : IMem) (S : SH) : Prop :=
  ∃ (Inv : Nat → Addr → Addr → Addr → Addr → Option Addr → Nat → Nat → Option Addr → Nat → Nat → Int → Int → IMem → SH → Prop) (m : Nat), Inv m a_2 x4 x_5 last_8 come_10 come_10n come_10c x164 x164n x164c x165 x166 I S ∧
    ∀ (m : Nat) (a_2 : Addr) (x4 : Addr) (x_5 : Addr) (last_8 : Addr) (come_10 : Option Addr) (come_10n : Nat) (come_10c : Nat) (x164 : Option Addr) (x164n : Nat) (x164c : Nat) (x165 : Int) (x166 : Int) (J : IMem) (T : SH), I.le J → Inv m a_2 x4 x_5 last_8 come_10 come_10n come_10c x164 x164n x164c x165 x166 J T →
      bolterlaw11_Act_message_l16 (fun a_2 x4 x_5 last_8 come_10 come_10n come_10c x164 x164n x164c x165 x166 I S => ∃ m', m' < m ∧ Inv m' a_2 x4 x_5 last_8 come_10 come_10n come_10c x164 x164n x164c x165 x166 I S) R a_2 x4 x_5 last_8 come_10 come_10n come_10c x164 x164n x164c x165 x166 J T
def bolterlaw11_Act_message_b14 (R : Value → IMem → SH → Prop) (a_2 : Addr) (x4 : Addr) (x_5 : Addr) (last_8 : Addr) (gone_9 : Option Addr) (gone_9n : Nat) (gone_9c : Nat) (come_10 : Option Addr) (come_10n : Nat) (come_10c : Nat) (I : IMem) (S : SH) : Prop :=
  bolterlaw11_Act_message_b15 R a_2 x4 x_5 last_8 come_10 come_10n come_10c gone_9 gone_9n gone_9c (gone_9n : Int) 0 I S
def bolterlaw11_Act_message_b27 (again26 : Addr → Addr → Addr → Addr → Option Addr → Nat → Nat → Int → Int → IMem → SH → Prop) (R : Value → IMem → SH → Prop) (a_2 : Addr) (x4 : Addr) (x_5 : Addr) (last_8 : Addr) (x85 : Option Addr) (x85n : Nat) (x85c : Nat) (x86 : Int) (x87 : Int) (I : IMem) (S : SH) : Prop :=
  again26 a_2 x4 x_5 last_8 x85 x85n x85c x86 (IntKind.wrap .i64 (x87 + (1 : Int))) I S
def bolterlaw11_Act_message_b28 (R : Value → IMem → SH → Prop) (a_2 : Addr) (x4 : Addr) (x_5 : Addr) (last_8 : Addr) (I : IMem) (S : SH) : Prop :=
  ∃ x102 x102n x102c, Cell I S (x_5.add 10) (.slice x102 x102n x102c) ∧
  ∃ x103_0, Cell I S last_8 (.string x103_0) ∧
  ∃ x103_1, Cell I S (last_8.add 1) (.int .u16 x103_1) ∧
  ∃ x103_2, Cell I S (last_8.add 2) (.int .u32 x103_2) ∧
  ∃ x103_3, Cell I S (last_8.add 3) (.string x103_3) ∧
  ∀ b104 : Nat,
  AppG 32 4 40 [.string ⟨#[]⟩, .int .u16 0, .int .u32 0, .string ⟨#[]⟩] (some (.slice 32)) I ((b104, .cells #[.string x103_0, .int .u16 x103_1, .int .u32 x103_2, .string x103_3] 32 (0, 0)) :: S) (.slice x102 x102n x102c) (.slice (some ⟨b104, 0, none⟩) 1 1) fun x105 x105n x105c S1 =>
  StP S1 (x_5.add 10) [.slice x105 x105n x105c] fun S1' =>
  bolterlaw11_Act_message_b9 R a_2 x4 x_5 I S1'
def bolterlaw11_Act_message_l26 (again26 : Addr → Addr → Addr → Addr → Option Addr → Nat → Nat → Int → Int → IMem → SH → Prop) (R : Value → IMem → SH → Prop) (a_2 : Addr) (x4 : Addr) (x_5 : Addr) (last_8 : Addr) (x85 : Option Addr) (x85n : Nat) (x85c : Nat) (x86 : Int) (x87 : Int) (I : IMem) (S : SH) : Prop :=
  bcase (decide (x87 < x86))
    (ptrP x85 fun x89 => (0 : Int) ≤ x87 ∧ x87 < (x85n : Int) ∧
    ∃ x90_0, Cell I S (x89.add (x87.toNat * 4)) (.string x90_0) ∧
    ∃ x90_1, Cell I S ((x89.add (x87.toNat * 4)).add 1) (.int .u16 x90_1) ∧
    ∃ x90_2, Cell I S ((x89.add (x87.toNat * 4)).add 2) (.int .u32 x90_2) ∧
    ∃ x90_3, Cell I S ((x89.add (x87.toNat * 4)).add 3) (.string x90_3) ∧
    ∀ b18 : Nat,
    StP ((b18, .cells #[.string ⟨#[]⟩, .int .u16 0, .int .u32 0, .string ⟨#[]⟩] 32 (0, 0)) :: S) ⟨b18, 0, none⟩ [.string x90_0, .int .u16 x90_1, .int .u32 x90_2, .string x90_3] fun S1 =>
    ∃ x92, Cell I S1 ⟨b18, 1, none⟩ (.int .u16 x92) ∧
    bcase (x92 != (6 : Int))
      (∃ x95 x95n x95c, Cell I S1 (x_5.add 10) (.slice x95 x95n x95c) ∧
      ∃ x96_0, Cell I S1 ⟨b18, 0, none⟩ (.string x96_0) ∧
      ∃ x96_1, Cell I S1 ⟨b18, 1, none⟩ (.int .u16 x96_1) ∧
      ∃ x96_2, Cell I S1 ⟨b18, 2, none⟩ (.int .u32 x96_2) ∧
      ∃ x96_3, Cell I S1 ⟨b18, 3, none⟩ (.string x96_3) ∧
      ∀ b97 : Nat,
      AppG 32 4 40 [.string ⟨#[]⟩, .int .u16 0, .int .u32 0, .string ⟨#[]⟩] (some (.slice 32)) I ((b97, .cells #[.string x96_0, .int .u16 x96_1, .int .u32 x96_2, .string x96_3] 32 (0, 0)) :: S1) (.slice x95 x95n x95c) (.slice (some ⟨b97, 0, none⟩) 1 1) fun x98 x98n x98c S1' =>
      StP S1' (x_5.add 10) [.slice x98 x98n x98c] fun S1'' =>
      bolterlaw11_Act_message_b27 again26 R a_2 x4 x_5 last_8 x85 x85n x85c x86 x87 I S1'')
      (bolterlaw11_Act_message_b27 again26 R a_2 x4 x_5 last_8 x85 x85n x85c x86 x87 I S1))
    (bolterlaw11_Act_message_b28 R a_2 x4 x_5 last_8 I S)
def bolterlaw11_Act_message_b25 (R : Value → IMem → SH → Prop) (a_2 : Addr) (x4 : Addr) (x_5 : Addr) (last_8 : Addr) (x85 : Option Addr) (x85n : Nat) (x85c : Nat) (x86 : Int) (x87 : Int) (I : IMem) (S : SH) : Prop :=
  ∃ (Inv : Nat → Addr → Addr → Addr → Addr → Option Addr → Nat → Nat → Int → Int → IMem → SH → Prop) (m : Nat), Inv m a_2 x4 x_5 last_8 x85 x85n x85c x86 x87 I S ∧
    ∀ (m : Nat) (a_2 : Addr) (x4 : Addr) (x_5 : Addr) (last_8 : Addr) (x85 : Option Addr) (x85n : Nat) (x85c : Nat) (x86 : Int) (x87 : Int) (J : IMem) (T : SH), I.le J → Inv m a_2 x4 x_5 last_8 x85 x85n x85c x86 x87 J T →
      bolterlaw11_Act_message_l26 (fun a_2 x4 x_5 last_8 x85 x85n x85c x86 x87 I S => ∃ m', m' < m ∧ Inv m' a_2 x4 x_5 last_8 x85 x85n x85c x86 x87 I S) R a_2 x4 x_5 last_8 x85 x85n x85c x86 x87 J T
def bolterlaw11_Act_message_b24 (R : Value → IMem → SH → Prop) (a_2 : Addr) (x4 : Addr) (x_5 : Addr) (fresh_7 : Option Addr) (fresh_7n : Nat) (fresh_7c : Nat) (last_8 : Addr) (I : IMem) (S : SH) : Prop :=
  bolterlaw11_Act_message_b25 R a_2 x4 x_5 last_8 fresh_7 fresh_7n fresh_7c (fresh_7n : Int) 0 I S
def bolterlaw11_Act_message_b13 (R : Value → IMem → SH → Prop) (m_1 : Option Addr) (a_2 : Addr) (x4 : Addr) (x_5 : Addr) (fresh_7 : Option Addr) (fresh_7n : Nat) (fresh_7c : Nat) (last_8 : Addr) (x130 : Bool) (I : IMem) (S : SH) : Prop :=
  bcase x130
    (ptrP m_1 fun x145 =>
    ∃ x147 x147n x147c, Cell I S (x145.add 1) (.slice x147 x147n x147c) ∧
    Runs Tryz.prog 34 #[.slice x147 x147n x147c, .slice fresh_7 fresh_7n fresh_7c] I S fun v I1 S1 => ∃ x149_0 x149_0n x149_0c x149_1 x149_1n x149_1c, v = .tuple #[.slice x149_0 x149_0n x149_0c, .slice x149_1 x149_1n x149_1c] ∧
    ptrP m_1 fun x154 =>
    ∃ x156 x156n x156c, Cell I1 S1 (x154.add 1) (.slice x156 x156n x156c) ∧
    Runs Tryz.prog 40 #[.slice x156 x156n x156c] I1 S1 fun v' I1' S1' => ∃ x157_0_0 x157_0_1 x157_0_2 x157_0_3 x157_1, v' = .tuple #[.agg #[.string x157_0_0, .int .u16 x157_0_1, .int .u32 x157_0_2, .string x157_0_3], .bool x157_1] ∧
    ∀ b11 : Nat,
    StP ((b11, .cells #[.string ⟨#[]⟩, .int .u16 0, .int .u32 0, .string ⟨#[]⟩] 32 (0, 0)) :: S1') ⟨b11, 0, none⟩ [.string x157_0_0, .int .u16 x157_0_1, .int .u32 x157_0_2, .string x157_0_3] fun S1'' =>
    ∃ x160_0, Cell I1' S1'' last_8 (.string x160_0) ∧
    ∃ x160_1, Cell I1' S1'' (last_8.add 1) (.int .u16 x160_1) ∧
    ∃ x160_2, Cell I1' S1'' (last_8.add 2) (.int .u32 x160_2) ∧
    ∃ x160_3, Cell I1' S1'' (last_8.add 3) (.string x160_3) ∧
    ∃ x161_0, Cell I1' S1'' ⟨b11, 0, none⟩ (.string x161_0) ∧
    ∃ x161_1, Cell I1' S1'' ⟨b11, 1, none⟩ (.int .u16 x161_1) ∧
    ∃ x161_2, Cell I1' S1'' ⟨b11, 2, none⟩ (.int .u32 x161_2) ∧
    ∃ x161_3, Cell I1' S1'' ⟨b11, 3, none⟩ (.string x161_3) ∧
    ∀ b162 : Nat,
    StP ((b162, .cells #[.string x160_0, .int .u16 x160_1, .int .u32 x160_2, .string x160_3, .string x161_0, .int .u16 x161_1, .int .u32 x161_2, .string x161_3] 32 (0, 0)) :: S1'') (x_5.add 10) [.slice (some ⟨b162, 0, none⟩) 2 2] fun S1_r3 =>
    bolterlaw11_Act_message_b14 R a_2 x4 x_5 last_8 x149_0 x149_0n x149_0c x149_1 x149_1n x149_1c I1' S1_r3)
    (∃ x82_0, Cell I S last_8 (.string x82_0) ∧
    ∃ x82_1, Cell I S (last_8.add 1) (.int .u16 x82_1) ∧
    ∃ x82_2, Cell I S (last_8.add 2) (.int .u32 x82_2) ∧
    ∃ x82_3, Cell I S (last_8.add 3) (.string x82_3) ∧
    ∀ b83 : Nat,
    StP ((b83, .cells #[.string x82_0, .int .u16 x82_1, .int .u32 x82_2, .string x82_3] 32 (0, 0)) :: S) (x_5.add 10) [.slice (some ⟨b83, 0, none⟩) 1 1] fun S1_r4 =>
    bolterlaw11_Act_message_b24 R a_2 x4 x_5 fresh_7 fresh_7n fresh_7c last_8 I S1_r4)
def bolterlaw11_Act_message_b12 (R : Value → IMem → SH → Prop) (m_1 : Option Addr) (a_2 : Addr) (x4 : Addr) (x_5 : Addr) (fresh_7 : Option Addr) (fresh_7n : Nat) (fresh_7c : Nat) (last_8 : Addr) (x117 : Bool) (I : IMem) (S : SH) : Prop :=
  bcase x117
    (ptrP m_1 fun x123 =>
    ∃ x125, Cell I S x123 (.string x125) ∧
    ∃ x127 x127n x127c, Cell I S (a_2.add 4) (.slice x127 x127n x127c) ∧
    Runs Tryz.prog 36 #[.string x125, .slice x127 x127n x127c, .int .i64 8, .bool true] I S fun v I1 S1 => ∃ x128 x128n x128c, v = .slice x128 x128n x128c ∧
    StP S1 (x_5.add 10) [.slice x128 x128n x128c] fun S1' =>
    bolterlaw11_Act_message_b9 R a_2 x4 x_5 I1 S1')
    (ptrP m_1 fun x132 =>
    ∃ x135, Cell I S ((x132.add 5).add 1) (.int .u16 x135) ∧
    bcase (x135 == (251 : Int))
      (∃ x139, Cell I S (a_2.add 2) (.int .u8 x139) ∧
      bolterlaw11_Act_message_b13 R m_1 a_2 x4 x_5 fresh_7 fresh_7n fresh_7c last_8 (decide ((x139.tmod (5 : Int)) > (1 : Int))) I S)
      (bolterlaw11_Act_message_b13 R m_1 a_2 x4 x_5 fresh_7 fresh_7n fresh_7c last_8 false I S))
def bolterlaw11_Act_message_b8 (R : Value → IMem → SH → Prop) (m_1 : Option Addr) (a_2 : Addr) (x4 : Addr) (x_5 : Addr) (fresh_7 : Option Addr) (fresh_7n : Nat) (fresh_7c : Nat) (last_8 : Addr) (x107 : Bool) (I : IMem) (S : SH) : Prop :=
  bcase x107
    (∃ x114_0, Cell I S last_8 (.string x114_0) ∧
    ∃ x114_1, Cell I S (last_8.add 1) (.int .u16 x114_1) ∧
    ∃ x114_2, Cell I S (last_8.add 2) (.int .u32 x114_2) ∧
    ∃ x114_3, Cell I S (last_8.add 3) (.string x114_3) ∧
    ∀ b115 : Nat,
    StP ((b115, .cells #[.string x114_0, .int .u16 x114_1, .int .u32 x114_2, .string x114_3] 32 (0, 0)) :: S) (x_5.add 10) [.slice (some ⟨b115, 0, none⟩) 1 1] fun S1 =>
    bolterlaw11_Act_message_b9 R a_2 x4 x_5 I S1)
    (∃ x119, Cell I S (a_2.add 2) (.int .u8 x119) ∧
    bolterlaw11_Act_message_b12 R m_1 a_2 x4 x_5 fresh_7 fresh_7n fresh_7c last_8 ((x119.tmod (5 : Int)) == (4 : Int)) I S)
def bolterlaw11_Act_message_b7 (R : Value → IMem → SH → Prop) (m_1 : Option Addr) (a_2 : Addr) (x4 : Addr) (x_5 : Addr) (fresh_7 : Option Addr) (fresh_7n : Nat) (fresh_7c : Nat) (last_8 : Addr) (I : IMem) (S : SH) : Prop :=
  ptrP m_1 fun x109 =>
  ∃ x112, Cell I S ((x109.add 5).add 1) (.int .u16 x112) ∧
  bolterlaw11_Act_message_b8 R m_1 a_2 x4 x_5 fresh_7 fresh_7n fresh_7c last_8 (x112 == (6 : Int)) I S
def bolterlaw11_Act_message_b6 (R : Value → IMem → SH → Prop) (m_1 : Option Addr) (a_2 : Addr) (x4 : Addr) (x_5 : Addr) (n_6 : Int) (fresh_7 : Option Addr) (fresh_7n : Nat) (fresh_7c : Nat) (I : IMem) (S : SH) : Prop :=
  ptrP m_1 fun x77 =>
  ∃ x79, Cell I S x77 (.string x79) ∧
  Runs Tryz.prog 11 #[.string x79, .int .u32 n_6] I S fun v I1 S1 => ∃ x81_0 x81_1 x81_2 x81_3, v = .agg #[.string x81_0, .int .u16 x81_1, .int .u32 x81_2, .string x81_3] ∧
  ∀ b8 : Nat,
  StP ((b8, .cells #[.string ⟨#[]⟩, .int .u16 0, .int .u32 0, .string ⟨#[]⟩] 32 (0, 0)) :: S1) ⟨b8, 0, none⟩ [.string x81_0, .int .u16 x81_1, .int .u32 x81_2, .string x81_3] fun S1' =>
  bolterlaw11_Act_message_b7 R m_1 a_2 x4 x_5 fresh_7 fresh_7n fresh_7c ⟨b8, 0, none⟩ I1 S1'
def bolterlaw11_Act_message_b5 (R : Value → IMem → SH → Prop) (m_1 : Option Addr) (a_2 : Addr) (x4 : Addr) (x_5 : Addr) (n_6 : Int) (I : IMem) (S : SH) : Prop :=
  ptrP m_1 fun x69 =>
  ∃ x71, Cell I S x69 (.string x71) ∧
  ∃ x74 x74n x74c, Cell I S (a_2.add 4) (.slice x74 x74n x74c) ∧
  Runs Tryz.prog 14 #[.string x71, .int .u32 n_6, .slice x74 x74n x74c, .int .i64 8] I S fun v I1 S1 => ∃ x75 x75n x75c, v = .slice x75 x75n x75c ∧
  bolterlaw11_Act_message_b6 R m_1 a_2 x4 x_5 n_6 x75 x75n x75c I1 S1
def bolterlaw11_Act_message_b4 (R : Value → IMem → SH → Prop) (m_1 : Option Addr) (a_2 : Addr) (x4 : Addr) (x_5 : Addr) (I : IMem) (S : SH) : Prop :=
  ∃ x66, Cell I S (a_2.add 3) (.int .u32 x66) ∧
  bolterlaw11_Act_message_b5 R m_1 a_2 x4 x_5 (x66.tmod (6 : Int)) I S
def bolterlaw11_Act_message_b3 (R : Value → IMem → SH → Prop) (m_1 : Option Addr) (a_2 : Addr) (x4 : Addr) (x_5 : Addr) (I : IMem) (S : SH) : Prop :=
  ∃ x60, Cell I S (a_2.add 2) (.int .u8 x60) ∧
  bcase ((x60.tmod (32 : Int)) == (28 : Int))
    (StP S ((x_5.add 8).add 1) [.int .u16 1] fun S1 =>
    bolterlaw11_Act_message_b4 R m_1 a_2 x4 x_5 I S1)
    (bolterlaw11_Act_message_b4 R m_1 a_2 x4 x_5 I S)
def bolterlaw11_Act_message_b2 (R : Value → IMem → SH → Prop) (m_1 : Option Addr) (a_2 : Addr) (x4 : Addr) (x_5 : Addr) (I : IMem) (S : SH) : Prop :=
  ∃ x50, Cell I S (a_2.add 2) (.int .u8 x50) ∧
  bcase ((x50.tmod (32 : Int)) == (29 : Int))
    (∃ x55, Cell I S x_5 (.int .u16 x55) ∧
    StP S x_5 [.int .u16 (IntKind.wrap .u16 (x55 + (1 : Int)))] fun S1 =>
    bolterlaw11_Act_message_b3 R m_1 a_2 x4 x_5 I S1)
    (bolterlaw11_Act_message_b3 R m_1 a_2 x4 x_5 I S)
def bolterlaw11_Act_message_b1 (R : Value → IMem → SH → Prop) (m_1 : Option Addr) (a_2 : Addr) (x4 : Addr) (I : IMem) (S : SH) : Prop :=
  ptrP m_1 fun x20 =>
  ∃ x23, Cell I S (x20.add 5) (.int .u16 x23) ∧
  ∃ x25, Cell I S (a_2.add 2) (.int .u8 x25) ∧
  ∃ x29, Cell I S (a_2.add 2) (.int .u8 x29) ∧
  ∃ x34, Cell I S (a_2.add 2) (.int .u8 x34) ∧
  ptrP m_1 fun x39 =>
  ∃ x41, Cell I S x39 (.string x41) ∧
  ptrP m_1 fun x43 =>
  ∃ x46, Cell I S ((x43.add 5).add 1) (.int .u16 x46) ∧
  ∀ b5 : Nat,
  Keep I S I ((b5, .cells #[.int .u16 0, .bool false, .int .i64 0, .bool false, .bool false, .bool false, .bool false, .int .i64 0, .string ⟨#[]⟩, .int .u16 0, .slice none 0 0, .slice none 0 0, .slice none 0 0, .int .i64 0] 44 (0, 0)) :: S) ∧
  StP ((b5, .cells #[.int .u16 0, .bool false, .int .i64 0, .bool false, .bool false, .bool false, .bool false, .int .i64 0, .string ⟨#[]⟩, .int .u16 0, .slice none 0 0, .slice none 0 0, .slice none 0 0, .int .i64 0] 44 (0, 0)) :: S) ⟨b5, 0, none⟩ [.int .u16 x23, .bool ((x25.tmod (16 : Int)) != (15 : Int)), .int .i64 0, .bool false, .bool ((x34.tmod (32 : Int)) == (30 : Int)), .bool false, .bool false, .int .i64 (IntKind.wrap .i64 ((IntKind.wrap .i64 (x29.tmod (32 : Int))).tdiv (31 : Int))), .string x41, .int .u16 x46, .slice none 0 0, .slice none 0 0, .slice none 0 0, .int .i64 0] fun S1 =>
  bolterlaw11_Act_message_b2 R m_1 a_2 x4 ⟨b5, 0, none⟩ I S1
def bolterlaw11_Act_message (R : Value → IMem → SH → Prop) (a_0_0 : Int) (a_0_1 : Int) (a_0_2 : Int) (a_0_3 : Int) (a_0_4 : Option Addr) (a_0_4n : Nat) (a_0_4c : Nat) (m_1 : Option Addr) (I : IMem) (S : SH) : Prop :=
  ∀ b2 : Nat,
  ∀ b4 : Nat,
  bolterlaw11_Act_message_b1 R m_1 ⟨b2, 0, none⟩ ⟨b4, 0, none⟩ I ((b4, .cells #[.int .u16 0, .bool false, .int .i64 0, .bool false, .bool false, .bool false, .bool false, .int .i64 0, .string ⟨#[]⟩, .int .u16 0, .slice none 0 0, .slice none 0 0, .slice none 0 0, .int .i64 0] 44 (0, 0)) :: ((b2, .cells #[.int .u8 a_0_0, .int .u8 a_0_1, .int .u8 a_0_2, .int .u32 a_0_3, .slice a_0_4 a_0_4n a_0_4c] 64 (0, 0)) :: S))
theorem bolterlaw11_Act_message_fn (R : Value → IMem → SH → Prop) (a_0_0 : Int) (a_0_1 : Int) (a_0_2 : Int) (a_0_3 : Int) (a_0_4 : Option Addr) (a_0_4n : Nat) (a_0_4c : Nat) (m_1 : Option Addr) (I : IMem) (S : SH) (h : bolterlaw11_Act_message R a_0_0 a_0_1 a_0_2 a_0_3 a_0_4 a_0_4n a_0_4c m_1 I S) :
    Runs Tryz.prog 23 #[.agg #[.int .u8 a_0_0, .int .u8 a_0_1, .int .u8 a_0_2, .int .u32 a_0_3, .slice a_0_4 a_0_4n a_0_4c], .pointer m_1] I S R := by
  refine Runs.of_wp (args := [.agg #[.int .u8 a_0_0, .int .u8 a_0_1, .int .u8 a_0_2, .int .u32 a_0_3, .slice a_0_4 a_0_4n a_0_4c], .pointer m_1]) (c := bolterlaw11_Act_message_code) Tryz.func23 (by kernel_rfl) (by kernel_rfl) ?_
  refine WP.cut 1 (fun l I S => asPtr (l 1) fun m_1 => asAdr (l 2) fun a_2 => asAdr (l 4) fun x4 => bolterlaw11_Act_message_b1 R m_1 a_2 x4 I S) (cast (by kernel_rfl) h) ?_
  clear h
  intro l I S _ h
  obtain ⟨m_1, e1, h⟩ := asPtr_e h
  obtain ⟨a_2, e2, h⟩ := asAdr_e h
  obtain ⟨x4, e4, h⟩ := asAdr_e h
  rw [upd_eta e1, upd_eta e2, upd_eta e4]
  refine WP.seqY (by kernel_rfl) (fun l I S => asPtr (l 1) fun m_1 => asAdr (l 2) fun a_2 => asAdr (l 4) fun x4 => asAdr (l 5) fun x_5 => bolterlaw11_Act_message_b2 R m_1 a_2 x4 x_5 I S) ?_ ?_
  ·
    exact WP.draw' (.take 0 (.take 1 (.take 2 (.take 3 (.take 4 (.take 5 (.take 6 (.take 7 (.take 8 (.take 9 (.take 10 (.take 11 (.take 12 (.take 13 (.take 14 (.take 15 (.take 16 (.take 17 (.take 18 (.take 19 (.take 20 (.take 21 (.take 22 (.take 23 (.take 24 (.take 25 (.take 26 (.take 27 (.take 28 (.take 29 (.step 30 (.step 31 .done)))))))))))))))))))))))))))))))) [30, 31] (by kernel_rfl) (by kernel_rfl) (by kernel_rfl) (by kernel_rfl) (by kernel_rfl) (cast (by kernel_rfl) h)
  · clear h
    intro l I S _ h
    obtain ⟨m_1, e1, h⟩ := asPtr_e h
    obtain ⟨a_2, e2, h⟩ := asAdr_e h
    obtain ⟨x4, e4, h⟩ := asAdr_e h
    obtain ⟨x_5, e5, h⟩ := asAdr_e h
    rw [upd_eta e1, upd_eta e2, upd_eta e4, upd_eta e5]
    refine WP.cut 1 (fun l I S => asPtr (l 1) fun m_1 => asAdr (l 2) fun a_2 => asAdr (l 4) fun x4 => asAdr (l 5) fun x_5 => bolterlaw11_Act_message_b3 R m_1 a_2 x4 x_5 I S) (cast (by kernel_rfl) h) ?_
    clear h
    intro l I S _ h
    obtain ⟨m_1, e1, h⟩ := asPtr_e h
    obtain ⟨a_2, e2, h⟩ := asAdr_e h
    obtain ⟨x4, e4, h⟩ := asAdr_e h
    obtain ⟨x_5, e5, h⟩ := asAdr_e h
    rw [upd_eta e1, upd_eta e2, upd_eta e4, upd_eta e5]
    refine WP.cut 1 (fun l I S => asPtr (l 1) fun m_1 => asAdr (l 2) fun a_2 => asAdr (l 4) fun x4 => asAdr (l 5) fun x_5 => bolterlaw11_Act_message_b4 R m_1 a_2 x4 x_5 I S) (cast (by kernel_rfl) h) ?_
    clear h
    intro l I S _ h
    obtain ⟨m_1, e1, h⟩ := asPtr_e h
    obtain ⟨a_2, e2, h⟩ := asAdr_e h
    obtain ⟨x4, e4, h⟩ := asAdr_e h
    obtain ⟨x_5, e5, h⟩ := asAdr_e h
    rw [upd_eta e1, upd_eta e2, upd_eta e4, upd_eta e5]
    refine WP.cut 1 (fun l I S => asPtr (l 1) fun m_1 => asAdr (l 2) fun a_2 => asAdr (l 4) fun x4 => asAdr (l 5) fun x_5 => asI .u32 (l 6) fun n_6 => bolterlaw11_Act_message_b5 R m_1 a_2 x4 x_5 n_6 I S) (cast (by kernel_rfl) h) ?_
    clear h
    intro l I S _ h
    obtain ⟨m_1, e1, h⟩ := asPtr_e h
    obtain ⟨a_2, e2, h⟩ := asAdr_e h
    obtain ⟨x4, e4, h⟩ := asAdr_e h
    obtain ⟨x_5, e5, h⟩ := asAdr_e h
    obtain ⟨n_6, e6, h⟩ := asI_e h
    rw [upd_eta e1, upd_eta e2, upd_eta e4, upd_eta e5, upd_eta e6]
    refine WP.seqY (by kernel_rfl) (fun l I S => asPtr (l 1) fun m_1 => asAdr (l 2) fun a_2 => asAdr (l 4) fun x4 => asAdr (l 5) fun x_5 => asI .u32 (l 6) fun n_6 => asSl (l 7) fun fresh_7 fresh_7n fresh_7c => bolterlaw11_Act_message_b6 R m_1 a_2 x4 x_5 n_6 fresh_7 fresh_7n fresh_7c I S) ?_ ?_
    ·
      exact WP.draw' (.take 0 (.take 1 (.take 2 (.take 3 (.take 4 (.take 5 (.take 6 (.step 7 (.take 8 .done))))))))) [7] (by kernel_rfl) (by kernel_rfl) (by kernel_rfl) (by kernel_rfl) (by kernel_rfl) (cast (by kernel_rfl) h)
    · clear h
      intro l I S _ h
      obtain ⟨m_1, e1, h⟩ := asPtr_e h
      obtain ⟨a_2, e2, h⟩ := asAdr_e h
      obtain ⟨x4, e4, h⟩ := asAdr_e h
      obtain ⟨x_5, e5, h⟩ := asAdr_e h
      obtain ⟨n_6, e6, h⟩ := asI_e h
      obtain ⟨fresh_7, fresh_7n, fresh_7c, e7, h⟩ := asSl_e h
      rw [upd_eta e1, upd_eta e2, upd_eta e4, upd_eta e5, upd_eta e6, upd_eta e7]
      refine WP.cut 1 (fun l I S => asPtr (l 1) fun m_1 => asAdr (l 2) fun a_2 => asAdr (l 4) fun x4 => asAdr (l 5) fun x_5 => asSl (l 7) fun fresh_7 fresh_7n fresh_7c => asAdr (l 8) fun last_8 => bolterlaw11_Act_message_b7 R m_1 a_2 x4 x_5 fresh_7 fresh_7n fresh_7c last_8 I S) (cast (by kernel_rfl) h) ?_
      clear h
      intro l I S _ h
      obtain ⟨m_1, e1, h⟩ := asPtr_e h
      obtain ⟨a_2, e2, h⟩ := asAdr_e h
      obtain ⟨x4, e4, h⟩ := asAdr_e h
      obtain ⟨x_5, e5, h⟩ := asAdr_e h
      obtain ⟨fresh_7, fresh_7n, fresh_7c, e7, h⟩ := asSl_e h
      obtain ⟨last_8, e8, h⟩ := asAdr_e h
      rw [upd_eta e1, upd_eta e2, upd_eta e4, upd_eta e5, upd_eta e7, upd_eta e8]
      refine WP.seqY (by kernel_rfl) (fun l I S => asAdr (l 2) fun a_2 => asAdr (l 4) fun x4 => asAdr (l 5) fun x_5 => bolterlaw11_Act_message_b9 R a_2 x4 x_5 I S) ?_ ?_
      ·
        refine WP.block' (by kernel_rfl) ?_
        refine WP.cut 1 (fun l I S => asPtr (l 1) fun m_1 => asAdr (l 2) fun a_2 => asAdr (l 4) fun x4 => asAdr (l 5) fun x_5 => asSl (l 7) fun fresh_7 fresh_7n fresh_7c => asAdr (l 8) fun last_8 => asB (l 107) fun x107 => bolterlaw11_Act_message_b8 R m_1 a_2 x4 x_5 fresh_7 fresh_7n fresh_7c last_8 x107 I S) (cast (by kernel_rfl) h) ?_
        clear h
        intro l I S _ h
        obtain ⟨m_1, e1, h⟩ := asPtr_e h
        obtain ⟨a_2, e2, h⟩ := asAdr_e h
        obtain ⟨x4, e4, h⟩ := asAdr_e h
        obtain ⟨x_5, e5, h⟩ := asAdr_e h
        obtain ⟨fresh_7, fresh_7n, fresh_7c, e7, h⟩ := asSl_e h
        obtain ⟨last_8, e8, h⟩ := asAdr_e h
        obtain ⟨x107, e107, h⟩ := asB_e h
        rw [upd_eta e1, upd_eta e2, upd_eta e4, upd_eta e5, upd_eta e7, upd_eta e8, upd_eta e107]
        refine WP.cond' (by kernel_rfl) (by kernel_rfl) h ?_ ?_
        · clear h
          intro h
          exact Pre.sound _ _ _ _ _ (cast (by kernel_rfl) h)
        · clear h
          intro h
          refine WP.cut 1 (fun l I S => asPtr (l 1) fun m_1 => asAdr (l 2) fun a_2 => asAdr (l 4) fun x4 => asAdr (l 5) fun x_5 => asSl (l 7) fun fresh_7 fresh_7n fresh_7c => asAdr (l 8) fun last_8 => asB (l 117) fun x117 => bolterlaw11_Act_message_b12 R m_1 a_2 x4 x_5 fresh_7 fresh_7n fresh_7c last_8 x117 I S) (cast (by kernel_rfl) h) ?_
          clear h
          intro l I S _ h
          obtain ⟨m_1, e1, h⟩ := asPtr_e h
          obtain ⟨a_2, e2, h⟩ := asAdr_e h
          obtain ⟨x4, e4, h⟩ := asAdr_e h
          obtain ⟨x_5, e5, h⟩ := asAdr_e h
          obtain ⟨fresh_7, fresh_7n, fresh_7c, e7, h⟩ := asSl_e h
          obtain ⟨last_8, e8, h⟩ := asAdr_e h
          obtain ⟨x117, e117, h⟩ := asB_e h
          rw [upd_eta e1, upd_eta e2, upd_eta e4, upd_eta e5, upd_eta e7, upd_eta e8, upd_eta e117]
          refine WP.cond' (by kernel_rfl) (by kernel_rfl) h ?_ ?_
          · clear h
            intro h
            exact WP.draw' (.take 0 (.take 1 (.take 2 (.take 3 (.take 4 (.take 5 (.step 6 (.take 7 (.step 8 .done))))))))) [6, 8] (by kernel_rfl) (by kernel_rfl) (by kernel_rfl) (by kernel_rfl) (by kernel_rfl) (cast (by kernel_rfl) h)
          · clear h
            intro h
            refine WP.cut 1 (fun l I S => asPtr (l 1) fun m_1 => asAdr (l 2) fun a_2 => asAdr (l 4) fun x4 => asAdr (l 5) fun x_5 => asSl (l 7) fun fresh_7 fresh_7n fresh_7c => asAdr (l 8) fun last_8 => asB (l 130) fun x130 => bolterlaw11_Act_message_b13 R m_1 a_2 x4 x_5 fresh_7 fresh_7n fresh_7c last_8 x130 I S) (cast (by kernel_rfl) h) ?_
            clear h
            intro l I S _ h
            obtain ⟨m_1, e1, h⟩ := asPtr_e h
            obtain ⟨a_2, e2, h⟩ := asAdr_e h
            obtain ⟨x4, e4, h⟩ := asAdr_e h
            obtain ⟨x_5, e5, h⟩ := asAdr_e h
            obtain ⟨fresh_7, fresh_7n, fresh_7c, e7, h⟩ := asSl_e h
            obtain ⟨last_8, e8, h⟩ := asAdr_e h
            obtain ⟨x130, e130, h⟩ := asB_e h
            rw [upd_eta e1, upd_eta e2, upd_eta e4, upd_eta e5, upd_eta e7, upd_eta e8, upd_eta e130]
            refine WP.cond' (by kernel_rfl) (by kernel_rfl) h ?_ ?_
            · clear h
              intro h
              refine WP.cut 3 (fun l I S => asAdr (l 2) fun a_2 => asAdr (l 4) fun x4 => asAdr (l 5) fun x_5 => asAdr (l 8) fun last_8 => asSl (l 9) fun gone_9 gone_9n gone_9c => asSl (l 10) fun come_10 come_10n come_10c => bolterlaw11_Act_message_b14 R a_2 x4 x_5 last_8 gone_9 gone_9n gone_9c come_10 come_10n come_10c I S) (cast (by kernel_rfl) h) ?_
              clear h
              intro l I S _ h
              obtain ⟨a_2, e2, h⟩ := asAdr_e h
              obtain ⟨x4, e4, h⟩ := asAdr_e h
              obtain ⟨x_5, e5, h⟩ := asAdr_e h
              obtain ⟨last_8, e8, h⟩ := asAdr_e h
              obtain ⟨gone_9, gone_9n, gone_9c, e9, h⟩ := asSl_e h
              obtain ⟨come_10, come_10n, come_10c, e10, h⟩ := asSl_e h
              rw [upd_eta e2, upd_eta e4, upd_eta e5, upd_eta e8, upd_eta e9, upd_eta e10]
              refine WP.seqY (by kernel_rfl) (fun l I S => asAdr (l 2) fun a_2 => asAdr (l 4) fun x4 => asAdr (l 5) fun x_5 => asAdr (l 8) fun last_8 => asSl (l 10) fun come_10 come_10n come_10c => bolterlaw11_Act_message_b18 R a_2 x4 x_5 last_8 come_10 come_10n come_10c I S) ?_ ?_
              ·
                refine WP.cut 1 (fun l I S => asAdr (l 2) fun a_2 => asAdr (l 4) fun x4 => asAdr (l 5) fun x_5 => asAdr (l 8) fun last_8 => asSl (l 10) fun come_10 come_10n come_10c => asSl (l 164) fun x164 x164n x164c => asI .i64 (l 165) fun x165 => asI .i64 (l 166) fun x166 => bolterlaw11_Act_message_b15 R a_2 x4 x_5 last_8 come_10 come_10n come_10c x164 x164n x164c x165 x166 I S) (cast (by kernel_rfl) h) ?_
                clear h
                intro l I S _ h
                obtain ⟨a_2, e2, h⟩ := asAdr_e h
                obtain ⟨x4, e4, h⟩ := asAdr_e h
                obtain ⟨x_5, e5, h⟩ := asAdr_e h
                obtain ⟨last_8, e8, h⟩ := asAdr_e h
                obtain ⟨come_10, come_10n, come_10c, e10, h⟩ := asSl_e h
                obtain ⟨x164, x164n, x164c, e164, h⟩ := asSl_e h
                obtain ⟨x165, e165, h⟩ := asI_e h
                obtain ⟨x166, e166, h⟩ := asI_e h
                rw [upd_eta e2, upd_eta e4, upd_eta e5, upd_eta e8, upd_eta e10, upd_eta e164, upd_eta e165, upd_eta e166]
                refine WP.block' (by kernel_rfl) ?_
                obtain ⟨Inv_again16, m_again16, h0, hr⟩ := h
                refine WP.loop' (by kernel_rfl) (fun m_again16 => fun l I S => asAdr (l 2) fun a_2 => asAdr (l 4) fun x4 => asAdr (l 5) fun x_5 => asAdr (l 8) fun last_8 => asSl (l 10) fun come_10 come_10n come_10c => asSl (l 164) fun x164 x164n x164c => asI .i64 (l 165) fun x165 => asI .i64 (l 166) fun x166 => Inv_again16 m_again16 a_2 x4 x_5 last_8 come_10 come_10n come_10c x164 x164n x164c x165 x166 I S) m_again16 (cast (by kernel_rfl) h0) ?_
                clear h0
                intro m_again16 l I S hle h
                obtain ⟨a_2, e2, h⟩ := asAdr_e h
                obtain ⟨x4, e4, h⟩ := asAdr_e h
                obtain ⟨x_5, e5, h⟩ := asAdr_e h
                obtain ⟨last_8, e8, h⟩ := asAdr_e h
                obtain ⟨come_10, come_10n, come_10c, e10, h⟩ := asSl_e h
                obtain ⟨x164, x164n, x164c, e164, h⟩ := asSl_e h
                obtain ⟨x165, e165, h⟩ := asI_e h
                obtain ⟨x166, e166, h⟩ := asI_e h
                rw [upd_eta e2, upd_eta e4, upd_eta e5, upd_eta e8, upd_eta e10, upd_eta e164, upd_eta e165, upd_eta e166]
                have h := hr m_again16 a_2 x4 x_5 last_8 come_10 come_10n come_10c x164 x164n x164c x165 x166 I S hle h
                clear hr hle
                refine WP.cut 3 (fun l I S => asAdr (l 2) fun a_2 => asAdr (l 4) fun x4 => asAdr (l 5) fun x_5 => asAdr (l 8) fun last_8 => asSl (l 10) fun come_10 come_10n come_10c => asSl (l 164) fun x164 x164n x164c => asI .i64 (l 165) fun x165 => asI .i64 (l 166) fun x166 => bolterlaw11_Act_message_b17 (fun a_2 x4 x_5 last_8 come_10 come_10n come_10c x164 x164n x164c x165 x166 I S => ∃ m', m' < m_again16 ∧ Inv_again16 m' a_2 x4 x_5 last_8 come_10 come_10n come_10c x164 x164n x164c x165 x166 I S) R a_2 x4 x_5 last_8 come_10 come_10n come_10c x164 x164n x164c x165 x166 I S) (cast (by kernel_rfl) h) ?_
                clear h
                intro l I S _ h
                obtain ⟨a_2, e2, h⟩ := asAdr_e h
                obtain ⟨x4, e4, h⟩ := asAdr_e h
                obtain ⟨x_5, e5, h⟩ := asAdr_e h
                obtain ⟨last_8, e8, h⟩ := asAdr_e h
                obtain ⟨come_10, come_10n, come_10c, e10, h⟩ := asSl_e h
                obtain ⟨x164, x164n, x164c, e164, h⟩ := asSl_e h
                obtain ⟨x165, e165, h⟩ := asI_e h
                obtain ⟨x166, e166, h⟩ := asI_e h
                rw [upd_eta e2, upd_eta e4, upd_eta e5, upd_eta e8, upd_eta e10, upd_eta e164, upd_eta e165, upd_eta e166]
                exact Pre.sound _ _ _ _ _ (cast (by kernel_rfl) h)
              · clear h
                intro l I S _ h
                obtain ⟨a_2, e2, h⟩ := asAdr_e h
                obtain ⟨x4, e4, h⟩ := asAdr_e h
                obtain ⟨x_5, e5, h⟩ := asAdr_e h
                obtain ⟨last_8, e8, h⟩ := asAdr_e h
                obtain ⟨come_10, come_10n, come_10c, e10, h⟩ := asSl_e h
                rw [upd_eta e2, upd_eta e4, upd_eta e5, upd_eta e8, upd_eta e10]
                refine WP.cut 1 (fun l I S => asAdr (l 2) fun a_2 => asAdr (l 4) fun x4 => asAdr (l 5) fun x_5 => asAdr (l 8) fun last_8 => asSl (l 10) fun come_10 come_10n come_10c => bolterlaw11_Act_message_b19 R a_2 x4 x_5 last_8 come_10 come_10n come_10c I S) (cast (by kernel_rfl) h) ?_
                clear h
                intro l I S _ h
                obtain ⟨a_2, e2, h⟩ := asAdr_e h
                obtain ⟨x4, e4, h⟩ := asAdr_e h
                obtain ⟨x_5, e5, h⟩ := asAdr_e h
                obtain ⟨last_8, e8, h⟩ := asAdr_e h
                obtain ⟨come_10, come_10n, come_10c, e10, h⟩ := asSl_e h
                rw [upd_eta e2, upd_eta e4, upd_eta e5, upd_eta e8, upd_eta e10]
                refine WP.seqY (by kernel_rfl) (fun l I S => asAdr (l 2) fun a_2 => asAdr (l 4) fun x4 => asAdr (l 5) fun x_5 => asAdr (l 8) fun last_8 => bolterlaw11_Act_message_b23 R a_2 x4 x_5 last_8 I S) ?_ ?_
                ·
                  refine WP.cut 1 (fun l I S => asAdr (l 2) fun a_2 => asAdr (l 4) fun x4 => asAdr (l 5) fun x_5 => asAdr (l 8) fun last_8 => asSl (l 186) fun x186 x186n x186c => asI .i64 (l 187) fun x187 => asI .i64 (l 188) fun x188 => bolterlaw11_Act_message_b20 R a_2 x4 x_5 last_8 x186 x186n x186c x187 x188 I S) (cast (by kernel_rfl) h) ?_
                  clear h
                  intro l I S _ h
                  obtain ⟨a_2, e2, h⟩ := asAdr_e h
                  obtain ⟨x4, e4, h⟩ := asAdr_e h
                  obtain ⟨x_5, e5, h⟩ := asAdr_e h
                  obtain ⟨last_8, e8, h⟩ := asAdr_e h
                  obtain ⟨x186, x186n, x186c, e186, h⟩ := asSl_e h
                  obtain ⟨x187, e187, h⟩ := asI_e h
                  obtain ⟨x188, e188, h⟩ := asI_e h
                  rw [upd_eta e2, upd_eta e4, upd_eta e5, upd_eta e8, upd_eta e186, upd_eta e187, upd_eta e188]
                  refine WP.block' (by kernel_rfl) ?_
                  obtain ⟨Inv_again21, m_again21, h0, hr⟩ := h
                  refine WP.loop' (by kernel_rfl) (fun m_again21 => fun l I S => asAdr (l 2) fun a_2 => asAdr (l 4) fun x4 => asAdr (l 5) fun x_5 => asAdr (l 8) fun last_8 => asSl (l 186) fun x186 x186n x186c => asI .i64 (l 187) fun x187 => asI .i64 (l 188) fun x188 => Inv_again21 m_again21 a_2 x4 x_5 last_8 x186 x186n x186c x187 x188 I S) m_again21 (cast (by kernel_rfl) h0) ?_
                  clear h0
                  intro m_again21 l I S hle h
                  obtain ⟨a_2, e2, h⟩ := asAdr_e h
                  obtain ⟨x4, e4, h⟩ := asAdr_e h
                  obtain ⟨x_5, e5, h⟩ := asAdr_e h
                  obtain ⟨last_8, e8, h⟩ := asAdr_e h
                  obtain ⟨x186, x186n, x186c, e186, h⟩ := asSl_e h
                  obtain ⟨x187, e187, h⟩ := asI_e h
                  obtain ⟨x188, e188, h⟩ := asI_e h
                  rw [upd_eta e2, upd_eta e4, upd_eta e5, upd_eta e8, upd_eta e186, upd_eta e187, upd_eta e188]
                  have h := hr m_again21 a_2 x4 x_5 last_8 x186 x186n x186c x187 x188 I S hle h
                  clear hr hle
                  refine WP.cut 3 (fun l I S => asAdr (l 2) fun a_2 => asAdr (l 4) fun x4 => asAdr (l 5) fun x_5 => asAdr (l 8) fun last_8 => asSl (l 186) fun x186 x186n x186c => asI .i64 (l 187) fun x187 => asI .i64 (l 188) fun x188 => bolterlaw11_Act_message_b22 (fun a_2 x4 x_5 last_8 x186 x186n x186c x187 x188 I S => ∃ m', m' < m_again21 ∧ Inv_again21 m' a_2 x4 x_5 last_8 x186 x186n x186c x187 x188 I S) R a_2 x4 x_5 last_8 x186 x186n x186c x187 x188 I S) (cast (by kernel_rfl) h) ?_
                  clear h
                  intro l I S _ h
                  obtain ⟨a_2, e2, h⟩ := asAdr_e h
                  obtain ⟨x4, e4, h⟩ := asAdr_e h
                  obtain ⟨x_5, e5, h⟩ := asAdr_e h
                  obtain ⟨last_8, e8, h⟩ := asAdr_e h
                  obtain ⟨x186, x186n, x186c, e186, h⟩ := asSl_e h
                  obtain ⟨x187, e187, h⟩ := asI_e h
                  obtain ⟨x188, e188, h⟩ := asI_e h
                  rw [upd_eta e2, upd_eta e4, upd_eta e5, upd_eta e8, upd_eta e186, upd_eta e187, upd_eta e188]
                  exact Pre.sound _ _ _ _ _ (cast (by kernel_rfl) h)
                · clear h
                  intro l I S _ h
                  obtain ⟨a_2, e2, h⟩ := asAdr_e h
                  obtain ⟨x4, e4, h⟩ := asAdr_e h
                  obtain ⟨x_5, e5, h⟩ := asAdr_e h
                  obtain ⟨last_8, e8, h⟩ := asAdr_e h
                  rw [upd_eta e2, upd_eta e4, upd_eta e5, upd_eta e8]
                  exact Pre.sound _ _ _ _ _ (cast (by kernel_rfl) h)
            · clear h
              intro h
              refine WP.cut 1 (fun l I S => asAdr (l 2) fun a_2 => asAdr (l 4) fun x4 => asAdr (l 5) fun x_5 => asSl (l 7) fun fresh_7 fresh_7n fresh_7c => asAdr (l 8) fun last_8 => bolterlaw11_Act_message_b24 R a_2 x4 x_5 fresh_7 fresh_7n fresh_7c last_8 I S) (cast (by kernel_rfl) h) ?_
              clear h
              intro l I S _ h
              obtain ⟨a_2, e2, h⟩ := asAdr_e h
              obtain ⟨x4, e4, h⟩ := asAdr_e h
              obtain ⟨x_5, e5, h⟩ := asAdr_e h
              obtain ⟨fresh_7, fresh_7n, fresh_7c, e7, h⟩ := asSl_e h
              obtain ⟨last_8, e8, h⟩ := asAdr_e h
              rw [upd_eta e2, upd_eta e4, upd_eta e5, upd_eta e7, upd_eta e8]
              refine WP.seqY (by kernel_rfl) (fun l I S => asAdr (l 2) fun a_2 => asAdr (l 4) fun x4 => asAdr (l 5) fun x_5 => asAdr (l 8) fun last_8 => bolterlaw11_Act_message_b28 R a_2 x4 x_5 last_8 I S) ?_ ?_
              ·
                refine WP.cut 1 (fun l I S => asAdr (l 2) fun a_2 => asAdr (l 4) fun x4 => asAdr (l 5) fun x_5 => asAdr (l 8) fun last_8 => asSl (l 85) fun x85 x85n x85c => asI .i64 (l 86) fun x86 => asI .i64 (l 87) fun x87 => bolterlaw11_Act_message_b25 R a_2 x4 x_5 last_8 x85 x85n x85c x86 x87 I S) (cast (by kernel_rfl) h) ?_
                clear h
                intro l I S _ h
                obtain ⟨a_2, e2, h⟩ := asAdr_e h
                obtain ⟨x4, e4, h⟩ := asAdr_e h
                obtain ⟨x_5, e5, h⟩ := asAdr_e h
                obtain ⟨last_8, e8, h⟩ := asAdr_e h
                obtain ⟨x85, x85n, x85c, e85, h⟩ := asSl_e h
                obtain ⟨x86, e86, h⟩ := asI_e h
                obtain ⟨x87, e87, h⟩ := asI_e h
                rw [upd_eta e2, upd_eta e4, upd_eta e5, upd_eta e8, upd_eta e85, upd_eta e86, upd_eta e87]
                refine WP.block' (by kernel_rfl) ?_
                obtain ⟨Inv_again26, m_again26, h0, hr⟩ := h
                refine WP.loop' (by kernel_rfl) (fun m_again26 => fun l I S => asAdr (l 2) fun a_2 => asAdr (l 4) fun x4 => asAdr (l 5) fun x_5 => asAdr (l 8) fun last_8 => asSl (l 85) fun x85 x85n x85c => asI .i64 (l 86) fun x86 => asI .i64 (l 87) fun x87 => Inv_again26 m_again26 a_2 x4 x_5 last_8 x85 x85n x85c x86 x87 I S) m_again26 (cast (by kernel_rfl) h0) ?_
                clear h0
                intro m_again26 l I S hle h
                obtain ⟨a_2, e2, h⟩ := asAdr_e h
                obtain ⟨x4, e4, h⟩ := asAdr_e h
                obtain ⟨x_5, e5, h⟩ := asAdr_e h
                obtain ⟨last_8, e8, h⟩ := asAdr_e h
                obtain ⟨x85, x85n, x85c, e85, h⟩ := asSl_e h
                obtain ⟨x86, e86, h⟩ := asI_e h
                obtain ⟨x87, e87, h⟩ := asI_e h
                rw [upd_eta e2, upd_eta e4, upd_eta e5, upd_eta e8, upd_eta e85, upd_eta e86, upd_eta e87]
                have h := hr m_again26 a_2 x4 x_5 last_8 x85 x85n x85c x86 x87 I S hle h
                clear hr hle
                refine WP.cut 3 (fun l I S => asAdr (l 2) fun a_2 => asAdr (l 4) fun x4 => asAdr (l 5) fun x_5 => asAdr (l 8) fun last_8 => asSl (l 85) fun x85 x85n x85c => asI .i64 (l 86) fun x86 => asI .i64 (l 87) fun x87 => bolterlaw11_Act_message_b27 (fun a_2 x4 x_5 last_8 x85 x85n x85c x86 x87 I S => ∃ m', m' < m_again26 ∧ Inv_again26 m' a_2 x4 x_5 last_8 x85 x85n x85c x86 x87 I S) R a_2 x4 x_5 last_8 x85 x85n x85c x86 x87 I S) (cast (by kernel_rfl) h) ?_
                clear h
                intro l I S _ h
                obtain ⟨a_2, e2, h⟩ := asAdr_e h
                obtain ⟨x4, e4, h⟩ := asAdr_e h
                obtain ⟨x_5, e5, h⟩ := asAdr_e h
                obtain ⟨last_8, e8, h⟩ := asAdr_e h
                obtain ⟨x85, x85n, x85c, e85, h⟩ := asSl_e h
                obtain ⟨x86, e86, h⟩ := asI_e h
                obtain ⟨x87, e87, h⟩ := asI_e h
                rw [upd_eta e2, upd_eta e4, upd_eta e5, upd_eta e8, upd_eta e85, upd_eta e86, upd_eta e87]
                exact Pre.sound _ _ _ _ _ (cast (by kernel_rfl) h)
              · clear h
                intro l I S _ h
                obtain ⟨a_2, e2, h⟩ := asAdr_e h
                obtain ⟨x4, e4, h⟩ := asAdr_e h
                obtain ⟨x_5, e5, h⟩ := asAdr_e h
                obtain ⟨last_8, e8, h⟩ := asAdr_e h
                rw [upd_eta e2, upd_eta e4, upd_eta e5, upd_eta e8]
                exact Pre.sound _ _ _ _ _ (cast (by kernel_rfl) h)
      · clear h
        intro l I S _ h
        obtain ⟨a_2, e2, h⟩ := asAdr_e h
        obtain ⟨x4, e4, h⟩ := asAdr_e h
        obtain ⟨x_5, e5, h⟩ := asAdr_e h
        rw [upd_eta e2, upd_eta e4, upd_eta e5]
        refine WP.seqY (by kernel_rfl) (fun l I S => asAdr (l 4) fun x4 => asAdr (l 5) fun x_5 => bolterlaw11_Act_message_b11 R x4 x_5 I S) ?_ ?_
        ·
          refine WP.cut 1 (fun l I S => asAdr (l 4) fun x4 => asAdr (l 5) fun x_5 => asB (l 217) fun x217 => bolterlaw11_Act_message_b10 R x4 x_5 x217 I S) (cast (by kernel_rfl) h) ?_
          clear h
          intro l I S _ h
          obtain ⟨x4, e4, h⟩ := asAdr_e h
          obtain ⟨x_5, e5, h⟩ := asAdr_e h
          obtain ⟨x217, e217, h⟩ := asB_e h
          rw [upd_eta e4, upd_eta e5, upd_eta e217]
          exact Pre.sound _ _ _ _ _ (cast (by kernel_rfl) h)
        · clear h
          intro l I S _ h
          obtain ⟨x4, e4, h⟩ := asAdr_e h
          obtain ⟨x_5, e5, h⟩ := asAdr_e h
          rw [upd_eta e4, upd_eta e5]
          exact Pre.sound _ _ _ _ _ (cast (by kernel_rfl) h)
/-! ### bolterlaw11_TransferScript: function 6, bolter/bolterlaw11.TransferScript -/
noncomputable def bolterlaw11_TransferScript_code : Code := (Tryz.f6.body).getD .skip
def bolterlaw11_TransferScript_b13 (again6 : Option Addr → Option Addr → Int → Option Addr → Nat → Nat → Int → Int → IMem → SH → Prop) (R : Value → IMem → SH → Prop) (t_6 : Option Addr) (m_7 : Option Addr) (now_8 : Int) (x45 : Option Addr) (x45n : Nat) (x45c : Nat) (x46 : Int) (x47 : Int) (I : IMem) (S : SH) : Prop :=
  again6 t_6 m_7 now_8 x45 x45n x45c x46 (IntKind.wrap .i64 (x47 + (1 : Int))) I S
def bolterlaw11_TransferScript_b12 (again6 : Option Addr → Option Addr → Int → Option Addr → Nat → Nat → Int → Int → IMem → SH → Prop) (R : Value → IMem → SH → Prop) (t_6 : Option Addr) (m_7 : Option Addr) (now_8 : Int) (x45 : Option Addr) (x45n : Nat) (x45c : Nat) (x46 : Int) (x47 : Int) (I : IMem) (S : SH) : Prop :=
  Runs Tryz.prog 18 #[.pointer m_7, .pointer t_6, .int .i64 now_8] I S fun v I1 S1 => ∃ x164, v = .bool x164 ∧
  bcase (!x164)
    (R (.bool false) I1 S1)
    (bolterlaw11_TransferScript_b13 again6 R t_6 m_7 now_8 x45 x45n x45c x46 x47 I1 S1)
def bolterlaw11_TransferScript_b11 (again6 : Option Addr → Option Addr → Int → Option Addr → Nat → Nat → Int → Int → IMem → SH → Prop) (R : Value → IMem → SH → Prop) (t_6 : Option Addr) (m_7 : Option Addr) (now_8 : Int) (x45 : Option Addr) (x45n : Nat) (x45c : Nat) (x46 : Int) (x47 : Int) (x122 : Bool) (I : IMem) (S : SH) : Prop :=
  bcase x122
    (R (.bool false) I S)
    (bolterlaw11_TransferScript_b12 again6 R t_6 m_7 now_8 x45 x45n x45c x46 x47 I S)
def bolterlaw11_TransferScript_b17 (again6 : Option Addr → Option Addr → Int → Option Addr → Nat → Nat → Int → Int → IMem → SH → Prop) (R : Value → IMem → SH → Prop) (t_6 : Option Addr) (m_7 : Option Addr) (now_8 : Int) (a_10 : Addr) (will_16 : Bool) (x45 : Option Addr) (x45n : Nat) (x45c : Nat) (x46 : Int) (x47 : Int) (I : IMem) (S : SH) : Prop :=
  ∃ x156, Cell I S (a_10.add 3) (.int .u32 x156) ∧
  Runs Tryz.prog 22 #[.pointer t_6, .int .i64 now_8, .int .u32 (x156.tmod (6 : Int))] I S fun v I1 S1 => ∃ x158, v = .bool x158 ∧
  bcase (!(x158 == will_16))
    (R (.bool false) I1 S1)
    (bolterlaw11_TransferScript_b12 again6 R t_6 m_7 now_8 x45 x45n x45c x46 x47 I1 S1)
def bolterlaw11_TransferScript_b16 (again6 : Option Addr → Option Addr → Int → Option Addr → Nat → Nat → Int → Int → IMem → SH → Prop) (R : Value → IMem → SH → Prop) (t_6 : Option Addr) (m_7 : Option Addr) (now_8 : Int) (a_10 : Addr) (will_16 : Bool) (x45 : Option Addr) (x45n : Nat) (x45c : Nat) (x46 : Int) (x47 : Int) (I : IMem) (S : SH) : Prop :=
  bcase will_16
    (ptrP m_7 fun x146 =>
    ∃ x148, Cell I S (x146.add 3) (.int .i64 x148) ∧
    ptrP m_7 fun x151 =>
    StP S (x151.add 3) [.int .i64 (if now_8 < x148 then now_8 else x148)] fun S1 =>
    bolterlaw11_TransferScript_b17 again6 R t_6 m_7 now_8 a_10 will_16 x45 x45n x45c x46 x47 I S1)
    (bolterlaw11_TransferScript_b17 again6 R t_6 m_7 now_8 a_10 will_16 x45 x45n x45c x46 x47 I S)
def bolterlaw11_TransferScript_b15 (again6 : Option Addr → Option Addr → Int → Option Addr → Nat → Nat → Int → Int → IMem → SH → Prop) (R : Value → IMem → SH → Prop) (t_6 : Option Addr) (m_7 : Option Addr) (now_8 : Int) (a_10 : Addr) (x45 : Option Addr) (x45n : Nat) (x45c : Nat) (x46 : Int) (x47 : Int) (x128 : Bool) (I : IMem) (S : SH) : Prop :=
  bcase x128
    (ptrP m_7 fun x130 =>
    ∃ x132, Cell I S (x130.add 2) (.bool x132) ∧
    bcase (!x132)
      (Keep I S I S ∧
      bolterlaw11_TransferScript_b16 again6 R t_6 m_7 now_8 a_10 true x45 x45n x45c x46 x47 I S)
      (∃ x136, Cell I S (a_10.add 3) (.int .u32 x136) ∧
      Runs Tryz.prog 21 #[.pointer m_7] I S fun v I1 S1 => ∃ x139_0 x139_1 x139_2 x139_3 x139_4 x139_5 x139_6, v = .agg #[.string x139_0, .string x139_1, .int .u32 x139_2, .int .u32 x139_3, .int .u32 x139_4, .int .u32 x139_5, .int .u32 x139_6] ∧
      Keep I S I1 S1 ∧
      Runs Tryz.prog 20 #[.int .u32 (x136.tmod (6 : Int)), .int .u32 x139_2] I1 S1 fun v' I1' S1' => ∃ x141, v' = .bool x141 ∧
      bolterlaw11_TransferScript_b16 again6 R t_6 m_7 now_8 a_10 x141 x45 x45n x45c x46 x47 I1' S1'))
    (bolterlaw11_TransferScript_b12 again6 R t_6 m_7 now_8 x45 x45n x45c x46 x47 I S)
def bolterlaw11_TransferScript_b18 (again6 : Option Addr → Option Addr → Int → Option Addr → Nat → Nat → Int → Int → IMem → SH → Prop) (R : Value → IMem → SH → Prop) (t_6 : Option Addr) (m_7 : Option Addr) (now_8 : Int) (x45 : Option Addr) (x45n : Nat) (x45c : Nat) (x46 : Int) (x47 : Int) (x92 : Bool) (I : IMem) (S : SH) : Prop :=
  bcase x92
    (R (.bool false) I S)
    (bolterlaw11_TransferScript_b12 again6 R t_6 m_7 now_8 x45 x45n x45c x46 x47 I S)
def bolterlaw11_TransferScript_b14 (again6 : Option Addr → Option Addr → Int → Option Addr → Nat → Nat → Int → Int → IMem → SH → Prop) (R : Value → IMem → SH → Prop) (t_6 : Option Addr) (m_7 : Option Addr) (now_8 : Int) (a_10 : Addr) (id_11 : Int) (x45 : Option Addr) (x45n : Nat) (x45c : Nat) (x46 : Int) (x47 : Int) (x123 : Bool) (I : IMem) (S : SH) : Prop :=
  bcase x123
    (∃ x126, Cell I S (a_10.add 2) (.int .u8 x126) ∧
    bolterlaw11_TransferScript_b15 again6 R t_6 m_7 now_8 a_10 x45 x45n x45c x46 x47 ((x126.tmod (4 : Int)) == (0 : Int)) I S)
    (∃ x59_0, Cell I S a_10 (.int .u8 x59_0) ∧
    ∃ x59_1, Cell I S (a_10.add 1) (.int .u8 x59_1) ∧
    ∃ x59_2, Cell I S (a_10.add 2) (.int .u8 x59_2) ∧
    ∃ x59_3, Cell I S (a_10.add 3) (.int .u32 x59_3) ∧
    ∃ x59_4 x59_4n x59_4c, Cell I S (a_10.add 4) (.slice x59_4 x59_4n x59_4c) ∧
    Runs Tryz.prog 23 #[.agg #[.int .u8 x59_0, .int .u8 x59_1, .int .u8 x59_2, .int .u32 x59_3, .slice x59_4 x59_4n x59_4c], .pointer m_7] I S fun v I1 S1 => ∃ x61_0 x61_1 x61_2 x61_3 x61_4 x61_5 x61_6 x61_7 x61_8 x61_9 x61_10 x61_10n x61_10c x61_11 x61_11n x61_11c x61_12 x61_12n x61_12c x61_13, v = .agg #[.int .u16 x61_0, .bool x61_1, .int .i64 x61_2, .bool x61_3, .bool x61_4, .bool x61_5, .bool x61_6, .int .i64 x61_7, .string x61_8, .int .u16 x61_9, .slice x61_10 x61_10n x61_10c, .slice x61_11 x61_11n x61_11c, .slice x61_12 x61_12n x61_12c, .int .i64 x61_13] ∧
    ∀ b17 : Nat,
    StP ((b17, .cells #[.int .u16 0, .bool false, .int .i64 0, .bool false, .bool false, .bool false, .bool false, .int .i64 0, .string ⟨#[]⟩, .int .u16 0, .slice none 0 0, .slice none 0 0, .slice none 0 0, .int .i64 0] 44 (0, 0)) :: S1) ⟨b17, 0, none⟩ [.int .u16 x61_0, .bool x61_1, .int .i64 x61_2, .bool x61_3, .bool x61_4, .bool x61_5, .bool x61_6, .int .i64 x61_7, .string x61_8, .int .u16 x61_9, .slice x61_10 x61_10n x61_10c, .slice x61_11 x61_11n x61_11c, .slice x61_12 x61_12n x61_12c, .int .i64 x61_13] fun S1' =>
    ∃ x65_0, Cell I1 S1' ⟨b17, 0, none⟩ (.int .u16 x65_0) ∧
    ∃ x65_1, Cell I1 S1' ⟨b17, 1, none⟩ (.bool x65_1) ∧
    ∃ x65_2, Cell I1 S1' ⟨b17, 2, none⟩ (.int .i64 x65_2) ∧
    ∃ x65_3, Cell I1 S1' ⟨b17, 3, none⟩ (.bool x65_3) ∧
    ∃ x65_4, Cell I1 S1' ⟨b17, 4, none⟩ (.bool x65_4) ∧
    ∃ x65_5, Cell I1 S1' ⟨b17, 5, none⟩ (.bool x65_5) ∧
    ∃ x65_6, Cell I1 S1' ⟨b17, 6, none⟩ (.bool x65_6) ∧
    ∃ x65_7, Cell I1 S1' ⟨b17, 7, none⟩ (.int .i64 x65_7) ∧
    ∃ x65_8, Cell I1 S1' ⟨b17, 8, none⟩ (.string x65_8) ∧
    ∃ x65_9, Cell I1 S1' ⟨b17, 9, none⟩ (.int .u16 x65_9) ∧
    ∃ x65_10 x65_10n x65_10c, Cell I1 S1' ⟨b17, 10, none⟩ (.slice x65_10 x65_10n x65_10c) ∧
    ∃ x65_11 x65_11n x65_11c, Cell I1 S1' ⟨b17, 11, none⟩ (.slice x65_11 x65_11n x65_11c) ∧
    ∃ x65_12 x65_12n x65_12c, Cell I1 S1' ⟨b17, 12, none⟩ (.slice x65_12 x65_12n x65_12c) ∧
    ∃ x65_13, Cell I1 S1' ⟨b17, 13, none⟩ (.int .i64 x65_13) ∧
    Runs Tryz.prog 13 #[.pointer t_6, .int .i64 now_8, .agg #[.int .u16 x65_0, .bool x65_1, .int .i64 x65_2, .bool x65_3, .bool x65_4, .bool x65_5, .bool x65_6, .int .i64 x65_7, .string x65_8, .int .u16 x65_9, .slice x65_10 x65_10n x65_10c, .slice x65_11 x65_11n x65_11c, .slice x65_12 x65_12n x65_12c, .int .i64 x65_13], .int .u16 id_11] I1 S1' fun v' I1' S1'' => ∃ x67_0 x67_1_0 x67_1_1 x67_1_2 x67_1_3 x67_1_4 x67_1_5 x67_1_6 x67_2, v' = .tuple #[.bool x67_0, .agg #[.int .u16 x67_1_0, .int .u16 x67_1_1, .bool x67_1_2, .string x67_1_3, .int .u16 x67_1_4, .int .u32 x67_1_5, .string x67_1_6], .bool x67_2] ∧
    ∀ b19 : Nat,
    StP ((b19, .cells #[.int .u16 0, .int .u16 0, .bool false, .string ⟨#[]⟩, .int .u16 0, .int .u32 0, .string ⟨#[]⟩] 34 (0, 0)) :: S1'') ⟨b19, 0, none⟩ [.int .u16 x67_1_0, .int .u16 x67_1_1, .bool x67_1_2, .string x67_1_3, .int .u16 x67_1_4, .int .u32 x67_1_5, .string x67_1_6] fun S1_r3 =>
    ∃ x74_0, Cell I1' S1_r3 ⟨b17, 0, none⟩ (.int .u16 x74_0) ∧
    ∃ x74_1, Cell I1' S1_r3 ⟨b17, 1, none⟩ (.bool x74_1) ∧
    ∃ x74_2, Cell I1' S1_r3 ⟨b17, 2, none⟩ (.int .i64 x74_2) ∧
    ∃ x74_3, Cell I1' S1_r3 ⟨b17, 3, none⟩ (.bool x74_3) ∧
    ∃ x74_4, Cell I1' S1_r3 ⟨b17, 4, none⟩ (.bool x74_4) ∧
    ∃ x74_5, Cell I1' S1_r3 ⟨b17, 5, none⟩ (.bool x74_5) ∧
    ∃ x74_6, Cell I1' S1_r3 ⟨b17, 6, none⟩ (.bool x74_6) ∧
    ∃ x74_7, Cell I1' S1_r3 ⟨b17, 7, none⟩ (.int .i64 x74_7) ∧
    ∃ x74_8, Cell I1' S1_r3 ⟨b17, 8, none⟩ (.string x74_8) ∧
    ∃ x74_9, Cell I1' S1_r3 ⟨b17, 9, none⟩ (.int .u16 x74_9) ∧
    ∃ x74_10 x74_10n x74_10c, Cell I1' S1_r3 ⟨b17, 10, none⟩ (.slice x74_10 x74_10n x74_10c) ∧
    ∃ x74_11 x74_11n x74_11c, Cell I1' S1_r3 ⟨b17, 11, none⟩ (.slice x74_11 x74_11n x74_11c) ∧
    ∃ x74_12 x74_12n x74_12c, Cell I1' S1_r3 ⟨b17, 12, none⟩ (.slice x74_12 x74_12n x74_12c) ∧
    ∃ x74_13, Cell I1' S1_r3 ⟨b17, 13, none⟩ (.int .i64 x74_13) ∧
    Runs Tryz.prog 24 #[.pointer m_7, .int .i64 now_8, .agg #[.int .u16 x74_0, .bool x74_1, .int .i64 x74_2, .bool x74_3, .bool x74_4, .bool x74_5, .bool x74_6, .int .i64 x74_7, .string x74_8, .int .u16 x74_9, .slice x74_10 x74_10n x74_10c, .slice x74_11 x74_11n x74_11c, .slice x74_12 x74_12n x74_12c, .int .i64 x74_13], .int .u16 id_11] I1' S1_r3 fun v'' I1'' S1_r4 => ∃ x76_0 x76_1_0 x76_1_1 x76_1_2 x76_1_3 x76_1_4 x76_1_5 x76_1_6 x76_2, v'' = .tuple #[.bool x76_0, .agg #[.int .u16 x76_1_0, .int .u16 x76_1_1, .bool x76_1_2, .string x76_1_3, .int .u16 x76_1_4, .int .u32 x76_1_5, .string x76_1_6], .bool x76_2] ∧
    ∀ b22 : Nat,
    StP ((b22, .cells #[.int .u16 0, .int .u16 0, .bool false, .string ⟨#[]⟩, .int .u16 0, .int .u32 0, .string ⟨#[]⟩] 34 (0, 0)) :: S1_r4) ⟨b22, 0, none⟩ [.int .u16 x76_1_0, .int .u16 x76_1_1, .bool x76_1_2, .string x76_1_3, .int .u16 x76_1_4, .int .u32 x76_1_5, .string x76_1_6] fun S1_r5 =>
    bcase (!(x67_0 == x76_0))
      (bolterlaw11_TransferScript_b18 again6 R t_6 m_7 now_8 x45 x45n x45c x46 x47 true I1'' S1_r5)
      (∃ x84_0, Cell I1'' S1_r5 ⟨b19, 0, none⟩ (.int .u16 x84_0) ∧
      ∃ x84_1, Cell I1'' S1_r5 ⟨b19, 1, none⟩ (.int .u16 x84_1) ∧
      ∃ x84_2, Cell I1'' S1_r5 ⟨b19, 2, none⟩ (.bool x84_2) ∧
      ∃ x84_3, Cell I1'' S1_r5 ⟨b19, 3, none⟩ (.string x84_3) ∧
      ∃ x84_4, Cell I1'' S1_r5 ⟨b19, 4, none⟩ (.int .u16 x84_4) ∧
      ∃ x84_5, Cell I1'' S1_r5 ⟨b19, 5, none⟩ (.int .u32 x84_5) ∧
      ∃ x84_6, Cell I1'' S1_r5 ⟨b19, 6, none⟩ (.string x84_6) ∧
      ∃ x85_0, Cell I1'' S1_r5 ⟨b22, 0, none⟩ (.int .u16 x85_0) ∧
      ∃ x85_1, Cell I1'' S1_r5 ⟨b22, 1, none⟩ (.int .u16 x85_1) ∧
      ∃ x85_2, Cell I1'' S1_r5 ⟨b22, 2, none⟩ (.bool x85_2) ∧
      ∃ x85_3, Cell I1'' S1_r5 ⟨b22, 3, none⟩ (.string x85_3) ∧
      ∃ x85_4, Cell I1'' S1_r5 ⟨b22, 4, none⟩ (.int .u16 x85_4) ∧
      ∃ x85_5, Cell I1'' S1_r5 ⟨b22, 5, none⟩ (.int .u32 x85_5) ∧
      ∃ x85_6, Cell I1'' S1_r5 ⟨b22, 6, none⟩ (.string x85_6) ∧
      bcase (!(((x84_0 : Int) == (x85_0 : Int)) && (((x84_1 : Int) == (x85_1 : Int)) && (((x84_2 : Bool) == (x85_2 : Bool)) && ((((x84_3 : ByteArray) == (x85_3 : ByteArray)) && (((x84_4 : Int) == (x85_4 : Int)) && (((x84_5 : Int) == (x85_5 : Int)) && (((x84_6 : ByteArray) == (x85_6 : ByteArray)) && true)))) && true)))))
        (bolterlaw11_TransferScript_b18 again6 R t_6 m_7 now_8 x45 x45n x45c x46 x47 true I1'' S1_r5)
        (bolterlaw11_TransferScript_b18 again6 R t_6 m_7 now_8 x45 x45n x45c x46 x47 (!(x67_2 == x76_2)) I1'' S1_r5)))
def bolterlaw11_TransferScript_b10 (again6 : Option Addr → Option Addr → Int → Option Addr → Nat → Nat → Int → Int → IMem → SH → Prop) (R : Value → IMem → SH → Prop) (t_6 : Option Addr) (m_7 : Option Addr) (now_8 : Int) (a_10 : Addr) (id_11 : Int) (x45 : Option Addr) (x45n : Nat) (x45c : Nat) (x46 : Int) (x47 : Int) (x58 : Int) (x93 : Bool) (I : IMem) (S : SH) : Prop :=
  bcase x93
    (∃ x97, Cell I S (a_10.add 1) (.int .u8 x97) ∧
    Runs Tryz.prog 10 #[.pointer t_6, .int .i64 (IntKind.wrap .i64 (now_8 + (IntKind.wrap .i64 (x97.tmod (8 : Int))))), .int .u16 id_11] I S fun v I1 S1 => ∃ x105_0_0 x105_0_1 x105_0_2 x105_0_3 x105_0_4 x105_0_5 x105_0_6 x105_1, v = .tuple #[.agg #[.int .u16 x105_0_0, .int .u16 x105_0_1, .bool x105_0_2, .string x105_0_3, .int .u16 x105_0_4, .int .u32 x105_0_5, .string x105_0_6], .bool x105_1] ∧
    ∀ b12 : Nat,
    StP ((b12, .cells #[.int .u16 0, .int .u16 0, .bool false, .string ⟨#[]⟩, .int .u16 0, .int .u32 0, .string ⟨#[]⟩] 34 (0, 0)) :: S1) ⟨b12, 0, none⟩ [.int .u16 x105_0_0, .int .u16 x105_0_1, .bool x105_0_2, .string x105_0_3, .int .u16 x105_0_4, .int .u32 x105_0_5, .string x105_0_6] fun S1' =>
    Runs Tryz.prog 19 #[.pointer m_7, .int .i64 (IntKind.wrap .i64 (now_8 + (IntKind.wrap .i64 (x97.tmod (8 : Int))))), .int .u16 id_11] I1 S1' fun v' I1' S1'' => ∃ x112_0_0 x112_0_1 x112_0_2 x112_0_3 x112_0_4 x112_0_5 x112_0_6 x112_1, v' = .tuple #[.agg #[.int .u16 x112_0_0, .int .u16 x112_0_1, .bool x112_0_2, .string x112_0_3, .int .u16 x112_0_4, .int .u32 x112_0_5, .string x112_0_6], .bool x112_1] ∧
    ∀ b14 : Nat,
    StP ((b14, .cells #[.int .u16 0, .int .u16 0, .bool false, .string ⟨#[]⟩, .int .u16 0, .int .u32 0, .string ⟨#[]⟩] 34 (0, 0)) :: S1'') ⟨b14, 0, none⟩ [.int .u16 x112_0_0, .int .u16 x112_0_1, .bool x112_0_2, .string x112_0_3, .int .u16 x112_0_4, .int .u32 x112_0_5, .string x112_0_6] fun S1_r3 =>
    ∃ x115_0, Cell I1' S1_r3 ⟨b12, 0, none⟩ (.int .u16 x115_0) ∧
    ∃ x115_1, Cell I1' S1_r3 ⟨b12, 1, none⟩ (.int .u16 x115_1) ∧
    ∃ x115_2, Cell I1' S1_r3 ⟨b12, 2, none⟩ (.bool x115_2) ∧
    ∃ x115_3, Cell I1' S1_r3 ⟨b12, 3, none⟩ (.string x115_3) ∧
    ∃ x115_4, Cell I1' S1_r3 ⟨b12, 4, none⟩ (.int .u16 x115_4) ∧
    ∃ x115_5, Cell I1' S1_r3 ⟨b12, 5, none⟩ (.int .u32 x115_5) ∧
    ∃ x115_6, Cell I1' S1_r3 ⟨b12, 6, none⟩ (.string x115_6) ∧
    ∃ x116_0, Cell I1' S1_r3 ⟨b14, 0, none⟩ (.int .u16 x116_0) ∧
    ∃ x116_1, Cell I1' S1_r3 ⟨b14, 1, none⟩ (.int .u16 x116_1) ∧
    ∃ x116_2, Cell I1' S1_r3 ⟨b14, 2, none⟩ (.bool x116_2) ∧
    ∃ x116_3, Cell I1' S1_r3 ⟨b14, 3, none⟩ (.string x116_3) ∧
    ∃ x116_4, Cell I1' S1_r3 ⟨b14, 4, none⟩ (.int .u16 x116_4) ∧
    ∃ x116_5, Cell I1' S1_r3 ⟨b14, 5, none⟩ (.int .u32 x116_5) ∧
    ∃ x116_6, Cell I1' S1_r3 ⟨b14, 6, none⟩ (.string x116_6) ∧
    bcase (!(((x115_0 : Int) == (x116_0 : Int)) && (((x115_1 : Int) == (x116_1 : Int)) && (((x115_2 : Bool) == (x116_2 : Bool)) && ((((x115_3 : ByteArray) == (x116_3 : ByteArray)) && (((x115_4 : Int) == (x116_4 : Int)) && (((x115_5 : Int) == (x116_5 : Int)) && (((x115_6 : ByteArray) == (x116_6 : ByteArray)) && true)))) && true)))))
      (bolterlaw11_TransferScript_b11 again6 R t_6 m_7 (IntKind.wrap .i64 (now_8 + (IntKind.wrap .i64 (x97.tmod (8 : Int))))) x45 x45n x45c x46 x47 true I1' S1_r3)
      (bolterlaw11_TransferScript_b11 again6 R t_6 m_7 (IntKind.wrap .i64 (now_8 + (IntKind.wrap .i64 (x97.tmod (8 : Int))))) x45 x45n x45c x46 x47 (!(x105_1 == x112_1)) I1' S1_r3))
    (bolterlaw11_TransferScript_b14 again6 R t_6 m_7 now_8 a_10 id_11 x45 x45n x45c x46 x47 (x58 == (1 : Int)) I S)
def bolterlaw11_TransferScript_b9 (again6 : Option Addr → Option Addr → Int → Option Addr → Nat → Nat → Int → Int → IMem → SH → Prop) (R : Value → IMem → SH → Prop) (t_6 : Option Addr) (m_7 : Option Addr) (now_8 : Int) (a_10 : Addr) (id_11 : Int) (x45 : Option Addr) (x45n : Nat) (x45c : Nat) (x46 : Int) (x47 : Int) (x58 : Int) (I : IMem) (S : SH) : Prop :=
  bolterlaw11_TransferScript_b10 again6 R t_6 m_7 now_8 a_10 id_11 x45 x45n x45c x46 x47 x58 (x58 == (0 : Int)) I S
def bolterlaw11_TransferScript_b8 (again6 : Option Addr → Option Addr → Int → Option Addr → Nat → Nat → Int → Int → IMem → SH → Prop) (R : Value → IMem → SH → Prop) (t_6 : Option Addr) (m_7 : Option Addr) (now_8 : Int) (a_10 : Addr) (id_11 : Int) (x45 : Option Addr) (x45n : Nat) (x45c : Nat) (x46 : Int) (x47 : Int) (I : IMem) (S : SH) : Prop :=
  ∃ x57, Cell I S a_10 (.int .u8 x57) ∧
  bolterlaw11_TransferScript_b9 again6 R t_6 m_7 now_8 a_10 id_11 x45 x45n x45c x46 x47 (x57.tmod (4 : Int)) I S
def bolterlaw11_TransferScript_b7 (again6 : Option Addr → Option Addr → Int → Option Addr → Nat → Nat → Int → Int → IMem → SH → Prop) (R : Value → IMem → SH → Prop) (t_6 : Option Addr) (m_7 : Option Addr) (now_8 : Int) (x45 : Option Addr) (x45n : Nat) (x45c : Nat) (x46 : Int) (x47 : Int) (I : IMem) (S : SH) : Prop :=
  ptrP x45 fun x50 => (0 : Int) ≤ x47 ∧ x47 < (x45n : Int) ∧
  ∃ x51_0, Cell I S (x50.add (x47.toNat * 5)) (.int .u8 x51_0) ∧
  ∃ x51_1, Cell I S ((x50.add (x47.toNat * 5)).add 1) (.int .u8 x51_1) ∧
  ∃ x51_2, Cell I S ((x50.add (x47.toNat * 5)).add 2) (.int .u8 x51_2) ∧
  ∃ x51_3, Cell I S ((x50.add (x47.toNat * 5)).add 3) (.int .u32 x51_3) ∧
  ∃ x51_4 x51_4n x51_4c, Cell I S ((x50.add (x47.toNat * 5)).add 4) (.slice x51_4 x51_4n x51_4c) ∧
  ∀ b10 : Nat,
  StP ((b10, .cells #[.int .u8 0, .int .u8 0, .int .u8 0, .int .u32 0, .slice none 0 0] 64 (0, 0)) :: S) ⟨b10, 0, none⟩ [.int .u8 x51_0, .int .u8 x51_1, .int .u8 x51_2, .int .u32 x51_3, .slice x51_4 x51_4n x51_4c] fun S1 =>
  bolterlaw11_TransferScript_b8 again6 R t_6 m_7 now_8 ⟨b10, 0, none⟩ (IntKind.wrap .u16 (IntKind.wrap .i64 ((IntKind.wrap .i64 (x47 * (3 : Int))) + (1 : Int)))) x45 x45n x45c x46 x47 I S1
def bolterlaw11_TransferScript_b19 (R : Value → IMem → SH → Prop) (I : IMem) (S : SH) : Prop :=
  R (.bool true) I S
def bolterlaw11_TransferScript_l6 (again6 : Option Addr → Option Addr → Int → Option Addr → Nat → Nat → Int → Int → IMem → SH → Prop) (R : Value → IMem → SH → Prop) (t_6 : Option Addr) (m_7 : Option Addr) (now_8 : Int) (x45 : Option Addr) (x45n : Nat) (x45c : Nat) (x46 : Int) (x47 : Int) (I : IMem) (S : SH) : Prop :=
  bcase (decide (x47 < x46))
    (bolterlaw11_TransferScript_b7 again6 R t_6 m_7 now_8 x45 x45n x45c x46 x47 I S)
    (bolterlaw11_TransferScript_b19 R I S)
def bolterlaw11_TransferScript_b5 (R : Value → IMem → SH → Prop) (t_6 : Option Addr) (m_7 : Option Addr) (now_8 : Int) (x45 : Option Addr) (x45n : Nat) (x45c : Nat) (x46 : Int) (x47 : Int) (I : IMem) (S : SH) : Prop :=
  ∃ (Inv : Nat → Option Addr → Option Addr → Int → Option Addr → Nat → Nat → Int → Int → IMem → SH → Prop) (m : Nat), Inv m t_6 m_7 now_8 x45 x45n x45c x46 x47 I S ∧
    ∀ (m : Nat) (t_6 : Option Addr) (m_7 : Option Addr) (now_8 : Int) (x45 : Option Addr) (x45n : Nat) (x45c : Nat) (x46 : Int) (x47 : Int) (J : IMem) (T : SH), I.le J → Inv m t_6 m_7 now_8 x45 x45n x45c x46 x47 J T →
      bolterlaw11_TransferScript_l6 (fun t_6 m_7 now_8 x45 x45n x45c x46 x47 I S => ∃ m', m' < m ∧ Inv m' t_6 m_7 now_8 x45 x45n x45c x46 x47 I S) R t_6 m_7 now_8 x45 x45n x45c x46 x47 J T
def bolterlaw11_TransferScript_b4 (R : Value → IMem → SH → Prop) (acts_1 : Option Addr) (acts_1n : Nat) (acts_1c : Nat) (t_6 : Option Addr) (m_7 : Option Addr) (now_8 : Int) (I : IMem) (S : SH) : Prop :=
  bolterlaw11_TransferScript_b5 R t_6 m_7 now_8 acts_1 acts_1n acts_1c (acts_1n : Int) 0 I S
def bolterlaw11_TransferScript_b3 (R : Value → IMem → SH → Prop) (acts_1 : Option Addr) (acts_1n : Nat) (acts_1c : Nat) (t_6 : Option Addr) (m_7 : Option Addr) (I : IMem) (S : SH) : Prop :=
  bolterlaw11_TransferScript_b4 R acts_1 acts_1n acts_1c t_6 m_7 0 I S
def bolterlaw11_TransferScript_b2 (R : Value → IMem → SH → Prop) (acts_1 : Option Addr) (acts_1n : Nat) (acts_1c : Nat) (t_6 : Option Addr) (m_7 : Option Addr) (x44 : Bool) (I : IMem) (S : SH) : Prop :=
  bcase x44
    (R (.bool false) I S)
    (bolterlaw11_TransferScript_b3 R acts_1 acts_1n acts_1c t_6 m_7 I S)
def bolterlaw11_TransferScript_b1 (R : Value → IMem → SH → Prop) (acts_1 : Option Addr) (acts_1n : Nat) (acts_1c : Nat) (origin_5 : ByteArray) (t_6 : Option Addr) (m_7 : Option Addr) (I : IMem) (S : SH) : Prop :=
  ptrP t_6 fun x34 =>
  ∃ x36, Cell I S x34 (.string x36) ∧
  bcase (!(x36.toList == origin_5.toList))
    (bolterlaw11_TransferScript_b2 R acts_1 acts_1n acts_1c t_6 m_7 true I S)
    (Runs Tryz.prog 18 #[.pointer m_7, .pointer t_6, .int .i64 0] I S fun v I1 S1 => ∃ x42, v = .bool x42 ∧
    bolterlaw11_TransferScript_b2 R acts_1 acts_1n acts_1c t_6 m_7 (!x42) I1 S1)
def bolterlaw11_TransferScript (R : Value → IMem → SH → Prop) (o_0 : Int) (acts_1 : Option Addr) (acts_1n : Nat) (acts_1c : Nat) (I : IMem) (S : SH) : Prop :=
  Runs Tryz.prog 7 #[] I S fun v I1 S1 => ∃ x24, v = .bool x24 ∧
  bcase (!x24)
    (R (.bool false) I1 S1)
    (Runs Tryz.prog 8 #[.int .u8 o_0] I1 S1 fun v' I1' S1' => ∃ x27, v' = .string x27 ∧
    Runs Tryz.prog 9 #[.string x27] I1' S1' fun v'' I1'' S1'' => ∃ x29, v'' = .pointer x29 ∧
    ∀ b32 : Nat,
    bolterlaw11_TransferScript_b1 R acts_1 acts_1n acts_1c x27 x29 (some ⟨b32, 0, none⟩) I1'' ((b32, .cells #[.string x27, .slice none 0 0, .bool false, .int .i64 0, .int .i64 0, .int .u16 0, .int .u16 0, .bool false, .string ⟨#[]⟩, .int .u16 0, .int .u32 0, .string ⟨#[]⟩, .bool false, .int .i64 0, .slice none 0 0] 61 (0, 0)) :: S1''))
theorem bolterlaw11_TransferScript_fn (R : Value → IMem → SH → Prop) (o_0 : Int) (acts_1 : Option Addr) (acts_1n : Nat) (acts_1c : Nat) (I : IMem) (S : SH) (h : bolterlaw11_TransferScript R o_0 acts_1 acts_1n acts_1c I S) :
    Runs Tryz.prog 6 #[.int .u8 o_0, .slice acts_1 acts_1n acts_1c] I S R := by
  refine Runs.of_wp (args := [.int .u8 o_0, .slice acts_1 acts_1n acts_1c]) (c := bolterlaw11_TransferScript_code) Tryz.func6 (by kernel_rfl) (by kernel_rfl) ?_
  refine WP.cut 4 (fun l I S => asSl (l 1) fun acts_1 acts_1n acts_1c => asStr (l 5) fun origin_5 => asPtr (l 6) fun t_6 => asPtr (l 7) fun m_7 => bolterlaw11_TransferScript_b1 R acts_1 acts_1n acts_1c origin_5 t_6 m_7 I S) (cast (by kernel_rfl) h) ?_
  clear h
  intro l I S _ h
  obtain ⟨acts_1, acts_1n, acts_1c, e1, h⟩ := asSl_e h
  obtain ⟨origin_5, e5, h⟩ := asStr_e h
  obtain ⟨t_6, e6, h⟩ := asPtr_e h
  obtain ⟨m_7, e7, h⟩ := asPtr_e h
  rw [upd_eta e1, upd_eta e5, upd_eta e6, upd_eta e7]
  refine WP.seqY (by kernel_rfl) (fun l I S => asSl (l 1) fun acts_1 acts_1n acts_1c => asPtr (l 6) fun t_6 => asPtr (l 7) fun m_7 => bolterlaw11_TransferScript_b3 R acts_1 acts_1n acts_1c t_6 m_7 I S) ?_ ?_
  ·
    refine WP.cut 1 (fun l I S => asSl (l 1) fun acts_1 acts_1n acts_1c => asPtr (l 6) fun t_6 => asPtr (l 7) fun m_7 => asB (l 44) fun x44 => bolterlaw11_TransferScript_b2 R acts_1 acts_1n acts_1c t_6 m_7 x44 I S) (cast (by kernel_rfl) h) ?_
    clear h
    intro l I S _ h
    obtain ⟨acts_1, acts_1n, acts_1c, e1, h⟩ := asSl_e h
    obtain ⟨t_6, e6, h⟩ := asPtr_e h
    obtain ⟨m_7, e7, h⟩ := asPtr_e h
    obtain ⟨x44, e44, h⟩ := asB_e h
    rw [upd_eta e1, upd_eta e6, upd_eta e7, upd_eta e44]
    exact Pre.sound _ _ _ _ _ (cast (by kernel_rfl) h)
  · clear h
    intro l I S _ h
    obtain ⟨acts_1, acts_1n, acts_1c, e1, h⟩ := asSl_e h
    obtain ⟨t_6, e6, h⟩ := asPtr_e h
    obtain ⟨m_7, e7, h⟩ := asPtr_e h
    rw [upd_eta e1, upd_eta e6, upd_eta e7]
    refine WP.cut 1 (fun l I S => asSl (l 1) fun acts_1 acts_1n acts_1c => asPtr (l 6) fun t_6 => asPtr (l 7) fun m_7 => asI .i64 (l 8) fun now_8 => bolterlaw11_TransferScript_b4 R acts_1 acts_1n acts_1c t_6 m_7 now_8 I S) (cast (by kernel_rfl) h) ?_
    clear h
    intro l I S _ h
    obtain ⟨acts_1, acts_1n, acts_1c, e1, h⟩ := asSl_e h
    obtain ⟨t_6, e6, h⟩ := asPtr_e h
    obtain ⟨m_7, e7, h⟩ := asPtr_e h
    obtain ⟨now_8, e8, h⟩ := asI_e h
    rw [upd_eta e1, upd_eta e6, upd_eta e7, upd_eta e8]
    refine WP.seqY (by kernel_rfl) (fun l I S => bolterlaw11_TransferScript_b19 R I S) ?_ ?_
    ·
      refine WP.cut 1 (fun l I S => asPtr (l 6) fun t_6 => asPtr (l 7) fun m_7 => asI .i64 (l 8) fun now_8 => asSl (l 45) fun x45 x45n x45c => asI .i64 (l 46) fun x46 => asI .i64 (l 47) fun x47 => bolterlaw11_TransferScript_b5 R t_6 m_7 now_8 x45 x45n x45c x46 x47 I S) (cast (by kernel_rfl) h) ?_
      clear h
      intro l I S _ h
      obtain ⟨t_6, e6, h⟩ := asPtr_e h
      obtain ⟨m_7, e7, h⟩ := asPtr_e h
      obtain ⟨now_8, e8, h⟩ := asI_e h
      obtain ⟨x45, x45n, x45c, e45, h⟩ := asSl_e h
      obtain ⟨x46, e46, h⟩ := asI_e h
      obtain ⟨x47, e47, h⟩ := asI_e h
      rw [upd_eta e6, upd_eta e7, upd_eta e8, upd_eta e45, upd_eta e46, upd_eta e47]
      refine WP.block' (by kernel_rfl) ?_
      obtain ⟨Inv_again6, m_again6, h0, hr⟩ := h
      refine WP.loop' (by kernel_rfl) (fun m_again6 => fun l I S => asPtr (l 6) fun t_6 => asPtr (l 7) fun m_7 => asI .i64 (l 8) fun now_8 => asSl (l 45) fun x45 x45n x45c => asI .i64 (l 46) fun x46 => asI .i64 (l 47) fun x47 => Inv_again6 m_again6 t_6 m_7 now_8 x45 x45n x45c x46 x47 I S) m_again6 (cast (by kernel_rfl) h0) ?_
      clear h0
      intro m_again6 l I S hle h
      obtain ⟨t_6, e6, h⟩ := asPtr_e h
      obtain ⟨m_7, e7, h⟩ := asPtr_e h
      obtain ⟨now_8, e8, h⟩ := asI_e h
      obtain ⟨x45, x45n, x45c, e45, h⟩ := asSl_e h
      obtain ⟨x46, e46, h⟩ := asI_e h
      obtain ⟨x47, e47, h⟩ := asI_e h
      rw [upd_eta e6, upd_eta e7, upd_eta e8, upd_eta e45, upd_eta e46, upd_eta e47]
      have h := hr m_again6 t_6 m_7 now_8 x45 x45n x45c x46 x47 I S hle h
      clear hr hle
      refine WP.cut 2 (fun l I S => asPtr (l 6) fun t_6 => asPtr (l 7) fun m_7 => asI .i64 (l 8) fun now_8 => asSl (l 45) fun x45 x45n x45c => asI .i64 (l 46) fun x46 => asI .i64 (l 47) fun x47 => bolterlaw11_TransferScript_b7 (fun t_6 m_7 now_8 x45 x45n x45c x46 x47 I S => ∃ m', m' < m_again6 ∧ Inv_again6 m' t_6 m_7 now_8 x45 x45n x45c x46 x47 I S) R t_6 m_7 now_8 x45 x45n x45c x46 x47 I S) (cast (by kernel_rfl) h) ?_
      clear h
      intro l I S _ h
      obtain ⟨t_6, e6, h⟩ := asPtr_e h
      obtain ⟨m_7, e7, h⟩ := asPtr_e h
      obtain ⟨now_8, e8, h⟩ := asI_e h
      obtain ⟨x45, x45n, x45c, e45, h⟩ := asSl_e h
      obtain ⟨x46, e46, h⟩ := asI_e h
      obtain ⟨x47, e47, h⟩ := asI_e h
      rw [upd_eta e6, upd_eta e7, upd_eta e8, upd_eta e45, upd_eta e46, upd_eta e47]
      refine WP.seqY (by kernel_rfl) (fun l I S => asPtr (l 6) fun t_6 => asPtr (l 7) fun m_7 => asI .i64 (l 8) fun now_8 => asSl (l 45) fun x45 x45n x45c => asI .i64 (l 46) fun x46 => asI .i64 (l 47) fun x47 => bolterlaw11_TransferScript_b13 (fun t_6 m_7 now_8 x45 x45n x45c x46 x47 I S => ∃ m', m' < m_again6 ∧ Inv_again6 m' t_6 m_7 now_8 x45 x45n x45c x46 x47 I S) R t_6 m_7 now_8 x45 x45n x45c x46 x47 I S) ?_ ?_
      ·
        refine WP.block' (by kernel_rfl) ?_
        refine WP.cut 2 (fun l I S => asPtr (l 6) fun t_6 => asPtr (l 7) fun m_7 => asI .i64 (l 8) fun now_8 => asAdr (l 10) fun a_10 => asI .u16 (l 11) fun id_11 => asSl (l 45) fun x45 x45n x45c => asI .i64 (l 46) fun x46 => asI .i64 (l 47) fun x47 => bolterlaw11_TransferScript_b8 (fun t_6 m_7 now_8 x45 x45n x45c x46 x47 I S => ∃ m', m' < m_again6 ∧ Inv_again6 m' t_6 m_7 now_8 x45 x45n x45c x46 x47 I S) R t_6 m_7 now_8 a_10 id_11 x45 x45n x45c x46 x47 I S) (cast (by kernel_rfl) h) ?_
        clear h
        intro l I S _ h
        obtain ⟨t_6, e6, h⟩ := asPtr_e h
        obtain ⟨m_7, e7, h⟩ := asPtr_e h
        obtain ⟨now_8, e8, h⟩ := asI_e h
        obtain ⟨a_10, e10, h⟩ := asAdr_e h
        obtain ⟨id_11, e11, h⟩ := asI_e h
        obtain ⟨x45, x45n, x45c, e45, h⟩ := asSl_e h
        obtain ⟨x46, e46, h⟩ := asI_e h
        obtain ⟨x47, e47, h⟩ := asI_e h
        rw [upd_eta e6, upd_eta e7, upd_eta e8, upd_eta e10, upd_eta e11, upd_eta e45, upd_eta e46, upd_eta e47]
        refine WP.seqY (by kernel_rfl) (fun l I S => asPtr (l 6) fun t_6 => asPtr (l 7) fun m_7 => asI .i64 (l 8) fun now_8 => asSl (l 45) fun x45 x45n x45c => asI .i64 (l 46) fun x46 => asI .i64 (l 47) fun x47 => bolterlaw11_TransferScript_b12 (fun t_6 m_7 now_8 x45 x45n x45c x46 x47 I S => ∃ m', m' < m_again6 ∧ Inv_again6 m' t_6 m_7 now_8 x45 x45n x45c x46 x47 I S) R t_6 m_7 now_8 x45 x45n x45c x46 x47 I S) ?_ ?_
        ·
          refine WP.cut 1 (fun l I S => asPtr (l 6) fun t_6 => asPtr (l 7) fun m_7 => asI .i64 (l 8) fun now_8 => asAdr (l 10) fun a_10 => asI .u16 (l 11) fun id_11 => asSl (l 45) fun x45 x45n x45c => asI .i64 (l 46) fun x46 => asI .i64 (l 47) fun x47 => asI .u8 (l 58) fun x58 => bolterlaw11_TransferScript_b9 (fun t_6 m_7 now_8 x45 x45n x45c x46 x47 I S => ∃ m', m' < m_again6 ∧ Inv_again6 m' t_6 m_7 now_8 x45 x45n x45c x46 x47 I S) R t_6 m_7 now_8 a_10 id_11 x45 x45n x45c x46 x47 x58 I S) (cast (by kernel_rfl) h) ?_
          clear h
          intro l I S _ h
          obtain ⟨t_6, e6, h⟩ := asPtr_e h
          obtain ⟨m_7, e7, h⟩ := asPtr_e h
          obtain ⟨now_8, e8, h⟩ := asI_e h
          obtain ⟨a_10, e10, h⟩ := asAdr_e h
          obtain ⟨id_11, e11, h⟩ := asI_e h
          obtain ⟨x45, x45n, x45c, e45, h⟩ := asSl_e h
          obtain ⟨x46, e46, h⟩ := asI_e h
          obtain ⟨x47, e47, h⟩ := asI_e h
          obtain ⟨x58, e58, h⟩ := asI_e h
          rw [upd_eta e6, upd_eta e7, upd_eta e8, upd_eta e10, upd_eta e11, upd_eta e45, upd_eta e46, upd_eta e47, upd_eta e58]
          refine WP.block' (by kernel_rfl) ?_
          refine WP.cut 1 (fun l I S => asPtr (l 6) fun t_6 => asPtr (l 7) fun m_7 => asI .i64 (l 8) fun now_8 => asAdr (l 10) fun a_10 => asI .u16 (l 11) fun id_11 => asSl (l 45) fun x45 x45n x45c => asI .i64 (l 46) fun x46 => asI .i64 (l 47) fun x47 => asI .u8 (l 58) fun x58 => asB (l 93) fun x93 => bolterlaw11_TransferScript_b10 (fun t_6 m_7 now_8 x45 x45n x45c x46 x47 I S => ∃ m', m' < m_again6 ∧ Inv_again6 m' t_6 m_7 now_8 x45 x45n x45c x46 x47 I S) R t_6 m_7 now_8 a_10 id_11 x45 x45n x45c x46 x47 x58 x93 I S) (cast (by kernel_rfl) h) ?_
          clear h
          intro l I S _ h
          obtain ⟨t_6, e6, h⟩ := asPtr_e h
          obtain ⟨m_7, e7, h⟩ := asPtr_e h
          obtain ⟨now_8, e8, h⟩ := asI_e h
          obtain ⟨a_10, e10, h⟩ := asAdr_e h
          obtain ⟨id_11, e11, h⟩ := asI_e h
          obtain ⟨x45, x45n, x45c, e45, h⟩ := asSl_e h
          obtain ⟨x46, e46, h⟩ := asI_e h
          obtain ⟨x47, e47, h⟩ := asI_e h
          obtain ⟨x58, e58, h⟩ := asI_e h
          obtain ⟨x93, e93, h⟩ := asB_e h
          rw [upd_eta e6, upd_eta e7, upd_eta e8, upd_eta e10, upd_eta e11, upd_eta e45, upd_eta e46, upd_eta e47, upd_eta e58, upd_eta e93]
          refine WP.cond' (by kernel_rfl) (by kernel_rfl) h ?_ ?_
          · clear h
            intro h
            refine WP.cut 4 (fun l I S => asPtr (l 6) fun t_6 => asPtr (l 7) fun m_7 => asI .i64 (l 8) fun now_8 => asSl (l 45) fun x45 x45n x45c => asI .i64 (l 46) fun x46 => asI .i64 (l 47) fun x47 => asB (l 122) fun x122 => bolterlaw11_TransferScript_b11 (fun t_6 m_7 now_8 x45 x45n x45c x46 x47 I S => ∃ m', m' < m_again6 ∧ Inv_again6 m' t_6 m_7 now_8 x45 x45n x45c x46 x47 I S) R t_6 m_7 now_8 x45 x45n x45c x46 x47 x122 I S) (cast (by kernel_rfl) h) ?_
            clear h
            intro l I S _ h
            obtain ⟨t_6, e6, h⟩ := asPtr_e h
            obtain ⟨m_7, e7, h⟩ := asPtr_e h
            obtain ⟨now_8, e8, h⟩ := asI_e h
            obtain ⟨x45, x45n, x45c, e45, h⟩ := asSl_e h
            obtain ⟨x46, e46, h⟩ := asI_e h
            obtain ⟨x47, e47, h⟩ := asI_e h
            obtain ⟨x122, e122, h⟩ := asB_e h
            rw [upd_eta e6, upd_eta e7, upd_eta e8, upd_eta e45, upd_eta e46, upd_eta e47, upd_eta e122]
            exact Pre.sound _ _ _ _ _ (cast (by kernel_rfl) h)
          · clear h
            intro h
            refine WP.cut 1 (fun l I S => asPtr (l 6) fun t_6 => asPtr (l 7) fun m_7 => asI .i64 (l 8) fun now_8 => asAdr (l 10) fun a_10 => asI .u16 (l 11) fun id_11 => asSl (l 45) fun x45 x45n x45c => asI .i64 (l 46) fun x46 => asI .i64 (l 47) fun x47 => asB (l 123) fun x123 => bolterlaw11_TransferScript_b14 (fun t_6 m_7 now_8 x45 x45n x45c x46 x47 I S => ∃ m', m' < m_again6 ∧ Inv_again6 m' t_6 m_7 now_8 x45 x45n x45c x46 x47 I S) R t_6 m_7 now_8 a_10 id_11 x45 x45n x45c x46 x47 x123 I S) (cast (by kernel_rfl) h) ?_
            clear h
            intro l I S _ h
            obtain ⟨t_6, e6, h⟩ := asPtr_e h
            obtain ⟨m_7, e7, h⟩ := asPtr_e h
            obtain ⟨now_8, e8, h⟩ := asI_e h
            obtain ⟨a_10, e10, h⟩ := asAdr_e h
            obtain ⟨id_11, e11, h⟩ := asI_e h
            obtain ⟨x45, x45n, x45c, e45, h⟩ := asSl_e h
            obtain ⟨x46, e46, h⟩ := asI_e h
            obtain ⟨x47, e47, h⟩ := asI_e h
            obtain ⟨x123, e123, h⟩ := asB_e h
            rw [upd_eta e6, upd_eta e7, upd_eta e8, upd_eta e10, upd_eta e11, upd_eta e45, upd_eta e46, upd_eta e47, upd_eta e123]
            refine WP.cond' (by kernel_rfl) (by kernel_rfl) h ?_ ?_
            · clear h
              intro h
              refine WP.cut 1 (fun l I S => asPtr (l 6) fun t_6 => asPtr (l 7) fun m_7 => asI .i64 (l 8) fun now_8 => asAdr (l 10) fun a_10 => asSl (l 45) fun x45 x45n x45c => asI .i64 (l 46) fun x46 => asI .i64 (l 47) fun x47 => asB (l 128) fun x128 => bolterlaw11_TransferScript_b15 (fun t_6 m_7 now_8 x45 x45n x45c x46 x47 I S => ∃ m', m' < m_again6 ∧ Inv_again6 m' t_6 m_7 now_8 x45 x45n x45c x46 x47 I S) R t_6 m_7 now_8 a_10 x45 x45n x45c x46 x47 x128 I S) (cast (by kernel_rfl) h) ?_
              clear h
              intro l I S _ h
              obtain ⟨t_6, e6, h⟩ := asPtr_e h
              obtain ⟨m_7, e7, h⟩ := asPtr_e h
              obtain ⟨now_8, e8, h⟩ := asI_e h
              obtain ⟨a_10, e10, h⟩ := asAdr_e h
              obtain ⟨x45, x45n, x45c, e45, h⟩ := asSl_e h
              obtain ⟨x46, e46, h⟩ := asI_e h
              obtain ⟨x47, e47, h⟩ := asI_e h
              obtain ⟨x128, e128, h⟩ := asB_e h
              rw [upd_eta e6, upd_eta e7, upd_eta e8, upd_eta e10, upd_eta e45, upd_eta e46, upd_eta e47, upd_eta e128]
              refine WP.cond' (by kernel_rfl) (by kernel_rfl) h ?_ ?_
              · clear h
                intro h
                refine WP.seqY (by kernel_rfl) (fun l I S => asPtr (l 6) fun t_6 => asPtr (l 7) fun m_7 => asI .i64 (l 8) fun now_8 => asAdr (l 10) fun a_10 => asB (l 16) fun will_16 => asSl (l 45) fun x45 x45n x45c => asI .i64 (l 46) fun x46 => asI .i64 (l 47) fun x47 => bolterlaw11_TransferScript_b16 (fun t_6 m_7 now_8 x45 x45n x45c x46 x47 I S => ∃ m', m' < m_again6 ∧ Inv_again6 m' t_6 m_7 now_8 x45 x45n x45c x46 x47 I S) R t_6 m_7 now_8 a_10 will_16 x45 x45n x45c x46 x47 I S) ?_ ?_
                ·
                  exact WP.draw' (.take 0 (.take 1 (.take 2 (.take 3 (.take 4 (.take 5 (.take 6 (.take 7 (.take 8 (.take 9 (.step 10 (.take 11 (.step 12 (.take 13 (.take 14 .done))))))))))))))) [10, 12] (by kernel_rfl) (by kernel_rfl) (by kernel_rfl) (by kernel_rfl) (by kernel_rfl) (cast (by kernel_rfl) h)
                · clear h
                  intro l I S _ h
                  obtain ⟨t_6, e6, h⟩ := asPtr_e h
                  obtain ⟨m_7, e7, h⟩ := asPtr_e h
                  obtain ⟨now_8, e8, h⟩ := asI_e h
                  obtain ⟨a_10, e10, h⟩ := asAdr_e h
                  obtain ⟨will_16, e16, h⟩ := asB_e h
                  obtain ⟨x45, x45n, x45c, e45, h⟩ := asSl_e h
                  obtain ⟨x46, e46, h⟩ := asI_e h
                  obtain ⟨x47, e47, h⟩ := asI_e h
                  rw [upd_eta e6, upd_eta e7, upd_eta e8, upd_eta e10, upd_eta e16, upd_eta e45, upd_eta e46, upd_eta e47]
                  refine WP.cut 1 (fun l I S => asPtr (l 6) fun t_6 => asPtr (l 7) fun m_7 => asI .i64 (l 8) fun now_8 => asAdr (l 10) fun a_10 => asB (l 16) fun will_16 => asSl (l 45) fun x45 x45n x45c => asI .i64 (l 46) fun x46 => asI .i64 (l 47) fun x47 => bolterlaw11_TransferScript_b17 (fun t_6 m_7 now_8 x45 x45n x45c x46 x47 I S => ∃ m', m' < m_again6 ∧ Inv_again6 m' t_6 m_7 now_8 x45 x45n x45c x46 x47 I S) R t_6 m_7 now_8 a_10 will_16 x45 x45n x45c x46 x47 I S) (cast (by kernel_rfl) h) ?_
                  clear h
                  intro l I S _ h
                  obtain ⟨t_6, e6, h⟩ := asPtr_e h
                  obtain ⟨m_7, e7, h⟩ := asPtr_e h
                  obtain ⟨now_8, e8, h⟩ := asI_e h
                  obtain ⟨a_10, e10, h⟩ := asAdr_e h
                  obtain ⟨will_16, e16, h⟩ := asB_e h
                  obtain ⟨x45, x45n, x45c, e45, h⟩ := asSl_e h
                  obtain ⟨x46, e46, h⟩ := asI_e h
                  obtain ⟨x47, e47, h⟩ := asI_e h
                  rw [upd_eta e6, upd_eta e7, upd_eta e8, upd_eta e10, upd_eta e16, upd_eta e45, upd_eta e46, upd_eta e47]
                  exact Pre.sound _ _ _ _ _ (cast (by kernel_rfl) h)
              · clear h
                intro h
                exact Pre.sound _ _ _ _ _ (cast (by kernel_rfl) h)
            · clear h
              intro h
              refine WP.cut 4 (fun l I S => asPtr (l 6) fun t_6 => asPtr (l 7) fun m_7 => asI .i64 (l 8) fun now_8 => asSl (l 45) fun x45 x45n x45c => asI .i64 (l 46) fun x46 => asI .i64 (l 47) fun x47 => asB (l 92) fun x92 => bolterlaw11_TransferScript_b18 (fun t_6 m_7 now_8 x45 x45n x45c x46 x47 I S => ∃ m', m' < m_again6 ∧ Inv_again6 m' t_6 m_7 now_8 x45 x45n x45c x46 x47 I S) R t_6 m_7 now_8 x45 x45n x45c x46 x47 x92 I S) (cast (by kernel_rfl) h) ?_
              clear h
              intro l I S _ h
              obtain ⟨t_6, e6, h⟩ := asPtr_e h
              obtain ⟨m_7, e7, h⟩ := asPtr_e h
              obtain ⟨now_8, e8, h⟩ := asI_e h
              obtain ⟨x45, x45n, x45c, e45, h⟩ := asSl_e h
              obtain ⟨x46, e46, h⟩ := asI_e h
              obtain ⟨x47, e47, h⟩ := asI_e h
              obtain ⟨x92, e92, h⟩ := asB_e h
              rw [upd_eta e6, upd_eta e7, upd_eta e8, upd_eta e45, upd_eta e46, upd_eta e47, upd_eta e92]
              exact Pre.sound _ _ _ _ _ (cast (by kernel_rfl) h)
        · clear h
          intro l I S _ h
          obtain ⟨t_6, e6, h⟩ := asPtr_e h
          obtain ⟨m_7, e7, h⟩ := asPtr_e h
          obtain ⟨now_8, e8, h⟩ := asI_e h
          obtain ⟨x45, x45n, x45c, e45, h⟩ := asSl_e h
          obtain ⟨x46, e46, h⟩ := asI_e h
          obtain ⟨x47, e47, h⟩ := asI_e h
          rw [upd_eta e6, upd_eta e7, upd_eta e8, upd_eta e45, upd_eta e46, upd_eta e47]
          exact Pre.sound _ _ _ _ _ (cast (by kernel_rfl) h)
      · clear h
        intro l I S _ h
        obtain ⟨t_6, e6, h⟩ := asPtr_e h
        obtain ⟨m_7, e7, h⟩ := asPtr_e h
        obtain ⟨now_8, e8, h⟩ := asI_e h
        obtain ⟨x45, x45n, x45c, e45, h⟩ := asSl_e h
        obtain ⟨x46, e46, h⟩ := asI_e h
        obtain ⟨x47, e47, h⟩ := asI_e h
        rw [upd_eta e6, upd_eta e7, upd_eta e8, upd_eta e45, upd_eta e46, upd_eta e47]
        exact Pre.sound _ _ _ _ _ (cast (by kernel_rfl) h)
    · clear h
      intro l I S _ h
      exact Pre.sound _ _ _ _ _ (cast (by kernel_rfl) h)
end Go.Proofs.YthlkeokfmedjhaaGreat
/- An act's message: what it bears is small. The end of the walk. -/
namespace Go.Proofs.YthlkeokfmedjhaaGreat
open Go.Px
set_option linter.unusedVariables false
set_option linter.unusedSimpArgs false

abbrev mz0 : Ms := ⟨0, false, 0, false, false, false, false, 0, ⟨#[]⟩, 0, (none, 0, 0), (none, 0, 0), (none, 0, 0), 0⟩
structure Sa where
  op : Int
  later : Int
  how : Int
  ser : Int
  recs : Sl
abbrev encSa (a : Sa) : List Value := [.int .u8 a.op, .int .u8 a.later, .int .u8 a.how, .int .u32 a.ser, .slice a.recs.1 a.recs.2.1 a.recs.2.2]
abbrev saB (b : Nat) (a : Sa) : Nat × Obj := (b, .cells (encSa a).toArray 64 (0, 0))
/-- what an act's message is -/
def AmR (S : SH) (v : Value) (T : SH) : Prop := ∃ m xs own, v = vM m ∧ m.an.2.1 = xs.length ∧ (∀ J, RowIn J own m.an.1 xs.length 4 encR xs) ∧ xs.length ≤ 10000 ∧ (∀ r ∈ xs, SmallR r) ∧ Sub (own ++ S) T
section
variable {b2 b4 b5 : Nat} {m : Ms} {a : Sa} {xs : List Rc} {own G S0 T : SH} {J : IMem}
theorem am_b11 (hn : m.an.2.1 = xs.length) (hx : ∀ J, RowIn J own m.an.1 xs.length 4 encR xs) (hl : xs.length ≤ 10000) (hsm : ∀ r ∈ xs, SmallR r) (hF : ∀ {o T : SH}, Sub (o ++ G) T → Sub (o ++ S0) T) (hs : Sub (own ++ (mB b5 m :: (mB b4 mz0 :: G))) T) :
    bolterlaw11_Act_message_b11 (fun v _ T => AmR S0 v T) ⟨b4, 0, none⟩ ⟨b5, 0, none⟩ J T := by
  have hM : Sub (mB b5 m :: (mB b4 mz0 :: G)) T := hs.right
  unfold bolterlaw11_Act_message_b11
  refine ⟨_, Cell.among hM rfl, _, Cell.at_ (add_mk _ _ _) (Cell.among hM rfl), _, Cell.at_ (add_mk _ _ _) (Cell.among hM rfl), _, Cell.at_ (add_mk _ _ _) (Cell.among hM rfl), _, Cell.at_ (add_mk _ _ _) (Cell.among hM rfl), _, Cell.at_ (add_mk _ _ _) (Cell.among hM rfl), _, Cell.at_ (add_mk _ _ _) (Cell.among hM rfl), _, Cell.at_ (add_mk _ _ _) (Cell.among hM rfl), _, Cell.at_ (add_mk _ _ _) (Cell.among hM rfl), _, Cell.at_ (add_mk _ _ _) (Cell.among hM rfl), _, _, _, Cell.at_ (add_mk _ _ _) (Cell.among hM rfl), _, _, _, Cell.at_ (add_mk _ _ _) (Cell.among hM rfl), _, _, _, Cell.at_ (add_mk _ _ _) (Cell.among hM rfl), _, Cell.at_ (add_mk _ _ _) (Cell.among hM rfl), ?_⟩
  refine StP.among (e := 44) (L := encM mz0) (L' := encM m) (F := own ++ (mB b5 m :: G)) (hs.re (by intro a; simp only [mB, List.append_eq, cnt_cons, cnt_app]; omega)) (Nat.le_of_ble_eq_true rfl) rfl rfl ?_
  intro T1 hT1
  refine ⟨_, Cell.among hT1 rfl, _, Cell.at_ (add_mk _ _ _) (Cell.among hT1 rfl), _, Cell.at_ (add_mk _ _ _) (Cell.among hT1 rfl), _, Cell.at_ (add_mk _ _ _) (Cell.among hT1 rfl), _, Cell.at_ (add_mk _ _ _) (Cell.among hT1 rfl), _, Cell.at_ (add_mk _ _ _) (Cell.among hT1 rfl), _, Cell.at_ (add_mk _ _ _) (Cell.among hT1 rfl), _, Cell.at_ (add_mk _ _ _) (Cell.among hT1 rfl), _, Cell.at_ (add_mk _ _ _) (Cell.among hT1 rfl), _, Cell.at_ (add_mk _ _ _) (Cell.among hT1 rfl), _, _, _, Cell.at_ (add_mk _ _ _) (Cell.among hT1 rfl), _, _, _, Cell.at_ (add_mk _ _ _) (Cell.among hT1 rfl), _, _, _, Cell.at_ (add_mk _ _ _) (Cell.among hT1 rfl), _, Cell.at_ (add_mk _ _ _) (Cell.among hT1 rfl), ?_⟩
  exact ⟨m, xs, own, rfl, hn, hx, hl, hsm, hF (hT1.re (by intro a; simp only [mB, List.append_eq, cnt_cons, cnt_app]; omega))⟩
theorem am_b9 (ho : OwnZ (.slice m.an.1 m.an.2.1 m.an.2.2) xs own) (hl : xs.length ≤ 10000) (hsm : ∀ r ∈ xs, SmallR r) (hF : ∀ {o T : SH}, Sub (o ++ (saB b2 a :: G)) T → Sub (o ++ S0) T) (hs : Sub (own ++ (mB b5 m :: (mB b4 mz0 :: (saB b2 a :: G)))) T) :
    bolterlaw11_Act_message_b9 (fun v _ T => AmR S0 v T) ⟨b2, 0, none⟩ ⟨b4, 0, none⟩ ⟨b5, 0, none⟩ J T := by
  have hM : Sub (mB b5 m :: (mB b4 mz0 :: (saB b2 a :: G))) T := hs.right
  have hn := ho.len
  have hcap := OwnR.cap (by decide) ho
  have plain : bolterlaw11_Act_message_b11 (fun v _ T => AmR S0 v T) ⟨b4, 0, none⟩ ⟨b5, 0, none⟩ J T := am_b11 hn (fun J => hn ▸ ho.row encR_len) hl hsm hF hs
  unfold bolterlaw11_Act_message_b9
  refine ⟨_, Cell.at_ (add_mk _ _ _) (Cell.among hM.drop.drop rfl), bcase_of (fun h1 => ?_) (fun h1 => ?_)⟩
  · refine ⟨_, _, _, Cell.at_ (add_mk _ _ _) (Cell.among hM rfl), ?_⟩
    unfold bolterlaw11_Act_message_b10
    refine bcase_dec (fun h2 => ?_) (fun h2 => plain)
    have e1 : IntKind.wrap .i64 ((1 : Int) + (IntKind.wrap .i64 ((m.an.2.1 : Int).tdiv (2 : Int)))) = ((1 + m.an.2.1 / 2 : Nat) : Int) := by
      have e2 : (m.an.2.1 : Int).tdiv 2 = ((m.an.2.1 / 2 : Nat) : Int) := by rw [Int.tdiv_eq_ediv_of_nonneg (by omega)]; omega
      rw [e2, wrap_i64 (x := ((m.an.2.1 / 2 : Nat) : Int)) (by omega) (by omega), wrap_i64 (by omega) (by omega)]; omega
    refine ⟨_, _, _, Cell.at_ (add_mk _ _ _) (Cell.among hM rfl), _, _, _, Cell.at_ (add_mk _ _ _) (Cell.among hM rfl), ?_⟩
    rw [e1]
    refine ⟨by omega, by omega, ?_⟩
    rw [Int.toNat_natCast, slA_zero, Nat.sub_zero, Nat.sub_zero]
    have hle : 1 + m.an.2.1 / 2 ≤ xs.length := by omega
    refine StP.at_ (add_mk _ _ _) (StP.among (e := 44) (L := encM m) (L' := encM { m with an := (m.an.1, 1 + m.an.2.1 / 2, m.an.2.2) }) (F := own ++ (mB b4 mz0 :: (saB b2 a :: G))) (hs.re (by intro a; simp only [mB, List.append_eq, cnt_cons, cnt_app]; omega)) (Nat.le_of_ble_eq_true rfl) rfl rfl ?_)
    intro T1 hT1
    have hlen : (xs.take (1 + m.an.2.1 / 2)).length = 1 + m.an.2.1 / 2 := by rw [List.length_take]; omega
    refine am_b11 (m := { m with an := (m.an.1, 1 + m.an.2.1 / 2, m.an.2.2) }) (xs := xs.take (1 + m.an.2.1 / 2)) (own := own) hlen.symm (fun J => ?_) (by omega) (fun r hr => hsm r (List.mem_of_mem_take hr)) hF (hT1.re (by intro a; simp only [mB, List.append_eq, cnt_cons, cnt_app]; omega))
    rw [hlen]
    exact (RowIn.take (j := 1 + m.an.2.1 / 2) (hn ▸ (ho.row encR_len) : RowIn J own m.an.1 xs.length 4 encR xs) hle)
  · unfold bolterlaw11_Act_message_b10
    exact bcase_f rfl plain
end
end Go.Proofs.YthlkeokfmedjhaaGreat
/- An act's message: its loops. -/
namespace Go.Proofs.YthlkeokfmedjhaaGreat
open Go.Px
set_option linter.unusedVariables false
set_option linter.unusedSimpArgs false

/-- a message under way: at most K records so far -/
def AmS (b5 : Nat) (K : Nat) (G T : SH) : Prop := ∃ (m : Ms) (ans : List Rc) (own : SH), OwnZ (.slice m.an.1 m.an.2.1 m.an.2.2) ans own ∧ ans.length ≤ K ∧ (∀ r ∈ ans, SmallR r) ∧ Sub (own ++ (mB b5 m :: G)) T
section
variable {b2 b4 b5 b8 : Nat} {m : Ms} {a : Sa} {r lst : Rc} {ans zs : List Rc} {own ownx G W S0 S T : SH} {I J : IMem} {K n0 : Nat}
theorem am_app {b : Nat} {K' : SH → Prop} (ho : OwnZ (.slice m.an.1 m.an.2.1 m.an.2.2) ans own) (hl : ans.length ≤ 100000) (hs : Sub (own ++ (mB b5 m :: G)) S)
    (hK : ∀ p n c own' T, OwnZ (.slice p n c) (ans ++ [r]) own' → Sub (own' ++ (mB b5 { m with an := (p, n, c) } :: G)) T → K' T) :
    AppG 32 4 40 zR (some (.slice 32)) I (rB b r :: S) (.slice m.an.1 m.an.2.1 m.an.2.2) (.slice (some ⟨b, 0, none⟩) 1 1) fun p n c S1 => StP S1 ((⟨b5, 0, none⟩ : Addr).add 10) [.slice p n c] K' := by
  refine AppZ (r := r) hs ho (by omega) ?_
  intro p n c own' T ho' hT
  refine StP.at_ (add_mk _ _ _) (StP.among (e := 44) (L := encM m) (L' := encM { m with an := (p, n, c) }) (F := own' ++ G) (hT.re (by intro a; simp only [mB, List.append_eq, cnt_cons, cnt_app]; omega)) (Nat.le_of_ble_eq_true rfl) rfl rfl ?_)
  intro T1 hT1
  exact hK p n c own' T1 ho' (hT1.re (by intro a; simp only [mB, List.append_eq, cnt_cons, cnt_app]; omega))
theorem am_end (h : AmS b5 K (mB b4 mz0 :: (saB b2 a :: G)) T) (hK : K ≤ 10000) (hF : ∀ {o T : SH}, Sub (o ++ (saB b2 a :: G)) T → Sub (o ++ S0) T) :
    bolterlaw11_Act_message_b9 (fun v _ T => AmR S0 v T) ⟨b2, 0, none⟩ ⟨b4, 0, none⟩ ⟨b5, 0, none⟩ J T := by
  obtain ⟨m, ans, own, h1, h2, h3, h4⟩ := h
  exact am_b9 h1 (by omega) h3 hF h4
/-- the frame of a message: the result's place, the act, the last record, the rest -/
abbrev amG (b2 b4 b8 : Nat) (a : Sa) (lst : Rc) (W : SH) : SH := mB b4 mz0 :: (saB b2 a :: (rB b8 lst :: W))
theorem am_last (h : AmS b5 K (amG b2 b4 b8 a lst W) T) (hK : K ≤ 9000) (hlst : SmallR lst) (hF : ∀ {o T : SH}, Sub (o ++ (saB b2 a :: (rB b8 lst :: W))) T → Sub (o ++ S0) T) :
    bolterlaw11_Act_message_b28 (fun v _ T => AmR S0 v T) ⟨b2, 0, none⟩ ⟨b4, 0, none⟩ ⟨b5, 0, none⟩ ⟨b8, 0, none⟩ J T := by
  obtain ⟨m, ans, own, h1, h2, h3, h4⟩ := h
  have hM : Sub (mB b5 m :: amG b2 b4 b8 a lst W) T := h4.right
  have hL : Sub (rB b8 lst :: W) T := hM.drop.drop.drop
  unfold bolterlaw11_Act_message_b28
  refine ⟨_, _, _, Cell.at_ (add_mk _ _ _) (Cell.among hM rfl), _, Cell.among hL rfl, _, Cell.at_ (add_mk _ _ _) (Cell.among hL rfl), _, Cell.at_ (add_mk _ _ _) (Cell.among hL rfl), _, Cell.at_ (add_mk _ _ _) (Cell.among hL rfl), fun b => am_app h1 (by omega) h4 ?_⟩
  intro p n c own' T1 ho' hT1
  refine am_end (K := K + 1) ⟨_, _, _, ho', by simp only [List.length_append, List.length_singleton]; omega, fun r hr => ?_, hT1⟩ (by omega) hF
  rcases List.mem_append.1 hr with hr | hr
  · exact h3 r hr
  · rw [List.mem_singleton.1 hr]; exact hlst
theorem am_fresh {x : Option Addr} {xc : Nat} (h : AmS b5 K (amG b2 b4 b8 a lst W) T) (hx : OwnZ (.slice x zs.length xc) zs ownx) (hw : Sub ownx W) (hzl : zs.length ≤ 1000) (hzs : ∀ r ∈ zs, SmallR r) (hK : K ≤ 5000) (hlst : SmallR lst) (hF : ∀ {o T : SH}, Sub (o ++ (saB b2 a :: (rB b8 lst :: W))) T → Sub (o ++ S0) T) :
    bolterlaw11_Act_message_b24 (fun v _ T => AmR S0 v T) ⟨b2, 0, none⟩ ⟨b4, 0, none⟩ ⟨b5, 0, none⟩ x zs.length xc ⟨b8, 0, none⟩ J T := by
  unfold bolterlaw11_Act_message_b24 bolterlaw11_Act_message_b25
  refine ⟨fun mm a2 x4 x5 l8 y yn yc q i J' T' => a2 = ⟨b2, 0, none⟩ ∧ x4 = ⟨b4, 0, none⟩ ∧ x5 = ⟨b5, 0, none⟩ ∧ l8 = ⟨b8, 0, none⟩ ∧ y = x ∧ yn = zs.length ∧ q = (zs.length : Int) ∧ ∃ k : Nat, i = (k : Int) ∧ k ≤ zs.length ∧ mm = zs.length - k ∧ AmS b5 (K + k) (amG b2 b4 b8 a lst W) T',
    zs.length, ⟨rfl, rfl, rfl, rfl, rfl, rfl, rfl, 0, rfl, Nat.zero_le _, rfl, h⟩, ?_⟩
  rintro mm a2 x4 x5 l8 y yn yc q i J' T' - ⟨rfl, rfl, rfl, rfl, rfl, rfl, rfl, k, rfl, hk, rfl, m, ans, own, h1, h2, h3, h4⟩
  have hM : Sub (mB b5 m :: amG b2 b4 b8 a lst W) T' := h4.right
  have hrow : RowIn J' T' y zs.length 4 encR zs := (hx.row encR_len).sub (hw.trans hM.drop.drop.drop.drop)
  unfold bolterlaw11_Act_message_l26
  refine bcase_dec (fun hg => ?_) (fun hg => am_last ⟨m, ans, own, h1, h2, h3, h4⟩ (by omega) hlst hF)
  obtain ⟨u, hu⟩ := get_lt (xs := zs) (k := k) (by omega)
  obtain ⟨a', rfl, hc⟩ := hrow.cell hu
  obtain ⟨c0, c1, c2, c3⟩ := CellsR hc
  have e1 : IntKind.wrap .i64 ((k : Int) + 1) = ((k + 1 : Nat) : Int) := by rw [wrap_i64 (by omega) (by omega)]; rfl
  unfold bolterlaw11_Act_message_b27
  refine ⟨by omega, by omega, _, c0, _, c1, _, c2, _, c3, fun b16 => StP.rec (x := u) ⟨_, Cell.at0 rfl, bcase_of (fun h6 => ?_) (fun h6 => ?_)⟩⟩
  · refine ⟨_, _, _, Cell.at_ (add_mk _ _ _) (Cell.among (hM.skip _) rfl), _, Cell.at0 rfl, _, Cell.at0 rfl, _, Cell.at0 rfl, _, Cell.at0 rfl, fun b => am_app (r := u) h1 (by omega) (h4.skip _) ?_⟩
    intro p n c own' T1 ho' hT1
    refine ⟨zs.length - (k + 1), by omega, rfl, rfl, rfl, rfl, rfl, rfl, rfl, k + 1, e1, by omega, rfl, _, _, _, ho', by simp only [List.length_append, List.length_singleton]; omega, fun r hr => ?_, hT1⟩
    rcases List.mem_append.1 hr with hr | hr
    · exact h3 r hr
    · rw [List.mem_singleton.1 hr]; exact hzs u (List.mem_of_getElem? hu)
  · exact ⟨zs.length - (k + 1), by omega, rfl, rfl, rfl, rfl, rfl, rfl, rfl, k + 1, e1, by omega, rfl, m, ans, own, h1, by omega, h3, h4.skip _⟩
end
end Go.Proofs.YthlkeokfmedjhaaGreat
/- An act's message: what goes and what comes. -/
namespace Go.Proofs.YthlkeokfmedjhaaGreat
open Go.Px
set_option linter.unusedVariables false
set_option linter.unusedSimpArgs false

section
variable {b2 b4 b5 b8 : Nat} {m : Ms} {a : Sa} {r lst : Rc} {ans zs ys : List Rc} {own ownx owny G W S0 S T : SH} {I J : IMem} {K n0 : Nat}
theorem am_last2 (h : AmS b5 K (amG b2 b4 b8 a lst W) T) (hK : K ≤ 9000) (hlst : SmallR lst) (hF : ∀ {o T : SH}, Sub (o ++ (saB b2 a :: (rB b8 lst :: W))) T → Sub (o ++ S0) T) :
    bolterlaw11_Act_message_b23 (fun v _ T => AmR S0 v T) ⟨b2, 0, none⟩ ⟨b4, 0, none⟩ ⟨b5, 0, none⟩ ⟨b8, 0, none⟩ J T := by
  obtain ⟨m, ans, own, h1, h2, h3, h4⟩ := h
  have hM : Sub (mB b5 m :: amG b2 b4 b8 a lst W) T := h4.right
  have hL : Sub (rB b8 lst :: W) T := hM.drop.drop.drop
  unfold bolterlaw11_Act_message_b23
  refine ⟨_, _, _, Cell.at_ (add_mk _ _ _) (Cell.among hM rfl), _, Cell.among hL rfl, _, Cell.at_ (add_mk _ _ _) (Cell.among hL rfl), _, Cell.at_ (add_mk _ _ _) (Cell.among hL rfl), _, Cell.at_ (add_mk _ _ _) (Cell.among hL rfl), fun b => am_app h1 (by omega) h4 ?_⟩
  intro p n c own' T1 ho' hT1
  refine am_end (K := K + 1) ⟨_, _, _, ho', by simp only [List.length_append, List.length_singleton]; omega, fun r hr => ?_, hT1⟩ (by omega) hF
  rcases List.mem_append.1 hr with hr | hr
  · exact h3 r hr
  · rw [List.mem_singleton.1 hr]; exact hlst
theorem am_come {x : Option Addr} {xc : Nat} (h : AmS b5 K (amG b2 b4 b8 a lst W) T) (hx : OwnZ (.slice x zs.length xc) zs ownx) (hw : Sub ownx W) (hzl : zs.length ≤ 1000) (hzs : ∀ r ∈ zs, SmallR r) (hK : K ≤ 5000) (hlst : SmallR lst) (hF : ∀ {o T : SH}, Sub (o ++ (saB b2 a :: (rB b8 lst :: W))) T → Sub (o ++ S0) T) :
    bolterlaw11_Act_message_b19 (fun v _ T => AmR S0 v T) ⟨b2, 0, none⟩ ⟨b4, 0, none⟩ ⟨b5, 0, none⟩ ⟨b8, 0, none⟩ x zs.length xc J T := by
  unfold bolterlaw11_Act_message_b19 bolterlaw11_Act_message_b20
  refine ⟨fun mm a2 x4 x5 l8 y yn yc q i J' T' => a2 = ⟨b2, 0, none⟩ ∧ x4 = ⟨b4, 0, none⟩ ∧ x5 = ⟨b5, 0, none⟩ ∧ l8 = ⟨b8, 0, none⟩ ∧ y = x ∧ yn = zs.length ∧ q = (zs.length : Int) ∧ ∃ k : Nat, i = (k : Int) ∧ k ≤ zs.length ∧ mm = zs.length - k ∧ AmS b5 (K + k) (amG b2 b4 b8 a lst W) T',
    zs.length, ⟨rfl, rfl, rfl, rfl, rfl, rfl, rfl, 0, rfl, Nat.zero_le _, rfl, h⟩, ?_⟩
  rintro mm a2 x4 x5 l8 y yn yc q i J' T' - ⟨rfl, rfl, rfl, rfl, rfl, rfl, rfl, k, rfl, hk, rfl, m, ans, own, h1, h2, h3, h4⟩
  have hM : Sub (mB b5 m :: amG b2 b4 b8 a lst W) T' := h4.right
  have hrow : RowIn J' T' y zs.length 4 encR zs := (hx.row encR_len).sub (hw.trans hM.drop.drop.drop.drop)
  unfold bolterlaw11_Act_message_l21
  refine bcase_dec (fun hg => ?_) (fun hg => am_last2 ⟨m, ans, own, h1, h2, h3, h4⟩ (by omega) hlst hF)
  obtain ⟨u, hu⟩ := get_lt (xs := zs) (k := k) (by omega)
  obtain ⟨a', rfl, hc⟩ := hrow.cell hu
  obtain ⟨c0, c1, c2, c3⟩ := CellsR hc
  have e1 : IntKind.wrap .i64 ((k : Int) + 1) = ((k + 1 : Nat) : Int) := by rw [wrap_i64 (by omega) (by omega)]; rfl
  unfold bolterlaw11_Act_message_b22
  refine ⟨by omega, by omega, _, c0, _, c1, _, c2, _, c3, fun b16 => StP.rec (x := u) ⟨_, Cell.at0 rfl, bcase_of (fun h6 => ?_) (fun h6 => ?_)⟩⟩
  · refine ⟨_, _, _, Cell.at_ (add_mk _ _ _) (Cell.among (hM.skip _) rfl), _, Cell.at0 rfl, _, Cell.at0 rfl, _, Cell.at0 rfl, _, Cell.at0 rfl, fun b => am_app (r := u) h1 (by omega) (h4.skip _) ?_⟩
    intro p n c own' T1 ho' hT1
    refine ⟨zs.length - (k + 1), by omega, rfl, rfl, rfl, rfl, rfl, rfl, rfl, k + 1, e1, by omega, rfl, _, _, _, ho', by simp only [List.length_append, List.length_singleton]; omega, fun r hr => ?_, hT1⟩
    rcases List.mem_append.1 hr with hr | hr
    · exact h3 r hr
    · rw [List.mem_singleton.1 hr]; exact hzs u (List.mem_of_getElem? hu)
  · exact ⟨zs.length - (k + 1), by omega, rfl, rfl, rfl, rfl, rfl, rfl, rfl, k + 1, e1, by omega, rfl, m, ans, own, h1, by omega, h3, h4.skip _⟩
theorem am_mid {y : Option Addr} {yc : Nat} (h : AmS b5 K (amG b2 b4 b8 a lst W) T) (hy : OwnZ (.slice y ys.length yc) ys owny) (hwy : Sub owny W) (hyl : ys.length ≤ 1000) (hys : ∀ r ∈ ys, SmallR r) (hK : K ≤ 4000) (hlst : SmallR lst) (hF : ∀ {o T : SH}, Sub (o ++ (saB b2 a :: (rB b8 lst :: W))) T → Sub (o ++ S0) T) :
    bolterlaw11_Act_message_b18 (fun v _ T => AmR S0 v T) ⟨b2, 0, none⟩ ⟨b4, 0, none⟩ ⟨b5, 0, none⟩ ⟨b8, 0, none⟩ y ys.length yc J T := by
  obtain ⟨m, ans, own, h1, h2, h3, h4⟩ := h
  have hM : Sub (mB b5 m :: amG b2 b4 b8 a lst W) T := h4.right
  have hL : Sub (rB b8 lst :: W) T := hM.drop.drop.drop
  unfold bolterlaw11_Act_message_b18
  refine ⟨_, _, _, Cell.at_ (add_mk _ _ _) (Cell.among hM rfl), _, Cell.among hL rfl, _, Cell.at_ (add_mk _ _ _) (Cell.among hL rfl), _, Cell.at_ (add_mk _ _ _) (Cell.among hL rfl), _, Cell.at_ (add_mk _ _ _) (Cell.among hL rfl), fun b => am_app h1 (by omega) h4 ?_⟩
  intro p n c own' T1 ho' hT1
  refine am_come (K := K + 1) (zs := ys) (ownx := owny) ⟨_, _, _, ho', by simp only [List.length_append, List.length_singleton]; omega, fun r hr => ?_, hT1⟩ hy hwy hyl hys (by omega) hlst hF
  rcases List.mem_append.1 hr with hr | hr
  · exact h3 r hr
  · rw [List.mem_singleton.1 hr]; exact hlst
theorem am_gone {x y : Option Addr} {xc yc : Nat} (h : AmS b5 K (amG b2 b4 b8 a lst W) T) (hx : OwnZ (.slice x zs.length xc) zs ownx) (hw : Sub ownx W) (hzl : zs.length ≤ 1000) (hzs : ∀ r ∈ zs, SmallR r) (hy : OwnZ (.slice y ys.length yc) ys owny) (hwy : Sub owny W) (hyl : ys.length ≤ 1000) (hys : ∀ r ∈ ys, SmallR r) (hK : K ≤ 2000) (hlst : SmallR lst) (hF : ∀ {o T : SH}, Sub (o ++ (saB b2 a :: (rB b8 lst :: W))) T → Sub (o ++ S0) T) :
    bolterlaw11_Act_message_b14 (fun v _ T => AmR S0 v T) ⟨b2, 0, none⟩ ⟨b4, 0, none⟩ ⟨b5, 0, none⟩ ⟨b8, 0, none⟩ x zs.length xc y ys.length yc J T := by
  unfold bolterlaw11_Act_message_b14 bolterlaw11_Act_message_b15
  refine ⟨fun mm a2 x4 x5 l8 w wn wc u un uc q i J' T' => a2 = ⟨b2, 0, none⟩ ∧ x4 = ⟨b4, 0, none⟩ ∧ x5 = ⟨b5, 0, none⟩ ∧ l8 = ⟨b8, 0, none⟩ ∧ w = y ∧ wn = ys.length ∧ wc = yc ∧ u = x ∧ un = zs.length ∧ q = (zs.length : Int) ∧ ∃ k : Nat, i = (k : Int) ∧ k ≤ zs.length ∧ mm = zs.length - k ∧ AmS b5 (K + k) (amG b2 b4 b8 a lst W) T',
    zs.length, ⟨rfl, rfl, rfl, rfl, rfl, rfl, rfl, rfl, rfl, rfl, 0, rfl, Nat.zero_le _, rfl, h⟩, ?_⟩
  rintro mm a2 x4 x5 l8 w wn wc u un uc q i J' T' - ⟨rfl, rfl, rfl, rfl, rfl, rfl, rfl, rfl, rfl, rfl, k, rfl, hk, rfl, m, ans, own, h1, h2, h3, h4⟩
  have hM : Sub (mB b5 m :: amG b2 b4 b8 a lst W) T' := h4.right
  have hrow : RowIn J' T' u zs.length 4 encR zs := (hx.row encR_len).sub (hw.trans hM.drop.drop.drop.drop)
  unfold bolterlaw11_Act_message_l16
  refine bcase_dec (fun hg => ?_) (fun hg => am_mid (ys := ys) (owny := owny) ⟨m, ans, own, h1, h2, h3, h4⟩ hy hwy hyl hys (by omega) hlst hF)
  obtain ⟨x, hu⟩ := get_lt (xs := zs) (k := k) (by omega)
  obtain ⟨a', rfl, hc⟩ := hrow.cell hu
  obtain ⟨c0, c1, c2, c3⟩ := CellsR hc
  have e1 : IntKind.wrap .i64 ((k : Int) + 1) = ((k + 1 : Nat) : Int) := by rw [wrap_i64 (by omega) (by omega)]; rfl
  unfold bolterlaw11_Act_message_b17
  refine ⟨by omega, by omega, _, c0, _, c1, _, c2, _, c3, fun b16 => StP.rec (x := x) ⟨_, Cell.at0 rfl, bcase_of (fun h6 => ?_) (fun h6 => ?_)⟩⟩
  · refine ⟨_, _, _, Cell.at_ (add_mk _ _ _) (Cell.among (hM.skip _) rfl), _, Cell.at0 rfl, _, Cell.at0 rfl, _, Cell.at0 rfl, _, Cell.at0 rfl, fun b => am_app (r := x) h1 (by omega) (h4.skip _) ?_⟩
    intro p n c own' T1 ho' hT1
    refine ⟨zs.length - (k + 1), by omega, rfl, rfl, rfl, rfl, rfl, rfl, rfl, rfl, rfl, rfl, k + 1, e1, by omega, rfl, _, _, _, ho', by simp only [List.length_append, List.length_singleton]; omega, fun r hr => ?_, hT1⟩
    rcases List.mem_append.1 hr with hr | hr
    · exact h3 r hr
    · rw [List.mem_singleton.1 hr]; exact hzs x (List.mem_of_getElem? hu)
  · exact ⟨zs.length - (k + 1), by omega, rfl, rfl, rfl, rfl, rfl, rfl, rfl, rfl, rfl, rfl, k + 1, e1, by omega, rfl, m, ans, own, h1, by omega, h3, h4.skip _⟩
end
end Go.Proofs.YthlkeokfmedjhaaGreat
/- An act's message: from its end to its beginning. -/
namespace Go.Proofs.YthlkeokfmedjhaaGreat
open Go.Px
set_option linter.unusedVariables false
set_option linter.unusedSimpArgs false

abbrev am_M (S0 : SH) : Value → IMem → SH → Prop := fun v _ T => AmR S0 v T
theorem soaZ_small {zs : List Rc} (h : ∀ r ∈ zs, SmallR r) : SmallR (soaZ zs) := by
  unfold soaZ
  cases hf : zs.find? isSoa with
  | none => exact ⟨Nat.zero_le _, Nat.zero_le _, by show (0 : Int) ≤ 0 ∧ (0 : Int) ≤ 99; decide⟩
  | some r => exact h r (List.mem_of_find?_eq_some hf)
theorem less_mem {a b : List Rc} {r : Rc} (h : r ∈ lessF a b) : r ∈ a := (List.mem_filter.1 h).1
theorem AcRow.keep {I0 J : IMem} {T : SH} {a : Option Addr} {acts : List Ac} (hle : I0.le J) (hx : RowIn I0 [] a acts.length 5 encA acts) : RowIn J T a acts.length 5 encA acts := hx.keep ⟨hle, T, by simp⟩
section
variable {bm b2 b4 b5 b8 : Nat} {e : TypeId} {m : Ms} {a : Sa} {s : Tr} {z g : Sl} {lst : Rc} {fs : List Rc} {fp : Option Addr} {fc : Nat} {acts : List Ac} {rs : List Rc} {ownz owng ownf F T : SH} {I0 J : IMem}
abbrev amW (e : TypeId) (bm : Nat) (s : Tr) (z g : Sl) (ownz owng ownf F : SH) : SH := tB e bm s z g :: (ownf ++ (ownz ++ (owng ++ F)))
abbrev amS (e : TypeId) (bm : Nat) (s : Tr) (z g : Sl) (ownz owng F : SH) : SH := tB e bm s z g :: (ownz ++ (owng ++ F))
theorem am_hF {o T : SH} (h : Sub (o ++ (saB b2 a :: (rB b8 lst :: amW e bm s z g ownz owng ownf F))) T) : Sub (o ++ amS e bm s z g ownz owng F) T := h.re (by intro a; simp only [List.append_eq, cnt_cons, cnt_app]; omega)
theorem am_set {K : SH → Prop} {G p n c : _} {own : SH} (hs : Sub (own ++ (mB b5 m :: G)) T) (hK : ∀ T', Sub (own ++ (mB b5 { m with an := (p, n, c) } :: G)) T' → K T') : StP T ((⟨b5, 0, none⟩ : Addr).add 10) [.slice p n c] K := by
  refine StP.at_ (add_mk _ _ _) (StP.among (e := 44) (L := encM m) (L' := encM { m with an := (p, n, c) }) (F := own ++ G) (hs.re (by intro a; simp only [mB, List.append_eq, cnt_cons, cnt_app]; omega)) (Nat.le_of_ble_eq_true rfl) rfl rfl ?_)
  intro T1 hT1
  exact hK T1 (hT1.re (by intro a; simp only [mB, List.append_eq, cnt_cons, cnt_app]; omega))
abbrev amH (b2 b4 b5 b8 : Nat) (m : Ms) (a : Sa) (lst : Rc) (W : SH) : SH := mB b5 m :: amG b2 b4 b8 a lst W
theorem am_b13 (hz : OwnZ (.slice z.1 z.2.1 z.2.2) s.zone ownz) (hss : SS s.zone) (hzl : s.zone.length ≤ 256) (hzs : ∀ r ∈ s.zone, SmallR r) (hf : OwnZ (.slice fp fs.length fc) fs ownf) (hfs : SS fs) (hfl : fs.length ≤ 256) (hfm : ∀ r ∈ fs, SmallR r) (hlst : SmallR lst)
    (hs : Sub (amH b2 b4 b5 b8 m a lst (amW e bm s z g ownz owng ownf F)) T) (x : Bool) :
    bolterlaw11_Act_message_b13 (am_M (amS e bm s z g ownz owng F)) (some ⟨bm, 0, none⟩) ⟨b2, 0, none⟩ ⟨b4, 0, none⟩ ⟨b5, 0, none⟩ fp fs.length fc ⟨b8, 0, none⟩ x J T := by
  have hW : Sub (amW e bm s z g ownz owng ownf F) T := hs.drop.drop.drop.drop
  have hL : Sub (rB b8 lst :: amW e bm s z g ownz owng ownf F) T := hs.drop.drop.drop
  have hzn : z.2.1 = s.zone.length := hz.len
  unfold bolterlaw11_Act_message_b13
  refine bcase_of (fun _ => ?_) (fun _ => ?_)
  · refine ⟨_, _, _, Cell.at_ (add_mk _ _ _) (Cell.among hW rfl), ?_⟩
    rw [hzn]
    have rz : ∀ {J T}, Sub (amW e bm s z g ownz owng ownf F) T → RowIn J T z.1 s.zone.length 4 encR s.zone := fun {J T} h => hzn ▸ ((hz.row encR_len).sub h.drop.right.left)
    refine (Between_runs (rz hW) ((hf.row encR_len).sub hW.drop.left) hss hfs (by omega) (by omega)).mono ?_
    rintro v J1 T1 hle1 ⟨gp, gn, gc, cp, cn, cc, owg, owc, rfl, hog, hoc, hs1⟩
    have hgn := hog.len
    have hcn := hoc.len
    subst hgn; subst hcn
    have hg1 := less_len s.zone fs
    have hc1 := less_len fs s.zone
    have hW1 : Sub (amW e bm s z g ownz owng ownf F) T1 := hW.trans hs1.right.right
    refine ⟨_, _, _, _, _, _, rfl, _, _, _, Cell.at_ (add_mk _ _ _) (Cell.among hW1 rfl), ?_⟩
    rw [hzn]
    refine (Soa_runs (rz hW1) (by omega)).mono ?_
    rintro v J2 T2 hle2 ⟨rfl, rfl⟩
    refine ⟨_, _, _, _, _, rfl, fun b11 => StP.rec (x := soaZ s.zone) ?_⟩
    have hL1 : Sub (rB b8 lst :: amW e bm s z g ownz owng ownf F) (rB b11 (soaZ s.zone) :: T2) := (hL.trans hs1.right.right).skip _
    refine ⟨_, Cell.among hL1 rfl, _, Cell.at_ (add_mk _ _ _) (Cell.among hL1 rfl), _, Cell.at_ (add_mk _ _ _) (Cell.among hL1 rfl), _, Cell.at_ (add_mk _ _ _) (Cell.among hL1 rfl), _, Cell.at0 rfl, _, Cell.at0 rfl, _, Cell.at0 rfl, _, Cell.at0 rfl, fun b162 => ?_⟩
    have hs2 := ((Sub.refl owc).both ((Sub.refl owg).both hs)).trans hs1
    refine am_set (m := m) (own := [(b162, .cells ([lst, soaZ s.zone].flatMap encR).toArray 32 (0, 0))]) (G := amG b2 b4 b8 a lst (tB e bm s z g :: (ownf ++ (owg ++ (owc ++ (ownz ++ (owng ++ F))))))) (p := some ⟨b162, 0, none⟩) (n := 2) (c := 2) (((hs2.skip (rB b11 (soaZ s.zone))).cons (b162, .cells ([lst, soaZ s.zone].flatMap encR).toArray 32 (0, 0))).re (by intro a; simp only [List.append_eq, cnt_cons, cnt_app, cnt_nil]; omega)) ?_
    intro T3 hT3
    refine am_gone (K := 2) (zs := lessF s.zone fs) (ys := lessF fs s.zone) (ownx := owg) (owny := owc) (W := tB e bm s z g :: (ownf ++ (owg ++ (owc ++ (ownz ++ (owng ++ F)))))) ⟨{ m with an := (some ⟨b162, 0, none⟩, 2, 2) }, [lst, soaZ s.zone], _, .inr ⟨b162, 2, [], rfl, rfl, rfl, by decide⟩, Nat.le_refl _, fun r hr => ?_, hT3⟩ hog (Sub.refl _).drop.right.left (by omega) (fun r hr => hzs r (less_mem hr)) hoc (Sub.refl _).drop.right.right.left (by omega) (fun r hr => hfm r (less_mem hr)) (by omega) hlst (fun h => h.re (by intro a; simp only [List.append_eq, cnt_cons, cnt_app]; omega))
    simp only [List.mem_cons, List.not_mem_nil, or_false] at hr
    rcases hr with rfl | rfl
    · exact hlst
    · exact soaZ_small hzs
  · refine ⟨_, Cell.among hL rfl, _, Cell.at_ (add_mk _ _ _) (Cell.among hL rfl), _, Cell.at_ (add_mk _ _ _) (Cell.among hL rfl), _, Cell.at_ (add_mk _ _ _) (Cell.among hL rfl), fun b83 => ?_⟩
    refine am_set (m := m) (own := [rB b83 lst]) (G := amG b2 b4 b8 a lst (amW e bm s z g ownz owng ownf F)) (p := some ⟨b83, 0, none⟩) (n := 1) (c := 1) ((hs.cons (rB b83 lst)).re (by intro a; simp only [cnt_cons, cnt_app, cnt_nil]; omega)) ?_
    intro T3 hT3
    exact am_fresh (K := 1) (zs := fs) (ownx := ownf) (W := amW e bm s z g ownz owng ownf F) ⟨{ m with an := (some ⟨b83, 0, none⟩, 1, 1) }, [lst], _, .inr ⟨b83, 1, [], rfl, rfl, rfl, by decide⟩, Nat.le_refl _, fun r hr => (List.mem_singleton.1 hr) ▸ hlst, hT3⟩ hf (Sub.refl _).drop.left (by omega) hfm (by omega) hlst am_hF
theorem am_b7 {o : ByteArray} (ho : IsName o) (hosz : o.size ≤ 140737488355328) (hso : s.org = o) (hle : I0.le J) (hx : RowIn I0 [] a.recs.1 acts.length 5 encA acts) (han : a.recs.2.1 = acts.length) (hal : acts.length ≤ 9223372036854775807) (hrs : Recs I0 [] acts rs)
    (hz : OwnZ (.slice z.1 z.2.1 z.2.2) s.zone ownz) (hss : SS s.zone) (hzl : s.zone.length ≤ 256) (hzs : ∀ r ∈ s.zone, SmallR r) (hf : OwnZ (.slice fp fs.length fc) fs ownf) (hfs : SS fs) (hfl : fs.length ≤ 256) (hfm : ∀ r ∈ fs, SmallR r) (hlst : SmallR lst)
    (hs : Sub (amH b2 b4 b5 b8 m a lst (amW e bm s z g ownz owng ownf F)) T) :
    bolterlaw11_Act_message_b7 (am_M (amS e bm s z g ownz owng F)) (some ⟨bm, 0, none⟩) ⟨b2, 0, none⟩ ⟨b4, 0, none⟩ ⟨b5, 0, none⟩ fp fs.length fc ⟨b8, 0, none⟩ J T := by
  have hW : Sub (amW e bm s z g ownz owng ownf F) T := hs.drop.drop.drop.drop
  have hL : Sub (rB b8 lst :: amW e bm s z g ownz owng ownf F) T := hs.drop.drop.drop
  have hA : Sub (saB b2 a :: (rB b8 lst :: amW e bm s z g ownz owng ownf F)) T := hs.drop.drop
  have b13 := fun x => am_b13 (J := J) hz hss hzl hzs hf hfs hfl hfm hlst hs x
  unfold bolterlaw11_Act_message_b7 bolterlaw11_Act_message_b8
  refine ⟨_, Cell.at_ (add2 _ _ _ _) (Cell.among hW rfl), bcase_of (fun _ => ?_) (fun _ => ?_)⟩
  · refine ⟨_, Cell.among hL rfl, _, Cell.at_ (add_mk _ _ _) (Cell.among hL rfl), _, Cell.at_ (add_mk _ _ _) (Cell.among hL rfl), _, Cell.at_ (add_mk _ _ _) (Cell.among hL rfl), fun b83 => ?_⟩
    refine am_set (m := m) (own := [rB b83 lst]) (G := amG b2 b4 b8 a lst (amW e bm s z g ownz owng ownf F)) (p := some ⟨b83, 0, none⟩) (n := 1) (c := 1) ((hs.cons (rB b83 lst)).re (by intro a; simp only [cnt_cons, cnt_app, cnt_nil]; omega)) ?_
    intro T3 hT3
    exact am_end (K := 1) ⟨{ m with an := (some ⟨b83, 0, none⟩, 1, 1) }, [lst], _, .inr ⟨b83, 1, [], rfl, rfl, rfl, by decide⟩, Nat.le_refl _, fun r hr => (List.mem_singleton.1 hr) ▸ hlst, hT3⟩ (by omega) am_hF
  · refine ⟨_, Cell.at_ (add_mk _ _ _) (Cell.among hA rfl), ?_⟩
    unfold bolterlaw11_Act_message_b12
    refine bcase_of (fun _ => ?_) (fun _ => ?_)
    · refine ⟨_, Cell.among hW rfl, _, _, _, Cell.at_ (add_mk _ _ _) (Cell.among hA rfl), ?_⟩
      rw [hso, han]
      refine (Under_runs (most := 8) (soas := true) (AcRow.keep hle hx) hal (by omega) (hrs.keep ⟨hle, T, by simp⟩) hosz).mono ?_
      rintro v J1 T1 hle1 ⟨owu, hou, hs1⟩
      obtain ⟨up, uc, rfl⟩ := hou.slice
      have hul : ((rs.take 8).map (underR true o)).length ≤ 8 := by rw [List.length_map, List.length_take]; omega
      have hsm : ∀ r ∈ (rs.take 8).map (underR true o), SmallR r := fun r hr => by
        obtain ⟨y, hy, rfl⟩ := List.mem_map.1 hr
        exact (ZOK.under true ho (hrs.num y (List.mem_of_mem_take hy))).small
      generalize (rs.take 8).map (underR true o) = us at hou hul hsm hs1
      refine ⟨_, _, _, rfl, ?_⟩
      refine am_set (m := m) (own := owu) (G := amG b2 b4 b8 a lst (amW e bm s z g ownz owng ownf F)) (p := up) (n := us.length) (c := uc) (((Sub.refl owu).both hs).trans hs1) ?_
      intro T3 hT3
      exact am_end (K := 8) ⟨{ m with an := (up, us.length, uc) }, us, owu, hou, hul, hsm, hT3⟩ (by omega) am_hF
    · refine ⟨_, Cell.at_ (add2 _ _ _ _) (Cell.among hW rfl), bcase_of (fun _ => ⟨_, Cell.at_ (add_mk _ _ _) (Cell.among hA rfl), b13 _⟩) (fun _ => b13 false)⟩
end
end Go.Proofs.YthlkeokfmedjhaaGreat
/- An act's message: the whole walk. -/
namespace Go.Proofs.YthlkeokfmedjhaaGreat
open Go.Px
set_option linter.unusedVariables false
set_option linter.unusedSimpArgs false

section
variable {bm b2 b4 b5 b8 : Nat} {e : TypeId} {m : Ms} {a : Sa} {s : Tr} {z g : Sl} {acts : List Ac} {rs : List Rc} {o : ByteArray} {ownz owng F T : SH} {I0 J : IMem}
theorem am_b4 (ho : IsName o) (hosz : o.size ≤ 140737488355328) (hso : s.org = o) (hle : I0.le J) (hx : RowIn I0 [] a.recs.1 acts.length 5 encA acts) (han : a.recs.2.1 = acts.length) (hal : acts.length ≤ 9223372036854775807) (hrs : Recs I0 [] acts rs)
    (hz : OwnZ (.slice z.1 z.2.1 z.2.2) s.zone ownz) (hss : SS s.zone) (hzl : s.zone.length ≤ 256) (hzs : ∀ r ∈ s.zone, SmallR r)
    (hs : Sub (mB b5 m :: (mB b4 mz0 :: (saB b2 a :: amS e bm s z g ownz owng F))) T) :
    bolterlaw11_Act_message_b4 (am_M (amS e bm s z g ownz owng F)) (some ⟨bm, 0, none⟩) ⟨b2, 0, none⟩ ⟨b4, 0, none⟩ ⟨b5, 0, none⟩ J T := by
  have hA : Sub (saB b2 a :: amS e bm s z g ownz owng F) T := hs.drop.drop
  unfold bolterlaw11_Act_message_b4
  refine ⟨_, Cell.at_ (add_mk _ _ _) (Cell.among hA rfl), ?_⟩
  generalize (a.ser.tmod 6) = n
  unfold bolterlaw11_Act_message_b5
  refine ⟨_, Cell.among hA.drop rfl, _, _, _, Cell.at_ (add_mk _ _ _) (Cell.among hA rfl), ?_⟩
  rw [hso, han]
  refine (Zone_runs (most := 8) (n := n) (AcRow.keep hle hx) hal (by omega) (hrs.keep ⟨hle, T, by simp⟩) hosz).mono ?_
  rintro v J1 T1 hle1 ⟨ownf, hof, hs1⟩
  obtain ⟨fp, fc, rfl⟩ := hof.slice
  have hfl : (zoneF o n rs 8).length ≤ 9 := (zoneF_len o n rs 8).1
  have hfs := (zone_of o n rs 8).ss
  have hfm : ∀ r ∈ zoneF o n rs 8, SmallR r := fun r hr => (ZOK.zone ho hrs.num r hr).small
  generalize zoneF o n rs 8 = fs at hof hfl hfs hfm
  have hs2 := ((Sub.refl ownf).both hs).trans hs1
  have hT : Sub (amS e bm s z g ownz owng F) T1 := hs2.right.drop.drop.drop
  refine ⟨_, _, _, rfl, ?_⟩
  unfold bolterlaw11_Act_message_b6
  refine ⟨_, Cell.among hT rfl, ?_⟩
  rw [hso]
  refine (SoaAt_runs o n J1 T1).mono ?_
  rintro v J2 T2 hle2 ⟨rfl, rfl⟩
  refine ⟨_, _, _, _, rfl, fun b8 => StP.rec (x := soaR o n) ?_⟩
  exact am_b7 (m := m) (lst := soaR o n) (owng := owng) (F := F) ho hosz hso ((hle.trans hle1).trans hle2) hx han hal hrs hz hss hzl hzs hof hfs (by omega) hfm (ZOK.soa n ho).small ((hs2.cons (rB b8 (soaR o n))).re (by intro a; simp only [List.append_eq, cnt_cons, cnt_app, cnt_nil]; omega))
theorem am_b2 (ho : IsName o) (hosz : o.size ≤ 140737488355328) (hso : s.org = o) (hle : I0.le J) (hx : RowIn I0 [] a.recs.1 acts.length 5 encA acts) (han : a.recs.2.1 = acts.length) (hal : acts.length ≤ 9223372036854775807) (hrs : Recs I0 [] acts rs)
    (hz : OwnZ (.slice z.1 z.2.1 z.2.2) s.zone ownz) (hss : SS s.zone) (hzl : s.zone.length ≤ 256) (hzs : ∀ r ∈ s.zone, SmallR r)
    (hs : Sub (mB b5 m :: (mB b4 mz0 :: (saB b2 a :: amS e bm s z g ownz owng F))) T) :
    bolterlaw11_Act_message_b2 (am_M (amS e bm s z g ownz owng F)) (some ⟨bm, 0, none⟩) ⟨b2, 0, none⟩ ⟨b4, 0, none⟩ ⟨b5, 0, none⟩ J T := by
  have p4 : ∀ (m : Ms) (T : SH), Sub (mB b5 m :: (mB b4 mz0 :: (saB b2 a :: amS e bm s z g ownz owng F))) T → bolterlaw11_Act_message_b4 (am_M (amS e bm s z g ownz owng F)) (some ⟨bm, 0, none⟩) ⟨b2, 0, none⟩ ⟨b4, 0, none⟩ ⟨b5, 0, none⟩ J T :=
    fun m T hs => am_b4 ho hosz hso hle hx han hal hrs hz hss hzl hzs hs
  have p3 : ∀ (m : Ms) (T : SH), Sub (mB b5 m :: (mB b4 mz0 :: (saB b2 a :: amS e bm s z g ownz owng F))) T → bolterlaw11_Act_message_b3 (am_M (amS e bm s z g ownz owng F)) (some ⟨bm, 0, none⟩) ⟨b2, 0, none⟩ ⟨b4, 0, none⟩ ⟨b5, 0, none⟩ J T := by
    intro m T hs
    unfold bolterlaw11_Act_message_b3
    refine ⟨_, Cell.at_ (add_mk _ _ _) (Cell.among hs.drop.drop rfl), bcase_of (fun _ => ?_) (fun _ => p4 m T hs)⟩
    refine StP.at_ (add2 _ _ _ _) (StP.among (e := 44) (L := encM m) (L' := encM { m with qt := 1 }) hs (Nat.le_of_ble_eq_true rfl) rfl rfl ?_)
    intro T1 hT1
    exact p4 _ T1 hT1
  unfold bolterlaw11_Act_message_b2
  refine ⟨_, Cell.at_ (add_mk _ _ _) (Cell.among hs.drop.drop rfl), bcase_of (fun _ => ?_) (fun _ => p3 m T hs)⟩
  refine ⟨_, Cell.among hs rfl, StP.among (e := 44) (L := encM m) (L' := encM { m with id := IntKind.wrap .u16 (m.id + 1) }) hs (Nat.le_of_ble_eq_true rfl) rfl rfl ?_⟩
  intro T1 hT1
  exact p3 _ T1 hT1
end
theorem Msg_runs {e : TypeId} {bm : Nat} {s : Tr} {own F S : SH} {I0 I : IMem} {a : Sa} {acts : List Ac} {rs : List Rc} {o : ByteArray} (h : TrAt e bm s own) (hs : Sub (own ++ F) S) (hok : TOK s) (ho : IsName o) (hosz : o.size ≤ 140737488355328) (hso : s.org = o) (hle : I0.le I)
    (hx : RowIn I0 [] a.recs.1 acts.length 5 encA acts) (han : a.recs.2.1 = acts.length) (hal : acts.length ≤ 9223372036854775807) (hrs : Recs I0 [] acts rs) :
    Runs Tryz.prog 23 #[.agg #[.int .u8 a.op, .int .u8 a.later, .int .u8 a.how, .int .u32 a.ser, .slice a.recs.1 a.recs.2.1 a.recs.2.2], .pointer (some ⟨bm, 0, none⟩)] I S fun v _ T => AmR (own ++ F) v T := by
  refine bolterlaw11_Act_message_fn _ _ _ _ _ _ _ _ _ _ _ ?_
  unfold bolterlaw11_Act_message
  intro b2 b4
  have hzl := hok.len
  have hss := hok.ss
  have hzs := hok.small
  obtain ⟨z, g, ownz, owng, rfl, hz, hg⟩ := h
  have hs2 : Sub (amS e bm s z g ownz owng F) (mB b4 mz0 :: (saB b2 a :: S)) := ((hs.re (by intro a; simp only [tB, List.append_eq, cnt_cons, cnt_app]; omega) : Sub (amS e bm s z g ownz owng F) S).skip _).skip _
  have hA : Sub (saB b2 a :: S) (mB b4 mz0 :: (saB b2 a :: S)) := (Sub.refl _).skip _
  unfold bolterlaw11_Act_message_b1
  refine ⟨_, Cell.at_ (add_mk _ _ _) (Cell.among hs2 rfl), _, Cell.at_ (add_mk _ _ _) (Cell.among hA rfl), _, Cell.at_ (add_mk _ _ _) (Cell.among hA rfl), _, Cell.at_ (add_mk _ _ _) (Cell.among hA rfl), _, Cell.among hs2 rfl, _, Cell.at_ (add2 _ _ _ _) (Cell.among hs2 rfl), fun b5 => ⟨Sub.keep (IMem.le.refl _) ((Sub.refl _).skip _), ?_⟩⟩
  refine StP.all (vs := encM ⟨s.q.1, _, 0, false, _, false, false, _, s.org, s.q.2.1, (none, 0, 0), (none, 0, 0), (none, 0, 0), 0⟩) rfl rfl ?_
  have fin := am_b2 (e := e) (b2 := b2) (b4 := b4) (b5 := b5) (m := ⟨s.q.1, (a.how.tmod (16 : Int)) != (15 : Int), 0, false, (a.how.tmod (32 : Int)) == (30 : Int), false, false, IntKind.wrap .i64 ((IntKind.wrap .i64 (a.how.tmod (32 : Int))).tdiv (31 : Int)), s.org, s.q.2.1, (none, 0, 0), (none, 0, 0), (none, 0, 0), 0⟩) (J := I) (F := F) (g := g) (owng := owng) ho hosz hso hle hx han hal hrs hz hss hzl hzs
    (T := mB b5 ⟨s.q.1, (a.how.tmod (16 : Int)) != (15 : Int), 0, false, (a.how.tmod (32 : Int)) == (30 : Int), false, false, IntKind.wrap .i64 ((IntKind.wrap .i64 (a.how.tmod (32 : Int))).tdiv (31 : Int)), s.org, s.q.2.1, (none, 0, 0), (none, 0, 0), (none, 0, 0), 0⟩ :: (mB b4 mz0 :: (saB b2 a :: S)))
    (((hs.re (by intro a; simp only [tB, List.append_eq, cnt_cons, cnt_app]; omega) : Sub (amS e bm s z g ownz owng F) S).cons (saB b2 a)).cons (mB b4 mz0) |>.cons _)
  have hA9 : am_M (amS e bm s z g ownz owng F) = fun v _ T => AmR (tB e bm s z g :: (ownz ++ owng) ++ F) v T := by
    funext v I T
    refine propext ⟨?_, ?_⟩
    · rintro ⟨m, xs, own, h1, h2, h3, h4, h5, h6⟩
      exact ⟨m, xs, own, h1, h2, h3, h4, h5, h6.re (by intro a; simp only [tB, List.append_eq, cnt_cons, cnt_app]; omega)⟩
    · rintro ⟨m, xs, own, h1, h2, h3, h4, h5, h6⟩
      exact ⟨m, xs, own, h1, h2, h3, h4, h5, h6.re (by intro a; simp only [tB, List.append_eq, cnt_cons, cnt_app]; omega)⟩
  rw [← hA9]
  exact fin
end Go.Proofs.YthlkeokfmedjhaaGreat
/- What is asked, told and taken leaves a transfer in order. -/
namespace Go.Proofs.YthlkeokfmedjhaaGreat
open Go.Px
set_option linter.unusedVariables false
set_option linter.unusedSimpArgs false

/-- a transfer's zone is in order -/
structure ZG (o : ByteArray) (s : Tr) : Prop where
  ss : SS s.zone
  right : s.zone = [] ∨ RightP s.zone s.org
  small : ∀ r ∈ s.zone, SmallR r
  org : s.org = o
def Asks (k : Int) : Prop := k = 6 ∨ k = 251 ∨ k = 252
/-- a transfer is in order -/
structure Gd (o : ByteArray) (s : Tr) : Prop where
  zg : ZG o s
  gl : s.got.length ≤ 1024
  gsm : ∀ r ∈ s.got, SmallR r
  asks : s.opn = true → Asks s.q.2.1
theorem Gd.tok {o : ByteArray} {s : Tr} (h : Gd o s) : TOK s := ⟨h.zg.ss, h.zg.right, h.zg.small, h.gl, h.gsm⟩
theorem Gd.start (o : ByteArray) : Gd o (tr0 o) := ⟨⟨List.Pairwise.nil, .inl rfl, fun r h => (by cases h), rfl⟩, Nat.zero_le _, fun r h => (by cases h), fun h => (by cases h)⟩
theorem ZG.close {o : ByteArray} {s : Tr} (h : ZG o s) (now l : Int) : Gd o (closeT s now l) := ⟨⟨h.ss, h.right, h.small, h.org⟩, Nat.zero_le _, fun r h => (by cases h), fun h => (by cases h)⟩
theorem askQ_kind (zs : List Rc) (id kind : Int) : (askQ zs id kind).2.1 = kind := by
  unfold askQ
  split <;> rfl
theorem ZG.ask {o : ByteArray} {s : Tr} (h : ZG o s) (now id : Int) {kind : Int} (hk : Asks kind) : Gd o (askT s now id kind) :=
  ⟨⟨h.ss, h.right, h.small, h.org⟩, Nat.zero_le _, fun r h => (by cases h), fun _ => by
    show Asks (askQ s.zone id kind).2.1
    rw [askQ_kind]; exact hk⟩
theorem ZG.failed {o : ByteArray} {s : Tr} (h : ZG o s) (now id : Int) : Gd o (failedT s now id).1 := by
  unfold failedT
  split
  · exact h.ask now id (.inr (.inr rfl))
  · exact h.close now _
theorem tick_good {o : ByteArray} {s : Tr} (h : Gd o s) (now id : Int) : Gd o (if s.opn = true ∨ now < s.next then (s, (rq0, false)) else if s.has = true then (askT s now id 6, (askQ s.zone id 6, true)) else (askT s now id 252, (askQ s.zone id 252, true))).1 := by
  split
  · exact h
  · split
    · exact h.zg.ask now id (.inl rfl)
    · exact h.zg.ask now id (.inr (.inr rfl))
theorem Gd.tick {o : ByteArray} {s : Tr} (h : Gd o s) (now id : Int) : Gd o (tickT s now id).1 := by
  unfold tickT
  by_cases hc : s.opn = true ∧ now ≥ s.til
  · rw [if_pos hc]
    exact tick_good (h.zg.close now _) now id
  · rw [if_neg hc]
    exact tick_good h now id
theorem Gd.notify {o : ByteArray} {s : Tr} (h : Gd o s) (now n : Int) : Gd o (notifyT s now n).1 := by
  unfold notifyT
  split
  · exact h
  · exact ⟨⟨h.zg.ss, h.zg.right, h.zg.small, h.zg.org⟩, h.gl, h.gsm, h.asks⟩
theorem ZG.told {o : ByteArray} {s : Tr} (h : ZG o s) (now id : Int) (xs : List Rc) : Gd o (toldT s now id xs).1 := by
  unfold toldT
  split
  · split
    · split
      · split
        · exact h.ask now id (.inr (.inl rfl))
        · exact ZG.close (s := overT s now _) ⟨h.ss, h.right, h.small, h.org⟩ now _
      · exact h.failed now id
    · exact h.failed now id
  · exact h.failed now id
theorem take2_good {o : ByteArray} {s : Tr} (h : ZG o s) (hg : ∀ r ∈ s.got, SmallR r) (ha : s.opn = true → Asks s.q.2.1) (now id : Int) : Gd o (take2 s now id).1 := by
  by_cases h1 : s.got.length > 1024
  · rw [take2_many h1]; exact h.failed now id
  · by_cases h2 : doneT s.got = true
    · rw [take2_done h1 h2]
      have hok : TOK s := ⟨h.ss, h.right, h.small, by omega, hg⟩
      cases hm : madeT s with
      | mk e z =>
        cases e with
        | some c => exact h.failed now id
        | none =>
          obtain ⟨m1, m2, m3⟩ := made_ok hok hm
          exact ZG.close (s := zoneT s now z) ⟨m1, m2, m3, h.org⟩ now _
    · rw [take2_more h1 h2]
      exact ⟨h, Nat.not_lt.1 h1, hg, ha⟩
theorem Gd.take {o : ByteArray} {s : Tr} (h : Gd o s) (now id : Int) (m : Ms) {xs : List Rc} (hx : ∀ r ∈ xs, SmallR r) : Gd o (takeT s now id m xs).1 := by
  by_cases h1 : s.opn = true ∧ fitsT s m = true
  · by_cases h2 : m.code ≠ 0 ∨ m.trunc = true
    · rw [takeT_bad h1 h2]; exact h.zg.failed now id
    · by_cases h3 : s.q.2.1 = 6
      · rw [takeT_told h1 h2 h3]; exact h.zg.told now id xs
      · rw [takeT_got h1 h2 h3]
        exact take2_good (s := gotT s now xs) ⟨h.zg.ss, h.zg.right, h.zg.small, h.zg.org⟩ (fun r hr => by
          rcases List.mem_append.1 hr with hr | hr
          · exact h.gsm r hr
          · exact hx r hr) h.asks now id
  · rw [takeT_no h1]; exact h
end Go.Proofs.YthlkeokfmedjhaaGreat
set_option linter.unusedVariables false
set_option maxRecDepth 8000
set_option maxHeartbeats 2000000
namespace Go.Proofs.YthlkeokfmedjhaaGreat
open Go.Px
/-! ### bolterlaw11_awake: function 7, bolter/bolterlaw11.awake -/
noncomputable def bolterlaw11_awake_code : Code := (Tryz.f7.body).getD .skip
def bolterlaw11_awake_b1 (R : Value → IMem → SH → Prop) (x0 : Bool) (I : IMem) (S : SH) : Prop :=
  R (.bool x0) I S
def bolterlaw11_awake (R : Value → IMem → SH → Prop) (I : IMem) (S : SH) : Prop :=
  Runs Tryz.prog 9 #[.string ⟨#[]⟩] I S fun v I1 S1 => ∃ x10, v = .pointer x10 ∧
  bcase ((x10 : Option Addr).isNone)
    (R (.bool false) I1 S1)
    (Runs Tryz.prog 10 #[.pointer x10, .int .i64 0, .int .u16 7] I1 S1 fun v' I1' S1' => ∃ x15_0_0 x15_0_1 x15_0_2 x15_0_3 x15_0_4 x15_0_5 x15_0_6 x15_1, v' = .tuple #[.agg #[.int .u16 x15_0_0, .int .u16 x15_0_1, .bool x15_0_2, .string x15_0_3, .int .u16 x15_0_4, .int .u32 x15_0_5, .string x15_0_6], .bool x15_1] ∧
    ∀ b2 : Nat,
    StP ((b2, .cells #[.int .u16 0, .int .u16 0, .bool false, .string ⟨#[]⟩, .int .u16 0, .int .u32 0, .string ⟨#[]⟩] 34 (0, 0)) :: S1') ⟨b2, 0, none⟩ [.int .u16 x15_0_0, .int .u16 x15_0_1, .bool x15_0_2, .string x15_0_3, .int .u16 x15_0_4, .int .u32 x15_0_5, .string x15_0_6] fun S1'' =>
    Runs Tryz.prog 10 #[.pointer x10, .int .i64 3, .int .u16 8] I1' S1'' fun v'' I1'' S1_r3 => ∃ x20_0_0 x20_0_1 x20_0_2 x20_0_3 x20_0_4 x20_0_5 x20_0_6 x20_1, v'' = .tuple #[.agg #[.int .u16 x20_0_0, .int .u16 x20_0_1, .bool x20_0_2, .string x20_0_3, .int .u16 x20_0_4, .int .u32 x20_0_5, .string x20_0_6], .bool x20_1] ∧
    ∀ b4 : Nat,
    StP ((b4, .cells #[.int .u16 0, .int .u16 0, .bool false, .string ⟨#[]⟩, .int .u16 0, .int .u32 0, .string ⟨#[]⟩] 34 (0, 0)) :: S1_r3) ⟨b4, 0, none⟩ [.int .u16 x20_0_0, .int .u16 x20_0_1, .bool x20_0_2, .string x20_0_3, .int .u16 x20_0_4, .int .u32 x20_0_5, .string x20_0_6] fun S1_r4 =>
    Runs Tryz.prog 10 #[.pointer x10, .int .i64 4, .int .u16 8] I1'' S1_r4 fun v_r3 I1_r3 S1_r5 => ∃ x25_0_0 x25_0_1 x25_0_2 x25_0_3 x25_0_4 x25_0_5 x25_0_6 x25_1, v_r3 = .tuple #[.agg #[.int .u16 x25_0_0, .int .u16 x25_0_1, .bool x25_0_2, .string x25_0_3, .int .u16 x25_0_4, .int .u32 x25_0_5, .string x25_0_6], .bool x25_1] ∧
    ∀ b6 : Nat,
    StP ((b6, .cells #[.int .u16 0, .int .u16 0, .bool false, .string ⟨#[]⟩, .int .u16 0, .int .u32 0, .string ⟨#[]⟩] 34 (0, 0)) :: S1_r5) ⟨b6, 0, none⟩ [.int .u16 x25_0_0, .int .u16 x25_0_1, .bool x25_0_2, .string x25_0_3, .int .u16 x25_0_4, .int .u32 x25_0_5, .string x25_0_6] fun S1_r6 =>
    Runs Tryz.prog 10 #[.pointer x10, .int .i64 9, .int .u16 9] I1_r3 S1_r6 fun v_r4 I1_r4 S1_r7 => ∃ x30_0_0 x30_0_1 x30_0_2 x30_0_3 x30_0_4 x30_0_5 x30_0_6 x30_1, v_r4 = .tuple #[.agg #[.int .u16 x30_0_0, .int .u16 x30_0_1, .bool x30_0_2, .string x30_0_3, .int .u16 x30_0_4, .int .u32 x30_0_5, .string x30_0_6], .bool x30_1] ∧
    ∀ b8 : Nat,
    StP ((b8, .cells #[.int .u16 0, .int .u16 0, .bool false, .string ⟨#[]⟩, .int .u16 0, .int .u32 0, .string ⟨#[]⟩] 34 (0, 0)) :: S1_r7) ⟨b8, 0, none⟩ [.int .u16 x30_0_0, .int .u16 x30_0_1, .bool x30_0_2, .string x30_0_3, .int .u16 x30_0_4, .int .u32 x30_0_5, .string x30_0_6] fun S1_r8 =>
    bcase x15_1
      (∃ x36, Cell I1_r4 S1_r8 ⟨b2, 0, none⟩ (.int .u16 x36) ∧
      bcase (x36 == (7 : Int))
        (∃ x41, Cell I1_r4 S1_r8 ⟨b2, 1, none⟩ (.int .u16 x41) ∧
        bcase (x41 == (252 : Int))
          (bcase (!x20_1)
            (bcase (!x25_1)
              (bcase x30_1
                (∃ x57, Cell I1_r4 S1_r8 ⟨b8, 0, none⟩ (.int .u16 x57) ∧
                bolterlaw11_awake_b1 R (x57 == (9 : Int)) I1_r4 S1_r8)
                (bolterlaw11_awake_b1 R false I1_r4 S1_r8))
              (bolterlaw11_awake_b1 R false I1_r4 S1_r8))
            (bolterlaw11_awake_b1 R false I1_r4 S1_r8))
          (bolterlaw11_awake_b1 R false I1_r4 S1_r8))
        (bolterlaw11_awake_b1 R false I1_r4 S1_r8))
      (bolterlaw11_awake_b1 R false I1_r4 S1_r8))
theorem bolterlaw11_awake_fn (R : Value → IMem → SH → Prop) (I : IMem) (S : SH) (h : bolterlaw11_awake R I S) :
    Runs Tryz.prog 7 #[] I S R := by
  refine Runs.of_wp (args := []) (c := bolterlaw11_awake_code) Tryz.func7 (by kernel_rfl) (by kernel_rfl) ?_
  refine WP.cut 8 (fun l I S => asB (l 0) fun x0 => bolterlaw11_awake_b1 R x0 I S) (cast (by kernel_rfl) h) ?_
  clear h
  intro l I S _ h
  obtain ⟨x0, e0, h⟩ := asB_e h
  rw [upd_eta e0]
  exact Pre.sound _ _ _ _ _ (cast (by kernel_rfl) h)
/-! ### bolterlaw11_TransferComes: function 5, bolter/bolterlaw11.TransferComes -/
end Go.Proofs.YthlkeokfmedjhaaGreat
/- A whole zone comes: plain laws; the document's examples. -/
namespace Go.Proofs.YthlkeokfmedjhaaGreat
open Go.Px
set_option linter.unusedVariables false
set_option linter.unusedSimpArgs false

/-! ### the times of an SOA by a number -/
/-! ### a zone by numbers is right -/
/-! ### a zone as its master sends it -/
end Go.Proofs.YthlkeokfmedjhaaGreat
/- The document's examples of a transfer; TransferOver. -/
namespace Go.Proofs.YthlkeokfmedjhaaGreat
open Go.Px
set_option linter.unusedVariables false
set_option linter.unusedSimpArgs false

theorem zsz : SizeOK ([] : List Rc) := fun r h => (by cases h)
theorem awake11_runs (I : IMem) (S : SH) : Runs Tryz.prog 7 #[] I S fun v _ T => v = .bool true ∧ T = S := by
  refine Runs.drop (bolterlaw11_awake_fn _ _ _ ?_)
  unfold bolterlaw11_awake bolterlaw11_awake_b1
  have t1 : tickT (tr0 ⟨#[]⟩) 0 7 = (⟨⟨#[]⟩, [], false, 0, 0, (7, 252, false, zR0), true, 4, []⟩, ((7, 252, false, zR0), true)) := by rfl
  have t2 : tickT ⟨⟨#[]⟩, [], false, 0, 0, (7, 252, false, zR0), true, 4, []⟩ 3 8 = (⟨⟨#[]⟩, [], false, 0, 0, (7, 252, false, zR0), true, 4, []⟩, (rq0, false)) := by rfl
  have t3 : tickT ⟨⟨#[]⟩, [], false, 0, 0, (7, 252, false, zR0), true, 4, []⟩ 4 8 = (⟨⟨#[]⟩, [], false, 9, 0, (7, 252, false, zR0), false, 4, []⟩, (rq0, false)) := by rfl
  have t4 : tickT ⟨⟨#[]⟩, [], false, 9, 0, (7, 252, false, zR0), false, 4, []⟩ 9 9 = (⟨⟨#[]⟩, [], false, 9, 0, (9, 252, false, zR0), true, 13, []⟩, ((9, 252, false, zR0), true)) := by rfl
  refine (TOf_runs _ _ _).mono ?_
  rintro v J1 T1 hle1 ⟨b, own1, rfl, h1, hs1⟩
  refine ⟨_, rfl, bcase_f rfl ((Tick_runs h1 hs1 0 7 (Nat.zero_le _) zsz).mono ?_)⟩
  rintro v J2 T2 hle2 ⟨rfl, own2, h2, hs2⟩
  rw [t1] at h2 ⊢
  refine ⟨_, _, _, _, _, _, _, _, rfl, fun b2 => StP.all (vs := encQ (7, 252, false, zR0)) rfl rfl ?_⟩
  refine (Tick_runs h2 (TrAt.frame (e := 0) (b := 0) (s := tr0 ⟨#[]⟩) (x := qB b2 (7, 252, false, zR0)) hs2) 3 8 (Nat.zero_le _) zsz).mono ?_
  rintro v J3 T3 hle3 ⟨rfl, own3, h3, hs3⟩
  rw [t2] at h3 ⊢
  refine ⟨_, _, _, _, _, _, _, _, rfl, fun b4 => StP.all (vs := encQ rq0) rfl rfl ?_⟩
  refine (Tick_runs h3 (TrAt.frame (e := 0) (b := 0) (s := tr0 ⟨#[]⟩) (x := qB b4 rq0) hs3) 4 8 (Nat.zero_le _) zsz).mono ?_
  rintro v J4 T4 hle4 ⟨rfl, own4, h4, hs4⟩
  rw [t3] at h4 ⊢
  refine ⟨_, _, _, _, _, _, _, _, rfl, fun b6 => StP.all (vs := encQ rq0) rfl rfl ?_⟩
  refine (Tick_runs h4 (TrAt.frame (e := 0) (b := 0) (s := tr0 ⟨#[]⟩) (x := qB b6 rq0) hs4) 9 9 (Nat.zero_le _) zsz).mono ?_
  rintro v J5 T5 hle5 ⟨rfl, own5, h5, hs5⟩
  rw [t4] at h5 ⊢
  refine ⟨_, _, _, _, _, _, _, _, rfl, fun b8 => StP.all (vs := encQ (9, 252, false, zR0)) rfl rfl ?_⟩
  have hb2 : Sub (qB b2 (7, 252, false, zR0) :: S) (qB b8 (9, 252, false, zR0) :: T5) := hs5.right.drop.drop.skip _
  refine bcase_t rfl ⟨_, Cell.among hb2 rfl, bcase_t rfl ⟨_, Cell.among hb2 rfl, bcase_t rfl (bcase_t rfl (bcase_t rfl (bcase_t rfl ⟨_, Cell.at0 rfl, S, hb2.drop, rfl, rfl⟩)))⟩⟩

/-! ### a zone that comes whole: the state behind it -/
end Go.Proofs.YthlkeokfmedjhaaGreat
/- TransferScript: the law's loop, and its row. -/
namespace Go.Proofs.YthlkeokfmedjhaaGreat
open Go.Px
set_option linter.unusedVariables false
set_option linter.unusedSimpArgs false

abbrev SaT := Int × Int × Int × Int × Sl
abbrev sa (x : SaT) : Sa := ⟨x.1, x.2.1, x.2.2.1, x.2.2.2.1, x.2.2.2.2⟩
abbrev encST (x : SaT) : List Value := encSa (sa x)
def SaOK (I : IMem) (a : Sa) : Prop := ∃ (ys : List Ac) (rs : List Rc), a.recs.2.1 = ys.length ∧ RowIn I [] a.recs.1 ys.length 5 encA ys ∧ ys.length ≤ 9223372036854775807 ∧ Recs I [] ys rs
abbrev KS : Value → IMem → SH → Prop := fun v _ _ => v = .bool true
abbrev tyT : TypeId := 52
abbrev tyM : TypeId := 61
/-- both sides are at one state -/
def Bo (o : ByteArray) (bt bm : Nat) (s : Tr) (F T : SH) : Prop := ∃ own1 own2, TrAt tyT bt s own1 ∧ TrAt tyM bm s own2 ∧ Gd o s ∧ Sub (own1 ++ (own2 ++ F)) T
abbrev Ag := Option Addr → Option Addr → Int → Option Addr → Nat → Nat → Int → Int → IMem → SH → Prop
theorem q_same (r : Rq) : (((r.1 : Int) == (r.1 : Int)) && (((r.2.1 : Int) == (r.2.1 : Int)) && (((r.2.2.1 : Bool) == (r.2.2.1 : Bool)) && ((((r.2.2.2.1 : ByteArray) == (r.2.2.2.1 : ByteArray)) && (((r.2.2.2.2.1 : Int) == (r.2.2.2.2.1 : Int)) && (((r.2.2.2.2.2.1 : Int) == (r.2.2.2.2.2.1 : Int)) && (((r.2.2.2.2.2.2 : ByteArray) == (r.2.2.2.2.2.2 : ByteArray)) && true)))) && true)))) = true := by
  simp only [beq_self_eq_true, strEq_self', Bool.and_self]
section
variable {o : ByteArray} {bt bm xn xc : Nat} {s : Tr} {F T : SH} {I0 J : IMem} {x : Option Addr} {q i now : Int} {again : Ag} {b10 : Nat} {a : Sa} {id : Int}
abbrev Nx (again : Ag) (o : ByteArray) (bt bm : Nat) (x : Option Addr) (xn xc : Nat) (q i : Int) (I0 : IMem) : Prop := ∀ (now : Int) (s : Tr) (J' : IMem) (T' : SH), I0.le J' → Bo o bt bm s [] T' → again (some ⟨bt, 0, none⟩) (some ⟨bm, 0, none⟩) now x xn xc q (IntKind.wrap .i64 (i + 1)) J' T'
theorem Bo.drop (h : Bo o bt bm s F T) : Bo o bt bm s [] T := by
  obtain ⟨own1, own2, h1, h2, hg, hs⟩ := h
  exact ⟨own1, own2, h1, h2, hg, by rw [List.append_nil]; exact Sub.left (L := own1 ++ own2) (M := F) (by rw [List.append_assoc]; exact hs)⟩
theorem sc_b12 (h : Bo o bt bm s F T) (hle : I0.le J) (hag : Nx again o bt bm x xn xc q i I0) :
    bolterlaw11_TransferScript_b12 again KS (some ⟨bt, 0, none⟩) (some ⟨bm, 0, none⟩) now x xn xc q i J T := by
  have hd := h.drop
  obtain ⟨own1, own2, h1, h2, hg, hs⟩ := h
  unfold bolterlaw11_TransferScript_b12
  refine (agrees_runs h1 h2 hs (by have := hg.tok.len; omega) now).mono ?_
  rintro v J1 T1 hle1 ⟨rfl, rfl⟩
  refine ⟨_, rfl, bcase_f rfl ?_⟩
  unfold bolterlaw11_TransferScript_b13
  exact hag _ _ J1 _ (hle.trans hle1) hd
/-- time goes by -/
theorem sc_tick (h : Bo o bt bm s [saB b10 a] T) (hle : I0.le J) (hag : Nx again o bt bm x xn xc q i I0) (x58 : Int) :
    bolterlaw11_TransferScript_b10 again KS (some ⟨bt, 0, none⟩) (some ⟨bm, 0, none⟩) now ⟨b10, 0, none⟩ id x xn xc q i x58 true J T := by
  obtain ⟨own1, own2, h1, h2, hg, hs⟩ := h
  have hzl := hg.tok.len
  have hzs := small_size hg.tok.small
  unfold bolterlaw11_TransferScript_b10
  refine bcase_t rfl ⟨_, Cell.at_ (add_mk _ _ _) (Cell.among hs.right.right rfl), ?_⟩
  generalize (IntKind.wrap .i64 (now + (IntKind.wrap .i64 (a.later.tmod (8 : Int))))) = nw
  refine (Tick_runs h1 hs nw id (by omega) hzs).mono ?_
  rintro v J1 T1 hle1 ⟨rfl, own1', h1', hs1⟩
  refine ⟨_, _, _, _, _, _, _, _, rfl, fun b12 => StP.all (vs := encQ (tickT s nw id).2.1) rfl rfl ?_⟩
  refine (mtick_runs (F := own1' ++ [qB b12 (tickT s nw id).2.1]) h2 ((hs1.cons (qB b12 (tickT s nw id).2.1)).re (by intro a; simp only [cnt_cons, cnt_app, cnt_nil]; omega)) nw id (by omega) hzs hg.tok.times).mono ?_
  rintro v J2 T2 hle2 ⟨rfl, own2', h2', hs2⟩
  refine ⟨_, _, _, _, _, _, _, _, rfl, fun b14 => StP.all (vs := encQ (tickT s nw id).2.1) rfl rfl ?_⟩
  have hq : Sub (qB b12 (tickT s nw id).2.1 :: []) (qB b14 (tickT s nw id).2.1 :: T2) := (hs2.right.right).skip _
  refine ⟨_, Cell.among hq rfl, _, Cell.among hq rfl, _, Cell.among hq rfl, _, Cell.among hq rfl, _, Cell.among hq rfl, _, Cell.among hq rfl, _, Cell.among hq rfl, _, Cell.at0 rfl, _, Cell.at0 rfl, _, Cell.at0 rfl, _, Cell.at0 rfl, _, Cell.at0 rfl, _, Cell.at0 rfl, _, Cell.at0 rfl, ?_⟩
  refine bcase_f (by rw [q_same]; rfl) ?_
  unfold bolterlaw11_TransferScript_b11
  refine bcase_f (by rw [beq_self_eq_true]; rfl) ?_
  exact sc_b12 (F := []) ⟨own1', own2', h1', h2', hg.tick nw id, (hs2.skip _).re (by intro a; simp only [cnt_cons, cnt_app, cnt_nil]; omega)⟩ ((hle.trans hle1).trans hle2) hag
/-- a word of the master -/
theorem sc_b17 {own1 own2 : SH} {will : Bool} {s2 : Tr} (h1 : TrAt tyT bt s own1) (h2 : TrAt tyM bm s2 own2) (hg : Gd o s) (hs : Sub (own1 ++ (own2 ++ [saB b10 a])) T) (hw : (notifyT s now (a.ser.tmod 6)) = (s2, will)) (hle : I0.le J) (hag : Nx again o bt bm x xn xc q i I0) :
    bolterlaw11_TransferScript_b17 again KS (some ⟨bt, 0, none⟩) (some ⟨bm, 0, none⟩) now ⟨b10, 0, none⟩ will x xn xc q i J T := by
  unfold bolterlaw11_TransferScript_b17
  refine ⟨_, Cell.at_ (add_mk _ _ _) (Cell.among hs.right.right rfl), ?_⟩
  have hg2 := hg.notify now (a.ser.tmod 6)
  refine (Notify_runs h1 hs now (a.ser.tmod 6) (by have := hg.tok.len; omega) (small_size hg.tok.small)).mono ?_
  rintro v J1 T1 hle1 ⟨rfl, own1', h1', hs1⟩
  rw [hw] at h1' hg2 ⊢
  refine ⟨_, rfl, bcase_f (by rw [beq_self_eq_true]; rfl) ?_⟩
  exact sc_b12 ⟨own1', own2, h1', h2, hg2, hs1⟩ (hle.trans hle1) hag
theorem sc_b16 (h : Bo o bt bm s [saB b10 a] T) (hle : I0.le J) (hag : Nx again o bt bm x xn xc q i I0) {will : Bool} (hw : will = (!s.has || laterF (a.ser.tmod 6) (timesT s.zone).2.2.1)) :
    bolterlaw11_TransferScript_b16 again KS (some ⟨bt, 0, none⟩) (some ⟨bm, 0, none⟩) now ⟨b10, 0, none⟩ will x xn xc q i J T := by
  obtain ⟨own1, own2, h1, h2, hg, hs⟩ := h
  unfold bolterlaw11_TransferScript_b16
  refine bcase_of (fun hv => ?_) (fun hv => ?_)
  · have hno : ¬ (s.has = true ∧ laterF (a.ser.tmod 6) (timesT s.zone).2.2.1 = false) := by
      rintro ⟨g1, g2⟩
      rw [hw, g1, g2] at hv; cases hv
    obtain ⟨z, g, ownz, owng, rfl, hz, hgt⟩ := h2
    refine ⟨_, Cell.at_ (add_mk _ _ _) (Cell.among hs.right rfl), ?_⟩
    refine StP.at_ (add_mk _ _ _) (StP.among (e := tyM) (L := encT s z g) (L' := encT { s with next := if now < s.next then now else s.next } z g) (F := own1 ++ (ownz ++ (owng ++ [saB b10 a]))) (hs.re (by intro a; simp only [tB, List.append_eq, cnt_cons, cnt_app]; omega)) (Nat.le_of_ble_eq_true rfl) rfl rfl ?_)
    intro T1 hT1
    refine sc_b17 (a := a) (s2 := { s with next := if now < s.next then now else s.next }) h1 ⟨z, g, ownz, owng, rfl, hz, hgt⟩ hg (hT1.re (by intro a; simp only [tB, List.append_eq, cnt_cons, cnt_app]; omega)) ?_ hle hag
    rw [notifyT, if_neg hno, hv]
  · have hyes : s.has = true ∧ laterF (a.ser.tmod 6) (timesT s.zone).2.2.1 = false := by
      rw [hv] at hw
      cases g1 : s.has with
      | false => rw [g1] at hw; cases hw
      | true => rw [g1] at hw; exact ⟨rfl, hw.symm⟩
    refine sc_b17 (a := a) h1 h2 hg hs ?_ hle hag
    rw [notifyT, if_pos hyes, hv]
theorem sc_word (h : Bo o bt bm s [saB b10 a] T) (hle : I0.le J) (hag : Nx again o bt bm x xn xc q i I0) (x128 : Bool) :
    bolterlaw11_TransferScript_b15 again KS (some ⟨bt, 0, none⟩) (some ⟨bm, 0, none⟩) now ⟨b10, 0, none⟩ x xn xc q i x128 J T := by
  unfold bolterlaw11_TransferScript_b15
  refine bcase_of (fun _ => ?_) (fun _ => sc_b12 h hle hag)
  have h' := h
  obtain ⟨own1, own2, h1, h2, hg, hs⟩ := h
  have h2' := h2
  obtain ⟨z, g, ownz, owng, rfl, hz, hgt⟩ := h2'
  refine ⟨_, Cell.at_ (add_mk _ _ _) (Cell.among hs.right rfl), bcase_not (bcase_of (fun hh => ?_) (fun hh => ?_))⟩
  · refine ⟨_, Cell.at_ (add_mk _ _ _) (Cell.among hs.right.right rfl), ?_⟩
    refine (mtimes_runs (F := own1 ++ [saB b10 a]) h2 (hs.re (by intro a; simp only [cnt_cons, cnt_app]; omega)) (by have := hg.tok.len; omega) (small_size hg.tok.small)).mono ?_
    rintro v J1 T1 hle1 ⟨rfl, rfl⟩
    rw [hg.tok.times]
    refine ⟨_, _, _, _, _, _, _, rfl, Sub.keep hle1 (Sub.refl _), ?_⟩
    refine (Later_runs _ _ _ _).mono ?_
    rintro v J2 T2 hle2 ⟨rfl, rfl⟩
    refine ⟨_, rfl, sc_b16 h' ((hle.trans hle1).trans hle2) hag ?_⟩
    rw [hh]; rfl
  · refine ⟨Sub.keep (IMem.le.refl _) (Sub.refl _), sc_b16 h' hle hag ?_⟩
    rw [hh]; rfl
/-- a message -/
theorem sc_msg (h : Bo o bt bm s [saB b10 a] T) (hle : I0.le J) (hag : Nx again o bt bm x xn xc q i I0) (ho : IsName o) (hosz : o.size ≤ 140737488355328) (ha : SaOK I0 a) :
    bolterlaw11_TransferScript_b14 again KS (some ⟨bt, 0, none⟩) (some ⟨bm, 0, none⟩) now ⟨b10, 0, none⟩ id x xn xc q i false J T := by
  obtain ⟨own1, own2, h1, h2, hg, hs⟩ := h
  obtain ⟨ys, rs, hn, hx, hal, hrs⟩ := ha
  have hA : Sub (saB b10 a :: []) T := hs.right.right
  unfold bolterlaw11_TransferScript_b14
  refine bcase_f rfl ⟨_, Cell.among hA rfl, _, Cell.at_ (add_mk _ _ _) (Cell.among hA rfl), _, Cell.at_ (add_mk _ _ _) (Cell.among hA rfl), _, Cell.at_ (add_mk _ _ _) (Cell.among hA rfl), _, _, _, Cell.at_ (add_mk _ _ _) (Cell.among hA rfl), ?_⟩
  refine (Msg_runs (a := a) (F := own1 ++ [saB b10 a]) h2 (hs.re (by intro a; simp only [cnt_cons, cnt_app]; omega)) hg.tok ho hosz hg.zg.org hle hx hn hal hrs).mono ?_
  rintro v J1 T1 hle1 ⟨m, xs, ownm, rfl, hmn, hxs, hxl, hsm, hs1⟩
  refine ⟨_, _, _, _, _, _, _, _, _, _, _, _, _, _, _, _, _, _, _, _, rfl, fun b17 => StP.all (vs := encM m) rfl rfl ?_⟩
  refine ⟨_, Cell.at0 rfl, _, Cell.at0 rfl, _, Cell.at0 rfl, _, Cell.at0 rfl, _, Cell.at0 rfl, _, Cell.at0 rfl, _, Cell.at0 rfl, _, Cell.at0 rfl, _, Cell.at0 rfl, _, Cell.at0 rfl, _, _, _, Cell.at0 rfl, _, _, _, Cell.at0 rfl, _, _, _, Cell.at0 rfl, _, Cell.at0 rfl, ?_⟩
  refine (Take_runs (m := m) (xs := xs) (now := now) (id := id) (F := ownm ++ (own2 ++ [mB b17 m, saB b10 a])) h1 ((hs1.cons (mB b17 m)).re (by intro a; simp only [cnt_cons, cnt_app, cnt_nil]; omega)) hg.tok fun _ => ⟨hmn, (hxs J1).sub (Sub.refl _).left, hxl, hsm⟩).mono ?_
  rintro v J2 T2 hle2 ⟨rfl, own1', h1', hs2⟩
  refine ⟨_, _, _, _, _, _, _, _, _, rfl, fun b19 => StP.all (vs := encQ (takeT s now id m xs).2.2.1) rfl rfl ?_⟩
  have hM : Sub (mB b17 m :: [saB b10 a]) (qB b19 (takeT s now id m xs).2.2.1 :: T2) := hs2.right.right.right.skip _
  refine ⟨_, Cell.among hM rfl, _, Cell.among hM rfl, _, Cell.among hM rfl, _, Cell.among hM rfl, _, Cell.among hM rfl, _, Cell.among hM rfl, _, Cell.among hM rfl, _, Cell.among hM rfl, _, Cell.among hM rfl, _, Cell.among hM rfl, _, _, _, Cell.among hM rfl, _, _, _, Cell.among hM rfl, _, _, _, Cell.among hM rfl, _, Cell.among hM rfl, ?_⟩
  refine (mTake_runs (m := m) (xs := xs) (now := now) (id := id) (F := ownm ++ (own1' ++ [mB b17 m, saB b10 a, qB b19 (takeT s now id m xs).2.2.1])) h2 ((hs2.cons (qB b19 (takeT s now id m xs).2.2.1)).re (by intro a; simp only [cnt_cons, cnt_app, cnt_nil]; omega)) hg.tok hg.asks fun _ => ⟨hmn, (hxs J2).sub (Sub.refl _).left, hxl, hsm⟩).mono ?_
  rintro v J3 T3 hle3 ⟨rfl, own2', h2', hs3⟩
  refine ⟨_, _, _, _, _, _, _, _, _, rfl, fun b22 => StP.all (vs := encQ (takeT s now id m xs).2.2.1) rfl rfl ?_⟩
  refine bcase_f (by rw [beq_self_eq_true]; rfl) ?_
  have hQ : Sub (qB b19 (takeT s now id m xs).2.2.1 :: []) (qB b22 (takeT s now id m xs).2.2.1 :: T3) := hs3.right.right.right.drop.drop.skip _
  refine ⟨_, Cell.among hQ rfl, _, Cell.among hQ rfl, _, Cell.among hQ rfl, _, Cell.among hQ rfl, _, Cell.among hQ rfl, _, Cell.among hQ rfl, _, Cell.among hQ rfl, _, Cell.at0 rfl, _, Cell.at0 rfl, _, Cell.at0 rfl, _, Cell.at0 rfl, _, Cell.at0 rfl, _, Cell.at0 rfl, _, Cell.at0 rfl, ?_⟩
  refine bcase_f (by rw [q_same]; rfl) ?_
  unfold bolterlaw11_TransferScript_b18
  refine bcase_f (by rw [beq_self_eq_true]; rfl) ?_
  exact sc_b12 (F := []) ⟨own1', own2', h1', h2', hg.take now id m hsm, ((hs3.skip _ : Sub _ (qB b22 (takeT s now id m xs).2.2.1 :: T3))).re (by intro a; simp only [cnt_cons, cnt_app, cnt_nil]; omega)⟩ (((hle.trans hle1).trans hle2).trans hle3) hag
/-- an act -/
theorem sc_b8 (h : Bo o bt bm s [saB b10 a] T) (hle : I0.le J) (hag : Nx again o bt bm x xn xc q i I0) (ho : IsName o) (hosz : o.size ≤ 140737488355328) (ha : SaOK I0 a) :
    bolterlaw11_TransferScript_b8 again KS (some ⟨bt, 0, none⟩) (some ⟨bm, 0, none⟩) now ⟨b10, 0, none⟩ id x xn xc q i J T := by
  have hA : Sub (saB b10 a :: []) T := by obtain ⟨_, _, _, _, _, hs⟩ := h; exact hs.right.right
  unfold bolterlaw11_TransferScript_b8 bolterlaw11_TransferScript_b9
  refine ⟨_, Cell.among hA rfl, ?_⟩
  cases h0 : ((a.op.tmod (4 : Int)) == (0 : Int)) with
  | true => exact sc_tick h hle hag _
  | false =>
    unfold bolterlaw11_TransferScript_b10
    refine bcase_f rfl ?_
    cases h1 : ((a.op.tmod (4 : Int)) == (1 : Int)) with
    | true =>
      unfold bolterlaw11_TransferScript_b14
      exact bcase_t rfl ⟨_, Cell.at_ (add_mk _ _ _) (Cell.among hA rfl), sc_word h hle hag _⟩
    | false => exact sc_msg h hle hag ho hosz ha
end
theorem CellsS {I : IMem} {S : SH} {a : Addr} {x : SaT} (h : ∀ j v, (encST x)[j]? = some v → Cell I S (a.add j) v) :
    Cell I S a (.int .u8 (sa x).op) ∧ Cell I S (a.add 1) (.int .u8 (sa x).later) ∧ Cell I S (a.add 2) (.int .u8 (sa x).how) ∧ Cell I S (a.add 3) (.int .u32 (sa x).ser) ∧ Cell I S (a.add 4) (.slice (sa x).recs.1 (sa x).recs.2.1 (sa x).recs.2.2) :=
  ⟨by simpa [Addr.add] using h 0 _ rfl, h 1 _ rfl, h 2 _ rfl, h 3 _ rfl, h 4 _ rfl⟩
theorem script_loop {o : ByteArray} {bt bm c1 : Nat} {T : SH} {I0 J : IMem} {a1 : Option Addr} {acts : List SaT} (ho : IsName o) (hosz : o.size ≤ 140737488355328) (hr : RowIn I0 [] a1 acts.length 5 encST acts) (hl : acts.length ≤ 9223372036854775807) (hok : ∀ x ∈ acts, SaOK I0 (sa x)) (hle : I0.le J) (h : Bo o bt bm (tr0 o) [] T) :
    bolterlaw11_TransferScript_b4 KS a1 acts.length c1 (some ⟨bt, 0, none⟩) (some ⟨bm, 0, none⟩) 0 J T := by
  unfold bolterlaw11_TransferScript_b4 bolterlaw11_TransferScript_b5
  refine ⟨fun mm t m now x xn xc q i J T => t = some ⟨bt, 0, none⟩ ∧ m = some ⟨bm, 0, none⟩ ∧ x = a1 ∧ xn = acts.length ∧ q = (acts.length : Int) ∧ I0.le J ∧ ∃ (k : Nat) (s : Tr), i = (k : Int) ∧ k ≤ acts.length ∧ mm = acts.length - k ∧ Bo o bt bm s [] T,
    acts.length, ⟨rfl, rfl, rfl, rfl, rfl, hle, 0, _, rfl, Nat.zero_le _, rfl, h⟩, ?_⟩
  rintro mm t m now x xn xc q i J T - ⟨rfl, rfl, rfl, rfl, rfl, hle, k, s, rfl, hk, rfl, hB⟩
  unfold bolterlaw11_TransferScript_l6
  refine bcase_dec (fun hg => ?_) (fun hg => ?_)
  · obtain ⟨y, hy⟩ := get_lt (xs := acts) (k := k) (by omega)
    have hrow : RowIn J T x acts.length 5 encST acts := hr.keep ⟨hle, T, by simp⟩
    obtain ⟨a', rfl, hc⟩ := hrow.cell hy
    obtain ⟨c0, c1, c2, c3, c4⟩ := CellsS hc
    have e1 : IntKind.wrap .i64 ((k : Int) + 1) = ((k + 1 : Nat) : Int) := by rw [wrap_i64 (by omega) (by omega)]; rfl
    unfold bolterlaw11_TransferScript_b7
    refine ⟨by omega, by omega, _, c0, _, c1, _, c2, _, c3, _, _, _, c4, fun b10 => StP.all (vs := encSa (sa y)) rfl rfl ?_⟩
    have hB2 : Bo o bt bm s [saB b10 (sa y)] (saB b10 (sa y) :: T) := by
      obtain ⟨own1, own2, h1, h2, hg, hs⟩ := hB
      exact ⟨own1, own2, h1, h2, hg, (hs.cons (saB b10 (sa y))).re (by intro a; simp only [cnt_cons, cnt_app, cnt_nil]; omega)⟩
    refine sc_b8 hB2 hle (fun nw s' J' T' hl hB' => ?_) ho hosz (hok y (List.mem_of_getElem? hy))
    exact ⟨acts.length - (k + 1), by omega, rfl, rfl, rfl, rfl, rfl, hl, k + 1, s', e1, by omega, rfl, hB'⟩
  · unfold bolterlaw11_TransferScript_b19
    rfl
abbrev SActsW (W : World) (a : Option Addr) (len cap : Nat) : Prop := len ≤ cap ∧ cap ≤ maxLen ∧ ∃ xs : List SaT, SlIn (imW W) a len 5 (fun x => [.int .u8 x.1, .int .u8 x.2.1, .int .u8 x.2.2.1, .int .u32 x.2.2.2.1, .slice x.2.2.2.2.1 x.2.2.2.2.2.1 x.2.2.2.2.2.2]) xs ∧ ∀ x ∈ xs, (fun x => (Lit.int .u8 x.1).wf = true ∧ (Lit.int .u8 x.2.1).wf = true ∧ (Lit.int .u8 x.2.2.1).wf = true ∧ (Lit.int .u32 x.2.2.2.1).wf = true ∧ ActsW W x.2.2.2.2.1 x.2.2.2.2.2.1 x.2.2.2.2.2.2) x
theorem TransferScript_row (W : World) (o : Int) (a1 : Option Addr) (l1 c1 : Nat)
    (w0 : (Lit.int .u8 o).wf = true) (w1 : SActsW W a1 l1 c1) (z1 : l1 ≤ 140737488355328) :
    Runs Tryz.prog 6 #[.int .u8 o, .slice a1 l1 c1] (imW W) [] fun v _ _ => v = .bool true := by
  obtain ⟨h1, h2, acts, h3, h4⟩ := w1
  have hl := h3.1
  subst hl
  have hr : RowIn (imW W) [] a1 acts.length 5 encST acts := RowIn.of_slin (el := encST) (fun _ => by simp [encST]) h3
  have hok : ∀ x ∈ acts, SaOK (imW W) (sa x) := fun x hx => by
    obtain ⟨_, _, _, _, g⟩ := h4 x hx
    obtain ⟨ys, hn, hry, hly, hay⟩ := acts_of g
    obtain ⟨rs, hrs⟩ := recs_of hay
    exact ⟨ys, rs, hn, hry, hly, hrs⟩
  have hoo := u8_of w0
  refine bolterlaw11_TransferScript_fn _ _ _ _ _ _ _ ?_
  unfold bolterlaw11_TransferScript
  refine (awake11_runs _ _).mono ?_
  rintro v J1 T1 hle1 ⟨rfl, rfl⟩
  refine ⟨_, rfl, bcase_f rfl ((Origin_runs o hoo.1 _ _).mono ?_)⟩
  rintro v J2 T2 hle2 ⟨rfl, rfl⟩
  have hosz := origN_size o
  have hon := origN_name o
  generalize origN o = org at hosz hon
  refine ⟨_, rfl, (TOf_runs _ _ _).mono ?_⟩
  rintro v J4 T4 hle4 ⟨bt, ownt, rfl, ht, hs4⟩
  refine ⟨_, rfl, fun bm => ?_⟩
  have hm : TrAt tyM bm (tr0 org) [tB tyM bm (tr0 org) (none, 0, 0) (none, 0, 0)] := ⟨_, _, [], [], rfl, OwnR.nil, OwnR.nil⟩
  have hs5 : Sub (ownt ++ ([tB tyM bm (tr0 org) (none, 0, 0) (none, 0, 0)] ++ [])) (tB tyM bm (tr0 org) (none, 0, 0) (none, 0, 0) :: T4) := (hs4.cons _).re (by intro a; simp only [cnt_cons, cnt_app, cnt_nil]; omega)
  have ht' := ht
  obtain ⟨z, g, ownz, owng, rfl, hz, hg⟩ := ht'
  unfold bolterlaw11_TransferScript_b1
  refine ⟨_, Cell.among hs5 rfl, bcase_f (by simp) ?_⟩
  refine (agrees_runs ht hm hs5 (Nat.zero_le _) 0).mono ?_
  rintro v J6 T6 hle6 ⟨rfl, rfl⟩
  refine ⟨_, rfl, ?_⟩
  unfold bolterlaw11_TransferScript_b2 bolterlaw11_TransferScript_b3
  refine bcase_f rfl ?_
  exact script_loop hon (by omega) hr (by simp only [maxLen] at h2; omega) hok (((hle1.trans hle2).trans hle4).trans hle6) ⟨_, _, ht, hm, Gd.start org, hs5⟩
end Go.Proofs.YthlkeokfmedjhaaGreat
