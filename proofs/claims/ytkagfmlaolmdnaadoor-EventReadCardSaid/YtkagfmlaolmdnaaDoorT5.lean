import Derived.Test.YtkagfmlaolmdnaaDoorProg
import Derived.Test.YtkagfmlaolmdnaaDoorPx6
import Derived.Test.YtkagfmlaolmdnaaDoorPx14
set_option linter.unusedVariables false
set_option maxRecDepth 8000
set_option maxHeartbeats 2000000
namespace Go.Proofs.YtkagfmlaolmdnaaDoor
open Go.Px
/-! ### bolterlaw25_bytes: function 33, bolter/bolterlaw25.bytes -/
noncomputable def bolterlaw25_bytes_code : Code := (Tryd.f33.body).getD .skip
def bolterlaw25_bytes_b2 (R : Value → IMem → SH → Prop) (x2 : ByteArray) (I : IMem) (S : SH) : Prop :=
  R (.string x2) I S
def bolterlaw25_bytes_b1 (R : Value → IMem → SH → Prop) (e_1 : Addr) (rel_3 : ByteArray) (I : IMem) (S : SH) : Prop :=
  ∃ x13, Cell I S e_1 (.int .i64 x13) ∧
  ∃ x20, Cell I S (e_1.add 1) (.string x20) ∧
  ∃ x25, Cell I S (e_1.add 2) (.string x25) ∧
  ∃ x29, Cell I S (e_1.add 3) (.int .u16 x29) ∧
  ∃ x35, Cell I S (e_1.add 4) (.int .i64 x35) ∧
  ∃ x38, Cell I S (e_1.add 9) (.int .i64 x38) ∧
  (∀ b15 : Nat,
  Keep I S I ((b15, .cells #[.int .u32 (IntKind.wrap .u32 x13)] 70 (0, 0)) :: S) ∧
  (Runs Tryd.prog 52 #[.slice none 0 0, .slice (some ⟨b15, 0, none⟩) 1 1] I ((b15, .cells #[.int .u32 (IntKind.wrap .u32 x13)] 70 (0, 0)) :: S) fun v I1 S1 => ∃ x16 x16n x16c, v = .slice x16 x16n x16c ∧
  Keep I S I1 S1 ∧
  ∃ x17 : ByteArray, BytesAt I1 S1 x16 x16n x17 ∧
  ∃ x21, (∀ J T, I1.le J → Runs Tryd.prog 54 #[.string x20] J (T ++ S1) (fun v' _ T' => v' = .string x21 ∧ T' = T ++ S1)) ∧
  ((x17.size + x21.size : Nat) : Int) ≤ 9223372036854775807 ∧
  ∃ x26, (∀ J T, I1.le J → Runs Tryd.prog 54 #[.string x25] J (T ++ S1) (fun v' _ T' => v' = .string x26 ∧ T' = T ++ S1)) ∧
  (((x17 ++ x21).size + x26.size : Nat) : Int) ≤ 9223372036854775807 ∧
  (∀ b30 : Nat,
  Keep I1 S1 I1 ((b30, .cells #[.int .u16 x29] 61 (0, 0)) :: S1) ∧
  (Runs Tryd.prog 53 #[.slice none 0 0, .slice (some ⟨b30, 0, none⟩) 1 1] I1 ((b30, .cells #[.int .u16 x29] 61 (0, 0)) :: S1) fun v' I1' S1' => ∃ x31 x31n x31c, v' = .slice x31 x31n x31c ∧
  Keep I1 S1 I1' S1' ∧
  ∃ x32 : ByteArray, BytesAt I1' S1' x31 x31n x32 ∧
  ((((x17 ++ x21) ++ x26).size + x32.size : Nat) : Int) ≤ 9223372036854775807 ∧
  ∃ x45, (∀ J T, I1'.le J → Runs Tryd.prog 54 #[.string rel_3] J (T ++ S1') (fun v' _ T' => v' = .string x45 ∧ T' = T ++ S1')) ∧
  ∀ b40 : Nat,
  Keep I1' S1' I1' ((b40, .cells #[.int .u8 (IntKind.wrap .u8 x35), .int .u8 (IntKind.wrap .u8 x38)] 5 (0, 0)) :: S1') ∧
  ∃ x41 : ByteArray, BytesAt I1' ((b40, .cells #[.int .u8 (IntKind.wrap .u8 x35), .int .u8 (IntKind.wrap .u8 x38)] 5 (0, 0)) :: S1') (some ⟨b40, 0, none⟩) 2 x41 ∧
  (((((x17 ++ x21) ++ x26) ++ x32).size + x41.size : Nat) : Int) ≤ 9223372036854775807 ∧
  ((((((x17 ++ x21) ++ x26) ++ x32) ++ x41).size + x45.size : Nat) : Int) ≤ 9223372036854775807 ∧
  bolterlaw25_bytes_b2 R (((((x17 ++ x21) ++ x26) ++ x32) ++ x41) ++ x45) I1' ((b40, .cells #[.int .u8 (IntKind.wrap .u8 x35), .int .u8 (IntKind.wrap .u8 x38)] 5 (0, 0)) :: S1')) ∧
  (∀ b40' : Nat,
  Keep I1 S1 I1 ((b40', .cells #[.int .u8 (IntKind.wrap .u8 x35), .int .u8 (IntKind.wrap .u8 x38)] 5 (0, 0)) :: ((b30, .cells #[.int .u16 x29] 61 (0, 0)) :: S1)) ∧
  ∃ x41' : ByteArray, BytesAt I1 ((b40', .cells #[.int .u8 (IntKind.wrap .u8 x35), .int .u8 (IntKind.wrap .u8 x38)] 5 (0, 0)) :: ((b30, .cells #[.int .u16 x29] 61 (0, 0)) :: S1)) (some ⟨b40', 0, none⟩) 2 x41' ∧
  Runs Tryd.prog 53 #[.slice none 0 0, .slice (some ⟨b30, 0, none⟩) 1 1] I1 ((b40', .cells #[.int .u8 (IntKind.wrap .u8 x35), .int .u8 (IntKind.wrap .u8 x38)] 5 (0, 0)) :: ((b30, .cells #[.int .u16 x29] 61 (0, 0)) :: S1)) fun v'' I1'' S1'' => ∃ x31' x31'n x31'c, v'' = .slice x31' x31'n x31'c ∧
  Keep I1 ((b40', .cells #[.int .u8 (IntKind.wrap .u8 x35), .int .u8 (IntKind.wrap .u8 x38)] 5 (0, 0)) :: ((b30, .cells #[.int .u16 x29] 61 (0, 0)) :: S1)) I1'' S1'' ∧
  ∃ x32' : ByteArray, BytesAt I1'' S1'' x31' x31'n x32' ∧
  ((((x17 ++ x21) ++ x26).size + x32'.size : Nat) : Int) ≤ 9223372036854775807 ∧
  (((((x17 ++ x21) ++ x26) ++ x32').size + x41'.size : Nat) : Int) ≤ 9223372036854775807 ∧
  ∃ x45', (∀ J T, I1''.le J → Runs Tryd.prog 54 #[.string rel_3] J (T ++ S1'') (fun v' _ T' => v' = .string x45' ∧ T' = T ++ S1'')) ∧
  ((((((x17 ++ x21) ++ x26) ++ x32') ++ x41').size + x45'.size : Nat) : Int) ≤ 9223372036854775807 ∧
  bolterlaw25_bytes_b2 R (((((x17 ++ x21) ++ x26) ++ x32') ++ x41') ++ x45') I1'' S1'')) ∧
  (∀ b40'' : Nat,
  Keep I1 S1 I1 ((b40'', .cells #[.int .u8 (IntKind.wrap .u8 x35), .int .u8 (IntKind.wrap .u8 x38)] 5 (0, 0)) :: S1) ∧
  ∃ x41'' : ByteArray, BytesAt I1 ((b40'', .cells #[.int .u8 (IntKind.wrap .u8 x35), .int .u8 (IntKind.wrap .u8 x38)] 5 (0, 0)) :: S1) (some ⟨b40'', 0, none⟩) 2 x41'' ∧
  ∀ b30' : Nat,
  Keep I1 ((b40'', .cells #[.int .u8 (IntKind.wrap .u8 x35), .int .u8 (IntKind.wrap .u8 x38)] 5 (0, 0)) :: S1) I1 ((b30', .cells #[.int .u16 x29] 61 (0, 0)) :: ((b40'', .cells #[.int .u8 (IntKind.wrap .u8 x35), .int .u8 (IntKind.wrap .u8 x38)] 5 (0, 0)) :: S1)) ∧
  Runs Tryd.prog 53 #[.slice none 0 0, .slice (some ⟨b30', 0, none⟩) 1 1] I1 ((b30', .cells #[.int .u16 x29] 61 (0, 0)) :: ((b40'', .cells #[.int .u8 (IntKind.wrap .u8 x35), .int .u8 (IntKind.wrap .u8 x38)] 5 (0, 0)) :: S1)) fun v_r3 I1_r3 S1_r3 => ∃ x31'' x31''n x31''c, v_r3 = .slice x31'' x31''n x31''c ∧
  Keep I1 ((b40'', .cells #[.int .u8 (IntKind.wrap .u8 x35), .int .u8 (IntKind.wrap .u8 x38)] 5 (0, 0)) :: S1) I1_r3 S1_r3 ∧
  ∃ x32'' : ByteArray, BytesAt I1_r3 S1_r3 x31'' x31''n x32'' ∧
  ((((x17 ++ x21) ++ x26).size + x32''.size : Nat) : Int) ≤ 9223372036854775807 ∧
  (((((x17 ++ x21) ++ x26) ++ x32'').size + x41''.size : Nat) : Int) ≤ 9223372036854775807 ∧
  ∃ x45'', (∀ J T, I1_r3.le J → Runs Tryd.prog 54 #[.string rel_3] J (T ++ S1_r3) (fun v' _ T' => v' = .string x45'' ∧ T' = T ++ S1_r3)) ∧
  ((((((x17 ++ x21) ++ x26) ++ x32'') ++ x41'').size + x45''.size : Nat) : Int) ≤ 9223372036854775807 ∧
  bolterlaw25_bytes_b2 R (((((x17 ++ x21) ++ x26) ++ x32'') ++ x41'') ++ x45'') I1_r3 S1_r3)) ∧
  (∀ b30'' : Nat,
  Keep I S I ((b30'', .cells #[.int .u16 x29] 61 (0, 0)) :: ((b15, .cells #[.int .u32 (IntKind.wrap .u32 x13)] 70 (0, 0)) :: S)) ∧
  (Runs Tryd.prog 52 #[.slice none 0 0, .slice (some ⟨b15, 0, none⟩) 1 1] I ((b30'', .cells #[.int .u16 x29] 61 (0, 0)) :: ((b15, .cells #[.int .u32 (IntKind.wrap .u32 x13)] 70 (0, 0)) :: S)) fun v_r4 I1_r4 S1_r4 => ∃ x16' x16'n x16'c, v_r4 = .slice x16' x16'n x16'c ∧
  Keep I S I1_r4 S1_r4 ∧
  ∃ x17' : ByteArray, BytesAt I1_r4 S1_r4 x16' x16'n x17' ∧
  ∃ x21', (∀ J T, I1_r4.le J → Runs Tryd.prog 54 #[.string x20] J (T ++ S1_r4) (fun v' _ T' => v' = .string x21' ∧ T' = T ++ S1_r4)) ∧
  ((x17'.size + x21'.size : Nat) : Int) ≤ 9223372036854775807 ∧
  ∃ x26', (∀ J T, I1_r4.le J → Runs Tryd.prog 54 #[.string x25] J (T ++ S1_r4) (fun v' _ T' => v' = .string x26' ∧ T' = T ++ S1_r4)) ∧
  (((x17' ++ x21').size + x26'.size : Nat) : Int) ≤ 9223372036854775807 ∧
  (Runs Tryd.prog 53 #[.slice none 0 0, .slice (some ⟨b30'', 0, none⟩) 1 1] I1_r4 S1_r4 fun v_r5 I1_r5 S1_r5 => ∃ x31_r3 x31_r3n x31_r3c, v_r5 = .slice x31_r3 x31_r3n x31_r3c ∧
  Keep I1_r4 S1_r4 I1_r5 S1_r5 ∧
  ∃ x32_r3 : ByteArray, BytesAt I1_r5 S1_r5 x31_r3 x31_r3n x32_r3 ∧
  ((((x17' ++ x21') ++ x26').size + x32_r3.size : Nat) : Int) ≤ 9223372036854775807 ∧
  ∃ x45_r3, (∀ J T, I1_r5.le J → Runs Tryd.prog 54 #[.string rel_3] J (T ++ S1_r5) (fun v' _ T' => v' = .string x45_r3 ∧ T' = T ++ S1_r5)) ∧
  ∀ b40_r3 : Nat,
  Keep I1_r5 S1_r5 I1_r5 ((b40_r3, .cells #[.int .u8 (IntKind.wrap .u8 x35), .int .u8 (IntKind.wrap .u8 x38)] 5 (0, 0)) :: S1_r5) ∧
  ∃ x41_r3 : ByteArray, BytesAt I1_r5 ((b40_r3, .cells #[.int .u8 (IntKind.wrap .u8 x35), .int .u8 (IntKind.wrap .u8 x38)] 5 (0, 0)) :: S1_r5) (some ⟨b40_r3, 0, none⟩) 2 x41_r3 ∧
  (((((x17' ++ x21') ++ x26') ++ x32_r3).size + x41_r3.size : Nat) : Int) ≤ 9223372036854775807 ∧
  ((((((x17' ++ x21') ++ x26') ++ x32_r3) ++ x41_r3).size + x45_r3.size : Nat) : Int) ≤ 9223372036854775807 ∧
  bolterlaw25_bytes_b2 R (((((x17' ++ x21') ++ x26') ++ x32_r3) ++ x41_r3) ++ x45_r3) I1_r5 ((b40_r3, .cells #[.int .u8 (IntKind.wrap .u8 x35), .int .u8 (IntKind.wrap .u8 x38)] 5 (0, 0)) :: S1_r5)) ∧
  (∀ b40_r4 : Nat,
  Keep I1_r4 S1_r4 I1_r4 ((b40_r4, .cells #[.int .u8 (IntKind.wrap .u8 x35), .int .u8 (IntKind.wrap .u8 x38)] 5 (0, 0)) :: S1_r4) ∧
  ∃ x41_r4 : ByteArray, BytesAt I1_r4 ((b40_r4, .cells #[.int .u8 (IntKind.wrap .u8 x35), .int .u8 (IntKind.wrap .u8 x38)] 5 (0, 0)) :: S1_r4) (some ⟨b40_r4, 0, none⟩) 2 x41_r4 ∧
  Runs Tryd.prog 53 #[.slice none 0 0, .slice (some ⟨b30'', 0, none⟩) 1 1] I1_r4 ((b40_r4, .cells #[.int .u8 (IntKind.wrap .u8 x35), .int .u8 (IntKind.wrap .u8 x38)] 5 (0, 0)) :: S1_r4) fun v_r6 I1_r6 S1_r6 => ∃ x31_r4 x31_r4n x31_r4c, v_r6 = .slice x31_r4 x31_r4n x31_r4c ∧
  Keep I1_r4 ((b40_r4, .cells #[.int .u8 (IntKind.wrap .u8 x35), .int .u8 (IntKind.wrap .u8 x38)] 5 (0, 0)) :: S1_r4) I1_r6 S1_r6 ∧
  ∃ x32_r4 : ByteArray, BytesAt I1_r6 S1_r6 x31_r4 x31_r4n x32_r4 ∧
  ((((x17' ++ x21') ++ x26').size + x32_r4.size : Nat) : Int) ≤ 9223372036854775807 ∧
  (((((x17' ++ x21') ++ x26') ++ x32_r4).size + x41_r4.size : Nat) : Int) ≤ 9223372036854775807 ∧
  ∃ x45_r4, (∀ J T, I1_r6.le J → Runs Tryd.prog 54 #[.string rel_3] J (T ++ S1_r6) (fun v' _ T' => v' = .string x45_r4 ∧ T' = T ++ S1_r6)) ∧
  ((((((x17' ++ x21') ++ x26') ++ x32_r4) ++ x41_r4).size + x45_r4.size : Nat) : Int) ≤ 9223372036854775807 ∧
  bolterlaw25_bytes_b2 R (((((x17' ++ x21') ++ x26') ++ x32_r4) ++ x41_r4) ++ x45_r4) I1_r6 S1_r6)) ∧
  (∀ b40_r5 : Nat,
  Keep I S I ((b40_r5, .cells #[.int .u8 (IntKind.wrap .u8 x35), .int .u8 (IntKind.wrap .u8 x38)] 5 (0, 0)) :: ((b30'', .cells #[.int .u16 x29] 61 (0, 0)) :: ((b15, .cells #[.int .u32 (IntKind.wrap .u32 x13)] 70 (0, 0)) :: S))) ∧
  ∃ x41_r5 : ByteArray, BytesAt I ((b40_r5, .cells #[.int .u8 (IntKind.wrap .u8 x35), .int .u8 (IntKind.wrap .u8 x38)] 5 (0, 0)) :: ((b30'', .cells #[.int .u16 x29] 61 (0, 0)) :: ((b15, .cells #[.int .u32 (IntKind.wrap .u32 x13)] 70 (0, 0)) :: S))) (some ⟨b40_r5, 0, none⟩) 2 x41_r5 ∧
  Runs Tryd.prog 52 #[.slice none 0 0, .slice (some ⟨b15, 0, none⟩) 1 1] I ((b40_r5, .cells #[.int .u8 (IntKind.wrap .u8 x35), .int .u8 (IntKind.wrap .u8 x38)] 5 (0, 0)) :: ((b30'', .cells #[.int .u16 x29] 61 (0, 0)) :: ((b15, .cells #[.int .u32 (IntKind.wrap .u32 x13)] 70 (0, 0)) :: S))) fun v_r7 I1_r7 S1_r7 => ∃ x16'' x16''n x16''c, v_r7 = .slice x16'' x16''n x16''c ∧
  Keep I ((b40_r5, .cells #[.int .u8 (IntKind.wrap .u8 x35), .int .u8 (IntKind.wrap .u8 x38)] 5 (0, 0)) :: ((b30'', .cells #[.int .u16 x29] 61 (0, 0)) :: ((b15, .cells #[.int .u32 (IntKind.wrap .u32 x13)] 70 (0, 0)) :: S))) I1_r7 S1_r7 ∧
  ∃ x17'' : ByteArray, BytesAt I1_r7 S1_r7 x16'' x16''n x17'' ∧
  ∃ x21'', (∀ J T, I1_r7.le J → Runs Tryd.prog 54 #[.string x20] J (T ++ S1_r7) (fun v' _ T' => v' = .string x21'' ∧ T' = T ++ S1_r7)) ∧
  ((x17''.size + x21''.size : Nat) : Int) ≤ 9223372036854775807 ∧
  ∃ x26'', (∀ J T, I1_r7.le J → Runs Tryd.prog 54 #[.string x25] J (T ++ S1_r7) (fun v' _ T' => v' = .string x26'' ∧ T' = T ++ S1_r7)) ∧
  (((x17'' ++ x21'').size + x26''.size : Nat) : Int) ≤ 9223372036854775807 ∧
  Runs Tryd.prog 53 #[.slice none 0 0, .slice (some ⟨b30'', 0, none⟩) 1 1] I1_r7 S1_r7 fun v_r8 I1_r8 S1_r8 => ∃ x31_r5 x31_r5n x31_r5c, v_r8 = .slice x31_r5 x31_r5n x31_r5c ∧
  Keep I1_r7 S1_r7 I1_r8 S1_r8 ∧
  ∃ x32_r5 : ByteArray, BytesAt I1_r8 S1_r8 x31_r5 x31_r5n x32_r5 ∧
  ((((x17'' ++ x21'') ++ x26'').size + x32_r5.size : Nat) : Int) ≤ 9223372036854775807 ∧
  (((((x17'' ++ x21'') ++ x26'') ++ x32_r5).size + x41_r5.size : Nat) : Int) ≤ 9223372036854775807 ∧
  ∃ x45_r5, (∀ J T, I1_r8.le J → Runs Tryd.prog 54 #[.string rel_3] J (T ++ S1_r8) (fun v' _ T' => v' = .string x45_r5 ∧ T' = T ++ S1_r8)) ∧
  ((((((x17'' ++ x21'') ++ x26'') ++ x32_r5) ++ x41_r5).size + x45_r5.size : Nat) : Int) ≤ 9223372036854775807 ∧
  bolterlaw25_bytes_b2 R (((((x17'' ++ x21'') ++ x26'') ++ x32_r5) ++ x41_r5) ++ x45_r5) I1_r8 S1_r8)) ∧
  (∀ b40_r6 : Nat,
  Keep I S I ((b40_r6, .cells #[.int .u8 (IntKind.wrap .u8 x35), .int .u8 (IntKind.wrap .u8 x38)] 5 (0, 0)) :: ((b15, .cells #[.int .u32 (IntKind.wrap .u32 x13)] 70 (0, 0)) :: S)) ∧
  ∃ x41_r6 : ByteArray, BytesAt I ((b40_r6, .cells #[.int .u8 (IntKind.wrap .u8 x35), .int .u8 (IntKind.wrap .u8 x38)] 5 (0, 0)) :: ((b15, .cells #[.int .u32 (IntKind.wrap .u32 x13)] 70 (0, 0)) :: S)) (some ⟨b40_r6, 0, none⟩) 2 x41_r6 ∧
  (Runs Tryd.prog 52 #[.slice none 0 0, .slice (some ⟨b15, 0, none⟩) 1 1] I ((b40_r6, .cells #[.int .u8 (IntKind.wrap .u8 x35), .int .u8 (IntKind.wrap .u8 x38)] 5 (0, 0)) :: ((b15, .cells #[.int .u32 (IntKind.wrap .u32 x13)] 70 (0, 0)) :: S)) fun v_r9 I1_r9 S1_r9 => ∃ x16_r3 x16_r3n x16_r3c, v_r9 = .slice x16_r3 x16_r3n x16_r3c ∧
  Keep I ((b40_r6, .cells #[.int .u8 (IntKind.wrap .u8 x35), .int .u8 (IntKind.wrap .u8 x38)] 5 (0, 0)) :: ((b15, .cells #[.int .u32 (IntKind.wrap .u32 x13)] 70 (0, 0)) :: S)) I1_r9 S1_r9 ∧
  ∃ x17_r3 : ByteArray, BytesAt I1_r9 S1_r9 x16_r3 x16_r3n x17_r3 ∧
  ∃ x21_r3, (∀ J T, I1_r9.le J → Runs Tryd.prog 54 #[.string x20] J (T ++ S1_r9) (fun v' _ T' => v' = .string x21_r3 ∧ T' = T ++ S1_r9)) ∧
  ((x17_r3.size + x21_r3.size : Nat) : Int) ≤ 9223372036854775807 ∧
  ∃ x26_r3, (∀ J T, I1_r9.le J → Runs Tryd.prog 54 #[.string x25] J (T ++ S1_r9) (fun v' _ T' => v' = .string x26_r3 ∧ T' = T ++ S1_r9)) ∧
  (((x17_r3 ++ x21_r3).size + x26_r3.size : Nat) : Int) ≤ 9223372036854775807 ∧
  ∀ b30_r3 : Nat,
  Keep I1_r9 S1_r9 I1_r9 ((b30_r3, .cells #[.int .u16 x29] 61 (0, 0)) :: S1_r9) ∧
  Runs Tryd.prog 53 #[.slice none 0 0, .slice (some ⟨b30_r3, 0, none⟩) 1 1] I1_r9 ((b30_r3, .cells #[.int .u16 x29] 61 (0, 0)) :: S1_r9) fun v_r10 I1_r10 S1_r10 => ∃ x31_r6 x31_r6n x31_r6c, v_r10 = .slice x31_r6 x31_r6n x31_r6c ∧
  Keep I1_r9 S1_r9 I1_r10 S1_r10 ∧
  ∃ x32_r6 : ByteArray, BytesAt I1_r10 S1_r10 x31_r6 x31_r6n x32_r6 ∧
  ((((x17_r3 ++ x21_r3) ++ x26_r3).size + x32_r6.size : Nat) : Int) ≤ 9223372036854775807 ∧
  (((((x17_r3 ++ x21_r3) ++ x26_r3) ++ x32_r6).size + x41_r6.size : Nat) : Int) ≤ 9223372036854775807 ∧
  ∃ x45_r6, (∀ J T, I1_r10.le J → Runs Tryd.prog 54 #[.string rel_3] J (T ++ S1_r10) (fun v' _ T' => v' = .string x45_r6 ∧ T' = T ++ S1_r10)) ∧
  ((((((x17_r3 ++ x21_r3) ++ x26_r3) ++ x32_r6) ++ x41_r6).size + x45_r6.size : Nat) : Int) ≤ 9223372036854775807 ∧
  bolterlaw25_bytes_b2 R (((((x17_r3 ++ x21_r3) ++ x26_r3) ++ x32_r6) ++ x41_r6) ++ x45_r6) I1_r10 S1_r10) ∧
  (∀ b30_r4 : Nat,
  Keep I ((b40_r6, .cells #[.int .u8 (IntKind.wrap .u8 x35), .int .u8 (IntKind.wrap .u8 x38)] 5 (0, 0)) :: ((b15, .cells #[.int .u32 (IntKind.wrap .u32 x13)] 70 (0, 0)) :: S)) I ((b30_r4, .cells #[.int .u16 x29] 61 (0, 0)) :: ((b40_r6, .cells #[.int .u8 (IntKind.wrap .u8 x35), .int .u8 (IntKind.wrap .u8 x38)] 5 (0, 0)) :: ((b15, .cells #[.int .u32 (IntKind.wrap .u32 x13)] 70 (0, 0)) :: S))) ∧
  Runs Tryd.prog 52 #[.slice none 0 0, .slice (some ⟨b15, 0, none⟩) 1 1] I ((b30_r4, .cells #[.int .u16 x29] 61 (0, 0)) :: ((b40_r6, .cells #[.int .u8 (IntKind.wrap .u8 x35), .int .u8 (IntKind.wrap .u8 x38)] 5 (0, 0)) :: ((b15, .cells #[.int .u32 (IntKind.wrap .u32 x13)] 70 (0, 0)) :: S))) fun v_r11 I1_r11 S1_r11 => ∃ x16_r4 x16_r4n x16_r4c, v_r11 = .slice x16_r4 x16_r4n x16_r4c ∧
  Keep I ((b40_r6, .cells #[.int .u8 (IntKind.wrap .u8 x35), .int .u8 (IntKind.wrap .u8 x38)] 5 (0, 0)) :: ((b15, .cells #[.int .u32 (IntKind.wrap .u32 x13)] 70 (0, 0)) :: S)) I1_r11 S1_r11 ∧
  ∃ x17_r4 : ByteArray, BytesAt I1_r11 S1_r11 x16_r4 x16_r4n x17_r4 ∧
  ∃ x21_r4, (∀ J T, I1_r11.le J → Runs Tryd.prog 54 #[.string x20] J (T ++ S1_r11) (fun v' _ T' => v' = .string x21_r4 ∧ T' = T ++ S1_r11)) ∧
  ((x17_r4.size + x21_r4.size : Nat) : Int) ≤ 9223372036854775807 ∧
  ∃ x26_r4, (∀ J T, I1_r11.le J → Runs Tryd.prog 54 #[.string x25] J (T ++ S1_r11) (fun v' _ T' => v' = .string x26_r4 ∧ T' = T ++ S1_r11)) ∧
  (((x17_r4 ++ x21_r4).size + x26_r4.size : Nat) : Int) ≤ 9223372036854775807 ∧
  Runs Tryd.prog 53 #[.slice none 0 0, .slice (some ⟨b30_r4, 0, none⟩) 1 1] I1_r11 S1_r11 fun v_r12 I1_r12 S1_r12 => ∃ x31_r7 x31_r7n x31_r7c, v_r12 = .slice x31_r7 x31_r7n x31_r7c ∧
  Keep I1_r11 S1_r11 I1_r12 S1_r12 ∧
  ∃ x32_r7 : ByteArray, BytesAt I1_r12 S1_r12 x31_r7 x31_r7n x32_r7 ∧
  ((((x17_r4 ++ x21_r4) ++ x26_r4).size + x32_r7.size : Nat) : Int) ≤ 9223372036854775807 ∧
  (((((x17_r4 ++ x21_r4) ++ x26_r4) ++ x32_r7).size + x41_r6.size : Nat) : Int) ≤ 9223372036854775807 ∧
  ∃ x45_r7, (∀ J T, I1_r12.le J → Runs Tryd.prog 54 #[.string rel_3] J (T ++ S1_r12) (fun v' _ T' => v' = .string x45_r7 ∧ T' = T ++ S1_r12)) ∧
  ((((((x17_r4 ++ x21_r4) ++ x26_r4) ++ x32_r7) ++ x41_r6).size + x45_r7.size : Nat) : Int) ≤ 9223372036854775807 ∧
  bolterlaw25_bytes_b2 R (((((x17_r4 ++ x21_r4) ++ x26_r4) ++ x32_r7) ++ x41_r6) ++ x45_r7) I1_r12 S1_r12))) ∧
  (∀ b30_r5 : Nat,
  Keep I S I ((b30_r5, .cells #[.int .u16 x29] 61 (0, 0)) :: S) ∧
  (∀ b15' : Nat,
  Keep I S I ((b15', .cells #[.int .u32 (IntKind.wrap .u32 x13)] 70 (0, 0)) :: ((b30_r5, .cells #[.int .u16 x29] 61 (0, 0)) :: S)) ∧
  (Runs Tryd.prog 52 #[.slice none 0 0, .slice (some ⟨b15', 0, none⟩) 1 1] I ((b15', .cells #[.int .u32 (IntKind.wrap .u32 x13)] 70 (0, 0)) :: ((b30_r5, .cells #[.int .u16 x29] 61 (0, 0)) :: S)) fun v_r13 I1_r13 S1_r13 => ∃ x16_r5 x16_r5n x16_r5c, v_r13 = .slice x16_r5 x16_r5n x16_r5c ∧
  Keep I S I1_r13 S1_r13 ∧
  ∃ x17_r5 : ByteArray, BytesAt I1_r13 S1_r13 x16_r5 x16_r5n x17_r5 ∧
  ∃ x21_r5, (∀ J T, I1_r13.le J → Runs Tryd.prog 54 #[.string x20] J (T ++ S1_r13) (fun v' _ T' => v' = .string x21_r5 ∧ T' = T ++ S1_r13)) ∧
  ((x17_r5.size + x21_r5.size : Nat) : Int) ≤ 9223372036854775807 ∧
  ∃ x26_r5, (∀ J T, I1_r13.le J → Runs Tryd.prog 54 #[.string x25] J (T ++ S1_r13) (fun v' _ T' => v' = .string x26_r5 ∧ T' = T ++ S1_r13)) ∧
  (((x17_r5 ++ x21_r5).size + x26_r5.size : Nat) : Int) ≤ 9223372036854775807 ∧
  (Runs Tryd.prog 53 #[.slice none 0 0, .slice (some ⟨b30_r5, 0, none⟩) 1 1] I1_r13 S1_r13 fun v_r14 I1_r14 S1_r14 => ∃ x31_r8 x31_r8n x31_r8c, v_r14 = .slice x31_r8 x31_r8n x31_r8c ∧
  Keep I1_r13 S1_r13 I1_r14 S1_r14 ∧
  ∃ x32_r8 : ByteArray, BytesAt I1_r14 S1_r14 x31_r8 x31_r8n x32_r8 ∧
  ((((x17_r5 ++ x21_r5) ++ x26_r5).size + x32_r8.size : Nat) : Int) ≤ 9223372036854775807 ∧
  ∃ x45_r8, (∀ J T, I1_r14.le J → Runs Tryd.prog 54 #[.string rel_3] J (T ++ S1_r14) (fun v' _ T' => v' = .string x45_r8 ∧ T' = T ++ S1_r14)) ∧
  ∀ b40_r7 : Nat,
  Keep I1_r14 S1_r14 I1_r14 ((b40_r7, .cells #[.int .u8 (IntKind.wrap .u8 x35), .int .u8 (IntKind.wrap .u8 x38)] 5 (0, 0)) :: S1_r14) ∧
  ∃ x41_r7 : ByteArray, BytesAt I1_r14 ((b40_r7, .cells #[.int .u8 (IntKind.wrap .u8 x35), .int .u8 (IntKind.wrap .u8 x38)] 5 (0, 0)) :: S1_r14) (some ⟨b40_r7, 0, none⟩) 2 x41_r7 ∧
  (((((x17_r5 ++ x21_r5) ++ x26_r5) ++ x32_r8).size + x41_r7.size : Nat) : Int) ≤ 9223372036854775807 ∧
  ((((((x17_r5 ++ x21_r5) ++ x26_r5) ++ x32_r8) ++ x41_r7).size + x45_r8.size : Nat) : Int) ≤ 9223372036854775807 ∧
  bolterlaw25_bytes_b2 R (((((x17_r5 ++ x21_r5) ++ x26_r5) ++ x32_r8) ++ x41_r7) ++ x45_r8) I1_r14 ((b40_r7, .cells #[.int .u8 (IntKind.wrap .u8 x35), .int .u8 (IntKind.wrap .u8 x38)] 5 (0, 0)) :: S1_r14)) ∧
  (∀ b40_r8 : Nat,
  Keep I1_r13 S1_r13 I1_r13 ((b40_r8, .cells #[.int .u8 (IntKind.wrap .u8 x35), .int .u8 (IntKind.wrap .u8 x38)] 5 (0, 0)) :: S1_r13) ∧
  ∃ x41_r8 : ByteArray, BytesAt I1_r13 ((b40_r8, .cells #[.int .u8 (IntKind.wrap .u8 x35), .int .u8 (IntKind.wrap .u8 x38)] 5 (0, 0)) :: S1_r13) (some ⟨b40_r8, 0, none⟩) 2 x41_r8 ∧
  Runs Tryd.prog 53 #[.slice none 0 0, .slice (some ⟨b30_r5, 0, none⟩) 1 1] I1_r13 ((b40_r8, .cells #[.int .u8 (IntKind.wrap .u8 x35), .int .u8 (IntKind.wrap .u8 x38)] 5 (0, 0)) :: S1_r13) fun v_r15 I1_r15 S1_r15 => ∃ x31_r9 x31_r9n x31_r9c, v_r15 = .slice x31_r9 x31_r9n x31_r9c ∧
  Keep I1_r13 ((b40_r8, .cells #[.int .u8 (IntKind.wrap .u8 x35), .int .u8 (IntKind.wrap .u8 x38)] 5 (0, 0)) :: S1_r13) I1_r15 S1_r15 ∧
  ∃ x32_r9 : ByteArray, BytesAt I1_r15 S1_r15 x31_r9 x31_r9n x32_r9 ∧
  ((((x17_r5 ++ x21_r5) ++ x26_r5).size + x32_r9.size : Nat) : Int) ≤ 9223372036854775807 ∧
  (((((x17_r5 ++ x21_r5) ++ x26_r5) ++ x32_r9).size + x41_r8.size : Nat) : Int) ≤ 9223372036854775807 ∧
  ∃ x45_r9, (∀ J T, I1_r15.le J → Runs Tryd.prog 54 #[.string rel_3] J (T ++ S1_r15) (fun v' _ T' => v' = .string x45_r9 ∧ T' = T ++ S1_r15)) ∧
  ((((((x17_r5 ++ x21_r5) ++ x26_r5) ++ x32_r9) ++ x41_r8).size + x45_r9.size : Nat) : Int) ≤ 9223372036854775807 ∧
  bolterlaw25_bytes_b2 R (((((x17_r5 ++ x21_r5) ++ x26_r5) ++ x32_r9) ++ x41_r8) ++ x45_r9) I1_r15 S1_r15)) ∧
  (∀ b40_r9 : Nat,
  Keep I S I ((b40_r9, .cells #[.int .u8 (IntKind.wrap .u8 x35), .int .u8 (IntKind.wrap .u8 x38)] 5 (0, 0)) :: ((b15', .cells #[.int .u32 (IntKind.wrap .u32 x13)] 70 (0, 0)) :: ((b30_r5, .cells #[.int .u16 x29] 61 (0, 0)) :: S))) ∧
  ∃ x41_r9 : ByteArray, BytesAt I ((b40_r9, .cells #[.int .u8 (IntKind.wrap .u8 x35), .int .u8 (IntKind.wrap .u8 x38)] 5 (0, 0)) :: ((b15', .cells #[.int .u32 (IntKind.wrap .u32 x13)] 70 (0, 0)) :: ((b30_r5, .cells #[.int .u16 x29] 61 (0, 0)) :: S))) (some ⟨b40_r9, 0, none⟩) 2 x41_r9 ∧
  Runs Tryd.prog 52 #[.slice none 0 0, .slice (some ⟨b15', 0, none⟩) 1 1] I ((b40_r9, .cells #[.int .u8 (IntKind.wrap .u8 x35), .int .u8 (IntKind.wrap .u8 x38)] 5 (0, 0)) :: ((b15', .cells #[.int .u32 (IntKind.wrap .u32 x13)] 70 (0, 0)) :: ((b30_r5, .cells #[.int .u16 x29] 61 (0, 0)) :: S))) fun v_r16 I1_r16 S1_r16 => ∃ x16_r6 x16_r6n x16_r6c, v_r16 = .slice x16_r6 x16_r6n x16_r6c ∧
  Keep I ((b40_r9, .cells #[.int .u8 (IntKind.wrap .u8 x35), .int .u8 (IntKind.wrap .u8 x38)] 5 (0, 0)) :: ((b15', .cells #[.int .u32 (IntKind.wrap .u32 x13)] 70 (0, 0)) :: ((b30_r5, .cells #[.int .u16 x29] 61 (0, 0)) :: S))) I1_r16 S1_r16 ∧
  ∃ x17_r6 : ByteArray, BytesAt I1_r16 S1_r16 x16_r6 x16_r6n x17_r6 ∧
  ∃ x21_r6, (∀ J T, I1_r16.le J → Runs Tryd.prog 54 #[.string x20] J (T ++ S1_r16) (fun v' _ T' => v' = .string x21_r6 ∧ T' = T ++ S1_r16)) ∧
  ((x17_r6.size + x21_r6.size : Nat) : Int) ≤ 9223372036854775807 ∧
  ∃ x26_r6, (∀ J T, I1_r16.le J → Runs Tryd.prog 54 #[.string x25] J (T ++ S1_r16) (fun v' _ T' => v' = .string x26_r6 ∧ T' = T ++ S1_r16)) ∧
  (((x17_r6 ++ x21_r6).size + x26_r6.size : Nat) : Int) ≤ 9223372036854775807 ∧
  Runs Tryd.prog 53 #[.slice none 0 0, .slice (some ⟨b30_r5, 0, none⟩) 1 1] I1_r16 S1_r16 fun v_r17 I1_r17 S1_r17 => ∃ x31_r10 x31_r10n x31_r10c, v_r17 = .slice x31_r10 x31_r10n x31_r10c ∧
  Keep I1_r16 S1_r16 I1_r17 S1_r17 ∧
  ∃ x32_r10 : ByteArray, BytesAt I1_r17 S1_r17 x31_r10 x31_r10n x32_r10 ∧
  ((((x17_r6 ++ x21_r6) ++ x26_r6).size + x32_r10.size : Nat) : Int) ≤ 9223372036854775807 ∧
  (((((x17_r6 ++ x21_r6) ++ x26_r6) ++ x32_r10).size + x41_r9.size : Nat) : Int) ≤ 9223372036854775807 ∧
  ∃ x45_r10, (∀ J T, I1_r17.le J → Runs Tryd.prog 54 #[.string rel_3] J (T ++ S1_r17) (fun v' _ T' => v' = .string x45_r10 ∧ T' = T ++ S1_r17)) ∧
  ((((((x17_r6 ++ x21_r6) ++ x26_r6) ++ x32_r10) ++ x41_r9).size + x45_r10.size : Nat) : Int) ≤ 9223372036854775807 ∧
  bolterlaw25_bytes_b2 R (((((x17_r6 ++ x21_r6) ++ x26_r6) ++ x32_r10) ++ x41_r9) ++ x45_r10) I1_r17 S1_r17)) ∧
  (∀ b40_r10 : Nat,
  Keep I S I ((b40_r10, .cells #[.int .u8 (IntKind.wrap .u8 x35), .int .u8 (IntKind.wrap .u8 x38)] 5 (0, 0)) :: ((b30_r5, .cells #[.int .u16 x29] 61 (0, 0)) :: S)) ∧
  ∃ x41_r10 : ByteArray, BytesAt I ((b40_r10, .cells #[.int .u8 (IntKind.wrap .u8 x35), .int .u8 (IntKind.wrap .u8 x38)] 5 (0, 0)) :: ((b30_r5, .cells #[.int .u16 x29] 61 (0, 0)) :: S)) (some ⟨b40_r10, 0, none⟩) 2 x41_r10 ∧
  ∀ b15'' : Nat,
  Keep I ((b40_r10, .cells #[.int .u8 (IntKind.wrap .u8 x35), .int .u8 (IntKind.wrap .u8 x38)] 5 (0, 0)) :: ((b30_r5, .cells #[.int .u16 x29] 61 (0, 0)) :: S)) I ((b15'', .cells #[.int .u32 (IntKind.wrap .u32 x13)] 70 (0, 0)) :: ((b40_r10, .cells #[.int .u8 (IntKind.wrap .u8 x35), .int .u8 (IntKind.wrap .u8 x38)] 5 (0, 0)) :: ((b30_r5, .cells #[.int .u16 x29] 61 (0, 0)) :: S))) ∧
  Runs Tryd.prog 52 #[.slice none 0 0, .slice (some ⟨b15'', 0, none⟩) 1 1] I ((b15'', .cells #[.int .u32 (IntKind.wrap .u32 x13)] 70 (0, 0)) :: ((b40_r10, .cells #[.int .u8 (IntKind.wrap .u8 x35), .int .u8 (IntKind.wrap .u8 x38)] 5 (0, 0)) :: ((b30_r5, .cells #[.int .u16 x29] 61 (0, 0)) :: S))) fun v_r18 I1_r18 S1_r18 => ∃ x16_r7 x16_r7n x16_r7c, v_r18 = .slice x16_r7 x16_r7n x16_r7c ∧
  Keep I ((b40_r10, .cells #[.int .u8 (IntKind.wrap .u8 x35), .int .u8 (IntKind.wrap .u8 x38)] 5 (0, 0)) :: ((b30_r5, .cells #[.int .u16 x29] 61 (0, 0)) :: S)) I1_r18 S1_r18 ∧
  ∃ x17_r7 : ByteArray, BytesAt I1_r18 S1_r18 x16_r7 x16_r7n x17_r7 ∧
  ∃ x21_r7, (∀ J T, I1_r18.le J → Runs Tryd.prog 54 #[.string x20] J (T ++ S1_r18) (fun v' _ T' => v' = .string x21_r7 ∧ T' = T ++ S1_r18)) ∧
  ((x17_r7.size + x21_r7.size : Nat) : Int) ≤ 9223372036854775807 ∧
  ∃ x26_r7, (∀ J T, I1_r18.le J → Runs Tryd.prog 54 #[.string x25] J (T ++ S1_r18) (fun v' _ T' => v' = .string x26_r7 ∧ T' = T ++ S1_r18)) ∧
  (((x17_r7 ++ x21_r7).size + x26_r7.size : Nat) : Int) ≤ 9223372036854775807 ∧
  Runs Tryd.prog 53 #[.slice none 0 0, .slice (some ⟨b30_r5, 0, none⟩) 1 1] I1_r18 S1_r18 fun v_r19 I1_r19 S1_r19 => ∃ x31_r11 x31_r11n x31_r11c, v_r19 = .slice x31_r11 x31_r11n x31_r11c ∧
  Keep I1_r18 S1_r18 I1_r19 S1_r19 ∧
  ∃ x32_r11 : ByteArray, BytesAt I1_r19 S1_r19 x31_r11 x31_r11n x32_r11 ∧
  ((((x17_r7 ++ x21_r7) ++ x26_r7).size + x32_r11.size : Nat) : Int) ≤ 9223372036854775807 ∧
  (((((x17_r7 ++ x21_r7) ++ x26_r7) ++ x32_r11).size + x41_r10.size : Nat) : Int) ≤ 9223372036854775807 ∧
  ∃ x45_r11, (∀ J T, I1_r19.le J → Runs Tryd.prog 54 #[.string rel_3] J (T ++ S1_r19) (fun v' _ T' => v' = .string x45_r11 ∧ T' = T ++ S1_r19)) ∧
  ((((((x17_r7 ++ x21_r7) ++ x26_r7) ++ x32_r11) ++ x41_r10).size + x45_r11.size : Nat) : Int) ≤ 9223372036854775807 ∧
  bolterlaw25_bytes_b2 R (((((x17_r7 ++ x21_r7) ++ x26_r7) ++ x32_r11) ++ x41_r10) ++ x45_r11) I1_r19 S1_r19)) ∧
  (∀ b40_r11 : Nat,
  Keep I S I ((b40_r11, .cells #[.int .u8 (IntKind.wrap .u8 x35), .int .u8 (IntKind.wrap .u8 x38)] 5 (0, 0)) :: S) ∧
  ∃ x41_r11 : ByteArray, BytesAt I ((b40_r11, .cells #[.int .u8 (IntKind.wrap .u8 x35), .int .u8 (IntKind.wrap .u8 x38)] 5 (0, 0)) :: S) (some ⟨b40_r11, 0, none⟩) 2 x41_r11 ∧
  (∀ b15_r3 : Nat,
  Keep I ((b40_r11, .cells #[.int .u8 (IntKind.wrap .u8 x35), .int .u8 (IntKind.wrap .u8 x38)] 5 (0, 0)) :: S) I ((b15_r3, .cells #[.int .u32 (IntKind.wrap .u32 x13)] 70 (0, 0)) :: ((b40_r11, .cells #[.int .u8 (IntKind.wrap .u8 x35), .int .u8 (IntKind.wrap .u8 x38)] 5 (0, 0)) :: S)) ∧
  (Runs Tryd.prog 52 #[.slice none 0 0, .slice (some ⟨b15_r3, 0, none⟩) 1 1] I ((b15_r3, .cells #[.int .u32 (IntKind.wrap .u32 x13)] 70 (0, 0)) :: ((b40_r11, .cells #[.int .u8 (IntKind.wrap .u8 x35), .int .u8 (IntKind.wrap .u8 x38)] 5 (0, 0)) :: S)) fun v_r20 I1_r20 S1_r20 => ∃ x16_r8 x16_r8n x16_r8c, v_r20 = .slice x16_r8 x16_r8n x16_r8c ∧
  Keep I ((b40_r11, .cells #[.int .u8 (IntKind.wrap .u8 x35), .int .u8 (IntKind.wrap .u8 x38)] 5 (0, 0)) :: S) I1_r20 S1_r20 ∧
  ∃ x17_r8 : ByteArray, BytesAt I1_r20 S1_r20 x16_r8 x16_r8n x17_r8 ∧
  ∃ x21_r8, (∀ J T, I1_r20.le J → Runs Tryd.prog 54 #[.string x20] J (T ++ S1_r20) (fun v' _ T' => v' = .string x21_r8 ∧ T' = T ++ S1_r20)) ∧
  ((x17_r8.size + x21_r8.size : Nat) : Int) ≤ 9223372036854775807 ∧
  ∃ x26_r8, (∀ J T, I1_r20.le J → Runs Tryd.prog 54 #[.string x25] J (T ++ S1_r20) (fun v' _ T' => v' = .string x26_r8 ∧ T' = T ++ S1_r20)) ∧
  (((x17_r8 ++ x21_r8).size + x26_r8.size : Nat) : Int) ≤ 9223372036854775807 ∧
  ∀ b30_r6 : Nat,
  Keep I1_r20 S1_r20 I1_r20 ((b30_r6, .cells #[.int .u16 x29] 61 (0, 0)) :: S1_r20) ∧
  Runs Tryd.prog 53 #[.slice none 0 0, .slice (some ⟨b30_r6, 0, none⟩) 1 1] I1_r20 ((b30_r6, .cells #[.int .u16 x29] 61 (0, 0)) :: S1_r20) fun v_r21 I1_r21 S1_r21 => ∃ x31_r12 x31_r12n x31_r12c, v_r21 = .slice x31_r12 x31_r12n x31_r12c ∧
  Keep I1_r20 S1_r20 I1_r21 S1_r21 ∧
  ∃ x32_r12 : ByteArray, BytesAt I1_r21 S1_r21 x31_r12 x31_r12n x32_r12 ∧
  ((((x17_r8 ++ x21_r8) ++ x26_r8).size + x32_r12.size : Nat) : Int) ≤ 9223372036854775807 ∧
  (((((x17_r8 ++ x21_r8) ++ x26_r8) ++ x32_r12).size + x41_r11.size : Nat) : Int) ≤ 9223372036854775807 ∧
  ∃ x45_r12, (∀ J T, I1_r21.le J → Runs Tryd.prog 54 #[.string rel_3] J (T ++ S1_r21) (fun v' _ T' => v' = .string x45_r12 ∧ T' = T ++ S1_r21)) ∧
  ((((((x17_r8 ++ x21_r8) ++ x26_r8) ++ x32_r12) ++ x41_r11).size + x45_r12.size : Nat) : Int) ≤ 9223372036854775807 ∧
  bolterlaw25_bytes_b2 R (((((x17_r8 ++ x21_r8) ++ x26_r8) ++ x32_r12) ++ x41_r11) ++ x45_r12) I1_r21 S1_r21) ∧
  (∀ b30_r7 : Nat,
  Keep I ((b40_r11, .cells #[.int .u8 (IntKind.wrap .u8 x35), .int .u8 (IntKind.wrap .u8 x38)] 5 (0, 0)) :: S) I ((b30_r7, .cells #[.int .u16 x29] 61 (0, 0)) :: ((b15_r3, .cells #[.int .u32 (IntKind.wrap .u32 x13)] 70 (0, 0)) :: ((b40_r11, .cells #[.int .u8 (IntKind.wrap .u8 x35), .int .u8 (IntKind.wrap .u8 x38)] 5 (0, 0)) :: S))) ∧
  Runs Tryd.prog 52 #[.slice none 0 0, .slice (some ⟨b15_r3, 0, none⟩) 1 1] I ((b30_r7, .cells #[.int .u16 x29] 61 (0, 0)) :: ((b15_r3, .cells #[.int .u32 (IntKind.wrap .u32 x13)] 70 (0, 0)) :: ((b40_r11, .cells #[.int .u8 (IntKind.wrap .u8 x35), .int .u8 (IntKind.wrap .u8 x38)] 5 (0, 0)) :: S))) fun v_r22 I1_r22 S1_r22 => ∃ x16_r9 x16_r9n x16_r9c, v_r22 = .slice x16_r9 x16_r9n x16_r9c ∧
  Keep I ((b40_r11, .cells #[.int .u8 (IntKind.wrap .u8 x35), .int .u8 (IntKind.wrap .u8 x38)] 5 (0, 0)) :: S) I1_r22 S1_r22 ∧
  ∃ x17_r9 : ByteArray, BytesAt I1_r22 S1_r22 x16_r9 x16_r9n x17_r9 ∧
  ∃ x21_r9, (∀ J T, I1_r22.le J → Runs Tryd.prog 54 #[.string x20] J (T ++ S1_r22) (fun v' _ T' => v' = .string x21_r9 ∧ T' = T ++ S1_r22)) ∧
  ((x17_r9.size + x21_r9.size : Nat) : Int) ≤ 9223372036854775807 ∧
  ∃ x26_r9, (∀ J T, I1_r22.le J → Runs Tryd.prog 54 #[.string x25] J (T ++ S1_r22) (fun v' _ T' => v' = .string x26_r9 ∧ T' = T ++ S1_r22)) ∧
  (((x17_r9 ++ x21_r9).size + x26_r9.size : Nat) : Int) ≤ 9223372036854775807 ∧
  Runs Tryd.prog 53 #[.slice none 0 0, .slice (some ⟨b30_r7, 0, none⟩) 1 1] I1_r22 S1_r22 fun v_r23 I1_r23 S1_r23 => ∃ x31_r13 x31_r13n x31_r13c, v_r23 = .slice x31_r13 x31_r13n x31_r13c ∧
  Keep I1_r22 S1_r22 I1_r23 S1_r23 ∧
  ∃ x32_r13 : ByteArray, BytesAt I1_r23 S1_r23 x31_r13 x31_r13n x32_r13 ∧
  ((((x17_r9 ++ x21_r9) ++ x26_r9).size + x32_r13.size : Nat) : Int) ≤ 9223372036854775807 ∧
  (((((x17_r9 ++ x21_r9) ++ x26_r9) ++ x32_r13).size + x41_r11.size : Nat) : Int) ≤ 9223372036854775807 ∧
  ∃ x45_r13, (∀ J T, I1_r23.le J → Runs Tryd.prog 54 #[.string rel_3] J (T ++ S1_r23) (fun v' _ T' => v' = .string x45_r13 ∧ T' = T ++ S1_r23)) ∧
  ((((((x17_r9 ++ x21_r9) ++ x26_r9) ++ x32_r13) ++ x41_r11).size + x45_r13.size : Nat) : Int) ≤ 9223372036854775807 ∧
  bolterlaw25_bytes_b2 R (((((x17_r9 ++ x21_r9) ++ x26_r9) ++ x32_r13) ++ x41_r11) ++ x45_r13) I1_r23 S1_r23)) ∧
  (∀ b30_r8 : Nat,
  Keep I ((b40_r11, .cells #[.int .u8 (IntKind.wrap .u8 x35), .int .u8 (IntKind.wrap .u8 x38)] 5 (0, 0)) :: S) I ((b30_r8, .cells #[.int .u16 x29] 61 (0, 0)) :: ((b40_r11, .cells #[.int .u8 (IntKind.wrap .u8 x35), .int .u8 (IntKind.wrap .u8 x38)] 5 (0, 0)) :: S)) ∧
  ∀ b15_r4 : Nat,
  Keep I ((b40_r11, .cells #[.int .u8 (IntKind.wrap .u8 x35), .int .u8 (IntKind.wrap .u8 x38)] 5 (0, 0)) :: S) I ((b15_r4, .cells #[.int .u32 (IntKind.wrap .u32 x13)] 70 (0, 0)) :: ((b30_r8, .cells #[.int .u16 x29] 61 (0, 0)) :: ((b40_r11, .cells #[.int .u8 (IntKind.wrap .u8 x35), .int .u8 (IntKind.wrap .u8 x38)] 5 (0, 0)) :: S))) ∧
  Runs Tryd.prog 52 #[.slice none 0 0, .slice (some ⟨b15_r4, 0, none⟩) 1 1] I ((b15_r4, .cells #[.int .u32 (IntKind.wrap .u32 x13)] 70 (0, 0)) :: ((b30_r8, .cells #[.int .u16 x29] 61 (0, 0)) :: ((b40_r11, .cells #[.int .u8 (IntKind.wrap .u8 x35), .int .u8 (IntKind.wrap .u8 x38)] 5 (0, 0)) :: S))) fun v_r24 I1_r24 S1_r24 => ∃ x16_r10 x16_r10n x16_r10c, v_r24 = .slice x16_r10 x16_r10n x16_r10c ∧
  Keep I ((b40_r11, .cells #[.int .u8 (IntKind.wrap .u8 x35), .int .u8 (IntKind.wrap .u8 x38)] 5 (0, 0)) :: S) I1_r24 S1_r24 ∧
  ∃ x17_r10 : ByteArray, BytesAt I1_r24 S1_r24 x16_r10 x16_r10n x17_r10 ∧
  ∃ x21_r10, (∀ J T, I1_r24.le J → Runs Tryd.prog 54 #[.string x20] J (T ++ S1_r24) (fun v' _ T' => v' = .string x21_r10 ∧ T' = T ++ S1_r24)) ∧
  ((x17_r10.size + x21_r10.size : Nat) : Int) ≤ 9223372036854775807 ∧
  ∃ x26_r10, (∀ J T, I1_r24.le J → Runs Tryd.prog 54 #[.string x25] J (T ++ S1_r24) (fun v' _ T' => v' = .string x26_r10 ∧ T' = T ++ S1_r24)) ∧
  (((x17_r10 ++ x21_r10).size + x26_r10.size : Nat) : Int) ≤ 9223372036854775807 ∧
  Runs Tryd.prog 53 #[.slice none 0 0, .slice (some ⟨b30_r8, 0, none⟩) 1 1] I1_r24 S1_r24 fun v_r25 I1_r25 S1_r25 => ∃ x31_r14 x31_r14n x31_r14c, v_r25 = .slice x31_r14 x31_r14n x31_r14c ∧
  Keep I1_r24 S1_r24 I1_r25 S1_r25 ∧
  ∃ x32_r14 : ByteArray, BytesAt I1_r25 S1_r25 x31_r14 x31_r14n x32_r14 ∧
  ((((x17_r10 ++ x21_r10) ++ x26_r10).size + x32_r14.size : Nat) : Int) ≤ 9223372036854775807 ∧
  (((((x17_r10 ++ x21_r10) ++ x26_r10) ++ x32_r14).size + x41_r11.size : Nat) : Int) ≤ 9223372036854775807 ∧
  ∃ x45_r14, (∀ J T, I1_r25.le J → Runs Tryd.prog 54 #[.string rel_3] J (T ++ S1_r25) (fun v' _ T' => v' = .string x45_r14 ∧ T' = T ++ S1_r25)) ∧
  ((((((x17_r10 ++ x21_r10) ++ x26_r10) ++ x32_r14) ++ x41_r11).size + x45_r14.size : Nat) : Int) ≤ 9223372036854775807 ∧
  bolterlaw25_bytes_b2 R (((((x17_r10 ++ x21_r10) ++ x26_r10) ++ x32_r14) ++ x41_r11) ++ x45_r14) I1_r25 S1_r25))
def bolterlaw25_bytes (R : Value → IMem → SH → Prop) (e_0_0 : Int) (e_0_1 : ByteArray) (e_0_2 : ByteArray) (e_0_3 : Int) (e_0_4 : Int) (e_0_5 : Int) (e_0_6 : ByteArray) (e_0_7 : ByteArray) (e_0_8 : Int) (e_0_9 : Int) (I : IMem) (S : SH) : Prop :=
  ∀ b1 : Nat,
  ∃ x8_0, Cell I ((b1, .cells #[.int .i64 e_0_0, .string e_0_1, .string e_0_2, .int .u16 e_0_3, .int .i64 e_0_4, .int .i64 e_0_5, .string e_0_6, .string e_0_7, .int .i64 e_0_8, .int .i64 e_0_9] 65 (0, 0)) :: S) ⟨b1, 5, none⟩ (.int .i64 x8_0) ∧
  ∃ x8_1, Cell I ((b1, .cells #[.int .i64 e_0_0, .string e_0_1, .string e_0_2, .int .u16 e_0_3, .int .i64 e_0_4, .int .i64 e_0_5, .string e_0_6, .string e_0_7, .int .i64 e_0_8, .int .i64 e_0_9] 65 (0, 0)) :: S) ⟨b1, 6, none⟩ (.string x8_1) ∧
  ∃ x8_2, Cell I ((b1, .cells #[.int .i64 e_0_0, .string e_0_1, .string e_0_2, .int .u16 e_0_3, .int .i64 e_0_4, .int .i64 e_0_5, .string e_0_6, .string e_0_7, .int .i64 e_0_8, .int .i64 e_0_9] 65 (0, 0)) :: S) ⟨b1, 7, none⟩ (.string x8_2) ∧
  ∃ x8_3, Cell I ((b1, .cells #[.int .i64 e_0_0, .string e_0_1, .string e_0_2, .int .u16 e_0_3, .int .i64 e_0_4, .int .i64 e_0_5, .string e_0_6, .string e_0_7, .int .i64 e_0_8, .int .i64 e_0_9] 65 (0, 0)) :: S) ⟨b1, 8, none⟩ (.int .i64 x8_3) ∧
  Runs Tryd.prog 21 #[.agg #[.int .i64 x8_0, .string x8_1, .string x8_2, .int .i64 x8_3]] I ((b1, .cells #[.int .i64 e_0_0, .string e_0_1, .string e_0_2, .int .u16 e_0_3, .int .i64 e_0_4, .int .i64 e_0_5, .string e_0_6, .string e_0_7, .int .i64 e_0_8, .int .i64 e_0_9] 65 (0, 0)) :: S) fun v I1 S1 => ∃ x9_0 x9_1, v = .tuple #[.string x9_0, .bool x9_1] ∧
  bolterlaw25_bytes_b1 R ⟨b1, 0, none⟩ x9_0 I1 S1
theorem bolterlaw25_bytes_fn (R : Value → IMem → SH → Prop) (e_0_0 : Int) (e_0_1 : ByteArray) (e_0_2 : ByteArray) (e_0_3 : Int) (e_0_4 : Int) (e_0_5 : Int) (e_0_6 : ByteArray) (e_0_7 : ByteArray) (e_0_8 : Int) (e_0_9 : Int) (I : IMem) (S : SH) (h : bolterlaw25_bytes R e_0_0 e_0_1 e_0_2 e_0_3 e_0_4 e_0_5 e_0_6 e_0_7 e_0_8 e_0_9 I S) :
    Runs Tryd.prog 33 #[.agg #[.int .i64 e_0_0, .string e_0_1, .string e_0_2, .int .u16 e_0_3, .int .i64 e_0_4, .int .i64 e_0_5, .string e_0_6, .string e_0_7, .int .i64 e_0_8, .int .i64 e_0_9]] I S R := by
  refine Runs.of_wp (args := [.agg #[.int .i64 e_0_0, .string e_0_1, .string e_0_2, .int .u16 e_0_3, .int .i64 e_0_4, .int .i64 e_0_5, .string e_0_6, .string e_0_7, .int .i64 e_0_8, .int .i64 e_0_9]]) (c := bolterlaw25_bytes_code) Tryd.func33 (by kernel_rfl) (by kernel_rfl) ?_
  refine WP.cut 3 (fun l I S => asAdr (l 1) fun e_1 => asStr (l 3) fun rel_3 => asF 54 (l 5) (bolterlaw25_bytes_b1 R e_1 rel_3 I S)) (cast (by kernel_rfl) h) ?_
  clear h
  intro l I S _ h
  obtain ⟨e_1, e1, h⟩ := asAdr_e h
  obtain ⟨rel_3, e3, h⟩ := asStr_e h
  obtain ⟨e5, h⟩ := asF_e h
  rw [upd_eta e1, upd_eta e3, upd_eta e5]
  refine WP.seqY (by kernel_rfl) (fun l I S => asStr (l 2) fun x2 => bolterlaw25_bytes_b2 R x2 I S) ?_ ?_
  ·
    exact WP.drawW (.take 0 (.base (.take 1 (.take 2 (.take 6 (.take 7 (.base (.take 8 (.take 11 (.take 12 (.base (.take 13 (.take 16 (.base (.take 17 (.take 22 (.base (.take 23 (.take 24 (.take 25 (.base (.take 26 (.take 27 (.take 31 (.take 32 (.fork3 3 (.fork3 4 (.base (.take 5 (.take 9 (.take 10 (.take 14 (.take 15 (.fork 18 (.fork 19 (.base (.take 20 (.take 21 (.take 33 (.step 28 (.base (.take 29 (.take 30 (.take 34 (.take 35 .done)))))))))) 28 (.base (.take 29 (.step 19 (.base (.take 20 (.take 21 (.take 30 (.take 33 (.take 34 (.take 35 .done))))))))))) 28 (.base (.take 29 (.step 18 (.step 19 (.base (.take 20 (.take 21 (.take 30 (.take 33 (.take 34 (.take 35 .done)))))))))))))))))) 18 (.fork 4 (.base (.take 5 (.take 9 (.take 10 (.take 14 (.take 15 (.fork 19 (.base (.take 20 (.take 21 (.take 33 (.step 28 (.base (.take 29 (.take 30 (.take 34 (.take 35 .done)))))))))) 28 (.base (.take 29 (.step 19 (.base (.take 20 (.take 21 (.take 30 (.take 33 (.take 34 (.take 35 .done))))))))))))))))) 28 (.base (.take 29 (.step 4 (.base (.take 5 (.take 9 (.take 10 (.take 14 (.take 15 (.step 19 (.base (.take 20 (.take 21 (.take 30 (.take 33 (.take 34 (.take 35 .done)))))))))))))))))) 28 (.base (.take 29 (.fork 4 (.base (.take 5 (.take 9 (.take 10 (.take 14 (.take 15 (.step 18 (.step 19 (.base (.take 20 (.take 21 (.take 30 (.take 33 (.take 34 (.take 35 .done))))))))))))))) 18 (.step 4 (.base (.take 5 (.take 9 (.take 10 (.take 14 (.take 15 (.step 19 (.base (.take 20 (.take 21 (.take 30 (.take 33 (.take 34 (.take 35 .done))))))))))))))))))) 18 (.fork 3 (.fork 4 (.base (.take 5 (.take 9 (.take 10 (.take 14 (.take 15 (.fork 19 (.base (.take 20 (.take 21 (.take 33 (.step 28 (.base (.take 29 (.take 30 (.take 34 (.take 35 .done)))))))))) 28 (.base (.take 29 (.step 19 (.base (.take 20 (.take 21 (.take 30 (.take 33 (.take 34 (.take 35 .done))))))))))))))))) 28 (.base (.take 29 (.step 4 (.base (.take 5 (.take 9 (.take 10 (.take 14 (.take 15 (.step 19 (.base (.take 20 (.take 21 (.take 30 (.take 33 (.take 34 (.take 35 .done)))))))))))))))))) 28 (.base (.take 29 (.step 3 (.step 4 (.base (.take 5 (.take 9 (.take 10 (.take 14 (.take 15 (.step 19 (.base (.take 20 (.take 21 (.take 30 (.take 33 (.take 34 (.take 35 .done))))))))))))))))))) 28 (.base (.take 29 (.fork 3 (.fork 4 (.base (.take 5 (.take 9 (.take 10 (.take 14 (.take 15 (.step 18 (.step 19 (.base (.take 20 (.take 21 (.take 30 (.take 33 (.take 34 (.take 35 .done))))))))))))))) 18 (.step 4 (.base (.take 5 (.take 9 (.take 10 (.take 14 (.take 15 (.step 19 (.base (.take 20 (.take 21 (.take 30 (.take 33 (.take 34 (.take 35 .done)))))))))))))))) 18 (.step 3 (.step 4 (.base (.take 5 (.take 9 (.take 10 (.take 14 (.take 15 (.step 19 (.base (.take 20 (.take 21 (.take 30 (.take 33 (.take 34 (.take 35 .done))))))))))))))))))))))))))))))))))))))))))))) [3, 4, 18, 19, 28] (by kernel_rfl) (by kernel_rfl) (by kernel_rfl) (by kernel_rfl) (by kernel_rfl) (cast (by kernel_rfl) h)
  · clear h
    intro l I S _ h
    obtain ⟨x2, e2, h⟩ := asStr_e h
    rw [upd_eta e2]
    exact Pre.sound _ _ _ _ _ (cast (by kernel_rfl) h)
end Go.Proofs.YtkagfmlaolmdnaaDoor
