import Derived.Test.YthlkeokfmedjhaaGreatProg
import Derived.Below
import Derived.ChangeArms
import Derived.SizedLaws
import Derived.Laws.Externs
import Derived.Test.YthlkeokfmedjhaaGreatM1TransferScript
set_option linter.unusedVariables false
set_option maxRecDepth 8000
set_option maxHeartbeats 2000000
namespace Go.Proofs.YthlkeokfmedjhaaGreat
open Go.Px
/-! ### bolterlaw05_Record: function 52, bolter/bolterlaw05.Record -/
noncomputable def bolterlaw05_Record_code : Code := (Tryz.f52.body).getD .skip
def bolterlaw05_Record_b3 (R : Value → IMem → SH → Prop) (x2 : Addr) (I : IMem) (S : SH) : Prop :=
  ∃ r2_0, Cell I S x2 (.string r2_0) ∧
  ∃ r2_1, Cell I S (x2.add 1) (.int .u16 r2_1) ∧
  ∃ r2_2, Cell I S (x2.add 2) (.int .u32 r2_2) ∧
  ∃ r2_3, Cell I S (x2.add 3) (.string r2_3) ∧
  R (.agg #[.string r2_0, .int .u16 r2_1, .int .u32 r2_2, .string r2_3]) I S
def bolterlaw05_Record_b2 (R : Value → IMem → SH → Prop) (a_1 : Addr) (x2 : Addr) (t_3 : Int) (d_4 : ByteArray) (I : IMem) (S : SH) : Prop :=
  ∃ x22 x22n x22c, Cell I S a_1 (.slice x22 x22n x22c) ∧
  ∃ x26, Cell I S (a_1.add 2) (.int .u32 x26) ∧
  Runs Tryz.prog 25 #[.slice x22 x22n x22c] I S fun v I1 S1 => ∃ x23, v = .string x23 ∧
  Keep I S I1 S1 ∧
  StP S1 x2 [.string x23, .int .u16 t_3, .int .u32 x26, .string d_4] fun S1' =>
  bolterlaw05_Record_b3 R x2 I1 S1'
def bolterlaw05_Record_b1 (R : Value → IMem → SH → Prop) (a_1 : Addr) (x2 : Addr) (I : IMem) (S : SH) : Prop :=
  ∃ x7, Cell I S (a_1.add 1) (.int .u8 x7) ∧
  ∃ x10 x10n x10c, Cell I S (a_1.add 3) (.slice x10 x10n x10c) ∧
  ∃ x12, Cell I S (a_1.add 4) (.string x12) ∧
  ∃ x14, Cell I S (a_1.add 4) (.string x14) ∧
  (0 : Int) ≤ (if (30 : Int) < (x14.size : Int) then (30 : Int) else (x14.size : Int)) ∧ (if (30 : Int) < (x14.size : Int) then (30 : Int) else (x14.size : Int)) ≤ ((x12.size : Nat) : Int) ∧
  Runs Tryz.prog 70 #[.int .u16 (IntKind.wrap .u16 x7), .slice x10 x10n x10c, .string (x12.extract 0 ((if (30 : Int) < (x14.size : Int) then (30 : Int) else (x14.size : Int)).toNat))] I S fun v I1 S1 => ∃ x18_0 x18_1, v = .tuple #[.int .u16 x18_0, .string x18_1] ∧
  bolterlaw05_Record_b2 R a_1 x2 x18_0 x18_1 I1 S1
def bolterlaw05_Record (R : Value → IMem → SH → Prop) (a_0_0 : Option Addr) (a_0_0n : Nat) (a_0_0c : Nat) (a_0_1 : Int) (a_0_2 : Int) (a_0_3 : Option Addr) (a_0_3n : Nat) (a_0_3c : Nat) (a_0_4 : ByteArray) (I : IMem) (S : SH) : Prop :=
  ∀ b1 : Nat,
  ∀ b2 : Nat,
  bolterlaw05_Record_b1 R ⟨b1, 0, none⟩ ⟨b2, 0, none⟩ I ((b2, .cells #[.string ⟨#[]⟩, .int .u16 0, .int .u32 0, .string ⟨#[]⟩] 32 (0, 0)) :: ((b1, .cells #[.slice a_0_0 a_0_0n a_0_0c, .int .u8 a_0_1, .int .u32 a_0_2, .slice a_0_3 a_0_3n a_0_3c, .string a_0_4] 107 (0, 0)) :: S))
theorem bolterlaw05_Record_fn (R : Value → IMem → SH → Prop) (a_0_0 : Option Addr) (a_0_0n : Nat) (a_0_0c : Nat) (a_0_1 : Int) (a_0_2 : Int) (a_0_3 : Option Addr) (a_0_3n : Nat) (a_0_3c : Nat) (a_0_4 : ByteArray) (I : IMem) (S : SH) (h : bolterlaw05_Record R a_0_0 a_0_0n a_0_0c a_0_1 a_0_2 a_0_3 a_0_3n a_0_3c a_0_4 I S) :
    Runs Tryz.prog 52 #[.agg #[.slice a_0_0 a_0_0n a_0_0c, .int .u8 a_0_1, .int .u32 a_0_2, .slice a_0_3 a_0_3n a_0_3c, .string a_0_4]] I S R := by
  refine Runs.of_wp (args := [.agg #[.slice a_0_0 a_0_0n a_0_0c, .int .u8 a_0_1, .int .u32 a_0_2, .slice a_0_3 a_0_3n a_0_3c, .string a_0_4]]) (c := bolterlaw05_Record_code) Tryz.func52 (by kernel_rfl) (by kernel_rfl) ?_
  refine WP.cut 1 (fun l I S => asAdr (l 1) fun a_1 => asAdr (l 2) fun x2 => bolterlaw05_Record_b1 R a_1 x2 I S) (cast (by kernel_rfl) h) ?_
  clear h
  intro l I S _ h
  obtain ⟨a_1, e1, h⟩ := asAdr_e h
  obtain ⟨x2, e2, h⟩ := asAdr_e h
  rw [upd_eta e1, upd_eta e2]
  refine WP.seqY (by kernel_rfl) (fun l I S => asAdr (l 1) fun a_1 => asAdr (l 2) fun x2 => asI .u16 (l 3) fun t_3 => asStr (l 4) fun d_4 => bolterlaw05_Record_b2 R a_1 x2 t_3 d_4 I S) ?_ ?_
  ·
    exact WP.draw' (.take 0 (.take 1 (.take 2 (.take 3 (.take 4 (.take 5 (.take 6 (.take 7 (.take 8 (.take 9 (.take 10 (.take 11 (.step 12 (.take 13 (.take 14 (.take 15 (.take 16 (.take 17 .done)))))))))))))))))) [12] (by kernel_rfl) (by kernel_rfl) (by kernel_rfl) (by kernel_rfl) (by kernel_rfl) (cast (by kernel_rfl) h)
  · clear h
    intro l I S _ h
    obtain ⟨a_1, e1, h⟩ := asAdr_e h
    obtain ⟨x2, e2, h⟩ := asAdr_e h
    obtain ⟨t_3, e3, h⟩ := asI_e h
    obtain ⟨d_4, e4, h⟩ := asStr_e h
    rw [upd_eta e1, upd_eta e2, upd_eta e3, upd_eta e4]
    refine WP.seqY (by kernel_rfl) (fun l I S => asAdr (l 2) fun x2 => bolterlaw05_Record_b3 R x2 I S) ?_ ?_
    ·
      exact WP.draw' (.take 0 (.take 1 (.take 3 (.take 4 (.take 5 (.take 6 (.step 2 (.take 7 (.step 8 .done))))))))) [2, 8] (by kernel_rfl) (by kernel_rfl) (by kernel_rfl) (by kernel_rfl) (by kernel_rfl) (cast (by kernel_rfl) h)
    · clear h
      intro l I S _ h
      obtain ⟨x2, e2, h⟩ := asAdr_e h
      rw [upd_eta e2]
      exact Pre.sound _ _ _ _ _ (cast (by kernel_rfl) h)
/-! ### bolterlaw04_Data: function 70, bolter/bolterlaw04.Data -/
noncomputable def bolterlaw04_Data_code : Code := (Tryz.f70.body).getD .skip
def bolterlaw04_Data_b4 (R : Value → IMem → SH → Prop) (x6 : Int) (x7 : ByteArray) (I : IMem) (S : SH) : Prop :=
  R (.tuple #[.int .u16 x6, .string x7]) I S
def bolterlaw04_Data_b8 (R : Value → IMem → SH → Prop) (x6 : Int) (x7 : ByteArray) (I : IMem) (S : SH) : Prop :=
  R (.tuple #[.int .u16 x6, .string x7]) I S
def bolterlaw04_Data_b11 (R : Value → IMem → SH → Prop) (x6 : Int) (x7 : ByteArray) (I : IMem) (S : SH) : Prop :=
  R (.tuple #[.int .u16 x6, .string x7]) I S
def bolterlaw04_Data_b10 (R : Value → IMem → SH → Prop) (s_2 : ByteArray) (k_9 : Int) (I : IMem) (S : SH) : Prop :=
  (0 : Int) ≤ k_9 ∧ k_9 ≤ ((s_2.size : Nat) : Int) ∧
  ∀ b44 : Nat,
  ∃ x45 : ByteArray, BytesAt I ((b44, .cells #[.int .u8 (IntKind.wrap .u8 k_9)] 5 (0, 0)) :: S) (some ⟨b44, 0, none⟩) 1 x45 ∧
  ((x45.size + (s_2.extract 0 k_9.toNat).size : Nat) : Int) ≤ 9223372036854775807 ∧
  bolterlaw04_Data_b11 R 16 (x45 ++ (s_2.extract 0 k_9.toNat)) I ((b44, .cells #[.int .u8 (IntKind.wrap .u8 k_9)] 5 (0, 0)) :: S)
def bolterlaw04_Data_b13 (R : Value → IMem → SH → Prop) (x6 : Int) (x7 : ByteArray) (I : IMem) (S : SH) : Prop :=
  R (.tuple #[.int .u16 x6, .string x7]) I S
def bolterlaw04_Data_b15 (R : Value → IMem → SH → Prop) (x6 : Int) (x7 : ByteArray) (I : IMem) (S : SH) : Prop :=
  R (.tuple #[.int .u16 x6, .string x7]) I S
def bolterlaw04_Data_b14 (R : Value → IMem → SH → Prop) (s_2 : ByteArray) (I : IMem) (S : SH) : Prop :=
  (0 : Int) ≤ (if (512 : Int) < (s_2.size : Int) then (512 : Int) else (s_2.size : Int)) ∧ (if (512 : Int) < (s_2.size : Int) then (512 : Int) else (s_2.size : Int)) ≤ ((s_2.size : Nat) : Int) ∧
  bolterlaw04_Data_b15 R 99 (s_2.extract 0 ((if (512 : Int) < (s_2.size : Int) then (512 : Int) else (s_2.size : Int)).toNat)) I S
def bolterlaw04_Data_b12 (R : Value → IMem → SH → Prop) (s_2 : ByteArray) (x50 : Bool) (I : IMem) (S : SH) : Prop :=
  bcase x50
    (((s_2.size + (⟨#[48, 49, 50, 51, 52, 53, 54, 55, 56, 57, 97, 98, 99, 100, 101, 102]⟩ : ByteArray).size : Nat) : Int) ≤ 9223372036854775807 ∧
    (0 : Int) ≤ (16 : Int) ∧ (16 : Int) ≤ (((s_2 ++ (⟨#[48, 49, 50, 51, 52, 53, 54, 55, 56, 57, 97, 98, 99, 100, 101, 102]⟩ : ByteArray)).size : Nat) : Int) ∧
    bolterlaw04_Data_b13 R 28 ((s_2 ++ (⟨#[48, 49, 50, 51, 52, 53, 54, 55, 56, 57, 97, 98, 99, 100, 101, 102]⟩ : ByteArray)).extract 0 ((16 : Int).toNat)) I S)
    (bolterlaw04_Data_b14 R s_2 I S)
def bolterlaw04_Data_b9 (R : Value → IMem → SH → Prop) (s_2 : ByteArray) (x13 : Int) (x37 : Bool) (I : IMem) (S : SH) : Prop :=
  bcase x37
    (bolterlaw04_Data_b10 R s_2 (if (255 : Int) < (s_2.size : Int) then (255 : Int) else (s_2.size : Int)) I S)
    (bolterlaw04_Data_b12 R s_2 (x13 == (6 : Int)) I S)
def bolterlaw04_Data_b7 (R : Value → IMem → SH → Prop) (s_2 : ByteArray) (x_8 : ByteArray) (x13 : Int) (x26 : Bool) (I : IMem) (S : SH) : Prop :=
  bcase x26
    (((x_8.size + (⟨#[0]⟩ : ByteArray).size : Nat) : Int) ≤ 9223372036854775807 ∧
    (((x_8 ++ (⟨#[0]⟩ : ByteArray)).size + x_8.size : Nat) : Int) ≤ 9223372036854775807 ∧
    ((((x_8 ++ (⟨#[0]⟩ : ByteArray)) ++ x_8).size + (⟨#[0]⟩ : ByteArray).size : Nat) : Int) ≤ 9223372036854775807 ∧
    ((s_2.size + (⟨#[48, 49, 50, 51, 52, 53, 54, 55, 56, 57, 48, 49, 50, 51, 52, 53, 54, 55, 56, 57]⟩ : ByteArray).size : Nat) : Int) ≤ 9223372036854775807 ∧
    (0 : Int) ≤ (20 : Int) ∧ (20 : Int) ≤ (((s_2 ++ (⟨#[48, 49, 50, 51, 52, 53, 54, 55, 56, 57, 48, 49, 50, 51, 52, 53, 54, 55, 56, 57]⟩ : ByteArray)).size : Nat) : Int) ∧
    (((((x_8 ++ (⟨#[0]⟩ : ByteArray)) ++ x_8) ++ (⟨#[0]⟩ : ByteArray)).size + ((s_2 ++ (⟨#[48, 49, 50, 51, 52, 53, 54, 55, 56, 57, 48, 49, 50, 51, 52, 53, 54, 55, 56, 57]⟩ : ByteArray)).extract 0 ((20 : Int).toNat)).size : Nat) : Int) ≤ 9223372036854775807 ∧
    bolterlaw04_Data_b8 R 6 ((((x_8 ++ (⟨#[0]⟩ : ByteArray)) ++ x_8) ++ (⟨#[0]⟩ : ByteArray)) ++ ((s_2 ++ (⟨#[48, 49, 50, 51, 52, 53, 54, 55, 56, 57, 48, 49, 50, 51, 52, 53, 54, 55, 56, 57]⟩ : ByteArray)).extract 0 ((20 : Int).toNat))) I S)
    (bolterlaw04_Data_b9 R s_2 x13 (x13 == (5 : Int)) I S)
def bolterlaw04_Data_b6 (R : Value → IMem → SH → Prop) (s_2 : ByteArray) (x_8 : ByteArray) (x13 : Int) (x23 : Bool) (I : IMem) (S : SH) : Prop :=
  bcase x23
    (R (.tuple #[.int .u16 5, .string x_8]) I S)
    (bolterlaw04_Data_b7 R s_2 x_8 x13 (x13 == (4 : Int)) I S)
def bolterlaw04_Data_b5 (R : Value → IMem → SH → Prop) (s_2 : ByteArray) (x_8 : ByteArray) (x13 : Int) (x20 : Bool) (I : IMem) (S : SH) : Prop :=
  bcase x20
    (R (.tuple #[.int .u16 2, .string x_8]) I S)
    (bolterlaw04_Data_b6 R s_2 x_8 x13 (x13 == (3 : Int)) I S)
def bolterlaw04_Data_b3 (R : Value → IMem → SH → Prop) (s_2 : ByteArray) (x_8 : ByteArray) (x13 : Int) (x14 : Bool) (I : IMem) (S : SH) : Prop :=
  bcase x14
    (((s_2.size + (⟨#[1, 2, 3, 4]⟩ : ByteArray).size : Nat) : Int) ≤ 9223372036854775807 ∧
    (0 : Int) ≤ (4 : Int) ∧ (4 : Int) ≤ (((s_2 ++ (⟨#[1, 2, 3, 4]⟩ : ByteArray)).size : Nat) : Int) ∧
    bolterlaw04_Data_b4 R 1 ((s_2 ++ (⟨#[1, 2, 3, 4]⟩ : ByteArray)).extract 0 ((4 : Int).toNat)) I S)
    (bolterlaw04_Data_b5 R s_2 x_8 x13 (x13 == (2 : Int)) I S)
def bolterlaw04_Data_b2 (R : Value → IMem → SH → Prop) (s_2 : ByteArray) (x_8 : ByteArray) (x13 : Int) (I : IMem) (S : SH) : Prop :=
  bcase (x13 == (0 : Int))
    (bolterlaw04_Data_b3 R s_2 x_8 x13 (x13 == (0 : Int)) I S)
    (bolterlaw04_Data_b3 R s_2 x_8 x13 (x13 == (1 : Int)) I S)
def bolterlaw04_Data_b1 (R : Value → IMem → SH → Prop) (t_0 : Int) (s_2 : ByteArray) (x_8 : ByteArray) (I : IMem) (S : SH) : Prop :=
  bolterlaw04_Data_b2 R s_2 x_8 (t_0.tmod (8 : Int)) I S
def bolterlaw04_Data (R : Value → IMem → SH → Prop) (t_0 : Int) (ns_1 : Option Addr) (ns_1n : Nat) (ns_1c : Nat) (s_2 : ByteArray) (I : IMem) (S : SH) : Prop :=
  Runs Tryz.prog 25 #[.slice ns_1 ns_1n ns_1c] I S fun v I1 S1 => ∃ x11, v = .string x11 ∧
  bolterlaw04_Data_b1 R t_0 s_2 x11 I1 S1
theorem bolterlaw04_Data_fn (R : Value → IMem → SH → Prop) (t_0 : Int) (ns_1 : Option Addr) (ns_1n : Nat) (ns_1c : Nat) (s_2 : ByteArray) (I : IMem) (S : SH) (h : bolterlaw04_Data R t_0 ns_1 ns_1n ns_1c s_2 I S) :
    Runs Tryz.prog 70 #[.int .u16 t_0, .slice ns_1 ns_1n ns_1c, .string s_2] I S R := by
  refine Runs.of_wp (args := [.int .u16 t_0, .slice ns_1 ns_1n ns_1c, .string s_2]) (c := bolterlaw04_Data_code) Tryz.func70 (by kernel_rfl) (by kernel_rfl) ?_
  refine WP.cut 2 (fun l I S => asI .u16 (l 0) fun t_0 => asStr (l 2) fun s_2 => asStr (l 8) fun x_8 => bolterlaw04_Data_b1 R t_0 s_2 x_8 I S) (cast (by kernel_rfl) h) ?_
  clear h
  intro l I S _ h
  obtain ⟨t_0, e0, h⟩ := asI_e h
  obtain ⟨s_2, e2, h⟩ := asStr_e h
  obtain ⟨x_8, e8, h⟩ := asStr_e h
  rw [upd_eta e0, upd_eta e2, upd_eta e8]
  refine WP.seqY (by kernel_rfl) (fun l I S => asStr (l 2) fun s_2 => bolterlaw04_Data_b14 R s_2 I S) ?_ ?_
  ·
    refine WP.cut 1 (fun l I S => asStr (l 2) fun s_2 => asStr (l 8) fun x_8 => asI .u16 (l 13) fun x13 => bolterlaw04_Data_b2 R s_2 x_8 x13 I S) (cast (by kernel_rfl) h) ?_
    clear h
    intro l I S _ h
    obtain ⟨s_2, e2, h⟩ := asStr_e h
    obtain ⟨x_8, e8, h⟩ := asStr_e h
    obtain ⟨x13, e13, h⟩ := asI_e h
    rw [upd_eta e2, upd_eta e8, upd_eta e13]
    refine WP.block' (by kernel_rfl) ?_
    refine WP.cut 1 (fun l I S => asStr (l 2) fun s_2 => asStr (l 8) fun x_8 => asI .u16 (l 13) fun x13 => asB (l 14) fun x14 => bolterlaw04_Data_b3 R s_2 x_8 x13 x14 I S) (cast (by kernel_rfl) h) ?_
    clear h
    intro l I S _ h
    obtain ⟨s_2, e2, h⟩ := asStr_e h
    obtain ⟨x_8, e8, h⟩ := asStr_e h
    obtain ⟨x13, e13, h⟩ := asI_e h
    obtain ⟨x14, e14, h⟩ := asB_e h
    rw [upd_eta e2, upd_eta e8, upd_eta e13, upd_eta e14]
    refine WP.cond' (by kernel_rfl) (by kernel_rfl) h ?_ ?_
    · clear h
      intro h
      refine WP.seqY (by kernel_rfl) (fun l I S => asI .u16 (l 6) fun x6 => asStr (l 7) fun x7 => bolterlaw04_Data_b4 R x6 x7 I S) ?_ ?_
      ·
        exact WP.quiet' (by kernel_rfl) (by kernel_rfl) (by kernel_rfl) (cast (by kernel_rfl) h)
      · clear h
        intro l I S _ h
        obtain ⟨x6, e6, h⟩ := asI_e h
        obtain ⟨x7, e7, h⟩ := asStr_e h
        rw [upd_eta e6, upd_eta e7]
        exact Pre.sound _ _ _ _ _ (cast (by kernel_rfl) h)
    · clear h
      intro h
      refine WP.cut 1 (fun l I S => asStr (l 2) fun s_2 => asStr (l 8) fun x_8 => asI .u16 (l 13) fun x13 => asB (l 20) fun x20 => bolterlaw04_Data_b5 R s_2 x_8 x13 x20 I S) (cast (by kernel_rfl) h) ?_
      clear h
      intro l I S _ h
      obtain ⟨s_2, e2, h⟩ := asStr_e h
      obtain ⟨x_8, e8, h⟩ := asStr_e h
      obtain ⟨x13, e13, h⟩ := asI_e h
      obtain ⟨x20, e20, h⟩ := asB_e h
      rw [upd_eta e2, upd_eta e8, upd_eta e13, upd_eta e20]
      refine WP.cond' (by kernel_rfl) (by kernel_rfl) h ?_ ?_
      · clear h
        intro h
        exact Pre.sound _ _ _ _ _ (cast (by kernel_rfl) h)
      · clear h
        intro h
        refine WP.cut 1 (fun l I S => asStr (l 2) fun s_2 => asStr (l 8) fun x_8 => asI .u16 (l 13) fun x13 => asB (l 23) fun x23 => bolterlaw04_Data_b6 R s_2 x_8 x13 x23 I S) (cast (by kernel_rfl) h) ?_
        clear h
        intro l I S _ h
        obtain ⟨s_2, e2, h⟩ := asStr_e h
        obtain ⟨x_8, e8, h⟩ := asStr_e h
        obtain ⟨x13, e13, h⟩ := asI_e h
        obtain ⟨x23, e23, h⟩ := asB_e h
        rw [upd_eta e2, upd_eta e8, upd_eta e13, upd_eta e23]
        refine WP.cond' (by kernel_rfl) (by kernel_rfl) h ?_ ?_
        · clear h
          intro h
          exact Pre.sound _ _ _ _ _ (cast (by kernel_rfl) h)
        · clear h
          intro h
          refine WP.cut 1 (fun l I S => asStr (l 2) fun s_2 => asStr (l 8) fun x_8 => asI .u16 (l 13) fun x13 => asB (l 26) fun x26 => bolterlaw04_Data_b7 R s_2 x_8 x13 x26 I S) (cast (by kernel_rfl) h) ?_
          clear h
          intro l I S _ h
          obtain ⟨s_2, e2, h⟩ := asStr_e h
          obtain ⟨x_8, e8, h⟩ := asStr_e h
          obtain ⟨x13, e13, h⟩ := asI_e h
          obtain ⟨x26, e26, h⟩ := asB_e h
          rw [upd_eta e2, upd_eta e8, upd_eta e13, upd_eta e26]
          refine WP.cond' (by kernel_rfl) (by kernel_rfl) h ?_ ?_
          · clear h
            intro h
            refine WP.seqY (by kernel_rfl) (fun l I S => asI .u16 (l 6) fun x6 => asStr (l 7) fun x7 => bolterlaw04_Data_b8 R x6 x7 I S) ?_ ?_
            ·
              exact WP.quiet' (by kernel_rfl) (by kernel_rfl) (by kernel_rfl) (cast (by kernel_rfl) h)
            · clear h
              intro l I S _ h
              obtain ⟨x6, e6, h⟩ := asI_e h
              obtain ⟨x7, e7, h⟩ := asStr_e h
              rw [upd_eta e6, upd_eta e7]
              exact Pre.sound _ _ _ _ _ (cast (by kernel_rfl) h)
          · clear h
            intro h
            refine WP.cut 1 (fun l I S => asStr (l 2) fun s_2 => asI .u16 (l 13) fun x13 => asB (l 37) fun x37 => bolterlaw04_Data_b9 R s_2 x13 x37 I S) (cast (by kernel_rfl) h) ?_
            clear h
            intro l I S _ h
            obtain ⟨s_2, e2, h⟩ := asStr_e h
            obtain ⟨x13, e13, h⟩ := asI_e h
            obtain ⟨x37, e37, h⟩ := asB_e h
            rw [upd_eta e2, upd_eta e13, upd_eta e37]
            refine WP.cond' (by kernel_rfl) (by kernel_rfl) h ?_ ?_
            · clear h
              intro h
              refine WP.cut 1 (fun l I S => asStr (l 2) fun s_2 => asI .i64 (l 9) fun k_9 => bolterlaw04_Data_b10 R s_2 k_9 I S) (cast (by kernel_rfl) h) ?_
              clear h
              intro l I S _ h
              obtain ⟨s_2, e2, h⟩ := asStr_e h
              obtain ⟨k_9, e9, h⟩ := asI_e h
              rw [upd_eta e2, upd_eta e9]
              refine WP.seqY (by kernel_rfl) (fun l I S => asI .u16 (l 6) fun x6 => asStr (l 7) fun x7 => bolterlaw04_Data_b11 R x6 x7 I S) ?_ ?_
              ·
                exact WP.draw' (.take 0 (.take 1 (.take 4 (.take 5 (.take 6 (.take 8 (.step 2 (.step 3 (.take 7 (.take 9 .done)))))))))) [2, 3] (by kernel_rfl) (by kernel_rfl) (by kernel_rfl) (by kernel_rfl) (by kernel_rfl) (cast (by kernel_rfl) h)
              · clear h
                intro l I S _ h
                obtain ⟨x6, e6, h⟩ := asI_e h
                obtain ⟨x7, e7, h⟩ := asStr_e h
                rw [upd_eta e6, upd_eta e7]
                exact Pre.sound _ _ _ _ _ (cast (by kernel_rfl) h)
            · clear h
              intro h
              refine WP.cut 1 (fun l I S => asStr (l 2) fun s_2 => asB (l 50) fun x50 => bolterlaw04_Data_b12 R s_2 x50 I S) (cast (by kernel_rfl) h) ?_
              clear h
              intro l I S _ h
              obtain ⟨s_2, e2, h⟩ := asStr_e h
              obtain ⟨x50, e50, h⟩ := asB_e h
              rw [upd_eta e2, upd_eta e50]
              refine WP.cond' (by kernel_rfl) (by kernel_rfl) h ?_ ?_
              · clear h
                intro h
                refine WP.seqY (by kernel_rfl) (fun l I S => asI .u16 (l 6) fun x6 => asStr (l 7) fun x7 => bolterlaw04_Data_b13 R x6 x7 I S) ?_ ?_
                ·
                  exact WP.quiet' (by kernel_rfl) (by kernel_rfl) (by kernel_rfl) (cast (by kernel_rfl) h)
                · clear h
                  intro l I S _ h
                  obtain ⟨x6, e6, h⟩ := asI_e h
                  obtain ⟨x7, e7, h⟩ := asStr_e h
                  rw [upd_eta e6, upd_eta e7]
                  exact Pre.sound _ _ _ _ _ (cast (by kernel_rfl) h)
              · clear h
                intro h
                exact Pre.sound _ _ _ _ _ (cast (by kernel_rfl) h)
  · clear h
    intro l I S _ h
    obtain ⟨s_2, e2, h⟩ := asStr_e h
    rw [upd_eta e2]
    refine WP.seqY (by kernel_rfl) (fun l I S => asI .u16 (l 6) fun x6 => asStr (l 7) fun x7 => bolterlaw04_Data_b15 R x6 x7 I S) ?_ ?_
    ·
      exact WP.quiet' (by kernel_rfl) (by kernel_rfl) (by kernel_rfl) (cast (by kernel_rfl) h)
    · clear h
      intro l I S _ h
      obtain ⟨x6, e6, h⟩ := asI_e h
      obtain ⟨x7, e7, h⟩ := asStr_e h
      rw [upd_eta e6, upd_eta e7]
      exact Pre.sound _ _ _ _ _ (cast (by kernel_rfl) h)
/-! ### bolterlaw02_Name: function 25, bolter/bolterlaw02.Name -/
noncomputable def bolterlaw02_Name_code : Code := (Tryz.f25.body).getD .skip
def bolterlaw02_Name (R : Value → IMem → SH → Prop) (ns_0 : Option Addr) (ns_0n : Nat) (ns_0c : Nat) (I : IMem) (S : SH) : Prop :=
  Runs Tryz.prog 44 #[.slice ns_0 ns_0n ns_0c] I S fun v I1 S1 => ∃ x7 x7n x7c, v = .slice x7 x7n x7c ∧
  Runs Tryz.prog 43 #[.slice x7 x7n x7c] I1 S1 fun v' I1' S1' => ∃ x8_0 x8_1, v' = .tuple #[.string x8_0, .bool x8_1] ∧
  R (.string x8_0) I1' S1'
theorem bolterlaw02_Name_fn (R : Value → IMem → SH → Prop) (ns_0 : Option Addr) (ns_0n : Nat) (ns_0c : Nat) (I : IMem) (S : SH) (h : bolterlaw02_Name R ns_0 ns_0n ns_0c I S) :
    Runs Tryz.prog 25 #[.slice ns_0 ns_0n ns_0c] I S R := by
  refine Runs.of_wp (args := [.slice ns_0 ns_0n ns_0c]) (c := bolterlaw02_Name_code) Tryz.func25 (by kernel_rfl) (by kernel_rfl) ?_
  exact Pre.sound _ _ _ _ _ (cast (by kernel_rfl) h)
/-! ### message_MayRecord: function 76, bolter/message.MayRecord -/
noncomputable def message_MayRecord_code : Code := (Tryz.f76.body).getD .skip
def message_MayRecord_b1 (R : Value → IMem → SH → Prop) (x2 : Bool) (I : IMem) (S : SH) : Prop :=
  R (.bool x2) I S
def message_MayRecord (R : Value → IMem → SH → Prop) (r_0_0 : ByteArray) (r_0_1 : Int) (r_0_2 : Int) (r_0_3 : ByteArray) (I : IMem) (S : SH) : Prop :=
  ∀ b1 : Nat,
  ∃ x4, Cell I ((b1, .cells #[.string r_0_0, .int .u16 r_0_1, .int .u32 r_0_2, .string r_0_3] 32 (0, 0)) :: S) ⟨b1, 0, none⟩ (.string x4) ∧
  Runs Tryz.prog 71 #[.string x4] I ((b1, .cells #[.string r_0_0, .int .u16 r_0_1, .int .u32 r_0_2, .string r_0_3] 32 (0, 0)) :: S) fun v I1 S1 => ∃ x5, v = .bool x5 ∧
  bcase x5
    (∃ x8, Cell I1 S1 ⟨b1, 1, none⟩ (.int .u16 x8) ∧
    bcase (x8 != (41 : Int))
      (∃ x13, Cell I1 S1 ⟨b1, 1, none⟩ (.int .u16 x13) ∧
      ∃ x15, Cell I1 S1 ⟨b1, 3, none⟩ (.string x15) ∧
      Runs Tryz.prog 93 #[.int .u16 x13, .string x15] I1 S1 fun v' I1' S1' => ∃ x16, v' = .bool x16 ∧
      message_MayRecord_b1 R x16 I1' S1')
      (message_MayRecord_b1 R false I1 S1))
    (message_MayRecord_b1 R false I1 S1)
theorem message_MayRecord_fn (R : Value → IMem → SH → Prop) (r_0_0 : ByteArray) (r_0_1 : Int) (r_0_2 : Int) (r_0_3 : ByteArray) (I : IMem) (S : SH) (h : message_MayRecord R r_0_0 r_0_1 r_0_2 r_0_3 I S) :
    Runs Tryz.prog 76 #[.agg #[.string r_0_0, .int .u16 r_0_1, .int .u32 r_0_2, .string r_0_3]] I S R := by
  refine Runs.of_wp (args := [.agg #[.string r_0_0, .int .u16 r_0_1, .int .u32 r_0_2, .string r_0_3]]) (c := message_MayRecord_code) Tryz.func76 (by kernel_rfl) (by kernel_rfl) ?_
  refine WP.cut 2 (fun l I S => asB (l 2) fun x2 => message_MayRecord_b1 R x2 I S) (cast (by kernel_rfl) h) ?_
  clear h
  intro l I S _ h
  obtain ⟨x2, e2, h⟩ := asB_e h
  rw [upd_eta e2]
  exact Pre.sound _ _ _ _ _ (cast (by kernel_rfl) h)
/-! ### name_Below: function 77, bolter/name.Below -/
noncomputable def name_Below_code : Code := (Tryz.f77.body).getD .skip
def name_Below_b4 (R : Value → IMem → SH → Prop) (I : IMem) (S : SH) : Prop :=
  R (.bool false) I S
def name_Below_l3 (again3 : ByteArray → ByteArray → Bool → IMem → SH → Prop) (R : Value → IMem → SH → Prop) (n_0 : ByteArray) (on_1 : ByteArray) (ok_5 : Bool) (I : IMem) (S : SH) : Prop :=
  bcase ok_5
    (bcase (n_0.toList == on_1.toList)
      (R (.bool true) I S)
      (Runs Tryz.prog 94 #[.string n_0] I S fun v I1 S1 => ∃ x15_0 x15_1, v = .tuple #[.string x15_0, .bool x15_1] ∧
      again3 x15_0 on_1 x15_1 I1 S1))
    (name_Below_b4 R I S)
def name_Below_b2 (R : Value → IMem → SH → Prop) (n_0 : ByteArray) (on_1 : ByteArray) (ok_5 : Bool) (I : IMem) (S : SH) : Prop :=
  ∃ (Inv : Nat → ByteArray → ByteArray → Bool → IMem → SH → Prop) (m : Nat), Inv m n_0 on_1 ok_5 I S ∧
    ∀ (m : Nat) (n_0 : ByteArray) (on_1 : ByteArray) (ok_5 : Bool) (J : IMem) (T : SH), I.le J → Inv m n_0 on_1 ok_5 J T →
      name_Below_l3 (fun n_0 on_1 ok_5 I S => ∃ m', m' < m ∧ Inv m' n_0 on_1 ok_5 I S) R n_0 on_1 ok_5 J T
def name_Below_b1 (R : Value → IMem → SH → Prop) (n_0 : ByteArray) (on_1 : ByteArray) (I : IMem) (S : SH) : Prop :=
  Runs Tryz.prog 71 #[.string n_0] I S fun v I1 S1 => ∃ x7, v = .bool x7 ∧
  bcase x7
    (Runs Tryz.prog 71 #[.string on_1] I1 S1 fun v' I1' S1' => ∃ x10, v' = .bool x10 ∧
    name_Below_b2 R n_0 on_1 x10 I1' S1')
    (name_Below_b2 R n_0 on_1 false I1 S1)
def name_Below (R : Value → IMem → SH → Prop) (n_0 : ByteArray) (on_1 : ByteArray) (I : IMem) (S : SH) : Prop :=
  name_Below_b1 R n_0 on_1 I S
theorem name_Below_fn (R : Value → IMem → SH → Prop) (n_0 : ByteArray) (on_1 : ByteArray) (I : IMem) (S : SH) (h : name_Below R n_0 on_1 I S) :
    Runs Tryz.prog 77 #[.string n_0, .string on_1] I S R := by
  refine Runs.of_wp (args := [.string n_0, .string on_1]) (c := name_Below_code) Tryz.func77 (by kernel_rfl) (by kernel_rfl) ?_
  refine WP.cut 1 (fun l I S => asStr (l 0) fun n_0 => asStr (l 1) fun on_1 => name_Below_b1 R n_0 on_1 I S) (cast (by kernel_rfl) h) ?_
  clear h
  intro l I S _ h
  obtain ⟨n_0, e0, h⟩ := asStr_e h
  obtain ⟨on_1, e1, h⟩ := asStr_e h
  rw [upd_eta e0, upd_eta e1]
  refine WP.seqY (by kernel_rfl) (fun l I S => name_Below_b4 R I S) ?_ ?_
  ·
    refine WP.cut 1 (fun l I S => asStr (l 0) fun n_0 => asStr (l 1) fun on_1 => asB (l 5) fun ok_5 => name_Below_b2 R n_0 on_1 ok_5 I S) (cast (by kernel_rfl) h) ?_
    clear h
    intro l I S _ h
    obtain ⟨n_0, e0, h⟩ := asStr_e h
    obtain ⟨on_1, e1, h⟩ := asStr_e h
    obtain ⟨ok_5, e5, h⟩ := asB_e h
    rw [upd_eta e0, upd_eta e1, upd_eta e5]
    refine WP.block' (by kernel_rfl) ?_
    obtain ⟨Inv_again3, m_again3, h0, hr⟩ := h
    refine WP.loop' (by kernel_rfl) (fun m_again3 => fun l I S => asStr (l 0) fun n_0 => asStr (l 1) fun on_1 => asB (l 5) fun ok_5 => Inv_again3 m_again3 n_0 on_1 ok_5 I S) m_again3 (cast (by kernel_rfl) h0) ?_
    clear h0
    intro m_again3 l I S hle h
    obtain ⟨n_0, e0, h⟩ := asStr_e h
    obtain ⟨on_1, e1, h⟩ := asStr_e h
    obtain ⟨ok_5, e5, h⟩ := asB_e h
    rw [upd_eta e0, upd_eta e1, upd_eta e5]
    have h := hr m_again3 n_0 on_1 ok_5 I S hle h
    clear hr hle
    exact Pre.sound _ _ _ _ _ (cast (by kernel_rfl) h)
  · clear h
    intro l I S _ h
    exact Pre.sound _ _ _ _ _ (cast (by kernel_rfl) h)
/-! ### name_Make: function 43, bolter/name.Make -/
noncomputable def name_Make_code : Code := (Tryz.f43.body).getD .skip
def name_Make_b8 (again3 : Addr → Option Addr → Nat → Nat → Int → Int → IMem → SH → Prop) (R : Value → IMem → SH → Prop) (out_4 : Addr) (x7 : Option Addr) (x7n : Nat) (x7c : Nat) (x8 : Int) (x9 : Int) (I : IMem) (S : SH) : Prop :=
  again3 out_4 x7 x7n x7c x8 (IntKind.wrap .i64 (x9 + (1 : Int))) I S
def name_Make_b7 (again3 : Addr → Option Addr → Nat → Nat → Int → Int → IMem → SH → Prop) (R : Value → IMem → SH → Prop) (out_4 : Addr) (l_6 : ByteArray) (x7 : Option Addr) (x7n : Nat) (x7c : Nat) (x8 : Int) (x9 : Int) (I : IMem) (S : SH) : Prop :=
  Runs Tryz.prog 56 #[.pointer (some out_4), .int .u8 (IntKind.wrap .u8 (l_6.size : Int))] I S fun v I1 S1 => ∃ x32, v = x32 ∧
  Runs Tryz.prog 58 #[.string l_6] I1 S1 fun v' I1' S1' => ∃ x34, v' = .string x34 ∧
  Runs Tryz.prog 57 #[.pointer (some out_4), .string x34] I1' S1' fun v'' I1'' S1'' => ∃ x35_0 x35_1, v'' = .tuple #[.int .i64 x35_0, x35_1] ∧
  name_Make_b8 again3 R out_4 x7 x7n x7c x8 x9 I1'' S1''
def name_Make_b6 (again3 : Addr → Option Addr → Nat → Nat → Int → Int → IMem → SH → Prop) (R : Value → IMem → SH → Prop) (out_4 : Addr) (l_6 : ByteArray) (x7 : Option Addr) (x7n : Nat) (x7c : Nat) (x8 : Int) (x9 : Int) (x28 : Bool) (I : IMem) (S : SH) : Prop :=
  bcase x28
    (R (.tuple #[.string ⟨#[]⟩, .bool false]) I S)
    (name_Make_b7 again3 R out_4 l_6 x7 x7n x7c x8 x9 I S)
def name_Make_b5 (again3 : Addr → Option Addr → Nat → Nat → Int → Int → IMem → SH → Prop) (R : Value → IMem → SH → Prop) (out_4 : Addr) (l_6 : ByteArray) (x7 : Option Addr) (x7n : Nat) (x7c : Nat) (x8 : Int) (x9 : Int) (I : IMem) (S : SH) : Prop :=
  bcase (decide ((l_6.size : Int) < (1 : Int)))
    (name_Make_b6 again3 R out_4 l_6 x7 x7n x7c x8 x9 true I S)
    (bcase (decide ((l_6.size : Int) > (63 : Int)))
      (name_Make_b6 again3 R out_4 l_6 x7 x7n x7c x8 x9 true I S)
      (Runs Tryz.prog 55 #[.pointer (some out_4)] I S fun v I1 S1 => ∃ x22, v = .int .i64 x22 ∧
      name_Make_b6 again3 R out_4 l_6 x7 x7n x7c x8 x9 (decide ((IntKind.wrap .i64 ((IntKind.wrap .i64 (x22 + (1 : Int))) + (l_6.size : Int))) > (254 : Int))) I1 S1))
def name_Make_b4 (again3 : Addr → Option Addr → Nat → Nat → Int → Int → IMem → SH → Prop) (R : Value → IMem → SH → Prop) (out_4 : Addr) (x7 : Option Addr) (x7n : Nat) (x7c : Nat) (x8 : Int) (x9 : Int) (I : IMem) (S : SH) : Prop :=
  ptrP x7 fun x11 => (0 : Int) ≤ x9 ∧ x9 < (x7n : Int) ∧
  ∃ x12, Cell I S (x11.add (x9.toNat * 1)) (.string x12) ∧
  name_Make_b5 again3 R out_4 x12 x7 x7n x7c x8 x9 I S
def name_Make_b9 (R : Value → IMem → SH → Prop) (out_4 : Addr) (I : IMem) (S : SH) : Prop :=
  Runs Tryz.prog 59 #[.pointer (some out_4)] I S fun v I1 S1 => ∃ x37, v = .string x37 ∧
  R (.tuple #[.string x37, .bool true]) I1 S1
def name_Make_l3 (again3 : Addr → Option Addr → Nat → Nat → Int → Int → IMem → SH → Prop) (R : Value → IMem → SH → Prop) (out_4 : Addr) (x7 : Option Addr) (x7n : Nat) (x7c : Nat) (x8 : Int) (x9 : Int) (I : IMem) (S : SH) : Prop :=
  bcase (decide (x9 < x8))
    (name_Make_b4 again3 R out_4 x7 x7n x7c x8 x9 I S)
    (name_Make_b9 R out_4 I S)
def name_Make_b2 (R : Value → IMem → SH → Prop) (out_4 : Addr) (x7 : Option Addr) (x7n : Nat) (x7c : Nat) (x8 : Int) (x9 : Int) (I : IMem) (S : SH) : Prop :=
  ∃ (Inv : Nat → Addr → Option Addr → Nat → Nat → Int → Int → IMem → SH → Prop) (m : Nat), Inv m out_4 x7 x7n x7c x8 x9 I S ∧
    ∀ (m : Nat) (out_4 : Addr) (x7 : Option Addr) (x7n : Nat) (x7c : Nat) (x8 : Int) (x9 : Int) (J : IMem) (T : SH), I.le J → Inv m out_4 x7 x7n x7c x8 x9 J T →
      name_Make_l3 (fun out_4 x7 x7n x7c x8 x9 I S => ∃ m', m' < m ∧ Inv m' out_4 x7 x7n x7c x8 x9 I S) R out_4 x7 x7n x7c x8 x9 J T
def name_Make_b1 (R : Value → IMem → SH → Prop) (labels_0 : Option Addr) (labels_0n : Nat) (labels_0c : Nat) (out_4 : Addr) (I : IMem) (S : SH) : Prop :=
  name_Make_b2 R out_4 labels_0 labels_0n labels_0c (labels_0n : Int) 0 I S
def name_Make (R : Value → IMem → SH → Prop) (labels_0 : Option Addr) (labels_0n : Nat) (labels_0c : Nat) (I : IMem) (S : SH) : Prop :=
  ∀ b4 : Nat,
  name_Make_b1 R labels_0 labels_0n labels_0c ⟨b4, 0, none⟩ I ((b4, .cells #[.pointer none, .slice none 0 0] 113 (0, 0)) :: S)
theorem name_Make_fn (R : Value → IMem → SH → Prop) (labels_0 : Option Addr) (labels_0n : Nat) (labels_0c : Nat) (I : IMem) (S : SH) (h : name_Make R labels_0 labels_0n labels_0c I S) :
    Runs Tryz.prog 43 #[.slice labels_0 labels_0n labels_0c] I S R := by
  refine Runs.of_wp (args := [.slice labels_0 labels_0n labels_0c]) (c := name_Make_code) Tryz.func43 (by kernel_rfl) (by kernel_rfl) ?_
  refine WP.cut 2 (fun l I S => asSl (l 0) fun labels_0 labels_0n labels_0c => asAdr (l 4) fun out_4 => name_Make_b1 R labels_0 labels_0n labels_0c out_4 I S) (cast (by kernel_rfl) h) ?_
  clear h
  intro l I S _ h
  obtain ⟨labels_0, labels_0n, labels_0c, e0, h⟩ := asSl_e h
  obtain ⟨out_4, e4, h⟩ := asAdr_e h
  rw [upd_eta e0, upd_eta e4]
  refine WP.seqY (by kernel_rfl) (fun l I S => asAdr (l 4) fun out_4 => name_Make_b9 R out_4 I S) ?_ ?_
  ·
    refine WP.cut 1 (fun l I S => asAdr (l 4) fun out_4 => asSl (l 7) fun x7 x7n x7c => asI .i64 (l 8) fun x8 => asI .i64 (l 9) fun x9 => name_Make_b2 R out_4 x7 x7n x7c x8 x9 I S) (cast (by kernel_rfl) h) ?_
    clear h
    intro l I S _ h
    obtain ⟨out_4, e4, h⟩ := asAdr_e h
    obtain ⟨x7, x7n, x7c, e7, h⟩ := asSl_e h
    obtain ⟨x8, e8, h⟩ := asI_e h
    obtain ⟨x9, e9, h⟩ := asI_e h
    rw [upd_eta e4, upd_eta e7, upd_eta e8, upd_eta e9]
    refine WP.block' (by kernel_rfl) ?_
    obtain ⟨Inv_again3, m_again3, h0, hr⟩ := h
    refine WP.loop' (by kernel_rfl) (fun m_again3 => fun l I S => asAdr (l 4) fun out_4 => asSl (l 7) fun x7 x7n x7c => asI .i64 (l 8) fun x8 => asI .i64 (l 9) fun x9 => Inv_again3 m_again3 out_4 x7 x7n x7c x8 x9 I S) m_again3 (cast (by kernel_rfl) h0) ?_
    clear h0
    intro m_again3 l I S hle h
    obtain ⟨out_4, e4, h⟩ := asAdr_e h
    obtain ⟨x7, x7n, x7c, e7, h⟩ := asSl_e h
    obtain ⟨x8, e8, h⟩ := asI_e h
    obtain ⟨x9, e9, h⟩ := asI_e h
    rw [upd_eta e4, upd_eta e7, upd_eta e8, upd_eta e9]
    have h := hr m_again3 out_4 x7 x7n x7c x8 x9 I S hle h
    clear hr hle
    refine WP.cut 2 (fun l I S => asAdr (l 4) fun out_4 => asSl (l 7) fun x7 x7n x7c => asI .i64 (l 8) fun x8 => asI .i64 (l 9) fun x9 => name_Make_b4 (fun out_4 x7 x7n x7c x8 x9 I S => ∃ m', m' < m_again3 ∧ Inv_again3 m' out_4 x7 x7n x7c x8 x9 I S) R out_4 x7 x7n x7c x8 x9 I S) (cast (by kernel_rfl) h) ?_
    clear h
    intro l I S _ h
    obtain ⟨out_4, e4, h⟩ := asAdr_e h
    obtain ⟨x7, x7n, x7c, e7, h⟩ := asSl_e h
    obtain ⟨x8, e8, h⟩ := asI_e h
    obtain ⟨x9, e9, h⟩ := asI_e h
    rw [upd_eta e4, upd_eta e7, upd_eta e8, upd_eta e9]
    refine WP.seqY (by kernel_rfl) (fun l I S => asAdr (l 4) fun out_4 => asSl (l 7) fun x7 x7n x7c => asI .i64 (l 8) fun x8 => asI .i64 (l 9) fun x9 => name_Make_b8 (fun out_4 x7 x7n x7c x8 x9 I S => ∃ m', m' < m_again3 ∧ Inv_again3 m' out_4 x7 x7n x7c x8 x9 I S) R out_4 x7 x7n x7c x8 x9 I S) ?_ ?_
    ·
      refine WP.block' (by kernel_rfl) ?_
      refine WP.cut 1 (fun l I S => asAdr (l 4) fun out_4 => asStr (l 6) fun l_6 => asSl (l 7) fun x7 x7n x7c => asI .i64 (l 8) fun x8 => asI .i64 (l 9) fun x9 => name_Make_b5 (fun out_4 x7 x7n x7c x8 x9 I S => ∃ m', m' < m_again3 ∧ Inv_again3 m' out_4 x7 x7n x7c x8 x9 I S) R out_4 l_6 x7 x7n x7c x8 x9 I S) (cast (by kernel_rfl) h) ?_
      clear h
      intro l I S _ h
      obtain ⟨out_4, e4, h⟩ := asAdr_e h
      obtain ⟨l_6, e6, h⟩ := asStr_e h
      obtain ⟨x7, x7n, x7c, e7, h⟩ := asSl_e h
      obtain ⟨x8, e8, h⟩ := asI_e h
      obtain ⟨x9, e9, h⟩ := asI_e h
      rw [upd_eta e4, upd_eta e6, upd_eta e7, upd_eta e8, upd_eta e9]
      refine WP.seqY (by kernel_rfl) (fun l I S => asAdr (l 4) fun out_4 => asStr (l 6) fun l_6 => asSl (l 7) fun x7 x7n x7c => asI .i64 (l 8) fun x8 => asI .i64 (l 9) fun x9 => name_Make_b7 (fun out_4 x7 x7n x7c x8 x9 I S => ∃ m', m' < m_again3 ∧ Inv_again3 m' out_4 x7 x7n x7c x8 x9 I S) R out_4 l_6 x7 x7n x7c x8 x9 I S) ?_ ?_
      ·
        refine WP.cut 1 (fun l I S => asAdr (l 4) fun out_4 => asStr (l 6) fun l_6 => asSl (l 7) fun x7 x7n x7c => asI .i64 (l 8) fun x8 => asI .i64 (l 9) fun x9 => asB (l 28) fun x28 => name_Make_b6 (fun out_4 x7 x7n x7c x8 x9 I S => ∃ m', m' < m_again3 ∧ Inv_again3 m' out_4 x7 x7n x7c x8 x9 I S) R out_4 l_6 x7 x7n x7c x8 x9 x28 I S) (cast (by kernel_rfl) h) ?_
        clear h
        intro l I S _ h
        obtain ⟨out_4, e4, h⟩ := asAdr_e h
        obtain ⟨l_6, e6, h⟩ := asStr_e h
        obtain ⟨x7, x7n, x7c, e7, h⟩ := asSl_e h
        obtain ⟨x8, e8, h⟩ := asI_e h
        obtain ⟨x9, e9, h⟩ := asI_e h
        obtain ⟨x28, e28, h⟩ := asB_e h
        rw [upd_eta e4, upd_eta e6, upd_eta e7, upd_eta e8, upd_eta e9, upd_eta e28]
        exact Pre.sound _ _ _ _ _ (cast (by kernel_rfl) h)
      · clear h
        intro l I S _ h
        obtain ⟨out_4, e4, h⟩ := asAdr_e h
        obtain ⟨l_6, e6, h⟩ := asStr_e h
        obtain ⟨x7, x7n, x7c, e7, h⟩ := asSl_e h
        obtain ⟨x8, e8, h⟩ := asI_e h
        obtain ⟨x9, e9, h⟩ := asI_e h
        rw [upd_eta e4, upd_eta e6, upd_eta e7, upd_eta e8, upd_eta e9]
        exact Pre.sound _ _ _ _ _ (cast (by kernel_rfl) h)
    · clear h
      intro l I S _ h
      obtain ⟨out_4, e4, h⟩ := asAdr_e h
      obtain ⟨x7, x7n, x7c, e7, h⟩ := asSl_e h
      obtain ⟨x8, e8, h⟩ := asI_e h
      obtain ⟨x9, e9, h⟩ := asI_e h
      rw [upd_eta e4, upd_eta e7, upd_eta e8, upd_eta e9]
      exact Pre.sound _ _ _ _ _ (cast (by kernel_rfl) h)
  · clear h
    intro l I S _ h
    obtain ⟨out_4, e4, h⟩ := asAdr_e h
    rw [upd_eta e4]
    exact Pre.sound _ _ _ _ _ (cast (by kernel_rfl) h)
/-! ### bolterlaw02_Words: function 44, bolter/bolterlaw02.Words -/
noncomputable def bolterlaw02_Words_code : Code := (Tryz.f44.body).getD .skip
def bolterlaw02_Words_b4 (R : Value → IMem → SH → Prop) (out_3 : Option Addr) (out_3n : Nat) (out_3c : Nat) (I : IMem) (S : SH) : Prop :=
  R (.slice out_3 out_3n out_3c) I S
def bolterlaw02_Words_l3 (again3 : Option Addr → Nat → Nat → Option Addr → Nat → Nat → Int → Int → IMem → SH → Prop) (R : Value → IMem → SH → Prop) (out_3 : Option Addr) (out_3n : Nat) (out_3c : Nat) (x7 : Option Addr) (x7n : Nat) (x7c : Nat) (x8 : Int) (x9 : Int) (I : IMem) (S : SH) : Prop :=
  bcase (decide (x9 < x8))
    (ptrP x7 fun x12 => (0 : Int) ≤ x9 ∧ x9 < (x7n : Int) ∧
    ∃ x13, Cell I S (x12.add (x9.toNat * 1)) (.int .u8 x13) ∧
    bcase (x9 == (12 : Int))
      (bolterlaw02_Words_b4 R out_3 out_3n out_3c I S)
      (∀ b16 : Nat,
      ptrP (some ⟨b16, 0, none⟩) fun x21 => (0 : Int) ≤ (x13.tmod (8 : Int)) ∧ (x13.tmod (8 : Int)) < (8 : Int) ∧
      ∃ x22, Cell I ((b16, .cells #[.string ⟨#[97]⟩, .string ⟨#[98]⟩, .string ⟨#[99]⟩, .string ⟨#[119, 119, 119]⟩, .string ⟨#[101, 120]⟩, .string ⟨#[111, 114, 103]⟩, .string ⟨#[42]⟩, .string ⟨#[114, 112, 122, 45, 105, 112]⟩] 9 (0, 0)) :: S) (x21.add ((x13.tmod (8 : Int)).toNat * 1)) (.string x22) ∧
      ∀ b23 : Nat,
      AppG 9 1 16 [.string ⟨#[]⟩] (some (.slice 9)) I ((b23, .cells #[.string x22] 9 (0, 0)) :: ((b16, .cells #[.string ⟨#[97]⟩, .string ⟨#[98]⟩, .string ⟨#[99]⟩, .string ⟨#[119, 119, 119]⟩, .string ⟨#[101, 120]⟩, .string ⟨#[111, 114, 103]⟩, .string ⟨#[42]⟩, .string ⟨#[114, 112, 122, 45, 105, 112]⟩] 9 (0, 0)) :: S)) (.slice out_3 out_3n out_3c) (.slice (some ⟨b23, 0, none⟩) 1 1) fun x24 x24n x24c S1 =>
      again3 x24 x24n x24c x7 x7n x7c x8 (IntKind.wrap .i64 (x9 + (1 : Int))) I S1))
    (bolterlaw02_Words_b4 R out_3 out_3n out_3c I S)
def bolterlaw02_Words_b2 (R : Value → IMem → SH → Prop) (out_3 : Option Addr) (out_3n : Nat) (out_3c : Nat) (x7 : Option Addr) (x7n : Nat) (x7c : Nat) (x8 : Int) (x9 : Int) (I : IMem) (S : SH) : Prop :=
  ∃ (Inv : Nat → Option Addr → Nat → Nat → Option Addr → Nat → Nat → Int → Int → IMem → SH → Prop) (m : Nat), Inv m out_3 out_3n out_3c x7 x7n x7c x8 x9 I S ∧
    ∀ (m : Nat) (out_3 : Option Addr) (out_3n : Nat) (out_3c : Nat) (x7 : Option Addr) (x7n : Nat) (x7c : Nat) (x8 : Int) (x9 : Int) (J : IMem) (T : SH), I.le J → Inv m out_3 out_3n out_3c x7 x7n x7c x8 x9 J T →
      bolterlaw02_Words_l3 (fun out_3 out_3n out_3c x7 x7n x7c x8 x9 I S => ∃ m', m' < m ∧ Inv m' out_3 out_3n out_3c x7 x7n x7c x8 x9 I S) R out_3 out_3n out_3c x7 x7n x7c x8 x9 J T
def bolterlaw02_Words_b1 (R : Value → IMem → SH → Prop) (ns_0 : Option Addr) (ns_0n : Nat) (ns_0c : Nat) (out_3 : Option Addr) (out_3n : Nat) (out_3c : Nat) (I : IMem) (S : SH) : Prop :=
  bolterlaw02_Words_b2 R out_3 out_3n out_3c ns_0 ns_0n ns_0c (ns_0n : Int) 0 I S
def bolterlaw02_Words (R : Value → IMem → SH → Prop) (ns_0 : Option Addr) (ns_0n : Nat) (ns_0c : Nat) (I : IMem) (S : SH) : Prop :=
  bolterlaw02_Words_b1 R ns_0 ns_0n ns_0c none 0 0 I S
theorem bolterlaw02_Words_fn (R : Value → IMem → SH → Prop) (ns_0 : Option Addr) (ns_0n : Nat) (ns_0c : Nat) (I : IMem) (S : SH) (h : bolterlaw02_Words R ns_0 ns_0n ns_0c I S) :
    Runs Tryz.prog 44 #[.slice ns_0 ns_0n ns_0c] I S R := by
  refine Runs.of_wp (args := [.slice ns_0 ns_0n ns_0c]) (c := bolterlaw02_Words_code) Tryz.func44 (by kernel_rfl) (by kernel_rfl) ?_
  refine WP.cut 2 (fun l I S => asSl (l 0) fun ns_0 ns_0n ns_0c => asSl (l 3) fun out_3 out_3n out_3c => bolterlaw02_Words_b1 R ns_0 ns_0n ns_0c out_3 out_3n out_3c I S) (cast (by kernel_rfl) h) ?_
  clear h
  intro l I S _ h
  obtain ⟨ns_0, ns_0n, ns_0c, e0, h⟩ := asSl_e h
  obtain ⟨out_3, out_3n, out_3c, e3, h⟩ := asSl_e h
  rw [upd_eta e0, upd_eta e3]
  refine WP.seqY (by kernel_rfl) (fun l I S => asSl (l 3) fun out_3 out_3n out_3c => bolterlaw02_Words_b4 R out_3 out_3n out_3c I S) ?_ ?_
  ·
    refine WP.cut 1 (fun l I S => asSl (l 3) fun out_3 out_3n out_3c => asSl (l 7) fun x7 x7n x7c => asI .i64 (l 8) fun x8 => asI .i64 (l 9) fun x9 => bolterlaw02_Words_b2 R out_3 out_3n out_3c x7 x7n x7c x8 x9 I S) (cast (by kernel_rfl) h) ?_
    clear h
    intro l I S _ h
    obtain ⟨out_3, out_3n, out_3c, e3, h⟩ := asSl_e h
    obtain ⟨x7, x7n, x7c, e7, h⟩ := asSl_e h
    obtain ⟨x8, e8, h⟩ := asI_e h
    obtain ⟨x9, e9, h⟩ := asI_e h
    rw [upd_eta e3, upd_eta e7, upd_eta e8, upd_eta e9]
    refine WP.block' (by kernel_rfl) ?_
    obtain ⟨Inv_again3, m_again3, h0, hr⟩ := h
    refine WP.loop' (by kernel_rfl) (fun m_again3 => fun l I S => asSl (l 3) fun out_3 out_3n out_3c => asSl (l 7) fun x7 x7n x7c => asI .i64 (l 8) fun x8 => asI .i64 (l 9) fun x9 => Inv_again3 m_again3 out_3 out_3n out_3c x7 x7n x7c x8 x9 I S) m_again3 (cast (by kernel_rfl) h0) ?_
    clear h0
    intro m_again3 l I S hle h
    obtain ⟨out_3, out_3n, out_3c, e3, h⟩ := asSl_e h
    obtain ⟨x7, x7n, x7c, e7, h⟩ := asSl_e h
    obtain ⟨x8, e8, h⟩ := asI_e h
    obtain ⟨x9, e9, h⟩ := asI_e h
    rw [upd_eta e3, upd_eta e7, upd_eta e8, upd_eta e9]
    have h := hr m_again3 out_3 out_3n out_3c x7 x7n x7c x8 x9 I S hle h
    clear hr hle
    exact Pre.sound _ _ _ _ _ (cast (by kernel_rfl) h)
  · clear h
    intro l I S _ h
    obtain ⟨out_3, out_3n, out_3c, e3, h⟩ := asSl_e h
    rw [upd_eta e3]
    exact Pre.sound _ _ _ _ _ (cast (by kernel_rfl) h)
/-! ### name_May: function 71, bolter/name.May -/
noncomputable def name_May_code : Code := (Tryz.f71.body).getD .skip
def name_May (R : Value → IMem → SH → Prop) (n_0 : ByteArray) (I : IMem) (S : SH) : Prop :=
  Runs Tryz.prog 90 #[.string n_0] I S fun v I1 S1 => ∃ x7_0 x7_0n x7_0c x7_1, v = .tuple #[.slice x7_0 x7_0n x7_0c, .bool x7_1] ∧
  R (.bool x7_1) I1 S1
theorem name_May_fn (R : Value → IMem → SH → Prop) (n_0 : ByteArray) (I : IMem) (S : SH) (h : name_May R n_0 I S) :
    Runs Tryz.prog 71 #[.string n_0] I S R := by
  refine Runs.of_wp (args := [.string n_0]) (c := name_May_code) Tryz.func71 (by kernel_rfl) (by kernel_rfl) ?_
  exact Pre.sound _ _ _ _ _ (cast (by kernel_rfl) h)
/-! ### rdata_May: function 93, bolter/rdata.May -/
noncomputable def rdata_May_code : Code := (Tryz.f93.body).getD .skip
def rdata_May_b8 (R : Value → IMem → SH → Prop) (x4 : Bool) (I : IMem) (S : SH) : Prop :=
  R (.bool x4) I S
def rdata_May_b9 (R : Value → IMem → SH → Prop) (d_1 : ByteArray) (I : IMem) (S : SH) : Prop :=
  R (.bool (decide ((d_1.size : Int) ≤ (512 : Int)))) I S
def rdata_May_b7 (R : Value → IMem → SH → Prop) (d_1 : ByteArray) (x35 : Bool) (I : IMem) (S : SH) : Prop :=
  bcase x35
    (Runs Tryz.prog 113 #[.string d_1] I S fun v I1 S1 => ∃ x38, v = .bool x38 ∧
    bcase x38
      (rdata_May_b8 R (decide ((d_1.size : Int) ≤ (512 : Int))) I1 S1)
      (rdata_May_b8 R false I1 S1))
    (rdata_May_b9 R d_1 I S)
def rdata_May_b6 (R : Value → IMem → SH → Prop) (d_1 : ByteArray) (x9 : Int) (x25 : Bool) (I : IMem) (S : SH) : Prop :=
  bcase x25
    (Runs Tryz.prog 112 #[.string d_1] I S fun v I1 S1 => ∃ x29_0 x29_1 x29_2 x29_3, v = .tuple #[.string x29_0, .string x29_1, .string x29_2, .bool x29_3] ∧
    R (.bool x29_3) I1 S1)
    (rdata_May_b7 R d_1 (x9 == (16 : Int)) I S)
def rdata_May_b5 (R : Value → IMem → SH → Prop) (d_1 : ByteArray) (x9 : Int) (x20 : Bool) (I : IMem) (S : SH) : Prop :=
  bcase x20
    (Runs Tryz.prog 71 #[.string d_1] I S fun v I1 S1 => ∃ x24, v = .bool x24 ∧
    R (.bool x24) I1 S1)
    (rdata_May_b6 R d_1 x9 (x9 == (6 : Int)) I S)
def rdata_May_b4 (R : Value → IMem → SH → Prop) (d_1 : ByteArray) (x9 : Int) (x15 : Bool) (I : IMem) (S : SH) : Prop :=
  bcase x15
    (R (.bool ((d_1.size : Int) == (16 : Int))) I S)
    (bcase (x9 == (2 : Int))
      (rdata_May_b5 R d_1 x9 (x9 == (2 : Int)) I S)
      (rdata_May_b5 R d_1 x9 (x9 == (5 : Int)) I S))
def rdata_May_b3 (R : Value → IMem → SH → Prop) (d_1 : ByteArray) (x9 : Int) (x10 : Bool) (I : IMem) (S : SH) : Prop :=
  bcase x10
    (R (.bool ((d_1.size : Int) == (4 : Int))) I S)
    (rdata_May_b4 R d_1 x9 (x9 == (28 : Int)) I S)
def rdata_May_b2 (R : Value → IMem → SH → Prop) (d_1 : ByteArray) (x9 : Int) (I : IMem) (S : SH) : Prop :=
  rdata_May_b3 R d_1 x9 (x9 == (1 : Int)) I S
def rdata_May_b1 (R : Value → IMem → SH → Prop) (t_0 : Int) (d_1 : ByteArray) (I : IMem) (S : SH) : Prop :=
  rdata_May_b2 R d_1 t_0 I S
def rdata_May (R : Value → IMem → SH → Prop) (t_0 : Int) (d_1 : ByteArray) (I : IMem) (S : SH) : Prop :=
  rdata_May_b1 R t_0 d_1 I S
theorem rdata_May_fn (R : Value → IMem → SH → Prop) (t_0 : Int) (d_1 : ByteArray) (I : IMem) (S : SH) (h : rdata_May R t_0 d_1 I S) :
    Runs Tryz.prog 93 #[.int .u16 t_0, .string d_1] I S R := by
  refine Runs.of_wp (args := [.int .u16 t_0, .string d_1]) (c := rdata_May_code) Tryz.func93 (by kernel_rfl) (by kernel_rfl) ?_
  refine WP.cut 1 (fun l I S => asI .u16 (l 0) fun t_0 => asStr (l 1) fun d_1 => rdata_May_b1 R t_0 d_1 I S) (cast (by kernel_rfl) h) ?_
  clear h
  intro l I S _ h
  obtain ⟨t_0, e0, h⟩ := asI_e h
  obtain ⟨d_1, e1, h⟩ := asStr_e h
  rw [upd_eta e0, upd_eta e1]
  refine WP.seqY (by kernel_rfl) (fun l I S => asStr (l 1) fun d_1 => rdata_May_b9 R d_1 I S) ?_ ?_
  ·
    refine WP.cut 1 (fun l I S => asStr (l 1) fun d_1 => asI .u16 (l 9) fun x9 => rdata_May_b2 R d_1 x9 I S) (cast (by kernel_rfl) h) ?_
    clear h
    intro l I S _ h
    obtain ⟨d_1, e1, h⟩ := asStr_e h
    obtain ⟨x9, e9, h⟩ := asI_e h
    rw [upd_eta e1, upd_eta e9]
    refine WP.block' (by kernel_rfl) ?_
    refine WP.cut 1 (fun l I S => asStr (l 1) fun d_1 => asI .u16 (l 9) fun x9 => asB (l 10) fun x10 => rdata_May_b3 R d_1 x9 x10 I S) (cast (by kernel_rfl) h) ?_
    clear h
    intro l I S _ h
    obtain ⟨d_1, e1, h⟩ := asStr_e h
    obtain ⟨x9, e9, h⟩ := asI_e h
    obtain ⟨x10, e10, h⟩ := asB_e h
    rw [upd_eta e1, upd_eta e9, upd_eta e10]
    refine WP.cond' (by kernel_rfl) (by kernel_rfl) h ?_ ?_
    · clear h
      intro h
      exact Pre.sound _ _ _ _ _ (cast (by kernel_rfl) h)
    · clear h
      intro h
      refine WP.cut 1 (fun l I S => asStr (l 1) fun d_1 => asI .u16 (l 9) fun x9 => asB (l 15) fun x15 => rdata_May_b4 R d_1 x9 x15 I S) (cast (by kernel_rfl) h) ?_
      clear h
      intro l I S _ h
      obtain ⟨d_1, e1, h⟩ := asStr_e h
      obtain ⟨x9, e9, h⟩ := asI_e h
      obtain ⟨x15, e15, h⟩ := asB_e h
      rw [upd_eta e1, upd_eta e9, upd_eta e15]
      refine WP.cond' (by kernel_rfl) (by kernel_rfl) h ?_ ?_
      · clear h
        intro h
        exact Pre.sound _ _ _ _ _ (cast (by kernel_rfl) h)
      · clear h
        intro h
        refine WP.cut 1 (fun l I S => asStr (l 1) fun d_1 => asI .u16 (l 9) fun x9 => asB (l 20) fun x20 => rdata_May_b5 R d_1 x9 x20 I S) (cast (by kernel_rfl) h) ?_
        clear h
        intro l I S _ h
        obtain ⟨d_1, e1, h⟩ := asStr_e h
        obtain ⟨x9, e9, h⟩ := asI_e h
        obtain ⟨x20, e20, h⟩ := asB_e h
        rw [upd_eta e1, upd_eta e9, upd_eta e20]
        refine WP.cond' (by kernel_rfl) (by kernel_rfl) h ?_ ?_
        · clear h
          intro h
          exact Pre.sound _ _ _ _ _ (cast (by kernel_rfl) h)
        · clear h
          intro h
          refine WP.cut 1 (fun l I S => asStr (l 1) fun d_1 => asI .u16 (l 9) fun x9 => asB (l 25) fun x25 => rdata_May_b6 R d_1 x9 x25 I S) (cast (by kernel_rfl) h) ?_
          clear h
          intro l I S _ h
          obtain ⟨d_1, e1, h⟩ := asStr_e h
          obtain ⟨x9, e9, h⟩ := asI_e h
          obtain ⟨x25, e25, h⟩ := asB_e h
          rw [upd_eta e1, upd_eta e9, upd_eta e25]
          refine WP.cond' (by kernel_rfl) (by kernel_rfl) h ?_ ?_
          · clear h
            intro h
            exact Pre.sound _ _ _ _ _ (cast (by kernel_rfl) h)
          · clear h
            intro h
            refine WP.cut 1 (fun l I S => asStr (l 1) fun d_1 => asB (l 35) fun x35 => rdata_May_b7 R d_1 x35 I S) (cast (by kernel_rfl) h) ?_
            clear h
            intro l I S _ h
            obtain ⟨d_1, e1, h⟩ := asStr_e h
            obtain ⟨x35, e35, h⟩ := asB_e h
            rw [upd_eta e1, upd_eta e35]
            refine WP.cond' (by kernel_rfl) (by kernel_rfl) h ?_ ?_
            · clear h
              intro h
              refine WP.cut 1 (fun l I S => asB (l 4) fun x4 => rdata_May_b8 R x4 I S) (cast (by kernel_rfl) h) ?_
              clear h
              intro l I S _ h
              obtain ⟨x4, e4, h⟩ := asB_e h
              rw [upd_eta e4]
              exact Pre.sound _ _ _ _ _ (cast (by kernel_rfl) h)
            · clear h
              intro h
              exact Pre.sound _ _ _ _ _ (cast (by kernel_rfl) h)
  · clear h
    intro l I S _ h
    obtain ⟨d_1, e1, h⟩ := asStr_e h
    rw [upd_eta e1]
    exact Pre.sound _ _ _ _ _ (cast (by kernel_rfl) h)
/-! ### name_Parent: function 94, bolter/name.Parent -/
noncomputable def name_Parent_code : Code := (Tryz.f94.body).getD .skip
def name_Parent_b3 (R : Value → IMem → SH → Prop) (n_0 : ByteArray) (I : IMem) (S : SH) : Prop :=
  ∃ cx14 : UInt8, (0 : Int) ≤ (0 : Int) ∧ n_0[(0 : Int).toNat]? = some cx14 ∧
  (0 : Int) ≤ (IntKind.wrap .i64 ((1 : Int) + (IntKind.wrap .i64 (cx14.toNat : Int)))) ∧ (IntKind.wrap .i64 ((1 : Int) + (IntKind.wrap .i64 (cx14.toNat : Int)))) ≤ ((n_0.size : Nat) : Int) ∧
  R (.tuple #[.string (n_0.extract ((IntKind.wrap .i64 ((1 : Int) + (IntKind.wrap .i64 (cx14.toNat : Int)))).toNat) n_0.size), .bool true]) I S
def name_Parent_b2 (R : Value → IMem → SH → Prop) (n_0 : ByteArray) (x11 : Bool) (I : IMem) (S : SH) : Prop :=
  bcase x11
    (R (.tuple #[.string ⟨#[]⟩, .bool false]) I S)
    (name_Parent_b3 R n_0 I S)
def name_Parent_b1 (R : Value → IMem → SH → Prop) (n_0 : ByteArray) (I : IMem) (S : SH) : Prop :=
  bcase ((n_0.size : Int) == (0 : Int))
    (name_Parent_b2 R n_0 true I S)
    (Runs Tryz.prog 71 #[.string n_0] I S fun v I1 S1 => ∃ x9, v = .bool x9 ∧
    name_Parent_b2 R n_0 (!x9) I1 S1)
def name_Parent (R : Value → IMem → SH → Prop) (n_0 : ByteArray) (I : IMem) (S : SH) : Prop :=
  name_Parent_b1 R n_0 I S
theorem name_Parent_fn (R : Value → IMem → SH → Prop) (n_0 : ByteArray) (I : IMem) (S : SH) (h : name_Parent R n_0 I S) :
    Runs Tryz.prog 94 #[.string n_0] I S R := by
  refine Runs.of_wp (args := [.string n_0]) (c := name_Parent_code) Tryz.func94 (by kernel_rfl) (by kernel_rfl) ?_
  refine WP.cut 1 (fun l I S => asStr (l 0) fun n_0 => name_Parent_b1 R n_0 I S) (cast (by kernel_rfl) h) ?_
  clear h
  intro l I S _ h
  obtain ⟨n_0, e0, h⟩ := asStr_e h
  rw [upd_eta e0]
  refine WP.seqY (by kernel_rfl) (fun l I S => asStr (l 0) fun n_0 => name_Parent_b3 R n_0 I S) ?_ ?_
  ·
    refine WP.cut 1 (fun l I S => asStr (l 0) fun n_0 => asB (l 11) fun x11 => name_Parent_b2 R n_0 x11 I S) (cast (by kernel_rfl) h) ?_
    clear h
    intro l I S _ h
    obtain ⟨n_0, e0, h⟩ := asStr_e h
    obtain ⟨x11, e11, h⟩ := asB_e h
    rw [upd_eta e0, upd_eta e11]
    exact Pre.sound _ _ _ _ _ (cast (by kernel_rfl) h)
  · clear h
    intro l I S _ h
    obtain ⟨n_0, e0, h⟩ := asStr_e h
    rw [upd_eta e0]
    exact Pre.sound _ _ _ _ _ (cast (by kernel_rfl) h)
/-! ### strings_Builder_Len: function 55, (*strings.Builder).Len -/
noncomputable def strings_Builder_Len_code : Code := (Tryz.f55.body).getD .skip
def strings_Builder_Len (R : Value → IMem → SH → Prop) (b_0 : Option Addr) (I : IMem) (S : SH) : Prop :=
  ptrP b_0 fun x4 =>
  ∃ x6 x6n x6c, Cell I S (x4.add 1) (.slice x6 x6n x6c) ∧
  R (.int .i64 (x6n : Int)) I S
theorem strings_Builder_Len_fn (R : Value → IMem → SH → Prop) (b_0 : Option Addr) (I : IMem) (S : SH) (h : strings_Builder_Len R b_0 I S) :
    Runs Tryz.prog 55 #[.pointer b_0] I S R := by
  refine Runs.of_wp (args := [.pointer b_0]) (c := strings_Builder_Len_code) Tryz.func55 (by kernel_rfl) (by kernel_rfl) ?_
  exact Pre.sound _ _ _ _ _ (cast (by kernel_rfl) h)
/-! ### strings_Builder_WriteByte: function 56, (*strings.Builder).WriteByte -/
noncomputable def strings_Builder_WriteByte_code : Code := (Tryz.f56.body).getD .skip
def strings_Builder_WriteByte (R : Value → IMem → SH → Prop) (b_0 : Option Addr) (c_1 : Int) (I : IMem) (S : SH) : Prop :=
  Runs Tryz.prog 74 #[.pointer b_0] I S fun v I1 S1 => v = .tuple #[] ∧
  ptrP b_0 fun x9 =>
  ∃ x11 x11n x11c, Cell I1 S1 (x9.add 1) (.slice x11 x11n x11c) ∧
  ∀ b13 : Nat,
  AppG 5 1 1 [.int .u8 0] (some (.slice 5)) I1 ((b13, .cells #[.int .u8 c_1] 5 (0, 0)) :: S1) (.slice x11 x11n x11c) (.slice (some ⟨b13, 0, none⟩) 1 1) fun x14 x14n x14c S1' =>
  ptrP b_0 fun x15 =>
  StP S1' (x15.add 1) [.slice x14 x14n x14c] fun S1'' =>
  R .nilIface I1 S1''
theorem strings_Builder_WriteByte_fn (R : Value → IMem → SH → Prop) (b_0 : Option Addr) (c_1 : Int) (I : IMem) (S : SH) (h : strings_Builder_WriteByte R b_0 c_1 I S) :
    Runs Tryz.prog 56 #[.pointer b_0, .int .u8 c_1] I S R := by
  refine Runs.of_wp (args := [.pointer b_0, .int .u8 c_1]) (c := strings_Builder_WriteByte_code) Tryz.func56 (by kernel_rfl) (by kernel_rfl) ?_
  exact Pre.sound _ _ _ _ _ (cast (by kernel_rfl) h)
/-! ### strings_Builder_WriteString: function 57, (*strings.Builder).WriteString -/
noncomputable def strings_Builder_WriteString_code : Code := (Tryz.f57.body).getD .skip
def strings_Builder_WriteString (R : Value → IMem → SH → Prop) (b_0 : Option Addr) (s_1 : ByteArray) (I : IMem) (S : SH) : Prop :=
  Runs Tryz.prog 74 #[.pointer b_0] I S fun v I1 S1 => v = .tuple #[] ∧
  ptrP b_0 fun x10 =>
  ∃ x12 x12n x12c, Cell I1 S1 (x10.add 1) (.slice x12 x12n x12c) ∧
  AppG 5 1 1 [.int .u8 0] (some .string) I1 S1 (.slice x12 x12n x12c) (.string s_1) fun x14 x14n x14c S1' =>
  ptrP b_0 fun x15 =>
  StP S1' (x15.add 1) [.slice x14 x14n x14c] fun S1'' =>
  R (.tuple #[.int .i64 (s_1.size : Int), .nilIface]) I1 S1''
theorem strings_Builder_WriteString_fn (R : Value → IMem → SH → Prop) (b_0 : Option Addr) (s_1 : ByteArray) (I : IMem) (S : SH) (h : strings_Builder_WriteString R b_0 s_1 I S) :
    Runs Tryz.prog 57 #[.pointer b_0, .string s_1] I S R := by
  refine Runs.of_wp (args := [.pointer b_0, .string s_1]) (c := strings_Builder_WriteString_code) Tryz.func57 (by kernel_rfl) (by kernel_rfl) ?_
  exact Pre.sound _ _ _ _ _ (cast (by kernel_rfl) h)
/-! ### name_folded: function 58, bolter/name.folded -/
noncomputable def name_folded_code : Code := (Tryz.f58.body).getD .skip
def name_folded_b4 (R : Value → IMem → SH → Prop) (b_3 : Option Addr) (b_3n : Nat) (b_3c : Nat) (I : IMem) (S : SH) : Prop :=
  ∃ x22 : ByteArray, BytesAt I S b_3 b_3n x22 ∧
  R (.string x22) I S
def name_folded_l3 (again3 : Option Addr → Nat → Nat → Option Addr → Nat → Nat → Int → Int → IMem → SH → Prop) (R : Value → IMem → SH → Prop) (b_3 : Option Addr) (b_3n : Nat) (b_3c : Nat) (x8 : Option Addr) (x8n : Nat) (x8c : Nat) (x9 : Int) (x10 : Int) (I : IMem) (S : SH) : Prop :=
  bcase (decide (x10 < x9))
    (ptrP x8 fun x13 => (0 : Int) ≤ x10 ∧ x10 < (x8n : Int) ∧
    ∃ x14, Cell I S (x13.add (x10.toNat * 1)) (.int .u8 x14) ∧
    Runs Tryz.prog 75 #[.int .u8 x14] I S fun v I1 S1 => ∃ x18, v = .int .u8 x18 ∧
    ptrP b_3 fun x19 => (0 : Int) ≤ x10 ∧ x10 < (b_3n : Int) ∧
    StP S1 (x19.add (x10.toNat * 1)) [.int .u8 x18] fun S1' =>
    again3 b_3 b_3n b_3c x8 x8n x8c x9 (IntKind.wrap .i64 (x10 + (1 : Int))) I1 S1')
    (name_folded_b4 R b_3 b_3n b_3c I S)
def name_folded_b2 (R : Value → IMem → SH → Prop) (b_3 : Option Addr) (b_3n : Nat) (b_3c : Nat) (x8 : Option Addr) (x8n : Nat) (x8c : Nat) (x9 : Int) (x10 : Int) (I : IMem) (S : SH) : Prop :=
  ∃ (Inv : Nat → Option Addr → Nat → Nat → Option Addr → Nat → Nat → Int → Int → IMem → SH → Prop) (m : Nat), Inv m b_3 b_3n b_3c x8 x8n x8c x9 x10 I S ∧
    ∀ (m : Nat) (b_3 : Option Addr) (b_3n : Nat) (b_3c : Nat) (x8 : Option Addr) (x8n : Nat) (x8c : Nat) (x9 : Int) (x10 : Int) (J : IMem) (T : SH), I.le J → Inv m b_3 b_3n b_3c x8 x8n x8c x9 x10 J T →
      name_folded_l3 (fun b_3 b_3n b_3c x8 x8n x8c x9 x10 I S => ∃ m', m' < m ∧ Inv m' b_3 b_3n b_3c x8 x8n x8c x9 x10 I S) R b_3 b_3n b_3c x8 x8n x8c x9 x10 J T
def name_folded_b1 (R : Value → IMem → SH → Prop) (b_3 : Option Addr) (b_3n : Nat) (b_3c : Nat) (I : IMem) (S : SH) : Prop :=
  name_folded_b2 R b_3 b_3n b_3c b_3 b_3n b_3c (b_3n : Int) 0 I S
def name_folded (R : Value → IMem → SH → Prop) (s_0 : ByteArray) (I : IMem) (S : SH) : Prop :=
  s_0.size ≤ maxLen ∧ ∀ b7 c7 : Nat, s_0.size ≤ c7 → c7 ≤ maxLen →
  name_folded_b1 R (some ⟨b7, 0, none⟩) s_0.size c7 I ((b7, .cells (byteCells s_0 ++ repV (c7 - s_0.size) [.int .u8 0]).toArray 5 (c7, c7 + 1)) :: S)
theorem name_folded_fn (R : Value → IMem → SH → Prop) (s_0 : ByteArray) (I : IMem) (S : SH) (h : name_folded R s_0 I S) :
    Runs Tryz.prog 58 #[.string s_0] I S R := by
  refine Runs.of_wp (args := [.string s_0]) (c := name_folded_code) Tryz.func58 (by kernel_rfl) (by kernel_rfl) ?_
  refine WP.cut 2 (fun l I S => asSl (l 3) fun b_3 b_3n b_3c => name_folded_b1 R b_3 b_3n b_3c I S) (cast (by kernel_rfl) h) ?_
  clear h
  intro l I S _ h
  obtain ⟨b_3, b_3n, b_3c, e3, h⟩ := asSl_e h
  rw [upd_eta e3]
  refine WP.seqY (by kernel_rfl) (fun l I S => asSl (l 3) fun b_3 b_3n b_3c => name_folded_b4 R b_3 b_3n b_3c I S) ?_ ?_
  ·
    refine WP.cut 1 (fun l I S => asSl (l 3) fun b_3 b_3n b_3c => asSl (l 8) fun x8 x8n x8c => asI .i64 (l 9) fun x9 => asI .i64 (l 10) fun x10 => name_folded_b2 R b_3 b_3n b_3c x8 x8n x8c x9 x10 I S) (cast (by kernel_rfl) h) ?_
    clear h
    intro l I S _ h
    obtain ⟨b_3, b_3n, b_3c, e3, h⟩ := asSl_e h
    obtain ⟨x8, x8n, x8c, e8, h⟩ := asSl_e h
    obtain ⟨x9, e9, h⟩ := asI_e h
    obtain ⟨x10, e10, h⟩ := asI_e h
    rw [upd_eta e3, upd_eta e8, upd_eta e9, upd_eta e10]
    refine WP.block' (by kernel_rfl) ?_
    obtain ⟨Inv_again3, m_again3, h0, hr⟩ := h
    refine WP.loop' (by kernel_rfl) (fun m_again3 => fun l I S => asSl (l 3) fun b_3 b_3n b_3c => asSl (l 8) fun x8 x8n x8c => asI .i64 (l 9) fun x9 => asI .i64 (l 10) fun x10 => Inv_again3 m_again3 b_3 b_3n b_3c x8 x8n x8c x9 x10 I S) m_again3 (cast (by kernel_rfl) h0) ?_
    clear h0
    intro m_again3 l I S hle h
    obtain ⟨b_3, b_3n, b_3c, e3, h⟩ := asSl_e h
    obtain ⟨x8, x8n, x8c, e8, h⟩ := asSl_e h
    obtain ⟨x9, e9, h⟩ := asI_e h
    obtain ⟨x10, e10, h⟩ := asI_e h
    rw [upd_eta e3, upd_eta e8, upd_eta e9, upd_eta e10]
    have h := hr m_again3 b_3 b_3n b_3c x8 x8n x8c x9 x10 I S hle h
    clear hr hle
    exact Pre.sound _ _ _ _ _ (cast (by kernel_rfl) h)
  · clear h
    intro l I S _ h
    obtain ⟨b_3, b_3n, b_3c, e3, h⟩ := asSl_e h
    rw [upd_eta e3]
    exact Pre.sound _ _ _ _ _ (cast (by kernel_rfl) h)
/-! ### strings_Builder_String: function 59, (*strings.Builder).String -/
noncomputable def strings_Builder_String_code : Code := (Tryz.f59.body).getD .skip
def strings_Builder_String_b2 (R : Value → IMem → SH → Prop) (x2 : ByteArray) (I : IMem) (S : SH) : Prop :=
  R (.string x2) I S
def strings_Builder_String_b1 (R : Value → IMem → SH → Prop) (b_0 : Option Addr) (I : IMem) (S : SH) : Prop :=
  ptrP b_0 fun x4 =>
  ∃ x6 x6n x6c, Cell I S (x4.add 1) (.slice x6 x6n x6c) ∧
  ((x6 : Option Addr).isSome = true → x6c ≠ 0) ∧
  ptrP b_0 fun x9 =>
  ∃ x11 x11n x11c, Cell I S (x9.add 1) (.slice x11 x11n x11c) ∧
  UsP Tryz.prog 5 I S x6 (x11n : Int) fun x13 S1 =>
  strings_Builder_String_b2 R x13 I S1
def strings_Builder_String (R : Value → IMem → SH → Prop) (b_0 : Option Addr) (I : IMem) (S : SH) : Prop :=
  strings_Builder_String_b1 R b_0 I S
theorem strings_Builder_String_fn (R : Value → IMem → SH → Prop) (b_0 : Option Addr) (I : IMem) (S : SH) (h : strings_Builder_String R b_0 I S) :
    Runs Tryz.prog 59 #[.pointer b_0] I S R := by
  refine Runs.of_wp (args := [.pointer b_0]) (c := strings_Builder_String_code) Tryz.func59 (by kernel_rfl) (by kernel_rfl) ?_
  refine WP.cut 1 (fun l I S => asPtr (l 0) fun b_0 => strings_Builder_String_b1 R b_0 I S) (cast (by kernel_rfl) h) ?_
  clear h
  intro l I S _ h
  obtain ⟨b_0, e0, h⟩ := asPtr_e h
  rw [upd_eta e0]
  refine WP.seqY (by kernel_rfl) (fun l I S => asStr (l 2) fun x2 => strings_Builder_String_b2 R x2 I S) ?_ ?_
  ·
    exact WP.draw' (.take 0 (.take 1 (.take 2 (.take 3 (.take 4 (.take 5 (.take 6 (.take 7 (.take 8 (.take 9 (.step 10 (.take 11 .done)))))))))))) [10] (by kernel_rfl) (by kernel_rfl) (by kernel_rfl) (by kernel_rfl) (by kernel_rfl) (cast (by kernel_rfl) h)
  · clear h
    intro l I S _ h
    obtain ⟨x2, e2, h⟩ := asStr_e h
    rw [upd_eta e2]
    exact Pre.sound _ _ _ _ _ (cast (by kernel_rfl) h)
/-! ### name_Labels: function 90, bolter/name.Labels -/
noncomputable def name_Labels_code : Code := (Tryz.f90.body).getD .skip
def name_Labels_b8 (again4 : Option Addr → Nat → Nat → ByteArray → IMem → SH → Prop) (R : Value → IMem → SH → Prop) (out_4 : Option Addr) (out_4n : Nat) (out_4c : Nat) (s_5 : ByteArray) (k_6 : Int) (I : IMem) (S : SH) : Prop :=
  (0 : Int) ≤ (IntKind.wrap .i64 ((1 : Int) + k_6)) ∧ (IntKind.wrap .i64 ((1 : Int) + k_6)) ≤ ((s_5.size : Nat) : Int) ∧
  (0 : Int) ≤ (1 : Int) ∧ (1 : Int) ≤ (((IntKind.wrap .i64 ((1 : Int) + k_6)).toNat : Nat) : Int) ∧
  ∀ b40 : Nat,
  AppG 9 1 16 [.string ⟨#[]⟩] (some (.slice 9)) I ((b40, .cells #[.string (s_5.extract ((1 : Int).toNat) ((IntKind.wrap .i64 ((1 : Int) + k_6)).toNat))] 9 (0, 0)) :: S) (.slice out_4 out_4n out_4c) (.slice (some ⟨b40, 0, none⟩) 1 1) fun x41 x41n x41c S1 =>
  (0 : Int) ≤ (IntKind.wrap .i64 ((1 : Int) + k_6)) ∧ (IntKind.wrap .i64 ((1 : Int) + k_6)) ≤ ((s_5.size : Nat) : Int) ∧
  again4 x41 x41n x41c (s_5.extract ((IntKind.wrap .i64 ((1 : Int) + k_6)).toNat) s_5.size) I S1
def name_Labels_b7 (again4 : Option Addr → Nat → Nat → ByteArray → IMem → SH → Prop) (R : Value → IMem → SH → Prop) (out_4 : Option Addr) (out_4n : Nat) (out_4c : Nat) (s_5 : ByteArray) (k_6 : Int) (x34 : Bool) (I : IMem) (S : SH) : Prop :=
  bcase x34
    (R (.tuple #[.slice none 0 0, .bool false]) I S)
    (name_Labels_b8 again4 R out_4 out_4n out_4c s_5 k_6 I S)
def name_Labels_b6 (again4 : Option Addr → Nat → Nat → ByteArray → IMem → SH → Prop) (R : Value → IMem → SH → Prop) (out_4 : Option Addr) (out_4n : Nat) (out_4c : Nat) (s_5 : ByteArray) (k_6 : Int) (I : IMem) (S : SH) : Prop :=
  bcase (decide (k_6 < (1 : Int)))
    (name_Labels_b7 again4 R out_4 out_4n out_4c s_5 k_6 true I S)
    (bcase (decide (k_6 > (63 : Int)))
      (name_Labels_b7 again4 R out_4 out_4n out_4c s_5 k_6 true I S)
      (name_Labels_b7 again4 R out_4 out_4n out_4c s_5 k_6 (decide (k_6 ≥ (s_5.size : Int))) I S))
def name_Labels_b5 (again4 : Option Addr → Nat → Nat → ByteArray → IMem → SH → Prop) (R : Value → IMem → SH → Prop) (out_4 : Option Addr) (out_4n : Nat) (out_4c : Nat) (s_5 : ByteArray) (I : IMem) (S : SH) : Prop :=
  ∃ cx21 : UInt8, (0 : Int) ≤ (0 : Int) ∧ s_5[(0 : Int).toNat]? = some cx21 ∧
  name_Labels_b6 again4 R out_4 out_4n out_4c s_5 (IntKind.wrap .i64 (cx21.toNat : Int)) I S
def name_Labels_b9 (R : Value → IMem → SH → Prop) (out_4 : Option Addr) (out_4n : Nat) (out_4c : Nat) (I : IMem) (S : SH) : Prop :=
  R (.tuple #[.slice out_4 out_4n out_4c, .bool true]) I S
def name_Labels_l4 (again4 : Option Addr → Nat → Nat → ByteArray → IMem → SH → Prop) (R : Value → IMem → SH → Prop) (out_4 : Option Addr) (out_4n : Nat) (out_4c : Nat) (s_5 : ByteArray) (I : IMem) (S : SH) : Prop :=
  bcase (decide ((s_5.size : Int) > (0 : Int)))
    (name_Labels_b5 again4 R out_4 out_4n out_4c s_5 I S)
    (name_Labels_b9 R out_4 out_4n out_4c I S)
def name_Labels_b3 (R : Value → IMem → SH → Prop) (out_4 : Option Addr) (out_4n : Nat) (out_4c : Nat) (s_5 : ByteArray) (I : IMem) (S : SH) : Prop :=
  ∃ (Inv : Nat → Option Addr → Nat → Nat → ByteArray → IMem → SH → Prop) (m : Nat), Inv m out_4 out_4n out_4c s_5 I S ∧
    ∀ (m : Nat) (out_4 : Option Addr) (out_4n : Nat) (out_4c : Nat) (s_5 : ByteArray) (J : IMem) (T : SH), I.le J → Inv m out_4 out_4n out_4c s_5 J T →
      name_Labels_l4 (fun out_4 out_4n out_4c s_5 I S => ∃ m', m' < m ∧ Inv m' out_4 out_4n out_4c s_5 I S) R out_4 out_4n out_4c s_5 J T
def name_Labels_b2 (R : Value → IMem → SH → Prop) (out_4 : Option Addr) (out_4n : Nat) (out_4c : Nat) (s_5 : ByteArray) (x16 : Bool) (I : IMem) (S : SH) : Prop :=
  bcase x16
    (R (.tuple #[.slice none 0 0, .bool false]) I S)
    (name_Labels_b3 R out_4 out_4n out_4c s_5 I S)
def name_Labels_b1 (R : Value → IMem → SH → Prop) (out_4 : Option Addr) (out_4n : Nat) (out_4c : Nat) (s_5 : ByteArray) (I : IMem) (S : SH) : Prop :=
  bcase (decide ((s_5.size : Int) > (254 : Int)))
    (name_Labels_b2 R out_4 out_4n out_4c s_5 true I S)
    (Runs Tryz.prog 58 #[.string s_5] I S fun v I1 S1 => ∃ x14, v = .string x14 ∧
    name_Labels_b2 R out_4 out_4n out_4c s_5 (!(s_5.toList == x14.toList)) I1 S1)
def name_Labels (R : Value → IMem → SH → Prop) (n_0 : ByteArray) (I : IMem) (S : SH) : Prop :=
  name_Labels_b1 R none 0 0 n_0 I S
theorem name_Labels_fn (R : Value → IMem → SH → Prop) (n_0 : ByteArray) (I : IMem) (S : SH) (h : name_Labels R n_0 I S) :
    Runs Tryz.prog 90 #[.string n_0] I S R := by
  refine Runs.of_wp (args := [.string n_0]) (c := name_Labels_code) Tryz.func90 (by kernel_rfl) (by kernel_rfl) ?_
  refine WP.cut 3 (fun l I S => asSl (l 4) fun out_4 out_4n out_4c => asStr (l 5) fun s_5 => name_Labels_b1 R out_4 out_4n out_4c s_5 I S) (cast (by kernel_rfl) h) ?_
  clear h
  intro l I S _ h
  obtain ⟨out_4, out_4n, out_4c, e4, h⟩ := asSl_e h
  obtain ⟨s_5, e5, h⟩ := asStr_e h
  rw [upd_eta e4, upd_eta e5]
  refine WP.seqY (by kernel_rfl) (fun l I S => asSl (l 4) fun out_4 out_4n out_4c => asStr (l 5) fun s_5 => name_Labels_b3 R out_4 out_4n out_4c s_5 I S) ?_ ?_
  ·
    refine WP.cut 1 (fun l I S => asSl (l 4) fun out_4 out_4n out_4c => asStr (l 5) fun s_5 => asB (l 16) fun x16 => name_Labels_b2 R out_4 out_4n out_4c s_5 x16 I S) (cast (by kernel_rfl) h) ?_
    clear h
    intro l I S _ h
    obtain ⟨out_4, out_4n, out_4c, e4, h⟩ := asSl_e h
    obtain ⟨s_5, e5, h⟩ := asStr_e h
    obtain ⟨x16, e16, h⟩ := asB_e h
    rw [upd_eta e4, upd_eta e5, upd_eta e16]
    exact Pre.sound _ _ _ _ _ (cast (by kernel_rfl) h)
  · clear h
    intro l I S _ h
    obtain ⟨out_4, out_4n, out_4c, e4, h⟩ := asSl_e h
    obtain ⟨s_5, e5, h⟩ := asStr_e h
    rw [upd_eta e4, upd_eta e5]
    refine WP.seqY (by kernel_rfl) (fun l I S => asSl (l 4) fun out_4 out_4n out_4c => name_Labels_b9 R out_4 out_4n out_4c I S) ?_ ?_
    ·
      refine WP.block' (by kernel_rfl) ?_
      obtain ⟨Inv_again4, m_again4, h0, hr⟩ := h
      refine WP.loop' (by kernel_rfl) (fun m_again4 => fun l I S => asSl (l 4) fun out_4 out_4n out_4c => asStr (l 5) fun s_5 => Inv_again4 m_again4 out_4 out_4n out_4c s_5 I S) m_again4 (cast (by kernel_rfl) h0) ?_
      clear h0
      intro m_again4 l I S hle h
      obtain ⟨out_4, out_4n, out_4c, e4, h⟩ := asSl_e h
      obtain ⟨s_5, e5, h⟩ := asStr_e h
      rw [upd_eta e4, upd_eta e5]
      have h := hr m_again4 out_4 out_4n out_4c s_5 I S hle h
      clear hr hle
      refine WP.cut 1 (fun l I S => asSl (l 4) fun out_4 out_4n out_4c => asStr (l 5) fun s_5 => name_Labels_b5 (fun out_4 out_4n out_4c s_5 I S => ∃ m', m' < m_again4 ∧ Inv_again4 m' out_4 out_4n out_4c s_5 I S) R out_4 out_4n out_4c s_5 I S) (cast (by kernel_rfl) h) ?_
      clear h
      intro l I S _ h
      obtain ⟨out_4, out_4n, out_4c, e4, h⟩ := asSl_e h
      obtain ⟨s_5, e5, h⟩ := asStr_e h
      rw [upd_eta e4, upd_eta e5]
      refine WP.block' (by kernel_rfl) ?_
      refine WP.cut 1 (fun l I S => asSl (l 4) fun out_4 out_4n out_4c => asStr (l 5) fun s_5 => asI .i64 (l 6) fun k_6 => name_Labels_b6 (fun out_4 out_4n out_4c s_5 I S => ∃ m', m' < m_again4 ∧ Inv_again4 m' out_4 out_4n out_4c s_5 I S) R out_4 out_4n out_4c s_5 k_6 I S) (cast (by kernel_rfl) h) ?_
      clear h
      intro l I S _ h
      obtain ⟨out_4, out_4n, out_4c, e4, h⟩ := asSl_e h
      obtain ⟨s_5, e5, h⟩ := asStr_e h
      obtain ⟨k_6, e6, h⟩ := asI_e h
      rw [upd_eta e4, upd_eta e5, upd_eta e6]
      refine WP.seqY (by kernel_rfl) (fun l I S => asSl (l 4) fun out_4 out_4n out_4c => asStr (l 5) fun s_5 => asI .i64 (l 6) fun k_6 => name_Labels_b8 (fun out_4 out_4n out_4c s_5 I S => ∃ m', m' < m_again4 ∧ Inv_again4 m' out_4 out_4n out_4c s_5 I S) R out_4 out_4n out_4c s_5 k_6 I S) ?_ ?_
      ·
        refine WP.cut 1 (fun l I S => asSl (l 4) fun out_4 out_4n out_4c => asStr (l 5) fun s_5 => asI .i64 (l 6) fun k_6 => asB (l 34) fun x34 => name_Labels_b7 (fun out_4 out_4n out_4c s_5 I S => ∃ m', m' < m_again4 ∧ Inv_again4 m' out_4 out_4n out_4c s_5 I S) R out_4 out_4n out_4c s_5 k_6 x34 I S) (cast (by kernel_rfl) h) ?_
        clear h
        intro l I S _ h
        obtain ⟨out_4, out_4n, out_4c, e4, h⟩ := asSl_e h
        obtain ⟨s_5, e5, h⟩ := asStr_e h
        obtain ⟨k_6, e6, h⟩ := asI_e h
        obtain ⟨x34, e34, h⟩ := asB_e h
        rw [upd_eta e4, upd_eta e5, upd_eta e6, upd_eta e34]
        exact Pre.sound _ _ _ _ _ (cast (by kernel_rfl) h)
      · clear h
        intro l I S _ h
        obtain ⟨out_4, out_4n, out_4c, e4, h⟩ := asSl_e h
        obtain ⟨s_5, e5, h⟩ := asStr_e h
        obtain ⟨k_6, e6, h⟩ := asI_e h
        rw [upd_eta e4, upd_eta e5, upd_eta e6]
        exact Pre.sound _ _ _ _ _ (cast (by kernel_rfl) h)
    · clear h
      intro l I S _ h
      obtain ⟨out_4, out_4n, out_4c, e4, h⟩ := asSl_e h
      rw [upd_eta e4]
      exact Pre.sound _ _ _ _ _ (cast (by kernel_rfl) h)
/-! ### rdata_soa: function 112, bolter/rdata.soa -/
noncomputable def rdata_soa_code : Code := (Tryz.f112.body).getD .skip
def rdata_soa_b3 (R : Value → IMem → SH → Prop) (a_6 : ByteArray) (b_9 : ByteArray) (last_10 : ByteArray) (I : IMem) (S : SH) : Prop :=
  R (.tuple #[.string a_6, .string b_9, .string last_10, .bool true]) I S
def rdata_soa_b2 (R : Value → IMem → SH → Prop) (a_6 : ByteArray) (b_9 : ByteArray) (last_10 : ByteArray) (x34 : Bool) (I : IMem) (S : SH) : Prop :=
  bcase x34
    (R (.tuple #[.string ⟨#[]⟩, .string ⟨#[]⟩, .string ⟨#[]⟩, .bool false]) I S)
    (rdata_soa_b3 R a_6 b_9 last_10 I S)
def rdata_soa_b1 (R : Value → IMem → SH → Prop) (a_6 : ByteArray) (ok_8 : Bool) (b_9 : ByteArray) (last_10 : ByteArray) (is_11 : Bool) (I : IMem) (S : SH) : Prop :=
  bcase (!ok_8)
    (rdata_soa_b2 R a_6 b_9 last_10 true I S)
    (bcase (!is_11)
      (rdata_soa_b2 R a_6 b_9 last_10 true I S)
      (rdata_soa_b2 R a_6 b_9 last_10 ((last_10.size : Int) != (20 : Int)) I S))
def rdata_soa (R : Value → IMem → SH → Prop) (d_0 : ByteArray) (I : IMem) (S : SH) : Prop :=
  Runs Tryz.prog 72 #[.string d_0] I S fun v I1 S1 => ∃ x14_0 x14_1 x14_2, v = .tuple #[.string x14_0, .string x14_1, .bool x14_2] ∧
  Runs Tryz.prog 72 #[.string x14_1] I1 S1 fun v' I1' S1' => ∃ x20_0 x20_1 x20_2, v' = .tuple #[.string x20_0, .string x20_1, .bool x20_2] ∧
  rdata_soa_b1 R x14_0 x14_2 x20_0 x20_1 x20_2 I1' S1'
theorem rdata_soa_fn (R : Value → IMem → SH → Prop) (d_0 : ByteArray) (I : IMem) (S : SH) (h : rdata_soa R d_0 I S) :
    Runs Tryz.prog 112 #[.string d_0] I S R := by
  refine Runs.of_wp (args := [.string d_0]) (c := rdata_soa_code) Tryz.func112 (by kernel_rfl) (by kernel_rfl) ?_
  refine WP.cut 3 (fun l I S => asStr (l 6) fun a_6 => asB (l 8) fun ok_8 => asStr (l 9) fun b_9 => asStr (l 10) fun last_10 => asB (l 11) fun is_11 => rdata_soa_b1 R a_6 ok_8 b_9 last_10 is_11 I S) (cast (by kernel_rfl) h) ?_
  clear h
  intro l I S _ h
  obtain ⟨a_6, e6, h⟩ := asStr_e h
  obtain ⟨ok_8, e8, h⟩ := asB_e h
  obtain ⟨b_9, e9, h⟩ := asStr_e h
  obtain ⟨last_10, e10, h⟩ := asStr_e h
  obtain ⟨is_11, e11, h⟩ := asB_e h
  rw [upd_eta e6, upd_eta e8, upd_eta e9, upd_eta e10, upd_eta e11]
  refine WP.seqY (by kernel_rfl) (fun l I S => asStr (l 6) fun a_6 => asStr (l 9) fun b_9 => asStr (l 10) fun last_10 => rdata_soa_b3 R a_6 b_9 last_10 I S) ?_ ?_
  ·
    refine WP.cut 1 (fun l I S => asStr (l 6) fun a_6 => asStr (l 9) fun b_9 => asStr (l 10) fun last_10 => asB (l 34) fun x34 => rdata_soa_b2 R a_6 b_9 last_10 x34 I S) (cast (by kernel_rfl) h) ?_
    clear h
    intro l I S _ h
    obtain ⟨a_6, e6, h⟩ := asStr_e h
    obtain ⟨b_9, e9, h⟩ := asStr_e h
    obtain ⟨last_10, e10, h⟩ := asStr_e h
    obtain ⟨x34, e34, h⟩ := asB_e h
    rw [upd_eta e6, upd_eta e9, upd_eta e10, upd_eta e34]
    exact Pre.sound _ _ _ _ _ (cast (by kernel_rfl) h)
  · clear h
    intro l I S _ h
    obtain ⟨a_6, e6, h⟩ := asStr_e h
    obtain ⟨b_9, e9, h⟩ := asStr_e h
    obtain ⟨last_10, e10, h⟩ := asStr_e h
    rw [upd_eta e6, upd_eta e9, upd_eta e10]
    exact Pre.sound _ _ _ _ _ (cast (by kernel_rfl) h)
/-! ### rdata_texts: function 113, bolter/rdata.texts -/
noncomputable def rdata_texts_code : Code := (Tryz.f113.body).getD .skip
def rdata_texts_b4 (again2 : ByteArray → Int → IMem → SH → Prop) (R : Value → IMem → SH → Prop) (x2 : Bool) (I : IMem) (S : SH) : Prop :=
  R (.bool x2) I S
def rdata_texts_b5 (again2 : ByteArray → Int → IMem → SH → Prop) (R : Value → IMem → SH → Prop) (d_0 : ByteArray) (at_3 : Int) (I : IMem) (S : SH) : Prop :=
  ∃ cx19 : UInt8, (0 : Int) ≤ at_3 ∧ d_0[at_3.toNat]? = some cx19 ∧
  again2 d_0 (IntKind.wrap .i64 (at_3 + (IntKind.wrap .i64 ((1 : Int) + (IntKind.wrap .i64 (cx19.toNat : Int)))))) I S
def rdata_texts_b3 (again2 : ByteArray → Int → IMem → SH → Prop) (R : Value → IMem → SH → Prop) (d_0 : ByteArray) (at_3 : Int) (x7 : Bool) (I : IMem) (S : SH) : Prop :=
  bcase x7
    (bcase (at_3 == (d_0.size : Int))
      (rdata_texts_b4 again2 R (decide (at_3 > (0 : Int))) I S)
      (rdata_texts_b4 again2 R false I S))
    (rdata_texts_b5 again2 R d_0 at_3 I S)
def rdata_texts_l2 (again2 : ByteArray → Int → IMem → SH → Prop) (R : Value → IMem → SH → Prop) (d_0 : ByteArray) (at_3 : Int) (I : IMem) (S : SH) : Prop :=
  rdata_texts_b3 again2 R d_0 at_3 (decide (at_3 ≥ (d_0.size : Int))) I S
def rdata_texts_b1 (R : Value → IMem → SH → Prop) (d_0 : ByteArray) (at_3 : Int) (I : IMem) (S : SH) : Prop :=
  ∃ (Inv : Nat → ByteArray → Int → IMem → SH → Prop) (m : Nat), Inv m d_0 at_3 I S ∧
    ∀ (m : Nat) (d_0 : ByteArray) (at_3 : Int) (J : IMem) (T : SH), I.le J → Inv m d_0 at_3 J T →
      rdata_texts_l2 (fun d_0 at_3 I S => ∃ m', m' < m ∧ Inv m' d_0 at_3 I S) R d_0 at_3 J T
def rdata_texts (R : Value → IMem → SH → Prop) (d_0 : ByteArray) (I : IMem) (S : SH) : Prop :=
  rdata_texts_b1 R d_0 0 I S
theorem rdata_texts_fn (R : Value → IMem → SH → Prop) (d_0 : ByteArray) (I : IMem) (S : SH) (h : rdata_texts R d_0 I S) :
    Runs Tryz.prog 113 #[.string d_0] I S R := by
  refine Runs.of_wp (args := [.string d_0]) (c := rdata_texts_code) Tryz.func113 (by kernel_rfl) (by kernel_rfl) ?_
  refine WP.cut 2 (fun l I S => asStr (l 0) fun d_0 => asI .i64 (l 3) fun at_3 => rdata_texts_b1 R d_0 at_3 I S) (cast (by kernel_rfl) h) ?_
  clear h
  intro l I S _ h
  obtain ⟨d_0, e0, h⟩ := asStr_e h
  obtain ⟨at_3, e3, h⟩ := asI_e h
  rw [upd_eta e0, upd_eta e3]
  refine WP.block' (by kernel_rfl) ?_
  obtain ⟨Inv_again2, m_again2, h0, hr⟩ := h
  refine WP.loop' (by kernel_rfl) (fun m_again2 => fun l I S => asStr (l 0) fun d_0 => asI .i64 (l 3) fun at_3 => Inv_again2 m_again2 d_0 at_3 I S) m_again2 (cast (by kernel_rfl) h0) ?_
  clear h0
  intro m_again2 l I S hle h
  obtain ⟨d_0, e0, h⟩ := asStr_e h
  obtain ⟨at_3, e3, h⟩ := asI_e h
  rw [upd_eta e0, upd_eta e3]
  have h := hr m_again2 d_0 at_3 I S hle h
  clear hr hle
  refine WP.block' (by kernel_rfl) ?_
  refine WP.seqY (by kernel_rfl) (fun l I S => asStr (l 0) fun d_0 => asI .i64 (l 3) fun at_3 => rdata_texts_b5 (fun d_0 at_3 I S => ∃ m', m' < m_again2 ∧ Inv_again2 m' d_0 at_3 I S) R d_0 at_3 I S) ?_ ?_
  ·
    refine WP.cut 1 (fun l I S => asStr (l 0) fun d_0 => asI .i64 (l 3) fun at_3 => asB (l 7) fun x7 => rdata_texts_b3 (fun d_0 at_3 I S => ∃ m', m' < m_again2 ∧ Inv_again2 m' d_0 at_3 I S) R d_0 at_3 x7 I S) (cast (by kernel_rfl) h) ?_
    clear h
    intro l I S _ h
    obtain ⟨d_0, e0, h⟩ := asStr_e h
    obtain ⟨at_3, e3, h⟩ := asI_e h
    obtain ⟨x7, e7, h⟩ := asB_e h
    rw [upd_eta e0, upd_eta e3, upd_eta e7]
    refine WP.cond' (by kernel_rfl) (by kernel_rfl) h ?_ ?_
    · clear h
      intro h
      refine WP.cut 1 (fun l I S => asB (l 2) fun x2 => rdata_texts_b4 (fun d_0 at_3 I S => ∃ m', m' < m_again2 ∧ Inv_again2 m' d_0 at_3 I S) R x2 I S) (cast (by kernel_rfl) h) ?_
      clear h
      intro l I S _ h
      obtain ⟨x2, e2, h⟩ := asB_e h
      rw [upd_eta e2]
      exact Pre.sound _ _ _ _ _ (cast (by kernel_rfl) h)
    · clear h
      intro h
      exact Pre.sound _ _ _ _ _ (cast (by kernel_rfl) h)
  · clear h
    intro l I S _ h
    obtain ⟨d_0, e0, h⟩ := asStr_e h
    obtain ⟨at_3, e3, h⟩ := asI_e h
    rw [upd_eta e0, upd_eta e3]
    exact Pre.sound _ _ _ _ _ (cast (by kernel_rfl) h)
/-! ### strings_Builder_copyCheck: function 74, (*strings.Builder).copyCheck -/
noncomputable def strings_Builder_copyCheck_code : Code := (Tryz.f74.body).getD .skip
def strings_Builder_copyCheck (R : Value → IMem → SH → Prop) (b_0 : Addr) (I : IMem) (S : SH) : Prop :=
  ∃ x5, Cell I S b_0 (.pointer x5) ∧
  bcase ((x5 : Option Addr).isNone)
    (∃ csx9 ex9, BlkAt I S b_0.block csx9 ex9 ∧ b_0.off < csx9.size ∧
    RunsX Tryz.prog 92 #[.pointer (some b_0)] I S fun v I1 S1 => ∃ x10, v = .pointer x10 ∧
    ptrP x10 fun x11 => ∃ csx11 ex11, BlkAt I1 S1 x11.block csx11 ex11 ∧ liesAt Tryz.prog (Program.depth Tryz.prog) ex11 (csx11.size / Program.cellsOf Tryz.prog ex11) x11.off 113 1 = true ∧
    StP S1 b_0 [.pointer (some x11)] fun S1' =>
    R (.tuple #[]) I1 S1')
    (∃ x17, Cell I S b_0 (.pointer x17) ∧
    (x17 : Option Addr) = some b_0 ∧
    R (.tuple #[]) I S)
theorem strings_Builder_copyCheck_fn (R : Value → IMem → SH → Prop) (b_0 : Addr) (I : IMem) (S : SH) (h : strings_Builder_copyCheck R b_0 I S) :
    Runs Tryz.prog 74 #[.pointer (some b_0)] I S R := by
  refine Runs.of_wp (args := [.pointer (some b_0)]) (c := strings_Builder_copyCheck_code) Tryz.func74 (by kernel_rfl) (by kernel_rfl) ?_
  exact Pre.sound _ _ _ _ _ (cast (by kernel_rfl) h)
/-! ### name_Fold: function 75, bolter/name.Fold -/
noncomputable def name_Fold_code : Code := (Tryz.f75.body).getD .skip
def name_Fold_b3 (R : Value → IMem → SH → Prop) (c_0 : Int) (I : IMem) (S : SH) : Prop :=
  R (.int .u8 c_0) I S
def name_Fold_b2 (R : Value → IMem → SH → Prop) (c_0 : Int) (x8 : Bool) (I : IMem) (S : SH) : Prop :=
  bcase x8
    (R (.int .u8 (IntKind.wrap .u8 ((IntKind.wrap .u8 (c_0 + (97 : Int))) - (65 : Int)))) I S)
    (name_Fold_b3 R c_0 I S)
def name_Fold_b1 (R : Value → IMem → SH → Prop) (c_0 : Int) (I : IMem) (S : SH) : Prop :=
  bcase (decide (c_0 ≥ (65 : Int)))
    (name_Fold_b2 R c_0 (decide (c_0 ≤ (90 : Int))) I S)
    (name_Fold_b2 R c_0 false I S)
def name_Fold (R : Value → IMem → SH → Prop) (c_0 : Int) (I : IMem) (S : SH) : Prop :=
  name_Fold_b1 R c_0 I S
theorem name_Fold_fn (R : Value → IMem → SH → Prop) (c_0 : Int) (I : IMem) (S : SH) (h : name_Fold R c_0 I S) :
    Runs Tryz.prog 75 #[.int .u8 c_0] I S R := by
  refine Runs.of_wp (args := [.int .u8 c_0]) (c := name_Fold_code) Tryz.func75 (by kernel_rfl) (by kernel_rfl) ?_
  refine WP.cut 1 (fun l I S => asI .u8 (l 0) fun c_0 => name_Fold_b1 R c_0 I S) (cast (by kernel_rfl) h) ?_
  clear h
  intro l I S _ h
  obtain ⟨c_0, e0, h⟩ := asI_e h
  rw [upd_eta e0]
  refine WP.seqY (by kernel_rfl) (fun l I S => asI .u8 (l 0) fun c_0 => name_Fold_b3 R c_0 I S) ?_ ?_
  ·
    refine WP.cut 1 (fun l I S => asI .u8 (l 0) fun c_0 => asB (l 8) fun x8 => name_Fold_b2 R c_0 x8 I S) (cast (by kernel_rfl) h) ?_
    clear h
    intro l I S _ h
    obtain ⟨c_0, e0, h⟩ := asI_e h
    obtain ⟨x8, e8, h⟩ := asB_e h
    rw [upd_eta e0, upd_eta e8]
    exact Pre.sound _ _ _ _ _ (cast (by kernel_rfl) h)
  · clear h
    intro l I S _ h
    obtain ⟨c_0, e0, h⟩ := asI_e h
    rw [upd_eta e0]
    exact Pre.sound _ _ _ _ _ (cast (by kernel_rfl) h)
/-! ### point_Cut: function 72, bolter/point.Cut -/
noncomputable def point_Cut_code : Code := (Tryz.f72.body).getD .skip
def point_Cut_b7 (again3 : ByteArray → Int → IMem → SH → Prop) (R : Value → IMem → SH → Prop) (x2 : ByteArray) (x3 : ByteArray) (x4 : Bool) (I : IMem) (S : SH) : Prop :=
  R (.tuple #[.string x2, .string x3, .bool x4]) I S
def point_Cut_b6 (again3 : ByteArray → Int → IMem → SH → Prop) (R : Value → IMem → SH → Prop) (s_0 : ByteArray) (at_5 : Int) (n_6 : ByteArray) (I : IMem) (S : SH) : Prop :=
  (0 : Int) ≤ (IntKind.wrap .i64 (at_5 + (1 : Int))) ∧ (IntKind.wrap .i64 (at_5 + (1 : Int))) ≤ ((s_0.size : Nat) : Int) ∧
  point_Cut_b7 again3 R n_6 (s_0.extract ((IntKind.wrap .i64 (at_5 + (1 : Int))).toNat) s_0.size) true I S
def point_Cut_b8 (again3 : ByteArray → Int → IMem → SH → Prop) (R : Value → IMem → SH → Prop) (s_0 : ByteArray) (at_5 : Int) (I : IMem) (S : SH) : Prop :=
  ∃ cx14 : UInt8, (0 : Int) ≤ at_5 ∧ s_0[at_5.toNat]? = some cx14 ∧
  again3 s_0 (IntKind.wrap .i64 (at_5 + (IntKind.wrap .i64 ((1 : Int) + (IntKind.wrap .i64 (cx14.toNat : Int)))))) I S
def point_Cut_b5 (again3 : ByteArray → Int → IMem → SH → Prop) (R : Value → IMem → SH → Prop) (s_0 : ByteArray) (at_5 : Int) (x21 : Bool) (I : IMem) (S : SH) : Prop :=
  bcase x21
    ((0 : Int) ≤ at_5 ∧ at_5 ≤ ((s_0.size : Nat) : Int) ∧
    Runs Tryz.prog 71 #[.string (s_0.extract 0 at_5.toNat)] I S fun v I1 S1 => ∃ x26, v = .bool x26 ∧
    bcase (!x26)
      (R (.tuple #[.string ⟨#[]⟩, .string ⟨#[]⟩, .bool false]) I1 S1)
      (point_Cut_b6 again3 R s_0 at_5 (s_0.extract 0 at_5.toNat) I1 S1))
    (point_Cut_b8 again3 R s_0 at_5 I S)
def point_Cut_b4 (again3 : ByteArray → Int → IMem → SH → Prop) (R : Value → IMem → SH → Prop) (s_0 : ByteArray) (at_5 : Int) (I : IMem) (S : SH) : Prop :=
  ∃ cx20 : UInt8, (0 : Int) ≤ at_5 ∧ s_0[at_5.toNat]? = some cx20 ∧
  point_Cut_b5 again3 R s_0 at_5 ((cx20.toNat : Int) == (0 : Int)) I S
def point_Cut_b9 (R : Value → IMem → SH → Prop) (I : IMem) (S : SH) : Prop :=
  R (.tuple #[.string ⟨#[]⟩, .string ⟨#[]⟩, .bool false]) I S
def point_Cut_l3 (again3 : ByteArray → Int → IMem → SH → Prop) (R : Value → IMem → SH → Prop) (s_0 : ByteArray) (at_5 : Int) (I : IMem) (S : SH) : Prop :=
  bcase (decide (at_5 < (s_0.size : Int)))
    (point_Cut_b4 again3 R s_0 at_5 I S)
    (point_Cut_b9 R I S)
def point_Cut_b2 (R : Value → IMem → SH → Prop) (s_0 : ByteArray) (at_5 : Int) (I : IMem) (S : SH) : Prop :=
  ∃ (Inv : Nat → ByteArray → Int → IMem → SH → Prop) (m : Nat), Inv m s_0 at_5 I S ∧
    ∀ (m : Nat) (s_0 : ByteArray) (at_5 : Int) (J : IMem) (T : SH), I.le J → Inv m s_0 at_5 J T →
      point_Cut_l3 (fun s_0 at_5 I S => ∃ m', m' < m ∧ Inv m' s_0 at_5 I S) R s_0 at_5 J T
def point_Cut_b1 (R : Value → IMem → SH → Prop) (s_0 : ByteArray) (I : IMem) (S : SH) : Prop :=
  point_Cut_b2 R s_0 0 I S
def point_Cut (R : Value → IMem → SH → Prop) (s_0 : ByteArray) (I : IMem) (S : SH) : Prop :=
  point_Cut_b1 R s_0 I S
theorem point_Cut_fn (R : Value → IMem → SH → Prop) (s_0 : ByteArray) (I : IMem) (S : SH) (h : point_Cut R s_0 I S) :
    Runs Tryz.prog 72 #[.string s_0] I S R := by
  refine Runs.of_wp (args := [.string s_0]) (c := point_Cut_code) Tryz.func72 (by kernel_rfl) (by kernel_rfl) ?_
  refine WP.cut 1 (fun l I S => asStr (l 0) fun s_0 => point_Cut_b1 R s_0 I S) (cast (by kernel_rfl) h) ?_
  clear h
  intro l I S _ h
  obtain ⟨s_0, e0, h⟩ := asStr_e h
  rw [upd_eta e0]
  refine WP.seqY (by kernel_rfl) (fun l I S => point_Cut_b9 R I S) ?_ ?_
  ·
    refine WP.cut 1 (fun l I S => asStr (l 0) fun s_0 => asI .i64 (l 5) fun at_5 => point_Cut_b2 R s_0 at_5 I S) (cast (by kernel_rfl) h) ?_
    clear h
    intro l I S _ h
    obtain ⟨s_0, e0, h⟩ := asStr_e h
    obtain ⟨at_5, e5, h⟩ := asI_e h
    rw [upd_eta e0, upd_eta e5]
    refine WP.block' (by kernel_rfl) ?_
    obtain ⟨Inv_again3, m_again3, h0, hr⟩ := h
    refine WP.loop' (by kernel_rfl) (fun m_again3 => fun l I S => asStr (l 0) fun s_0 => asI .i64 (l 5) fun at_5 => Inv_again3 m_again3 s_0 at_5 I S) m_again3 (cast (by kernel_rfl) h0) ?_
    clear h0
    intro m_again3 l I S hle h
    obtain ⟨s_0, e0, h⟩ := asStr_e h
    obtain ⟨at_5, e5, h⟩ := asI_e h
    rw [upd_eta e0, upd_eta e5]
    have h := hr m_again3 s_0 at_5 I S hle h
    clear hr hle
    refine WP.cut 1 (fun l I S => asStr (l 0) fun s_0 => asI .i64 (l 5) fun at_5 => point_Cut_b4 (fun s_0 at_5 I S => ∃ m', m' < m_again3 ∧ Inv_again3 m' s_0 at_5 I S) R s_0 at_5 I S) (cast (by kernel_rfl) h) ?_
    clear h
    intro l I S _ h
    obtain ⟨s_0, e0, h⟩ := asStr_e h
    obtain ⟨at_5, e5, h⟩ := asI_e h
    rw [upd_eta e0, upd_eta e5]
    refine WP.seqY (by kernel_rfl) (fun l I S => asStr (l 0) fun s_0 => asI .i64 (l 5) fun at_5 => point_Cut_b8 (fun s_0 at_5 I S => ∃ m', m' < m_again3 ∧ Inv_again3 m' s_0 at_5 I S) R s_0 at_5 I S) ?_ ?_
    ·
      refine WP.block' (by kernel_rfl) ?_
      refine WP.cut 1 (fun l I S => asStr (l 0) fun s_0 => asI .i64 (l 5) fun at_5 => asB (l 21) fun x21 => point_Cut_b5 (fun s_0 at_5 I S => ∃ m', m' < m_again3 ∧ Inv_again3 m' s_0 at_5 I S) R s_0 at_5 x21 I S) (cast (by kernel_rfl) h) ?_
      clear h
      intro l I S _ h
      obtain ⟨s_0, e0, h⟩ := asStr_e h
      obtain ⟨at_5, e5, h⟩ := asI_e h
      obtain ⟨x21, e21, h⟩ := asB_e h
      rw [upd_eta e0, upd_eta e5, upd_eta e21]
      refine WP.cond' (by kernel_rfl) (by kernel_rfl) h ?_ ?_
      · clear h
        intro h
        refine WP.cut 2 (fun l I S => asStr (l 0) fun s_0 => asI .i64 (l 5) fun at_5 => asStr (l 6) fun n_6 => point_Cut_b6 (fun s_0 at_5 I S => ∃ m', m' < m_again3 ∧ Inv_again3 m' s_0 at_5 I S) R s_0 at_5 n_6 I S) (cast (by kernel_rfl) h) ?_
        clear h
        intro l I S _ h
        obtain ⟨s_0, e0, h⟩ := asStr_e h
        obtain ⟨at_5, e5, h⟩ := asI_e h
        obtain ⟨n_6, e6, h⟩ := asStr_e h
        rw [upd_eta e0, upd_eta e5, upd_eta e6]
        refine WP.seqY (by kernel_rfl) (fun l I S => asStr (l 2) fun x2 => asStr (l 3) fun x3 => asB (l 4) fun x4 => point_Cut_b7 (fun s_0 at_5 I S => ∃ m', m' < m_again3 ∧ Inv_again3 m' s_0 at_5 I S) R x2 x3 x4 I S) ?_ ?_
        ·
          exact WP.quiet' (by kernel_rfl) (by kernel_rfl) (by kernel_rfl) (cast (by kernel_rfl) h)
        · clear h
          intro l I S _ h
          obtain ⟨x2, e2, h⟩ := asStr_e h
          obtain ⟨x3, e3, h⟩ := asStr_e h
          obtain ⟨x4, e4, h⟩ := asB_e h
          rw [upd_eta e2, upd_eta e3, upd_eta e4]
          exact Pre.sound _ _ _ _ _ (cast (by kernel_rfl) h)
      · clear h
        intro h
        exact Pre.sound _ _ _ _ _ (cast (by kernel_rfl) h)
    · clear h
      intro l I S _ h
      obtain ⟨s_0, e0, h⟩ := asStr_e h
      obtain ⟨at_5, e5, h⟩ := asI_e h
      rw [upd_eta e0, upd_eta e5]
      exact Pre.sound _ _ _ _ _ (cast (by kernel_rfl) h)
  · clear h
    intro l I S _ h
    exact Pre.sound _ _ _ _ _ (cast (by kernel_rfl) h)
/-! ### slices_Reverse_api_Record: function 123, slices.Reverse[[]bolter/api.Record,bolter/api.Record] -/
/-! ### slices_rotateRight_api_Record: function 120, slices.rotateRight[bolter/api.Record] -/
end Go.Proofs.YthlkeokfmedjhaaGreat
/- Words for proofs over printed functions: what is owned among more, rows of structs, numbers in range. -/
namespace Go.Px
set_option linter.unusedVariables false

def Sub (L T : SH) : Prop := ∃ G, T.Perm (L ++ G)
theorem Sub.refl (L : SH) : Sub L L := ⟨[], by simp⟩
theorem Sub.cons {L T : SH} (h : Sub L T) (p : Nat × Obj) : Sub (p :: L) (p :: T) := let ⟨G, hp⟩ := h; ⟨G, hp.cons p⟩
theorem Sub.skip {L T : SH} (h : Sub L T) (p : Nat × Obj) : Sub L (p :: T) := let ⟨G, hp⟩ := h; ⟨p :: G, (hp.cons p).trans List.perm_middle.symm⟩
theorem Sub.perm {L L' T : SH} (h : Sub L T) (hp : L.Perm L') : Sub L' T := let ⟨G, hg⟩ := h; ⟨G, hg.trans (hp.append_right G)⟩
theorem Sub.trans {L M T : SH} (h : Sub L M) (g : Sub M T) : Sub L T := by
  obtain ⟨G, hp⟩ := h
  obtain ⟨G', hp'⟩ := g
  exact ⟨G ++ G', by rw [← List.append_assoc]; exact hp'.trans (hp.append_right G')⟩
theorem Sub.drop {p : Nat × Obj} {L T : SH} (h : Sub (p :: L) T) : Sub L T := let ⟨G, hp⟩ := h; ⟨p :: G, hp.trans List.perm_middle.symm⟩
theorem Sub.left {L M T : SH} (h : Sub (L ++ M) T) : Sub L T := let ⟨G, hp⟩ := h; ⟨M ++ G, by rw [← List.append_assoc]; exact hp⟩
theorem Sub.right {L M T : SH} (h : Sub (L ++ M) T) : Sub M T := Sub.left (h.perm List.perm_append_comm)
theorem Sub.keep {I J : IMem} {L T : SH} (hle : I.le J) (h : Sub L T) : Keep I L J T := let ⟨G, hp⟩ := h; ⟨hle, G, hp.trans List.perm_append_comm⟩
theorem Keep.sub {I J : IMem} {L T : SH} (h : Keep I L J T) : Sub L T := let ⟨_, G, hp⟩ := h; ⟨G, hp.trans List.perm_append_comm⟩
theorem Sub.sat {I : IMem} {L T : SH} {w : World} (h : Sub L T) (hw : Sat I T w) : Sat I L w := let ⟨G, hp⟩ := h; (hw.perm (hp.trans List.perm_append_comm)).drop
theorem Sub.cell {I J : IMem} {L T : SH} {a : Addr} {v : Value} (h : Sub L T) (hle : I.le J) (hc : Cell I L a v) : Cell J T a v := hc.mono (h.keep hle)
theorem Sub.cell' {I : IMem} {L T : SH} {a : Addr} {v : Value} (h : Sub L T) (hc : Cell I L a v) : Cell I T a v := h.cell (IMem.le.refl I) hc

theorem Runs.sub {P : Program} {f : FuncId} {args : Array Value} {I : IMem} {L T : SH} {R : Value → IMem → SH → Prop} (h : Sub L T) (hr : Runs P f args I L R) : Runs P f args I T R := fun w hw => hr w (h.sat hw)
/-- a call, from what is owned among more -/
theorem Runs.use {P : Program} {f : FuncId} {args : Array Value} {I : IMem} {L T : SH} {R R' : Value → IMem → SH → Prop} (hs : Sub L T) (h : Runs P f args I L R) (hr : ∀ v J T, I.le J → R v J T → R' v J T) : Runs P f args I T R' :=
  (h.mono hr).sub hs
/-- at the end one may forget what is owned besides -/
theorem Runs.drop {P : Program} {f : FuncId} {args : Array Value} {I : IMem} {S : SH} {R : Value → IMem → SH → Prop} (h : Runs P f args I S fun v J T => ∃ L, Sub L T ∧ R v J L) : Runs P f args I S R :=
  fun w hw => (h w hw).mono fun _ _ ⟨v, J, T, he, hle, hs, L, hsub, hR⟩ => ⟨v, J, L, he, hle, hsub.sat hs, hR⟩
theorem add_mk (b o k : Nat) : (⟨b, o, none⟩ : Addr).add k = ⟨b, o + k, none⟩ := by
  unfold Addr.add; split
  · rename_i h; subst h; rfl
  · rfl
theorem add_add (a : Addr) (h : a.spot = none) (i j : Nat) : (a.add i).add j = a.add (i + j) := by
  obtain ⟨b, o, s⟩ := a
  dsimp only at h; subst h
  rw [add_mk, add_mk, add_mk, Nat.add_assoc]

theorem Cell.at0 {I : IMem} {S : SH} {b o : Nat} {cs : Array Value} {e : TypeId} {fz : Nat × Nat} {v : Value} (h : cs[o]? = some v) : Cell I ((b, .cells cs e fz) :: S) ⟨b, o, none⟩ v :=
  ⟨rfl, cs, e, fz, .inr (List.mem_cons_self ..), h⟩
theorem Cell.tl {I : IMem} {S : SH} {a : Addr} {v : Value} {p : Nat × Obj} (h : Cell I S a v) : Cell I (p :: S) a v := by
  obtain ⟨hs, cs, e, fz, hb, hv⟩ := h
  exact ⟨hs, cs, e, fz, hb.imp id (List.mem_cons_of_mem p), hv⟩
theorem Cell.im {I : IMem} {S : SH} {b o : Nat} {cs : Array Value} {e : TypeId} {fz : Nat × Nat} {v : Value} (hb : I.at_ b = some (.cells cs e fz)) (h : cs[o]? = some v) : Cell I S ⟨b, o, none⟩ v :=
  ⟨rfl, cs, e, fz, .inl hb, h⟩
theorem Cell.le {I J : IMem} {S : SH} {a : Addr} {v : Value} (hle : I.le J) (h : Cell I S a v) : Cell J S a v := h.mono ⟨hle, [], List.Perm.refl _⟩

theorem StP.at0 {S : SH} {b o : Nat} {cs : Array Value} {e : TypeId} {vs : List Value} {K : SH → Prop} (hl : o + vs.length ≤ cs.size) (ho : vs.all one = true) (h : K ((b, .cells (setR cs o vs) e (0, 0)) :: S)) :
    StP ((b, .cells cs e (0, 0)) :: S) ⟨b, o, none⟩ vs K := ⟨0, cs, e, (0, 0), rfl, rfl, hl, .inl (Nat.le_refl _), ho, h⟩
theorem StP.tl {S : SH} {a : Addr} {vs : List Value} {K : SH → Prop} {p : Nat × Obj} (h : StP S a vs fun T => K (p :: T)) : StP (p :: S) a vs K :=
  let ⟨i, cs, e, fz, h1, h2, h3, h4, h5, h6⟩ := h; ⟨i + 1, cs, e, fz, h1, by simpa using h2, h3, h4, h5, by simpa using h6⟩
theorem StP.of_sub {L T : SH} {a : Addr} {vs : List Value} {K : SH → Prop} (hs : Sub L T) (h : StP L a vs fun L' => ∀ T', Sub L' T' → K T') : StP T a vs K := by
  obtain ⟨i, cs, e, fz, h1, h2, h3, h4, h5, h6⟩ := h
  obtain ⟨G, hp⟩ := hs
  have hm : (a.block, Obj.cells cs e fz) ∈ T := hp.mem_iff.2 (List.mem_append_left _ (List.mem_of_getElem? h2))
  obtain ⟨k, hk⟩ := List.getElem?_of_mem hm
  refine ⟨k, cs, e, fz, h1, hk, h3, h4, h5, h6 _ ⟨G, ?_⟩⟩
  -- both are the same list but for one entry
  have key : ∀ (A : SH) (i : Nat) (x y : Nat × Obj), A[i]? = some x → (y :: A).Perm (x :: A.set i y) := by
    intro A
    induction A with
    | nil => intro i x y h; simp at h
    | cons z A ih =>
      intro i x y h
      cases i with
      | zero => simp at h; subst h; exact List.Perm.swap ..
      | succ i =>
        simp at h
        have := ih i x y h
        exact (List.Perm.swap z y A).trans ((this.cons z).trans (List.Perm.swap x z _))
  have k1 := key T k _ (a.block, Obj.cells (setR cs a.off vs) e fz) hk
  have k2 := key L i _ (a.block, Obj.cells (setR cs a.off vs) e fz) h2
  have k3 : ((a.block, Obj.cells cs e fz) :: T.set k (a.block, Obj.cells (setR cs a.off vs) e fz)).Perm ((a.block, Obj.cells cs e fz) :: (L.set i (a.block, Obj.cells (setR cs a.off vs) e fz) ++ G)) :=
    k1.symm.trans ((hp.cons _).trans (k2.append_right G))
  exact List.Perm.cons_inv k3

/-! ### numbers in range -/
theorem wrap_i64 {x : Int} (h1 : -9223372036854775808 ≤ x) (h2 : x ≤ 9223372036854775807) : IntKind.wrap .i64 x = x := by
  simp only [IntKind.wrap, IntKind.bits, IntKind.signed]; simp; omega
theorem wrap_u8 {x : Int} (h1 : 0 ≤ x) (h2 : x ≤ 255) : IntKind.wrap .u8 x = x := by
  simp only [IntKind.wrap, IntKind.bits, IntKind.signed]; simp; omega
theorem wrap_u64 {x : Int} (h1 : 0 ≤ x) (h2 : x ≤ 18446744073709551615) : IntKind.wrap .u64 x = x := by
  simp only [IntKind.wrap, IntKind.bits, IntKind.signed]; simp; omega
theorem wrap_u8_eq (x : Int) : IntKind.wrap .u8 x = x % 256 := by simp [IntKind.wrap, IntKind.bits, IntKind.signed]
/-! ### rows of structs -/
section
variable {α : Type} {enc : α → List Value} {sz : Nat}
def rowA (enc : α → List Value) (xs : List α) : Array Value := (xs.flatMap enc).toArray
theorem flatMap_len (he : ∀ x, (enc x).length = sz) : ∀ xs : List α, (xs.flatMap enc).length = xs.length * sz
  | [] => by simp
  | x :: xs => by simp only [List.flatMap_cons, List.length_append, he, flatMap_len he xs, List.length_cons, Nat.succ_mul]; omega
theorem rowA_size (he : ∀ x, (enc x).length = sz) (xs : List α) : (rowA enc xs).size = xs.length * sz := by simp [rowA, flatMap_len he]
theorem flatMap_get (he : ∀ x, (enc x).length = sz) : ∀ (xs : List α) (i j : Nat) (x : α), xs[i]? = some x → j < sz → (xs.flatMap enc)[i * sz + j]? = (enc x)[j]?
  | [], i, j, x, h, _ => by simp at h
  | y :: xs, 0, j, x, h, hj => by
    simp at h; subst h
    simp only [List.flatMap_cons, Nat.zero_mul, Nat.zero_add]
    rw [List.getElem?_append_left (by rw [he]; exact hj)]
  | y :: xs, i + 1, j, x, h, hj => by
    simp at h
    simp only [List.flatMap_cons]
    rw [List.getElem?_append_right (by rw [he, Nat.succ_mul]; omega), he, show (i + 1) * sz + j - sz = i * sz + j by rw [Nat.succ_mul]; omega]
    exact flatMap_get he xs i j x h hj
theorem rowA_get (he : ∀ x, (enc x).length = sz) {xs : List α} {i j : Nat} {x : α} (h : xs[i]? = some x) (hj : j < sz) : (rowA enc xs)[i * sz + j]? = (enc x)[j]? := by
  rw [rowA, List.getElem?_toArray]; exact flatMap_get he xs i j x h hj
theorem Cell.row (he : ∀ x, (enc x).length = sz) {I : IMem} {S : SH} {b : Nat} {e : TypeId} {fz : Nat × Nat} {xs : List α} {i j : Nat} {x : α} {v : Value} (hx : xs[i]? = some x) (hj : j < sz) (hv : (enc x)[j]? = some v) :
    Cell I ((b, .cells (rowA enc xs) e fz) :: S) (((⟨b, 0, none⟩ : Addr).add (i * sz)).add j) v := by
  rw [add_mk, add_mk, Nat.zero_add]
  exact Cell.at0 ((rowA_get he hx hj).trans hv)
theorem StP.row (he : ∀ x, (enc x).length = sz) (h1 : ∀ x, (enc x).all one = true) {S : SH} {b : Nat} {e : TypeId} {xs : List α} {i : Nat} {x : α} {K : SH → Prop} (hi : i < xs.length)
    (hset : setR (rowA enc xs) (i * sz) (enc x) = rowA enc (xs.set i x)) (h : K ((b, .cells (rowA enc (xs.set i x)) e (0, 0)) :: S)) :
    StP ((b, .cells (rowA enc xs) e (0, 0)) :: S) ((⟨b, 0, none⟩ : Addr).add (i * sz)) (enc x) K := by
  rw [add_mk, Nat.zero_add]
  refine StP.at0 ?_ (h1 x) ?_
  · rw [he, rowA_size he, ← Nat.succ_mul]; exact Nat.mul_le_mul_right _ hi
  · rw [hset]; exact h
theorem setR_list : ∀ (vs cs : List Value) (o : Nat), o + vs.length ≤ cs.length → setR cs.toArray o vs = (cs.take o ++ vs ++ cs.drop (o + vs.length)).toArray
  | [], cs, o, _ => by simp [setR]
  | v :: vs, cs, o, h => by
    simp only [List.length_cons] at h
    have : cs.toArray.setIfInBounds o v = (cs.set o v).toArray := by simp
    rw [setR, this, setR_list vs (cs.set o v) (o + 1) (by simp; omega)]
    congr 1
    rw [List.take_set, List.drop_set_of_lt (by omega)]
    rw [List.take_succ_eq_append_getElem (by omega : o < cs.length)]
    rw [List.set_append_right _ _ (by simp; omega)]
    have h1 : o - (List.take o cs).length = 0 := by simp; omega
    rw [h1]
    simp only [List.set_cons_zero, List.append_assoc, List.cons_append, List.nil_append, List.length_cons]
    rw [show o + 1 + vs.length = o + (vs.length + 1) by omega]
end
end Go.Px
/- From what a call does to what the model's rows ask. -/
namespace Go.Px
open Go.RowKit
def imW (W : World) : IMem := ⟨fun b => W.heap[b]?, W.os, W.tape, W.output, W.drawn⟩
theorem imW_sat (W : World) : Sat (imW W) [] W := ⟨rfl, rfl, rfl, Nat.le_refl _, fun _ _ h => h, (fun _ h => by cases h), (fun _ h => by cases h), List.nodup_nil⟩
theorem Runs.below {P : Program} {f : FuncId} {args : Array Value} {W : World} {u : Value} (h : Runs P f args (imW W) [] fun v _ _ => v = u) : Calls P f args W fun e W' => e = .returned u ∧ Below W.heap.size W W' := by
  refine (h W (imW_sat W)).mono ?_
  rintro e W' ⟨v, J, T, rfl, hle, hs, rfl⟩
  have hb : ∀ i, i < W.heap.size → W'.heap[i]? = W.heap[i]? := fun i hi => by
    have h1 : (imW W).at_ i = some W.heap[i] := Array.getElem?_eq_getElem hi
    rw [hs.im i _ (hle.at_ i _ h1), Array.getElem?_eq_getElem hi]
  refine ⟨rfl, hs.os.trans hle.os, hs.tape.trans hle.tape, hs.out.trans hle.out, ?_, fun i hi => hb i hi⟩
  rcases Nat.lt_or_ge W'.heap.size W.heap.size with hlt | hge
  · have := hb W'.heap.size hlt
    rw [Array.getElem?_eq_none (Nat.le_refl _), Array.getElem?_eq_getElem hlt] at this
    cases this
  · exact hge
end Go.Px
/- What a slice that is read as data holds. -/
namespace Go.Px
set_option linter.unusedVariables false
section
variable {H : Type} {enc : TypeId × Value → H} {P : Program} {W : World} {sp : Nat → Bool} {held : Bool} {n : Nat} {t : TypeId} {c : Value} {x : DataW H × List MemPlace}
theorem trod_int {k : IntKind} (hu : P.underlying t = some (.int k)) (h : DataW.trod enc P W 0 sp held n t [c] = some x) : ∃ m, c = .int k m ∧ (Lit.int k m).wf = true := by
  cases n with
  | zero => simp [DataW.trod] at h
  | succ n =>
    unfold DataW.trod at h
    rw [hu] at h
    split at h <;> simp_all
theorem trod_str (hu : P.underlying t = some .string) (h : DataW.trod enc P W 0 sp held n t [c] = some x) : ∃ m, c = .string m ∧ m.size ≤ maxLen := by
  cases n with
  | zero => simp [DataW.trod] at h
  | succ n =>
    unfold DataW.trod at h
    rw [hu] at h
    split at h <;> simp_all
theorem trod_sl {E : TypeId} (hu : P.underlying t = some (.slice E)) (h : DataW.trod enc P W 0 sp held n t [c] = some x) : ∃ a len cap, c = .slice a len cap ∧ DataW.Trod enc P W 0 sp held t (.slice a len cap) x.1 x.2 := by
  rcases DataW.trod_slice hu h with ⟨hc, _⟩ | ⟨a', len', cap', elems, rest, n', _, hc, _⟩
  · injection hc with hc; subst hc
    exact ⟨_, _, _, rfl, n, h⟩
  · injection hc with hc; subst hc
    exact ⟨_, _, _, rfl, n, h⟩
theorem trod_len {d : TypeDesc} {cs : List Value} (hu : P.underlying t = some d) (hd : aggB d = false) (h : DataW.trod enc P W 0 sp held n t cs = some x) : ∃ c, cs = [c] := by
  cases n with
  | zero => simp [DataW.trod] at h
  | succ n =>
    unfold DataW.trod at h
    rw [hu] at h
    split at h <;> first | exact ⟨_, rfl⟩ | (simp_all [aggB]; done)
theorem trod_field {cs : List Value} {fs : Array Field} (hE : P.underlying t = some (.struct fs)) (h : DataW.trod enc P W 0 sp held n t cs = some x) (i : Nat) (f : Field) (hf : fs[i]? = some f) : ∃ n' y, DataW.trod enc P W 0 sp held n' f.type ((cs.drop f.offset).take (P.cellsOf f.type)) = some y := by
  obtain ⟨xs, n', _, _, _, hl, hx⟩ := DataW.trod_struct hE h
  have hi : i < xs.length := by
    rcases Nat.lt_or_ge i fs.size with g | g
    · omega
    · rw [Array.getElem?_eq_none g] at hf; cases hf
  exact ⟨n', xs[i], (hx i f hf).trans (List.getElem?_eq_getElem hi)⟩
theorem exists_list {α : Type} {Q : Nat → α → Prop} : ∀ {n : Nat}, (∀ i, i < n → ∃ x, Q i x) → ∃ xs : List α, xs.length = n ∧ ∀ i x, xs[i]? = some x → Q i x
  | 0, _ => ⟨[], rfl, fun i x h => by simp at h⟩
  | n + 1, h => by
    obtain ⟨xs, hl, hx⟩ := exists_list (n := n) (fun i hi => h i (by omega))
    obtain ⟨y, hy⟩ := h n (by omega)
    refine ⟨xs ++ [y], by simp [hl], fun i x hi => ?_⟩
    rcases Nat.lt_trichotomy i xs.length with g | g | g
    · rw [List.getElem?_append_left g] at hi; exact hx i x hi
    · rw [List.getElem?_append_right (by omega), g, Nat.sub_self] at hi
      simp at hi; subst hi; rw [g, hl]; exact hy
    · rw [List.getElem?_eq_none (by simp; omega)] at hi; cases hi
/-- a slice that stays as it is: its elements -/
def SlIn {α : Type} (I : IMem) (a : Option Addr) (len sz : Nat) (el : α → List Value) (xs : List α) : Prop :=
  xs.length = len ∧ ∀ i x, xs[i]? = some x → ∃ a', a = some a' ∧ ∀ j v, (el x)[j]? = some v → Cell I [] ((a'.add (i * sz)).add j) v
theorem SlIn.cell {α : Type} {I : IMem} {a : Option Addr} {len sz : Nat} {el : α → List Value} {xs : List α} (h : SlIn I a len sz el xs) {i : Nat} {x : α} (hx : xs[i]? = some x) : ∃ a', a = some a' ∧ ∀ J T, I.le J → ∀ j v, (el x)[j]? = some v → Cell J T ((a'.add (i * sz)).add j) v := by
  obtain ⟨a', ha, hc⟩ := h.2 i x hx
  exact ⟨a', ha, fun J T hle j v hj => Sub.cell ⟨T, List.Perm.refl _⟩ hle (hc j v hj)⟩
theorem cell_im {a : Addr} {v : Value} (h : W.cell? a = some v) : Cell (imW W) [] a v := by
  unfold World.cell? at h
  split at h
  · rename_i cs e fz hb
    split at h
    · cases h
    · rename_i hs
      exact ⟨by cases hsp : a.spot with | none => rfl | some s => rw [hsp] at hs; exact absurd rfl hs, cs, e, fz, .inl hb, h⟩
  · cases h
theorem rowOf_trod {α : Type} (el : α → List Value) (ok : α → Prop) {T E : TypeId} {a : Option Addr} {len cap : Nat} {d : DataW H} {p : List MemPlace} (hT : P.underlying T = some (.slice E))
    (hel : ∀ (n : Nat) (cs : List Value) (x : DataW H × List MemPlace), DataW.trod enc P W 0 (fun _ => true) true n E cs = some x → cs.length = P.cellsOf E → ∃ y, cs = el y ∧ ok y)
    (h : DataW.Trod enc P W 0 (fun _ => true) true T (.slice a len cap) d p) : len ≤ cap ∧ cap ≤ maxLen ∧ ∃ xs : List α, SlIn (imW W) a len (P.cellsOf E) el xs ∧ ∀ x ∈ xs, ok x := by
  obtain ⟨m, h⟩ := h
  rcases DataW.trod_slice hT h with ⟨hc, _⟩ | ⟨a', len', cap', elems, rest, n, _, hc, _, _, hlc, hcm, hel', hget, _, _⟩
  · have hc' : a = none ∧ len = 0 ∧ cap = 0 := by simpa [Value.cells] using hc
    obtain ⟨rfl, rfl, rfl⟩ := hc'
    exact ⟨Nat.le_refl _, Nat.zero_le _, [], ⟨rfl, fun i x hi => by simp at hi⟩, fun x hx => by simp at hx⟩
  · have hc' : a = some a' ∧ len = len' ∧ cap = cap' := by simpa [Value.cells] using hc
    obtain ⟨rfl, rfl, rfl⟩ := hc'
    have key : ∀ i, i < len → ∃ y : α, ok y ∧ ∀ j v, (el y)[j]? = some v → Cell (imW W) [] ((a'.add (i * P.cellsOf E)).add j) v := fun i hi => by
      have hg := hget i hi
      rw [List.getElem?_eq_getElem (by omega)] at hg
      obtain ⟨cs, h1, h2⟩ := Option.bind_eq_some_iff.1 hg
      unfold World.cells? at h1
      rw [if_pos (Nat.zero_le _)] at h1
      have hl := mapM_some_length h1
      rw [List.length_range] at hl
      obtain ⟨y, rfl, hy⟩ := hel n cs _ h2 hl
      refine ⟨y, hy, fun j v hj => cell_im ?_⟩
      have hjl : j < P.cellsOf E := by
        rcases Nat.lt_or_ge j (el y).length with g | g
        · omega
        · rw [List.getElem?_eq_none g] at hj; cases hj
      have := mapM_some_get h1 j j (by simp [hjl])
      rw [this, hj]
    obtain ⟨xs, hxl, hxs⟩ := exists_list key
    refine ⟨hlc, hcm, xs, ⟨hxl, fun i x hi => ⟨a', rfl, (hxs i x hi).2⟩⟩, fun x hx => ?_⟩
    obtain ⟨i, hi⟩ := List.getElem?_of_mem hx
    exact (hxs i x hi).1
end
/-- how many elements a slice of data may have -/
theorem weight_of {H : Type} {P : Program} {enc : TypeId × Value → H} {W : World} {ts : List TypeId} {ds : List (DataW H)} (j : Nat) {T E : TypeId} {a : Option Addr} {len cap : Nat} {d : DataW H} {p : List MemPlace}
    (hsz : (DataW.weightsEach P ts ds).all (· ≤ reachBytes) = true) (ht : ts[j]? = some T) (hd : ds[j]? = some d) (hT : P.underlying T = some (.slice E)) (hb : 1 ≤ P.bytesOf E)
    (h : DataW.Trod enc P W 0 (fun _ => true) true T (.slice a len cap) d p) : len ≤ 140737488355328 := by
  obtain ⟨m, h⟩ := h
  rcases DataW.trod_slice hT h with ⟨hc, _⟩ | ⟨a', len', cap', elems, rest, n, _, hc, hx, _, hlc, hcm, hel', hget, _, _⟩
  · have hc' : a = none ∧ len = 0 ∧ cap = 0 := by simpa [Value.cells] using hc
    omega
  · have hc' : a = some a' ∧ len = len' ∧ cap = cap' := by simpa [Value.cells] using hc
    obtain ⟨rfl, rfl, rfl⟩ := hc'
    injection hx with hx _
    subst hx
    have := sized_slice hsz ht hd hT
    have hr := reachBytes_lt
    simp only [List.length_map] at this
    have : elems.length + rest.length ≤ (elems.length + rest.length) * P.bytesOf E := Nat.le_mul_of_pos_right _ hb
    omega
end Go.Px
/- Words for maps and for bytes that are read as words. -/
namespace Go.Px
set_option linter.unusedVariables false
set_option linter.unusedSectionVars false
set_option linter.unusedSimpArgs false

def byV (s : ByteArray) : Array Value := (s.data.toList.map fun c => Value.int .u8 (c.toNat : Int)).toArray
theorem byV_get (s : ByteArray) (i : Nat) : (byV s)[i]? = (s[i]?).map fun c => Value.int .u8 (c.toNat : Int) := by
  unfold byV
  rw [List.getElem?_toArray, List.getElem?_map]
  congr 1
  by_cases h : i < s.size
  · rw [getElem?_pos s i h, List.getElem?_eq_getElem (by simpa using h)]; rfl
  · rw [getElem?_neg s i h, List.getElem?_eq_none (by simpa using h)]
theorem BytesAt.at0 {I : IMem} {S : SH} {b n : Nat} {e : TypeId} {fz : Nat × Nat} {cs : Array Value} (s : ByteArray) (hn : n = s.size) (h : cs = byV s) : BytesAt I ((b, .cells cs e fz) :: S) (some ⟨b, 0, none⟩) n s := by
  subst hn h
  refine ⟨rfl, fun i c hc => ?_⟩
  rw [add_mk, Nat.zero_add]
  exact Cell.at0 (by rw [byV_get, hc]; rfl)
theorem BytesAt.tl {I : IMem} {S : SH} {p : Option Addr} {n : Nat} {s : ByteArray} {q : Nat × Obj} (h : BytesAt I S p n s) : BytesAt I (q :: S) p n s := by
  cases p with
  | none => exact h
  | some a => exact ⟨h.1, fun i c hc => Cell.tl (h.2 i c hc)⟩

/-! ### maps -/
section
variable {κ υ : Type} [DecidableEq κ]
def look : List (κ × υ) → κ → Nat → Option (Nat × υ)
  | [], _, _ => none
  | (a, v) :: l, k, j => if k = a then some (j, v) else look l k (j + 1)
theorem look_some {k : κ} {v : υ} : ∀ {l : List (κ × υ)} {j i : Nat}, look l k j = some (i, v) → j ≤ i ∧ l[i - j]? = some (k, v)
  | [], j, i, h => by simp [look] at h
  | (a, u) :: l, j, i, h => by
    simp only [look] at h
    split at h
    · rename_i e; subst e
      injection h with h; injection h with h1 h2; subst h1; subst h2
      exact ⟨Nat.le_refl _, by simp⟩
    · obtain ⟨h1, h2⟩ := look_some h
      exact ⟨by omega, by rw [show i - j = (i - (j + 1)) + 1 by omega]; simpa using h2⟩
theorem look_none {k : κ} : ∀ {l : List (κ × υ)} {j : Nat}, look l k j = none → ∀ v, (k, v) ∉ l
  | [], j, h, v => by simp
  | (a, u) :: l, j, h, v => by
    simp only [look] at h
    split at h
    · cases h
    · rename_i e
      intro hm
      rcases List.mem_cons.1 hm with hm | hm
      · injection hm with h1 _; exact e h1
      · exact look_none h v hm
variable (kd : TypeDesc) (ek : κ → Value) (ew : υ → Value)
def KeyOK : Prop := ∀ a b : κ, Instr.sameNow kd (ek a) (ek b) = some (decide (a = b))
variable {kd ek ew}
theorem findNow_look (hk : KeyOK kd ek) (k : κ) : ∀ (l : List (κ × υ)) (es : List MapEntry) (j : Nat), es.map (fun e => (e.key, e.val)) = l.map (fun p => (ek p.1, ew p.2)) →
    Instr.findNow kd (ek k) es j = some ((look l k j).map fun p => (p.1, ew p.2))
  | [], [], j, _ => rfl
  | [], e :: es, j, h => by simp at h
  | p :: l, [], j, h => by simp at h
  | (a, v) :: l, e :: es, j, h => by
    simp only [List.map_cons, List.cons.injEq, Prod.mk.injEq] at h
    obtain ⟨⟨h1, h2⟩, h3⟩ := h
    unfold Instr.findNow
    rw [h1, hk]
    by_cases he : k = a
    · simp [look, he, h2]
    · simp only [look, he, decide_false, if_false]
      exact findNow_look hk k l es (j + 1) h3
/-- a map's entries, as a finite map of so many words -/
def MpI (ek : κ → Value) (ew : υ → Value) (es : Array MapEntry) (M : κ → Option υ) (n : Nat) : Prop :=
  ∃ l : List (κ × υ), es.toList.map (fun e => (e.key, e.val)) = l.map (fun p => (ek p.1, ew p.2)) ∧ (l.map (·.1)).Nodup ∧ (∀ k v, M k = some v ↔ (k, v) ∈ l) ∧ l.length = n
def fput (M : κ → Option υ) (k : κ) (v : υ) : κ → Option υ := fun x => if x = k then some v else M x
def fdel (M : κ → Option υ) (k : κ) : κ → Option υ := fun x => if x = k then none else M x
theorem MpI.nil : MpI ek ew #[] (fun _ => none) 0 := ⟨[], rfl, List.nodup_nil, fun k v => by simp, rfl⟩
theorem MpI.size {es : Array MapEntry} {M : κ → Option υ} {n : Nat} (h : MpI ek ew es M n) : es.size = n := by
  obtain ⟨l, h1, _, _, h4⟩ := h
  have := congrArg List.length h1
  simpa [h4] using this
theorem MpI.find (hk : KeyOK kd ek) {es : Array MapEntry} {M : κ → Option υ} {n : Nat} (h : MpI ek ew es M n) (k : κ) :
    (∃ i v, M k = some v ∧ Instr.findNow kd (ek k) es.toList 0 = some (some (i, ew v))) ∨ (M k = none ∧ Instr.findNow kd (ek k) es.toList 0 = some none) := by
  obtain ⟨l, h1, h2, h3, h4⟩ := h
  rw [findNow_look hk k l es.toList 0 h1]
  cases hl : look l k 0 with
  | none => exact .inr ⟨by cases hM : M k with
      | none => rfl
      | some v => exact absurd ((h3 k v).1 hM) (look_none hl v), rfl⟩
  | some p =>
    obtain ⟨i, v⟩ := p
    obtain ⟨_, hi⟩ := look_some hl
    exact .inl ⟨i, v, (h3 k v).2 (List.mem_of_getElem? hi), rfl⟩
theorem MapAt.of (hk : KeyOK kd ek) {I : IMem} {S : SH} {r clock : Nat} {es : Array MapEntry} {M : κ → Option υ} {n : Nat} (hc : MpC I S r es clock) (h : MpI ek ew es M n) (k : κ) (z : Value) :
    MapAt I S (some r) kd (ek k) z (match M k with | some v => ew v | none => z) (M k).isSome := by
  refine ⟨es, ⟨clock, hc⟩, ?_⟩
  rcases h.find hk k with ⟨i, v, hM, hf⟩ | ⟨hM, hf⟩
  · rw [hM]; exact .inl ⟨i, hf, rfl⟩
  · rw [hM]; exact .inr ⟨hf, rfl, rfl⟩
theorem mapSet_ok (hk : KeyOK kd ek) {clock : Nat} {es : Array MapEntry} {M : κ → Option υ} {n : Nat} (h : MpI ek ew es M n) (k : κ) (v : υ) :
    ∃ es' clock', mapSet kd (ek k) (ew v) es clock = some (es', clock') ∧ MpI ek ew es' (fput M k v) (n + if (M k).isSome then 0 else 1) := by
  obtain ⟨l, h1, h2, h3, h4⟩ := h
  unfold mapSet
  rw [findNow_look hk k l es.toList 0 h1]
  cases hl : look l k 0 with
  | none =>
    have hnone : M k = none := by
      cases hM : M k with
      | none => rfl
      | some u => exact absurd ((h3 k u).1 hM) (look_none hl u)
    refine ⟨_, _, rfl, l ++ [(k, v)], by simp [h1], ?_, fun x u => ?_, by simp [h4, hnone]⟩
    · rw [List.map_append, List.nodup_append]
      refine ⟨h2, by simp, ?_⟩
      intro a ha b hb
      simp at hb
      subst hb
      obtain ⟨p, hp, rfl⟩ := List.mem_map.1 ha
      intro e
      exact look_none hl p.2 (by rw [← e]; exact hp)
    · simp only [fput, List.mem_append, List.mem_singleton, Prod.mk.injEq]
      by_cases hx : x = k
      · subst hx
        simp only [if_true, true_and, Option.some.injEq]
        exact ⟨fun e => .inr e.symm, fun e => e.elim (fun hm => absurd hm (look_none hl u)) Eq.symm⟩
      · simp [hx, h3]
  | some p =>
    obtain ⟨i, u⟩ := p
    obtain ⟨_, hi⟩ := look_some hl
    simp only [Nat.sub_zero] at hi
    have hil : i < l.length := by
      rcases Nat.lt_or_ge i l.length with g | g
      · exact g
      · rw [List.getElem?_eq_none g] at hi; cases hi
    have hsome : M k = some u := (h3 k u).2 (List.mem_of_getElem? hi)
    refine ⟨_, _, rfl, l.set i (k, v), ?_, ?_, fun x w => ?_, by simp [h4, hsome]⟩
    · apply List.ext_getElem?
      intro j
      have hj := congrArg (fun z : List (Value × Value) => z[j]?) h1
      simp only [List.getElem?_map, Array.getElem?_toList] at hj
      simp only [List.getElem?_map, Array.getElem?_toList, Array.getElem?_modify, List.getElem?_set]
      by_cases hij : i = j
      · subst hij
        rw [List.getElem?_eq_getElem hil] at hj
        cases he : es[i]? with
        | none => rw [he] at hj; cases hj
        | some e => simp [hil]
      · simp [hij, hj]
    · have : (l.set i (k, v)).map (·.1) = l.map (·.1) := by
        rw [List.map_set]
        apply List.ext_getElem?
        intro j
        rw [List.getElem?_set]
        split
        · rename_i e; subst e
          split
          · rw [List.getElem?_map, hi]; rfl
          · rename_i hlt; rw [List.getElem?_eq_none (by simpa using hlt)]
        · rfl
      rw [this]; exact h2
    · have huniq : ∀ (j : Nat) (w : υ), l[j]? = some (k, w) → j = i := fun j w hj => by
        have e1 : (l.map (·.1))[j]? = some k := by simp [hj]
        have e2 : (l.map (·.1))[i]? = some k := by simp [hi]
        have hj' : j < (l.map (·.1)).length := (List.getElem?_eq_some_iff.1 e1).1
        have hi' : i < (l.map (·.1)).length := (List.getElem?_eq_some_iff.1 e2).1
        exact (List.getElem_inj h2).1 ((List.getElem?_eq_some_iff.1 e1).2.trans (List.getElem?_eq_some_iff.1 e2).2.symm)
      simp only [fput]
      by_cases hx : x = k
      · subst hx
        simp only [if_true, Option.some.injEq]
        constructor
        · rintro rfl; exact List.mem_of_getElem? (i := i) (by simp [hil])
        · intro hm
          obtain ⟨j, hj⟩ := List.getElem?_of_mem hm
          rw [List.getElem?_set] at hj
          split at hj
          · simp [hil] at hj; exact hj
          · rename_i hne; exact absurd (huniq j w hj).symm hne
      · simp only [hx, if_false, h3]
        constructor
        · intro hm
          obtain ⟨j, hj⟩ := List.getElem?_of_mem hm
          refine List.mem_of_getElem? (i := j) ?_
          rw [List.getElem?_set, if_neg (fun e => by subst e; rw [hi] at hj; injection hj with hj; injection hj with e1 _; exact hx e1.symm)]
          exact hj
        · intro hm
          obtain ⟨j, hj⟩ := List.getElem?_of_mem hm
          rw [List.getElem?_set] at hj
          split at hj
          · simp [hil] at hj; exact absurd hj.1.symm hx
          · exact List.mem_of_getElem? hj
theorem mapDel_ok (hk : KeyOK kd ek) {es : Array MapEntry} {M : κ → Option υ} {n : Nat} (h : MpI ek ew es M n) (k : κ) :
    ∃ es', mapDel kd (ek k) es = some es' ∧ MpI ek ew es' (fdel M k) (n - if (M k).isSome then 1 else 0) := by
  obtain ⟨l, h1, h2, h3, h4⟩ := h
  unfold mapDel
  rw [findNow_look hk k l es.toList 0 h1]
  cases hl : look l k 0 with
  | none =>
    have hnone : M k = none := by
      cases hM : M k with
      | none => rfl
      | some u => exact absurd ((h3 k u).1 hM) (look_none hl u)
    refine ⟨_, rfl, l, h1, h2, fun x u => ?_, by simp [h4, hnone]⟩
    simp only [fdel]
    by_cases hx : x = k
    · subst hx; simp only [if_true]; exact ⟨(fun e => by cases e), fun hm => absurd hm (look_none hl u)⟩
    · simp [hx, h3]
  | some p =>
    obtain ⟨i, u⟩ := p
    obtain ⟨_, hi⟩ := look_some hl
    simp only [Nat.sub_zero] at hi
    have hil : i < l.length := by
      rcases Nat.lt_or_ge i l.length with g | g
      · exact g
      · rw [List.getElem?_eq_none g] at hi; cases hi
    have hsome : M k = some u := (h3 k u).2 (List.mem_of_getElem? hi)
    have hes : i < es.size := by have := congrArg List.length h1; simp at this; omega
    refine ⟨_, rfl, l.eraseIdx i, ?_, ?_, fun x w => ?_, by rw [List.length_eraseIdx, if_pos hil, h4, hsome]; rfl⟩
    · have : (es.eraseIdxIfInBounds i).toList = es.toList.eraseIdx i := by simp [Array.eraseIdxIfInBounds, hes, Array.toList_eraseIdx]
      rw [this]
      have key : ∀ {α β : Type} (f : α → β) (xs : List α) (i : Nat), (xs.eraseIdx i).map f = (xs.map f).eraseIdx i := by
        intro α β f xs
        induction xs with
        | nil => intro i; simp
        | cons x xs ih => intro i; cases i with
          | zero => simp
          | succ i => simp [ih]
      rw [key, key, h1]
    · have key : ((l.eraseIdx i).map (·.1)).Sublist (l.map (·.1)) := (List.eraseIdx_sublist l i).map _
      exact key.nodup h2
    · have huniq : ∀ (j : Nat) (w : υ), l[j]? = some (k, w) → j = i := fun j w hj => by
        have e1 : (l.map (·.1))[j]? = some k := by simp [hj]
        have e2 : (l.map (·.1))[i]? = some k := by simp [hi]
        exact (List.getElem_inj h2).1 ((List.getElem?_eq_some_iff.1 e1).2.trans (List.getElem?_eq_some_iff.1 e2).2.symm)
      simp only [fdel]
      have hmem : (x, w) ∈ l.eraseIdx i ↔ ∃ j, j ≠ i ∧ l[j]? = some (x, w) := by rw [List.mem_eraseIdx_iff_getElem?]
      rw [hmem]
      by_cases hx : x = k
      · subst hx; simp only [if_true]; exact ⟨(fun e => by cases e), fun ⟨j, hj, he⟩ => absurd (huniq j w he) hj⟩
      · simp only [hx, if_false, h3]
        constructor
        · intro hm
          obtain ⟨j, hj⟩ := List.getElem?_of_mem hm
          exact ⟨j, fun e => by subst e; rw [hi] at hj; injection hj with hj; injection hj with e1 _; exact hx e1.symm, hj⟩
        · rintro ⟨j, _, hj⟩; exact List.mem_of_getElem? hj
theorem Sub.put {p : Nat × Obj} {L T : SH} (h : Sub (p :: L) T) (q : Nat × Obj) : ∃ i, T[i]? = some p ∧ Sub (q :: L) (T.set i q) := by
  obtain ⟨G, hp⟩ := h
  have hm : p ∈ T := hp.mem_iff.2 (by simp)
  obtain ⟨i, hi⟩ := List.getElem?_of_mem hm
  refine ⟨i, hi, G, ?_⟩
  have key : ∀ (A : SH) (i : Nat) (x y : Nat × Obj), A[i]? = some x → (y :: A).Perm (x :: A.set i y) := by
    intro A
    induction A with
    | nil => intro i x y h; simp at h
    | cons z A ih =>
      intro i x y h
      cases i with
      | zero => simp at h; subst h; exact List.Perm.swap ..
      | succ i =>
        simp at h
        have := ih i x y h
        exact (List.Perm.swap z y A).trans ((this.cons z).trans (List.Perm.swap x z _))
  have k1 := key T i p q hi
  have k2 : (p :: T.set i q).Perm (p :: (q :: (L ++ G))) := k1.symm.trans ((hp.cons q).trans (List.Perm.swap ..))
  exact List.Perm.cons_inv k2
theorem MpC.of_sub {I : IMem} {L T : SH} {r clock : Nat} {es : Array MapEntry} (h : Sub ((r, .map es clock) :: L) T) : MpC I T r es clock := by
  obtain ⟨G, hp⟩ := h
  exact .inr (hp.mem_iff.2 (by simp))
theorem MapSt.of (hk : KeyOK kd ek) {L T : SH} {r clock : Nat} {es : Array MapEntry} {M : κ → Option υ} {n : Nat} (hs : Sub ((r, .map es clock) :: L) T) (h : MpI ek ew es M n) (k : κ) (v : υ) {K : SH → Prop}
    (hK : ∀ es' clock' T', MpI ek ew es' (fput M k v) (n + if (M k).isSome then 0 else 1) → Sub ((r, .map es' clock') :: L) T' → K T') : MapSt T (some r) kd (ek k) (ew v) K := by
  obtain ⟨es', clock', h1, h2⟩ := mapSet_ok (clock := clock) hk h k v
  obtain ⟨i, hi, hs'⟩ := hs.put (r, .map es' clock')
  exact ⟨r, i, es, clock, es', clock', rfl, hi, h1, hK es' clock' _ h2 hs'⟩
theorem MapDl.of (hk : KeyOK kd ek) {L T : SH} {r clock : Nat} {es : Array MapEntry} {M : κ → Option υ} {n : Nat} (hs : Sub ((r, .map es clock) :: L) T) (h : MpI ek ew es M n) (k : κ) {K : SH → Prop}
    (hK : ∀ es' T', MpI ek ew es' (fdel M k) (n - if (M k).isSome then 1 else 0) → Sub ((r, .map es' clock) :: L) T' → K T') : MapDl T (some r) kd (ek k) K := by
  obtain ⟨es', h1, h2⟩ := mapDel_ok hk h k
  obtain ⟨i, hi, hs'⟩ := hs.put (r, .map es' clock)
  exact ⟨i, es, clock, es', hi, h1, hK es' _ h2 hs'⟩
theorem MapLen.of {I : IMem} {L T : SH} {r clock : Nat} {es : Array MapEntry} {M : κ → Option υ} {n : Nat} (hs : Sub ((r, .map es clock) :: L) T) (h : MpI ek ew es M n) : MapLen I T (some r) n := ⟨es, clock, MpC.of_sub hs, h.size.symm⟩
end
end Go.Px
/- Rows that a call owns, whatever their elements: reading, writing, appending, copying. -/
namespace Go.Px
set_option linter.unusedVariables false
set_option linter.unusedSimpArgs false

section
variable {α : Type} {el : α → List Value} {sz : Nat}
/-- a slice's elements -/
def RowIn (I : IMem) (S : SH) (a : Option Addr) (len sz : Nat) (el : α → List Value) (xs : List α) : Prop :=
  xs.length = len ∧ ∀ i x, xs[i]? = some x → ∃ a', a = some a' ∧ a'.spot = none ∧ ∀ j v, (el x)[j]? = some v → Cell I S ((a'.add (i * sz)).add j) v
theorem RowIn.of_slin {I : IMem} {a : Option Addr} {len : Nat} {xs : List α} (hne : ∀ x, 0 < (el x).length) (h : SlIn I a len sz el xs) : RowIn I [] a xs.length sz el xs := by
  refine ⟨rfl, fun i x hx => ?_⟩
  obtain ⟨a', ha, hc⟩ := h.2 i x hx
  refine ⟨a', ha, ?_, hc⟩
  have hi : i < xs.length := by
    rcases Nat.lt_or_ge i xs.length with g | g
    · exact g
    · rw [List.getElem?_eq_none g] at hx; cases hx
  obtain ⟨a2, ha2, hc2⟩ := h.2 0 _ (List.getElem?_eq_getElem (by omega))
  rw [ha] at ha2; injection ha2 with ha2; subst ha2
  have h0 := hc2 0 _ (List.getElem?_eq_getElem (hne _))
  rw [Nat.zero_mul] at h0
  exact h0.1
theorem RowIn.keep {I J : IMem} {S T : SH} {a : Option Addr} {len : Nat} {xs : List α} (hk : Keep I S J T) (h : RowIn I S a len sz el xs) : RowIn J T a len sz el xs :=
  ⟨h.1, fun i x hx => let ⟨a', h1, h2, h3⟩ := h.2 i x hx; ⟨a', h1, h2, fun j v hj => (h3 j v hj).mono hk⟩⟩
theorem RowIn.sub {I : IMem} {S T : SH} {a : Option Addr} {len : Nat} {xs : List α} (hs : Sub S T) (h : RowIn I S a len sz el xs) : RowIn I T a len sz el xs := h.keep (hs.keep (IMem.le.refl I))
theorem RowIn.le {I J : IMem} {S : SH} {a : Option Addr} {len : Nat} {xs : List α} (hle : I.le J) (h : RowIn I S a len sz el xs) : RowIn J S a len sz el xs := h.keep ((Sub.refl S).keep hle)
theorem RowIn.cell {I : IMem} {S : SH} {a : Option Addr} {len : Nat} {xs : List α} (h : RowIn I S a len sz el xs) {i : Nat} {x : α} (hx : xs[i]? = some x) : ∃ a', a = some a' ∧ ∀ j v, (el x)[j]? = some v → Cell I S ((a'.add (i * sz)).add j) v :=
  let ⟨a', h1, _, h3⟩ := h.2 i x hx; ⟨a', h1, h3⟩
theorem RowIn.take {I : IMem} {S : SH} {a : Option Addr} {len j : Nat} {xs : List α} (h : RowIn I S a len sz el xs) (hj : j ≤ len) : RowIn I S a j sz el (xs.take j) := by
  refine ⟨by rw [List.length_take, h.1]; omega, fun i x hx => ?_⟩
  rw [List.getElem?_take] at hx
  split at hx
  · exact h.2 i x hx
  · cases hx
theorem RowIn.drop {I : IMem} {S : SH} {a : Option Addr} {len j c : Nat} {xs : List α} (h : RowIn I S a len sz el xs) (hj : j ≤ len) (hc : len ≤ c) : RowIn I S (slA a c j sz) (len - j) sz el (xs.drop j) := by
  refine ⟨by rw [List.length_drop, h.1], fun i x hx => ?_⟩
  rw [List.getElem?_drop] at hx
  obtain ⟨a', rfl, hs, hcl⟩ := h.2 _ x hx
  have hlt : j + i < xs.length := by
    rcases Nat.lt_or_ge (j + i) xs.length with g | g
    · exact g
    · rw [List.getElem?_eq_none g] at hx; cases hx
  rw [h.1] at hlt
  unfold slA
  rw [if_neg (by omega)]
  refine ⟨a'.add (j * sz), rfl, ?_, fun k v hk => ?_⟩
  · obtain ⟨b, o, sp⟩ := a'
    dsimp only at hs; subst hs
    rw [add_mk]
  · rw [add_add _ hs, ← Nat.add_mul]; exact hcl k v hk
theorem flatMap_at (he : ∀ x, (el x).length = sz) (hsz : 0 < sz) : ∀ {xs : List α} {j : Nat} {u : Value}, (xs.flatMap el)[j]? = some u → ∃ x, xs[j / sz]? = some x ∧ (el x)[j % sz]? = some u
  | [], j, u, h => by simp at h
  | x :: xs, j, u, h => by
    simp only [List.flatMap_cons] at h
    by_cases hj : j < sz
    · rw [List.getElem?_append_left (by rw [he]; exact hj)] at h
      exact ⟨x, by rw [Nat.div_eq_of_lt hj]; rfl, by rw [Nat.mod_eq_of_lt hj]; exact h⟩
    · rw [List.getElem?_append_right (by rw [he]; omega), he] at h
      obtain ⟨y, h1, h2⟩ := flatMap_at he hsz h
      refine ⟨y, ?_, ?_⟩
      · rw [show j / sz = (j - sz) / sz + 1 by rw [Nat.div_eq_sub_div hsz (by omega)]]
        simpa using h1
      · rw [Nat.mod_eq_sub_mod (by omega)]; exact h2
theorem RowIn.rd (he : ∀ x, (el x).length = sz) (hsz : 0 < sz) {I : IMem} {S : SH} {a : Option Addr} {len c : Nat} {xs : List α} (h : RowIn I S a len sz el xs) : Rd I S sz (.slice a len c) len (xs.flatMap el) := by
  refine ⟨a, c, rfl, by rw [flatMap_len he, h.1], fun j u hj => ?_⟩
  obtain ⟨x, h1, h2⟩ := flatMap_at he hsz hj
  obtain ⟨a', ha, hs, hc⟩ := h.2 _ x h1
  refine ⟨a', ha, ?_⟩
  have := hc _ u h2
  rw [add_add _ hs, Nat.mul_comm, Nat.div_add_mod] at this
  exact this
theorem flatMap_one (ho : ∀ x, (el x).all one = true) : ∀ xs : List α, (xs.flatMap el).all one = true
  | [] => rfl
  | x :: xs => by simp only [List.flatMap_cons, List.all_append, ho, flatMap_one ho xs, Bool.and_self]

/-! ### a block as a list -/
theorem StP.list {S : SH} {g o : Nat} {L : List Value} {e : TypeId} {vs : List Value} {K : SH → Prop} (hl : o + vs.length ≤ L.length) (ho : vs.all one = true) (h : K ((g, .cells (L.take o ++ vs ++ L.drop (o + vs.length)).toArray e (0, 0)) :: S)) :
    StP ((g, .cells L.toArray e (0, 0)) :: S) ⟨g, o, none⟩ vs K := by
  refine StP.at0 (by simpa using hl) ho ?_
  rw [setR_list _ _ _ hl]; exact h
theorem Rd.list {I : IMem} {S : SH} {g o m c : Nat} {L vs : List Value} {e : TypeId} {fz : Nat × Nat} (hv : vs = (L.drop o).take (m * sz)) (hl : o + m * sz ≤ L.length) : Rd I ((g, .cells L.toArray e fz) :: S) sz (.slice (some ⟨g, o, none⟩) m c) m vs := by
  subst hv
  refine ⟨_, c, rfl, by simp; omega, fun j u hj => ⟨_, rfl, ?_⟩⟩
  rw [add_mk]
  refine Cell.at0 ?_
  rw [List.getElem?_toArray]
  rw [List.getElem?_take] at hj
  split at hj
  · rw [List.getElem?_drop] at hj; exact hj
  · cases hj
theorem Rd.none {I : IMem} {S : SH} {a : Option Addr} {c : Nat} : Rd I S sz (.slice a 0 c) 0 [] := ⟨a, c, rfl, by simp, fun j u h => by simp at h⟩
theorem Rd.keep {I J : IMem} {S T : SH} {x : Value} {m : Nat} {vs : List Value} (hk : Keep I S J T) (h : Rd I S sz x m vs) : Rd J T sz x m vs :=
  let ⟨A, c, h1, h2, h3⟩ := h; ⟨A, c, h1, h2, fun j u hj => let ⟨a, ha, hc⟩ := h3 j u hj; ⟨a, ha, hc.mono hk⟩⟩

/-! ### a row that the call owns -/
def OwnR (e : TypeId) (sz : Nat) (el : α → List Value) (v : Value) (xs : List α) (own : SH) : Prop :=
  (v = .slice none 0 0 ∧ xs = [] ∧ own = []) ∨
    ∃ g cap rest, v = .slice (some ⟨g, 0, none⟩) xs.length cap ∧ own = [(g, .cells (xs.flatMap el ++ rest).toArray e (0, 0))] ∧ xs.length * sz + rest.length = cap * sz ∧ cap ≤ maxLen
theorem OwnR.nil {e : TypeId} : OwnR e sz el (.slice none 0 0) [] [] := .inl ⟨rfl, rfl, rfl⟩
theorem OwnR.slice {e : TypeId} {v : Value} {xs : List α} {own : SH} (h : OwnR e sz el v xs own) : ∃ a c, v = .slice a xs.length c := by
  rcases h with ⟨rfl, rfl, _⟩ | ⟨g, cap, rest, rfl, _⟩
  · exact ⟨_, _, rfl⟩
  · exact ⟨_, _, rfl⟩
theorem OwnR.len {e : TypeId} {a : Option Addr} {n c : Nat} {xs : List α} {own : SH} (h : OwnR e sz el (.slice a n c) xs own) : n = xs.length := by
  obtain ⟨a', c', he⟩ := h.slice
  injection he
theorem OwnR.row (he : ∀ x, (el x).length = sz) {e : TypeId} {I : IMem} {a : Option Addr} {n c : Nat} {xs : List α} {own : SH} (h : OwnR e sz el (.slice a n c) xs own) : RowIn I own a n sz el xs := by
  refine ⟨h.len.symm, fun i x hx => ?_⟩
  rcases h with ⟨_, rfl, _⟩ | ⟨g, cap, rest, hv, rfl, _⟩
  · simp at hx
  · injection hv with ha
    refine ⟨_, ha, rfl, fun j v hj => ?_⟩
    rw [add_mk, add_mk, Nat.zero_add]
    refine Cell.at0 ?_
    have hil : i < xs.length := by
      rcases Nat.lt_or_ge i xs.length with h | h
      · exact h
      · rw [List.getElem?_eq_none h] at hx; cases hx
    have hjl : j < sz := by
      rcases Nat.lt_or_ge j (el x).length with h | h
      · rw [he] at h; exact h
      · rw [List.getElem?_eq_none h] at hj; cases hj
    rw [List.getElem?_toArray, List.getElem?_append_left, flatMap_get he xs i j x hx hjl]
    · exact hj
    · rw [flatMap_len he]
      have := Nat.mul_le_mul_right sz (Nat.succ_le_of_lt hil)
      rw [Nat.succ_mul] at this; omega
theorem take_flat (he : ∀ x, (el x).length = sz) (xs : List α) (rest : List Value) : (xs.flatMap el ++ rest).take (xs.length * sz) = xs.flatMap el := by
  rw [← flatMap_len he xs]; exact List.take_left
theorem drop_flat (he : ∀ x, (el x).length = sz) (xs : List α) (rest : List Value) : (xs.flatMap el ++ rest).drop (xs.length * sz) = rest := by
  rw [← flatMap_len he xs]; exact List.drop_left
/-- what is appended to a row of the call's own -/
theorem AppG.own (he : ∀ x, (el x).length = sz) (ho : ∀ x, (el x).all one = true) {e : TypeId} {bytes : Nat} {z : List Value} {td : Option TypeDesc} {I : IMem} {S own F : SH} {v x : Value} {xs ys : List α} {K : Option Addr → Nat → Nat → SH → Prop}
    (hz : z.length = sz) (hp : S.Perm (own ++ F)) (hv : OwnR e sz el v xs own) (hx : SrcP td sz z I S x ys.length (ys.flatMap el)) (hm : xs.length + ys.length ≤ maxLen) (hb : (xs.length + ys.length) * bytes ≤ 140737488355328)
    (hK : ∀ p n c own', OwnR e sz el (.slice p n c) (xs ++ ys) own' → K p n c (own' ++ F)) : AppG e sz bytes z td I S v x K := by
  have hlen : (xs ++ ys).length = xs.length + ys.length := List.length_append
  have grow : ∀ g c, xs.length + ys.length ≤ c → c ≤ maxLen → OwnR e sz el (.slice (some ⟨g, 0, none⟩) (xs.length + ys.length) c) (xs ++ ys) [(g, .cells (xs.flatMap el ++ ys.flatMap el ++ repV (c - (xs.length + ys.length)) z).toArray e (0, 0))] := by
    intro g c h1 h2
    refine .inr ⟨g, c, repV (c - (xs.length + ys.length)) z, by rw [hlen], by rw [List.flatMap_append], ?_, h2⟩
    rw [repV_length, hz, hlen, ← Nat.add_mul]; congr 1; omega
  rcases hv with ⟨rfl, rfl, rfl⟩ | ⟨g, cap, rest, rfl, rfl, hr, hc⟩
  · refine ⟨[] ++ F, [], F, none, 0, 0, ys.length, [], ys.flatMap el, hp, List.Perm.refl _, rfl, hx, by simpa using hm, by simpa using hb, fun h => .inl ?_, fun h => ⟨Rd.none, fun g c h1 h2 => ?_⟩⟩
    · have hy : ys = [] := List.eq_nil_of_length_eq_zero (by omega)
      subst hy
      exact ⟨rfl, hK none 0 0 [] OwnR.nil⟩
    · have := hK (some ⟨g, 0, none⟩) _ c _ (by simpa using grow g c (by simpa using h1) h2)
      simpa using this
  · refine ⟨_, [_], F, some ⟨g, 0, none⟩, xs.length, cap, ys.length, xs.flatMap el, ys.flatMap el, hp, List.Perm.refl _, rfl, hx, hm, hb, fun h => .inr ⟨_, rfl, ?_⟩, fun h => ⟨?_, fun g' c h1 h2 => ?_⟩⟩
    · rw [add_mk, Nat.zero_add]
      have hfit : xs.length * sz + ys.length * sz ≤ cap * sz := by rw [← Nat.add_mul]; exact Nat.mul_le_mul_right _ h
      refine StP.list ?_ (flatMap_one ho ys) ?_
      · rw [List.length_append, flatMap_len he, flatMap_len he]; omega
      · rw [take_flat he, flatMap_len he, ← List.drop_drop, drop_flat he]
        refine hK _ _ _ [_] (.inr ⟨g, cap, rest.drop (ys.length * sz), by rw [hlen], ?_, ?_, hc⟩)
        · rw [List.flatMap_append]
        · rw [List.length_drop, hlen, Nat.add_mul]; omega
    · refine Rd.keep (Sub.keep (IMem.le.refl I) (T := S) ⟨F, hp⟩) (Rd.list ?_ ?_)
      · rw [List.drop_zero, take_flat he]
      · rw [List.length_append, flatMap_len he]; omega
    · exact hK (some ⟨g', 0, none⟩) _ c _ (grow g' c h1 h2)
end
theorem RunsX.mono {P : Program} {f : FuncId} {args : Array Value} {I : IMem} {S : SH} {R R' : Value → IMem → SH → Prop} (h : RunsX P f args I S R) (hr : ∀ v J T, I.le J → R v J T → R' v J T) : RunsX P f args I S R' :=
  fun w hw => let ⟨v, w', J, T, h1, h2, h3, h4⟩ := h w hw; ⟨v, w', J, T, h1, h2, h3, hr v J T h2 h4⟩
theorem StP.mid {B : SH} {b o : Nat} {cs : Array Value} {e : TypeId} {vs : List Value} : ∀ {A : SH} {K : SH → Prop}, o + vs.length ≤ cs.size → vs.all one = true → K (A ++ (b, .cells (setR cs o vs) e (0, 0)) :: B) → StP (A ++ (b, .cells cs e (0, 0)) :: B) ⟨b, o, none⟩ vs K
  | [], K, hl, ho, h => StP.at0 hl ho h
  | x :: A, K, hl, ho, h => StP.tl (StP.mid (A := A) (K := fun T => K (x :: T)) hl ho h)
theorem StP.listF {S : SH} {g o : Nat} {L : List Value} {e : TypeId} {vs : List Value} {K : SH → Prop} {fz : Nat × Nat} (hl : o + vs.length ≤ L.length) (hf : o + vs.length ≤ fz.1) (ho : vs.all one = true) (h : K ((g, .cells (L.take o ++ vs ++ L.drop (o + vs.length)).toArray e fz) :: S)) :
    StP ((g, .cells L.toArray e fz) :: S) ⟨g, o, none⟩ vs K := by
  refine ⟨0, L.toArray, e, fz, rfl, rfl, by simpa using hl, .inr (.inl hf), ho, ?_⟩
  rw [setR_list _ _ _ hl]; exact h
theorem Cell.mid {I : IMem} {A B : SH} {b o : Nat} {cs : Array Value} {e : TypeId} {fz : Nat × Nat} {v : Value} (h : cs[o]? = some v) : Cell I (A ++ (b, .cells cs e fz) :: B) ⟨b, o, none⟩ v :=
  ⟨rfl, cs, e, fz, .inr (by simp), h⟩
theorem sub_swap {A B : SH} {x y : Nat × Obj} : Sub ((y :: A) ++ B) (A ++ x :: y :: B) :=
  ⟨[x], (List.perm_middle.trans ((List.perm_middle).cons _)).trans (List.perm_append_comm (l₁ := [x]))⟩
theorem perm_mid2 {A B : SH} {x y : Nat × Obj} : (x :: y :: (A ++ B)).Perm (A ++ x :: y :: B) := (List.perm_middle.trans ((List.perm_middle).cons _)).symm
theorem perm_mid1 {A B : SH} {x : Nat × Obj} : (x :: (A ++ B)).Perm (A ++ x :: B) := List.perm_middle.symm

/-! ### bytes -/
def elB (b : UInt8) : List Value := [.int .u8 (b.toNat : Int)]
theorem elB_len (b : UInt8) : (elB b).length = 1 := rfl
theorem elB_one (b : UInt8) : (elB b).all one = true := rfl
def bytL (l : List UInt8) : List Value := l.map fun b => .int .u8 (b.toNat : Int)
theorem flat_elB : ∀ l : List UInt8, l.flatMap elB = bytL l
  | [] => rfl
  | b :: l => by rw [List.flatMap_cons, flat_elB l]; rfl
theorem bytL_len (l : List UInt8) : (bytL l).length = l.length := List.length_map ..
theorem BytesAt.list {I : IMem} {S : SH} {g n : Nat} {l : List UInt8} {rest : List Value} {e : TypeId} {fz : Nat × Nat} (hn : n = l.length) : BytesAt I ((g, .cells (bytL l ++ rest).toArray e fz) :: S) (some ⟨g, 0, none⟩) n ⟨l.toArray⟩ := by
  subst hn
  refine ⟨by simp [ByteArray.size], fun i c hc => ?_⟩
  rw [add_mk, Nat.zero_add]
  refine Cell.at0 ?_
  have hi : i < l.length := by
    rcases Nat.lt_or_ge i l.length with h | h
    · exact h
    · rw [getElem?_neg (⟨l.toArray⟩ : ByteArray) i (by simp [ByteArray.size]; omega)] at hc; cases hc
  have hli : l[i]? = some c := by
    rw [getElem?_pos (⟨l.toArray⟩ : ByteArray) i (by simp [ByteArray.size]; omega)] at hc
    injection hc with hc
    rw [List.getElem?_eq_getElem hi, ← hc]; rfl
  rw [List.getElem?_toArray, List.getElem?_append_left (by rw [bytL_len]; exact hi), bytL, List.getElem?_map, hli]
  rfl
end Go.Px
/- strings.Builder; bytes folded. -/
namespace Go.Proofs.YthlkeokfmedjhaaGreat
open Go.Px
set_option linter.unusedVariables false

theorem noesc_runs {I : IMem} {S : SH} (x : Value) : RunsX Tryz.prog 92 #[x] I S fun v _ T => v = x ∧ T = S := by
  intro w hw
  refine ⟨x, w, I, S, ?_, IMem.le.refl I, hw, rfl, rfl⟩
  rw [run_callFunc_extern Tryz.func92 (by kernel_rfl) (by kernel_rfl) (by kernel_rfl) (e := Extern.AbiNoEscape.same) (by kernel_rfl)]
  rfl
abbrev bldO (p : Option Addr) (A : Option Addr) (n c : Nat) : Obj := .cells #[.pointer p, .slice A n c] 113 (0, 0)
theorem chk_runs {b : Nat} {p A : Option Addr} {n c : Nat} {I : IMem} {F : SH} (hp : p = none ∨ p = some ⟨b, 0, none⟩) :
    Runs Tryz.prog 74 #[.pointer (some ⟨b, 0, none⟩)] I ((b, bldO p A n c) :: F) fun v _ T => v = .tuple #[] ∧ T = (b, bldO (some ⟨b, 0, none⟩) A n c) :: F := by
  refine strings_Builder_copyCheck_fn _ _ _ _ ?_
  unfold strings_Builder_copyCheck
  refine ⟨p, Cell.at0 rfl, ?_⟩
  rcases hp with rfl | rfl
  · refine bcase_t rfl ⟨_, _, ⟨(0, 0), .inr (List.mem_cons_self ..)⟩, by simp, (noesc_runs _).mono ?_⟩
    rintro v J T hle ⟨rfl, rfl⟩
    refine ⟨_, rfl, _, _, ⟨(0, 0), .inr (List.mem_cons_self ..)⟩, ?_, StP.at0 (o := 0) (vs := [.pointer (some ⟨b, 0, none⟩)]) (by simp) rfl ⟨rfl, rfl⟩⟩
    show liesAt Tryz.prog (Program.depth Tryz.prog) 113 (2 / Program.cellsOf Tryz.prog 113) 0 113 1 = true
    kernel_rfl
  · exact bcase_f rfl ⟨_, Cell.at0 rfl, rfl, rfl, rfl⟩

/-- a builder that has these bytes -/
def Bld (b : Nat) (s : ByteArray) (own : SH) : Prop := ∃ p A n c own', own = (b, bldO p A n c) :: own' ∧ (p = none ∨ p = some ⟨b, 0, none⟩) ∧ (A.isSome = true → c ≠ 0) ∧ OwnR 5 1 elB (.slice A n c) s.data.toList own'
theorem own_cap {α : Type} {el : α → List Value} {e : TypeId} {A : Option Addr} {n c : Nat} {xs : List α} {own : SH} (h : OwnR e 1 el (.slice A n c) xs own) (hx : 0 < xs.length) : A.isSome = true → c ≠ 0 := by
  intro ha
  rcases h with ⟨hv, _⟩ | ⟨g, cap, rest, hv, _, hcap, _⟩
  · injection hv with h1; subst h1; cases ha
  · injection hv with h1 h2 h3; omega
theorem row_lies {P : Program} {d : Nat} {fits : TypeId → Bool} {e : TypeId} {count n : Nat} (h1 : P.cellsOf e = 1) (h2 : fits e = true) (h3 : n ≤ count) : rowAt P fits (d + 1) e count 0 n = true := by
  unfold rowAt
  simp [h1, h2, h3]
theorem Len_runs {b : Nat} {s : ByteArray} {own : SH} (h : Bld b s own) (I : IMem) (F : SH) : Runs Tryz.prog 55 #[.pointer (some ⟨b, 0, none⟩)] I (own ++ F) fun v _ T => v = .int .i64 (s.size : Int) ∧ T = own ++ F := by
  obtain ⟨p, A, n, c, own', rfl, hp, hc0, ho⟩ := h
  refine strings_Builder_Len_fn _ _ _ _ ?_
  unfold strings_Builder_Len
  refine ⟨_, _, _, Cell.at0 rfl, ?_, rfl⟩
  rw [ho.len]; rfl
theorem WByte_runs {b : Nat} {s : ByteArray} {own : SH} (h : Bld b s own) (u : UInt8) (hs : s.size + 1 ≤ 140737488355328) (I : IMem) (F : SH) :
    Runs Tryz.prog 56 #[.pointer (some ⟨b, 0, none⟩), .int .u8 (u.toNat : Int)] I (own ++ F) fun v _ T => v = .nilIface ∧ ∃ own', Bld b (s.push u) own' ∧ Sub (own' ++ F) T := by
  obtain ⟨p, A, n, c, own', rfl, hp, hc0, ho⟩ := h
  refine strings_Builder_WriteByte_fn _ _ _ _ _ ?_
  unfold strings_Builder_WriteByte
  refine (chk_runs hp).mono ?_
  rintro v J T hle ⟨rfl, rfl⟩
  refine ⟨rfl, _, _, _, Cell.at0 rfl, fun b13 => ?_⟩
  have hsz : s.data.toList.length = s.size := Array.length_toList
  refine AppG.own (xs := s.data.toList) (ys := [u]) (el := elB) (own := own') (F := (b13, .cells #[.int .u8 (u.toNat : Int)] 5 (0, 0)) :: (b, bldO (some ⟨b, 0, none⟩) A n c) :: F) elB_len elB_one rfl perm_mid2 ho ⟨?_, rfl⟩ ?_ ?_ ?_
  · exact Rd.list (L := elB u) rfl (by simp [elB_len])
  · rw [hsz]; simp only [List.length_singleton, maxLen]; omega
  · rw [hsz]; simp only [List.length_singleton]; omega
  · intro q m d own2 ho2
    have e : own2 ++ (b13, Obj.cells #[.int .u8 (u.toNat : Int)] 5 (0, 0)) :: (b, bldO (some ⟨b, 0, none⟩) A n c) :: F = (own2 ++ [(b13, Obj.cells #[.int .u8 (u.toNat : Int)] 5 (0, 0))]) ++ (b, bldO (some ⟨b, 0, none⟩) A n c) :: F := by simp
    rw [e]
    refine StP.mid (o := 1) (vs := [.slice q m d]) (by simp) rfl ⟨rfl, (b, bldO (some ⟨b, 0, none⟩) q m d) :: own2, ⟨_, q, m, d, own2, rfl, .inr rfl, own_cap ho2 (by simp), ?_⟩, ?_⟩
    · have : (s.push u).data.toList = s.data.toList ++ [u] := by simp [ByteArray.push]
      rw [this]; exact ho2
    · rw [List.append_assoc]
      exact sub_swap
theorem WStr_runs {b : Nat} {s t : ByteArray} {own : SH} (h : Bld b s own) (h0 : 0 < s.size + t.size) (hs : s.size + t.size ≤ 140737488355328) (I : IMem) (F : SH) :
    Runs Tryz.prog 57 #[.pointer (some ⟨b, 0, none⟩), .string t] I (own ++ F) fun v _ T => v = .tuple #[.int .i64 (t.size : Int), .nilIface] ∧ ∃ own', Bld b (s ++ t) own' ∧ Sub (own' ++ F) T := by
  obtain ⟨p, A, n, c, own', rfl, hp, hc0, ho⟩ := h
  refine strings_Builder_WriteString_fn _ _ _ _ _ ?_
  unfold strings_Builder_WriteString
  refine (chk_runs hp).mono ?_
  rintro v J T hle ⟨rfl, rfl⟩
  refine ⟨rfl, _, _, _, Cell.at0 rfl, ?_⟩
  have hsz : s.data.toList.length = s.size := Array.length_toList
  have htz : t.data.toList.length = t.size := Array.length_toList
  refine AppG.own (xs := s.data.toList) (ys := t.data.toList) (el := elB) (own := own') (F := (b, bldO (some ⟨b, 0, none⟩) A n c) :: F) elB_len elB_one rfl perm_mid1 ho ⟨t, rfl, htz, flat_elB _, rfl⟩ ?_ ?_ ?_
  · rw [hsz, htz]; simp only [maxLen]; omega
  · rw [hsz, htz]; omega
  · intro q m d own2 ho2
    refine StP.mid (o := 1) (vs := [.slice q m d]) (by simp) rfl ⟨rfl, (b, bldO (some ⟨b, 0, none⟩) q m d) :: own2, ⟨_, q, m, d, own2, rfl, .inr rfl, own_cap ho2 (by rw [List.length_append, hsz, htz]; exact h0), ?_⟩, ?_⟩
    · have : (s ++ t).data.toList = s.data.toList ++ t.data.toList := by simp
      rw [this]; exact ho2
    · exact ⟨[], by rw [List.append_nil]; exact List.perm_middle⟩
theorem Str_runs {b : Nat} {s : ByteArray} {own : SH} (h : Bld b s own) (hs : s.size ≤ 140737488355328) (I : IMem) (F : SH) :
    Runs Tryz.prog 59 #[.pointer (some ⟨b, 0, none⟩)] I (own ++ F) fun v _ T => v = .string s ∧ Sub F T := by
  obtain ⟨p, A, n, c, own', rfl, hp, hc0, ho⟩ := h
  refine strings_Builder_String_fn _ _ _ _ ?_
  unfold strings_Builder_String strings_Builder_String_b1 strings_Builder_String_b2
  have hln := ho.len
  have hsz : s.data.toList.length = s.size := Array.length_toList
  rw [hsz] at hln
  subst hln
  have hs0 : s.size = 0 → s = ByteArray.empty := fun h => by
    apply ByteArray.ext
    have : s.data.size = 0 := h
    simp [Array.eq_empty_of_size_eq_zero this]
  rcases ho with ⟨hv, hx, rfl⟩ | ⟨g, cap, rest, hv, rfl, hcap, hcm⟩
  · injection hv with h1 h2 h3
    subst h1
    refine ⟨_, _, _, Cell.at0 rfl, fun h => (by simp at h), _, _, _, Cell.at0 rfl, .inl ⟨by omega, ?_, ⟨[_], List.perm_append_comm (l₁ := [_])⟩⟩⟩
    rw [hs0 h2]
  · injection hv with h1 h2 h3
    subst h1; subst h3
    by_cases h0 : s.size = 0
    · refine ⟨_, _, _, Cell.at0 rfl, fun _ => hc0 rfl, _, _, _, Cell.at0 rfl, .inl ⟨by omega, ?_, ⟨[_, _], List.perm_append_comm (l₁ := [_, _])⟩⟩⟩
      rw [hs0 h0]
    · have hsc : s.size ≤ c := by rw [hsz] at hcap; omega
      refine ⟨_, _, _, Cell.at0 rfl, fun _ => by omega, _, _, _, Cell.at0 rfl, .inr ⟨⟨g, 0, none⟩, 1, _, _, (0, 0), s, rfl, by omega, by omega, rfl, ?_, ?_, rfl, ⟨[_, _], List.perm_append_comm (l₁ := [_, _])⟩⟩⟩
      · have hcs : ((s.data.toList.flatMap elB ++ rest).toArray).size = c := by
          rw [List.size_toArray, List.length_append, flatMap_len elB_len]; omega
        rw [hcs]
        have h1 : Program.cellsOf Tryz.prog 5 = 1 := by kernel_rfl
        rw [h1, Nat.div_one]
        have hd : ∃ d, Program.depth Tryz.prog = d + 1 + 1 := ⟨Program.depth Tryz.prog - 2, by kernel_rfl⟩
        obtain ⟨d, hd⟩ := hd
        rw [hd]
        have hsl : sameLayout Tryz.prog (Program.depth Tryz.prog) 5 5 = true := by kernel_rfl
        unfold liesAt
        have key : ∀ D, D = d + 1 + 1 → rowAt Tryz.prog (fun x => sameLayout Tryz.prog (Program.depth Tryz.prog) x 5) D 5 c 0 s.size = true := fun D hD => by subst hD; exact row_lies h1 hsl hsc
        rw [Int.toNat_natCast]
        show (rowAt Tryz.prog (fun x => sameLayout Tryz.prog (Program.depth Tryz.prog) x 5) (Program.depth Tryz.prog) 5 c 0 s.size || _) = true
        rw [key _ hd]
        rfl
      · rw [flat_elB, Int.toNat_natCast]
        refine BytesAt.tl ?_
        have : s = ⟨s.data.toList.toArray⟩ := by apply ByteArray.ext; simp
        have hb := BytesAt.list (I := I) (S := F) (g := g) (n := s.size) (l := s.data.toList) (rest := rest) (e := 5) (fz := (0, 0)) hsz.symm
        rw [← this] at hb
        exact hb
end Go.Proofs.YthlkeokfmedjhaaGreat
/- Bytes folded; names made of labels; the law's words. -/
namespace Go.Proofs.YthlkeokfmedjhaaGreat
open Go.Px
set_option linter.unusedVariables false

def foldU (u : UInt8) : UInt8 := if 65 ≤ u.toNat ∧ u.toNat ≤ 90 then UInt8.ofNat (u.toNat + 32) else u
def foldB (s : ByteArray) : ByteArray := ⟨(s.data.toList.map foldU).toArray⟩
theorem foldB_size (s : ByteArray) : (foldB s).size = s.size := by
  show ((s.data.toList.map foldU).toArray).size = s.data.size
  simp
theorem ofNatU {n : Nat} (h : n < 256) : (UInt8.ofNat n).toNat = n := by
  show n % 256 = n
  exact Nat.mod_eq_of_lt h
theorem Fold_runs (u : UInt8) (I : IMem) (S : SH) : Runs Tryz.prog 75 #[.int .u8 (u.toNat : Int)] I S fun v _ T => v = .int .u8 ((foldU u).toNat : Int) ∧ T = S := by
  refine name_Fold_fn _ _ _ _ ?_
  unfold name_Fold name_Fold_b1 name_Fold_b2 name_Fold_b3
  have hu := u.toNat_lt
  refine bcase_dec (fun h => bcase_dec (fun g => ⟨?_, rfl⟩) (fun g => ⟨?_, rfl⟩)) (fun h => bcase_f rfl ⟨?_, rfl⟩)
  · rw [foldU, if_pos ⟨by omega, by omega⟩, wrap_u8 (x := (u.toNat : Int) + 97) (by omega) (by omega), wrap_u8 (by omega) (by omega)]
    have : (UInt8.ofNat (u.toNat + 32)).toNat = u.toNat + 32 := by
      exact ofNatU (by omega)
    rw [this]; congr 1; omega
  · rw [foldU, if_neg (by omega)]
  · rw [foldU, if_neg (by omega)]
theorem folded_runs (s : ByteArray) (hs : s.size ≤ 140737488355328) (I : IMem) (S : SH) : Runs Tryz.prog 58 #[.string s] I S fun v _ T => v = .string (foldB s) ∧ T = S := by
  refine Runs.drop (name_folded_fn _ _ _ _ ?_)
  unfold name_folded name_folded_b1 name_folded_b2
  refine ⟨by simp only [maxLen]; omega, fun g c hc hcm => ?_⟩
  have hln : s.data.toList.length = s.size := Array.length_toList
  generalize hl : s.data.toList = l at hln
  have hbc : byteCells s = bytL l := by rw [← hl]; rfl
  rw [hbc]
  generalize hrest : repV (c - s.size) [Value.int .u8 0] = rest
  have hK : ∀ k, (bytL ((l.take k).map foldU)).length = min k l.length := fun k => by rw [bytL_len, List.length_map, List.length_take]
  refine ⟨fun m b bn bc x xn xc q i J T => b = some ⟨g, 0, none⟩ ∧ bn = s.size ∧ x = some ⟨g, 0, none⟩ ∧ xn = s.size ∧ q = (s.size : Int) ∧ ∃ k : Nat, i = (k : Int) ∧ k ≤ s.size ∧ m = s.size - k ∧
    T = (g, .cells (bytL ((l.take k).map foldU) ++ (bytL (l.drop k) ++ rest)).toArray 5 (c, c + 1)) :: S, s.size, ⟨rfl, rfl, rfl, rfl, rfl, 0, rfl, Nat.zero_le _, rfl, by simp [bytL]⟩, ?_⟩
  rintro m b bn bc x xn xc q i J T - ⟨rfl, rfl, rfl, rfl, rfl, k, rfl, hk, rfl, rfl⟩
  unfold name_folded_l3 name_folded_b4
  refine bcase_dec (fun h => ?_) (fun h => ?_)
  · have hkl : k < l.length := by omega
    have hd : l.drop k = l[k] :: l.drop (k + 1) := List.drop_eq_getElem_cons hkl
    have hkk : (bytL ((l.take k).map foldU)).length = k := by rw [hK]; omega
    refine ⟨by omega, by omega, (l[k].toNat : Int), ?_, (Fold_runs l[k] _ _).mono ?_⟩
    · rw [add_mk]
      refine Cell.at0 ?_
      rw [List.getElem?_toArray, List.getElem?_append_right (by rw [hkk]; omega), hkk, hd]
      have : 0 + ((k : Int)).toNat * 1 - k = 0 := by omega
      rw [this]; rfl
    · rintro v J' T' hle ⟨rfl, rfl⟩
      refine ⟨_, rfl, by omega, by omega, ?_⟩
      rw [add_mk]
      have e : 0 + ((k : Int)).toNat * 1 = k := by omega
      rw [e]
      refine StP.listF ?_ ?_ rfl ⟨s.size - (k + 1), by omega, rfl, rfl, rfl, rfl, rfl, k + 1, ?_, by omega, rfl, ?_⟩
      · rw [List.length_append, List.length_append, hkk, bytL_len, List.length_drop]; simp only [List.length_singleton]; omega
      · simp only [List.length_singleton]; omega
      · rw [wrap_i64 (by omega) (by omega)]; rfl
      · have t1 : (bytL ((l.take k).map foldU) ++ (bytL (l.drop k) ++ rest)).take k = bytL ((l.take k).map foldU) := by
          conv => lhs; rw [← hkk]
          rw [hkk]; conv => lhs; arg 1; rw [← hkk]
          exact List.take_left
        have t2 : (bytL ((l.take k).map foldU) ++ (bytL (l.drop k) ++ rest)).drop (k + [Value.int .u8 ((foldU l[k]).toNat : Int)].length) = bytL (l.drop (k + 1)) ++ rest := by
          rw [List.length_singleton, ← List.drop_drop]
          have : (bytL ((l.take k).map foldU) ++ (bytL (l.drop k) ++ rest)).drop k = bytL (l.drop k) ++ rest := by
            conv => lhs; arg 1; rw [← hkk]
            exact List.drop_left
          rw [this, hd]; rfl
        rw [t1, t2]
        have t3 : l.take (k + 1) = l.take k ++ [l[k]] := by rw [List.take_add_one, List.getElem?_eq_getElem hkl]; rfl
        have t4 : bytL ((l.take (k + 1)).map foldU) = bytL ((l.take k).map foldU) ++ [Value.int .u8 ((foldU l[k]).toNat : Int)] := by
          rw [t3, List.map_append, bytL, List.map_append]; rfl
        rw [t4]
  · have : k = s.size := by omega
    subst this
    refine ⟨foldB s, ?_, S, (Sub.refl S).skip _, rfl, rfl⟩
    have t1 : l.take s.size = l := by rw [← hln]; exact List.take_length
    have t2 : l.drop s.size = [] := by rw [← hln]; exact List.drop_length
    rw [t1, t2]
    have hb := BytesAt.list (I := J) (S := S) (g := g) (n := s.size) (l := l.map foldU) (rest := bytL [] ++ rest) (e := 5) (fz := (c, c + 1)) (by rw [List.length_map, hln])
    have hf : foldB s = ⟨(l.map foldU).toArray⟩ := by rw [foldB, hl]
    rw [hf]; exact hb

/-! ### names -/
def makeN : List ByteArray → ByteArray → Option ByteArray
  | [], acc => some acc
  | l :: ls, acc => if l.size < 1 ∨ l.size > 63 ∨ acc.size + 1 + l.size > 254 then none else makeN ls (acc.push (UInt8.ofNat l.size) ++ foldB l)
theorem app_size (a b : ByteArray) : (a ++ b).size = a.size + b.size := ByteArray.size_append
theorem makeN_size : ∀ {ls : List ByteArray} {acc n : ByteArray}, acc.size ≤ 254 → makeN ls acc = some n → n.size ≤ 254
  | [], acc, n, h, e => by simp [makeN] at e; subst e; exact h
  | l :: ls, acc, n, h, e => by
    unfold makeN at e
    split at e
    · cases e
    · refine makeN_size ?_ e
      rw [app_size, foldB_size, ByteArray.size_push]; omega
def elS (s : ByteArray) : List Value := [.string s]
def mkV : Option ByteArray → Value
  | some n => .tuple #[.string n, .bool true]
  | none => .tuple #[.string ⟨#[]⟩, .bool false]
theorem Make_runs {ls : List ByteArray} {a : Option Addr} {c : Nat} {I : IMem} {S : SH} (hx : RowIn I S a ls.length 1 elS ls) (hl : ls.length ≤ 140737488355328) :
    Runs Tryz.prog 43 #[.slice a ls.length c] I S fun v _ T => v = mkV (makeN ls ByteArray.empty) ∧ T = S := by
  refine Runs.drop (name_Make_fn _ _ _ _ _ _ ?_)
  unfold name_Make name_Make_b1 name_Make_b2
  intro b4
  refine ⟨fun m o x xn xc q i J T => o = ⟨b4, 0, none⟩ ∧ x = a ∧ xn = ls.length ∧ q = (ls.length : Int) ∧ I.le J ∧ ∃ (k : Nat) (acc : ByteArray) (own : SH), i = (k : Int) ∧ k ≤ ls.length ∧ m = ls.length - k ∧ Bld b4 acc own ∧ Sub (own ++ S) T ∧ acc.size ≤ 254 ∧ makeN ls ByteArray.empty = makeN (ls.drop k) acc,
    ls.length, ⟨rfl, rfl, rfl, rfl, IMem.le.refl I, 0, ByteArray.empty, _, rfl, Nat.zero_le _, rfl, ⟨none, none, 0, 0, [], rfl, .inl rfl, fun h => (by cases h), OwnR.nil⟩, Sub.refl _, Nat.zero_le _, rfl⟩, ?_⟩
  rintro m o x xn xc q i J T - ⟨rfl, rfl, rfl, rfl, hle, k, acc, own, rfl, hk, rfl, hb, hs, hacc, hm⟩
  unfold name_Make_l3 name_Make_b4 name_Make_b5 name_Make_b6 name_Make_b7 name_Make_b8 name_Make_b9
  have bad : ∀ (J : IMem) (T : SH), Sub S T → makeN ls ByteArray.empty = none → ∃ L, Sub L T ∧ Value.tuple #[.string ⟨#[]⟩, .bool false] = mkV (makeN ls ByteArray.empty) ∧ L = S := fun J T h e => ⟨S, h, by rw [e]; rfl, rfl⟩
  refine bcase_dec (fun h => ?_) (fun h => ?_)
  · have hkl : k < ls.length := by omega
    obtain ⟨a', rfl, hc⟩ := ((hx.sub hs.right).le hle).cell (List.getElem?_eq_getElem hkl)
    have hd : ls.drop k = ls[k] :: ls.drop (k + 1) := List.drop_eq_getElem_cons hkl
    generalize ls[k] = l at hc hd
    rw [hd, makeN] at hm
    refine ⟨by omega, by omega, l, ?_, ?_⟩
    · have := hc 0 (.string l) rfl
      simpa [Addr.add] using this
    · refine bcase_dec (fun h1 => bcase_t rfl (bad J T hs.right (by rw [hm, if_pos (.inl (by omega))]))) (fun h1 => bcase_dec (fun h2 => bcase_t rfl (bad J T hs.right (by rw [hm, if_pos (.inr (.inl (by omega)))]))) (fun h2 => ?_))
      refine Runs.use hs (Len_runs hb J S) ?_
      rintro v J1 T1 hle1 ⟨rfl, rfl⟩
      refine ⟨_, rfl, ?_⟩
      rw [wrap_i64 (x := (acc.size : Int) + 1) (by omega) (by omega), wrap_i64 (by omega) (by omega)]
      refine bcase_dec (fun h3 => bad J1 _ (Sub.right (Sub.refl _)) (by rw [hm, if_pos (.inr (.inr (by omega)))])) (fun h3 => ?_)
      rw [if_neg (by omega)] at hm
      have hu : IntKind.wrap .u8 (l.size : Int) = ((UInt8.ofNat l.size).toNat : Int) := by
        rw [wrap_u8 (by omega) (by omega), ofNatU (by omega)]
      rw [hu]
      refine (WByte_runs hb (UInt8.ofNat l.size) (by omega) J1 S).mono ?_
      rintro v J2 T2 hle2 ⟨rfl, own2, hb2, hs2⟩
      refine ⟨_, rfl, (folded_runs l (by omega) J2 T2).mono ?_⟩
      rintro v J3 T3 hle3 ⟨rfl, rfl⟩
      have hsz : (acc.push (UInt8.ofNat l.size)).size = acc.size + 1 := ByteArray.size_push
      refine ⟨_, rfl, Runs.use hs2 (WStr_runs hb2 (t := foldB l) (by omega) (by rw [hsz, foldB_size]; omega) J3 S) ?_⟩
      rintro v J4 T4 hle4 ⟨rfl, own4, hb4, hs4⟩
      refine ⟨_, _, rfl, ls.length - (k + 1), by omega, rfl, rfl, rfl, rfl, (((hle.trans hle1).trans hle2).trans hle3).trans hle4, k + 1, _, own4, ?_, by omega, rfl, hb4, hs4, ?_, hm⟩
      · rw [wrap_i64 (by omega) (by omega)]; rfl
      · rw [app_size, hsz, foldB_size]; omega
  · have : k = ls.length := by omega
    subst this
    rw [List.drop_length, makeN] at hm
    refine Runs.use hs (Str_runs hb (by omega) J S) ?_
    rintro v J1 T1 hle1 ⟨rfl, hsub⟩
    exact ⟨_, rfl, S, hsub, by rw [hm]; rfl, rfl⟩

def wordsL : List ByteArray := [⟨#[97]⟩, ⟨#[98]⟩, ⟨#[99]⟩, ⟨#[119, 119, 119]⟩, ⟨#[101, 120]⟩, ⟨#[111, 114, 103]⟩, ⟨#[42]⟩, ⟨#[114, 112, 122, 45, 105, 112]⟩]
def wd (x : Int) : ByteArray := (wordsL[(x.tmod 8).toNat]?).getD ⟨#[]⟩
def elI8 (x : Int) : List Value := [.int .u8 x]
theorem wd_at (x : Int) (h0 : 0 ≤ x) : (#[.string ⟨#[97]⟩, .string ⟨#[98]⟩, .string ⟨#[99]⟩, .string ⟨#[119, 119, 119]⟩, .string ⟨#[101, 120]⟩, .string ⟨#[111, 114, 103]⟩, .string ⟨#[42]⟩, .string ⟨#[114, 112, 122, 45, 105, 112]⟩] : Array Value)[(x.tmod 8).toNat]? = some (.string (wd x)) := by
  have hlt : (x.tmod 8).toNat < 8 := by rw [Int.tmod_eq_emod_of_nonneg h0]; omega
  unfold wd
  generalize (x.tmod 8).toNat = j at hlt
  match j, hlt with
  | 0, _ => rfl
  | 1, _ => rfl
  | 2, _ => rfl
  | 3, _ => rfl
  | 4, _ => rfl
  | 5, _ => rfl
  | 6, _ => rfl
  | 7, _ => rfl
theorem Words_runs {xs : List Int} {a : Option Addr} {c : Nat} {I : IMem} {S : SH} (hx : RowIn I S a xs.length 1 elI8 xs) (hl : xs.length ≤ 9223372036854775807) (hp : ∀ x ∈ xs, 0 ≤ x) :
    Runs Tryz.prog 44 #[.slice a xs.length c] I S fun v _ T => ∃ own, OwnR 9 1 elS v ((xs.take 12).map wd) own ∧ Sub (own ++ S) T := by
  refine bolterlaw02_Words_fn _ _ _ _ _ _ ?_
  unfold bolterlaw02_Words bolterlaw02_Words_b1 bolterlaw02_Words_b2
  refine ⟨fun m o on oc x xn xc q i J T => x = a ∧ xn = xs.length ∧ q = (xs.length : Int) ∧ I.le J ∧ ∃ (k : Nat) (own : SH), i = (k : Int) ∧ k ≤ xs.length ∧ k ≤ 12 ∧ m = xs.length - k ∧ OwnR 9 1 elS (.slice o on oc) ((xs.take k).map wd) own ∧ Sub (own ++ S) T,
    xs.length, ⟨rfl, rfl, rfl, IMem.le.refl I, 0, [], rfl, Nat.zero_le _, Nat.zero_le _, rfl, OwnR.nil, Sub.refl _⟩, ?_⟩
  rintro m o on oc x xn xc q i J T - ⟨rfl, rfl, rfl, hle, k, own, rfl, hk, hk12, rfl, ho, hs⟩
  unfold bolterlaw02_Words_l3 bolterlaw02_Words_b4
  refine bcase_dec (fun h => ?_) (fun h => ?_)
  · have hkl : k < xs.length := by omega
    obtain ⟨a', rfl, hc⟩ := ((hx.sub hs.right).le hle).cell (List.getElem?_eq_getElem hkl)
    have hpos := hp xs[k] (List.getElem_mem hkl)
    have ht : xs.take (k + 1) = xs.take k ++ [xs[k]] := by rw [List.take_add_one, List.getElem?_eq_getElem hkl]; rfl
    generalize xs[k] = y at hc hpos ht
    have hm8 : 0 ≤ y.tmod 8 ∧ y.tmod 8 < 8 := by rw [Int.tmod_eq_emod_of_nonneg hpos]; omega
    refine ⟨by omega, by omega, y, ?_, bcase_beq (fun h12 => ?_) (fun h12 => ?_)⟩
    · have := hc 0 (.int .u8 y) rfl
      simpa [Addr.add] using this
    · obtain rfl : k = 12 := by omega
      exact ⟨own, ho, hs⟩
    · intro b16
      refine ⟨hm8.1, hm8.2, wd y, ?_, fun b23 => ?_⟩
      · rw [add_mk, Nat.zero_add, Nat.mul_one]
        exact Cell.at0 (wd_at y hpos)
      · obtain ⟨G, hG⟩ := hs
        refine AppG.own (xs := (xs.take k).map wd) (ys := [wd y]) (el := elS) (own := own) (F := (b23, .cells #[.string (wd y)] 9 (0, 0)) :: (b16, _) :: (S ++ G)) (fun _ => rfl) (fun _ => rfl) rfl (((hG.cons _).cons _).trans (by rw [List.append_assoc]; exact perm_mid2)) ho ⟨?_, rfl⟩ ?_ ?_ ?_
        · exact Rd.list (L := elS (wd y)) rfl (by simp [elS])
        · rw [List.length_map, List.length_take]; simp only [List.length_singleton, maxLen]; omega
        · rw [List.length_map, List.length_take]; simp only [List.length_singleton]; omega
        · intro p n d own2 ho2
          refine ⟨xs.length - (k + 1), by omega, rfl, rfl, rfl, hle, k + 1, own2, ?_, by omega, by omega, rfl, ?_, ?_⟩
          · rw [wrap_i64 (by omega) (by omega)]; rfl
          · rw [ht, List.map_append]; exact ho2
          · exact ⟨(b23, _) :: (b16, _) :: G, by
              rw [List.append_assoc]
              refine List.Perm.append_left own2 ?_
              exact (perm_mid2 (A := S) (B := G))⟩
  · have hke : k = xs.length := by omega
    refine ⟨own, ?_, hs⟩
    have : xs.take 12 = xs.take k := by rw [List.take_of_length_le (by omega), List.take_of_length_le (by omega)]
    rw [this]; exact ho
def nameW (xs : List Int) : ByteArray := (makeN ((xs.take 12).map wd) ByteArray.empty).getD ⟨#[]⟩
theorem nameW_size (xs : List Int) : (nameW xs).size ≤ 254 := by
  unfold nameW
  cases h : makeN ((xs.take 12).map wd) ByteArray.empty with
  | none => show (⟨#[]⟩ : ByteArray).size ≤ 254; decide
  | some n => exact makeN_size (Nat.zero_le _) h
theorem Name_runs {xs : List Int} {a : Option Addr} {c : Nat} {I : IMem} {S : SH} (hx : RowIn I S a xs.length 1 elI8 xs) (hl : xs.length ≤ 9223372036854775807) (hp : ∀ x ∈ xs, 0 ≤ x) :
    Runs Tryz.prog 25 #[.slice a xs.length c] I S fun v _ T => v = .string (nameW xs) ∧ T = S := by
  refine Runs.drop (bolterlaw02_Name_fn _ _ _ _ _ _ ?_)
  unfold bolterlaw02_Name
  refine (Words_runs hx hl hp).mono ?_
  rintro v J T hle ⟨own, ho, hs⟩
  obtain ⟨p, d, rfl⟩ := ho.slice
  refine ⟨_, _, _, rfl, ?_⟩
  have hrow := (OwnR.row (el := elS) (sz := 1) (fun _ => rfl) ho (I := J)).sub hs.left
  refine (Make_runs hrow (by rw [List.length_map, List.length_take]; omega)).mono ?_
  rintro v J' T' hle' ⟨rfl, rfl⟩
  cases h : makeN ((xs.take 12).map wd) ByteArray.empty with
  | none => exact ⟨_, _, rfl, S, hs.right, by rw [nameW, h]; rfl, rfl⟩
  | some n => exact ⟨_, _, rfl, S, hs.right, by rw [nameW, h]; rfl, rfl⟩
end Go.Proofs.YthlkeokfmedjhaaGreat
