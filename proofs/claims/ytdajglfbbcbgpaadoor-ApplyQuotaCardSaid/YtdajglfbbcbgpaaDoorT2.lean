import Derived.Test.YtdajglfbbcbgpaaDoorProg
import Derived.Test.YtdajglfbbcbgpaaDoorPx6
set_option linter.unusedVariables false
set_option maxRecDepth 8000
set_option maxHeartbeats 2000000
namespace Go.Proofs.YtdajglfbbcbgpaaDoor
open Go.Px
/-! ### bolterlaw05_Record: function 12, bolter/bolterlaw05.Record -/
noncomputable def bolterlaw05_Record_code : Code := (Tryd.f12.body).getD .skip
def bolterlaw05_Record_b3 (R : Value → IMem → SH → Prop) (x2 : Addr) (I : IMem) (S : SH) : Prop :=
  ∃ r2_0, Cell I S x2 (.string r2_0) ∧
  ∃ r2_1, Cell I S (x2.add 1) (.int .u16 r2_1) ∧
  ∃ r2_2, Cell I S (x2.add 2) (.int .u32 r2_2) ∧
  ∃ r2_3, Cell I S (x2.add 3) (.string r2_3) ∧
  R (.agg #[.string r2_0, .int .u16 r2_1, .int .u32 r2_2, .string r2_3]) I S
def bolterlaw05_Record_b2 (R : Value → IMem → SH → Prop) (a_1 : Addr) (x2 : Addr) (t_3 : Int) (d_4 : ByteArray) (I : IMem) (S : SH) : Prop :=
  ∃ x22 x22n x22c, Cell I S a_1 (.slice x22 x22n x22c) ∧
  ∃ x26, Cell I S (a_1.add 2) (.int .u32 x26) ∧
  Runs Tryd.prog 32 #[.slice x22 x22n x22c] I S fun v I1 S1 => ∃ x23, v = .string x23 ∧
  Keep I S I1 S1 ∧
  StP S1 x2 [.string x23, .int .u16 t_3, .int .u32 x26, .string d_4] fun S1' =>
  bolterlaw05_Record_b3 R x2 I1 S1'
def bolterlaw05_Record_b1 (R : Value → IMem → SH → Prop) (a_1 : Addr) (x2 : Addr) (I : IMem) (S : SH) : Prop :=
  ∃ x7, Cell I S (a_1.add 1) (.int .u8 x7) ∧
  ∃ x10 x10n x10c, Cell I S (a_1.add 3) (.slice x10 x10n x10c) ∧
  ∃ x12, Cell I S (a_1.add 4) (.string x12) ∧
  ∃ x14, Cell I S (a_1.add 4) (.string x14) ∧
  (0 : Int) ≤ (if (30 : Int) < (x14.size : Int) then (30 : Int) else (x14.size : Int)) ∧ (if (30 : Int) < (x14.size : Int) then (30 : Int) else (x14.size : Int)) ≤ ((x12.size : Nat) : Int) ∧
  Runs Tryd.prog 31 #[.int .u16 (IntKind.wrap .u16 x7), .slice x10 x10n x10c, .string (x12.extract 0 ((if (30 : Int) < (x14.size : Int) then (30 : Int) else (x14.size : Int)).toNat))] I S fun v I1 S1 => ∃ x18_0 x18_1, v = .tuple #[.int .u16 x18_0, .string x18_1] ∧
  bolterlaw05_Record_b2 R a_1 x2 x18_0 x18_1 I1 S1
def bolterlaw05_Record (R : Value → IMem → SH → Prop) (a_0_0 : Option Addr) (a_0_0n : Nat) (a_0_0c : Nat) (a_0_1 : Int) (a_0_2 : Int) (a_0_3 : Option Addr) (a_0_3n : Nat) (a_0_3c : Nat) (a_0_4 : ByteArray) (I : IMem) (S : SH) : Prop :=
  ∀ b1 : Nat,
  ∀ b2 : Nat,
  bolterlaw05_Record_b1 R ⟨b1, 0, none⟩ ⟨b2, 0, none⟩ I ((b2, .cells #[.string ⟨#[]⟩, .int .u16 0, .int .u32 0, .string ⟨#[]⟩] 36 (0, 0)) :: ((b1, .cells #[.slice a_0_0 a_0_0n a_0_0c, .int .u8 a_0_1, .int .u32 a_0_2, .slice a_0_3 a_0_3n a_0_3c, .string a_0_4] 26 (0, 0)) :: S))
theorem bolterlaw05_Record_fn (R : Value → IMem → SH → Prop) (a_0_0 : Option Addr) (a_0_0n : Nat) (a_0_0c : Nat) (a_0_1 : Int) (a_0_2 : Int) (a_0_3 : Option Addr) (a_0_3n : Nat) (a_0_3c : Nat) (a_0_4 : ByteArray) (I : IMem) (S : SH) (h : bolterlaw05_Record R a_0_0 a_0_0n a_0_0c a_0_1 a_0_2 a_0_3 a_0_3n a_0_3c a_0_4 I S) :
    Runs Tryd.prog 12 #[.agg #[.slice a_0_0 a_0_0n a_0_0c, .int .u8 a_0_1, .int .u32 a_0_2, .slice a_0_3 a_0_3n a_0_3c, .string a_0_4]] I S R := by
  refine Runs.of_wp (args := [.agg #[.slice a_0_0 a_0_0n a_0_0c, .int .u8 a_0_1, .int .u32 a_0_2, .slice a_0_3 a_0_3n a_0_3c, .string a_0_4]]) (c := bolterlaw05_Record_code) Tryd.func12 (by kernel_rfl) (by kernel_rfl) ?_
  refine WP.cut 1 (fun l I S => asAdr (l 1) fun a_1 => asAdr (l 2) fun x2 => bolterlaw05_Record_b1 R a_1 x2 I S) (cast (by kernel_rfl) h) ?_
  clear h
  intro l I S _ h
  obtain ⟨a_1, e1, h⟩ := asAdr_e h
  obtain ⟨x2, e2, h⟩ := asAdr_e h
  rw [upd_eta e1, upd_eta e2]
  refine WP.seqY (by kernel_rfl) (fun l I S => asAdr (l 1) fun a_1 => asAdr (l 2) fun x2 => asI .u16 (l 3) fun t_3 => asStr (l 4) fun d_4 => bolterlaw05_Record_b2 R a_1 x2 t_3 d_4 I S) ?_ ?_
  ·
    exact WP.draw' (.take 0 (.take 1 (.take 2 (.take 3 (.take 4 (.take 5 (.take 6 (.take 7 (.take 8 (.take 9 (.take 10 (.take 11 (.step 12 (.take 13 (.take 14 (.take 15 (.take 16 (.take 17 .done)))))))))))))))))) [12] (by kernel_rfl) (by kernel_rfl) (by kernel_rfl) (by kernel_rfl) (by kernel_rfl) (cast (by kernel_rfl) h)
  · clear h
    intro l I S _ h
    obtain ⟨a_1, e1, h⟩ := asAdr_e h
    obtain ⟨x2, e2, h⟩ := asAdr_e h
    obtain ⟨t_3, e3, h⟩ := asI_e h
    obtain ⟨d_4, e4, h⟩ := asStr_e h
    rw [upd_eta e1, upd_eta e2, upd_eta e3, upd_eta e4]
    refine WP.seqY (by kernel_rfl) (fun l I S => asAdr (l 2) fun x2 => bolterlaw05_Record_b3 R x2 I S) ?_ ?_
    ·
      exact WP.draw' (.take 0 (.take 1 (.take 3 (.take 4 (.take 5 (.take 6 (.step 2 (.take 7 (.step 8 .done))))))))) [2, 8] (by kernel_rfl) (by kernel_rfl) (by kernel_rfl) (by kernel_rfl) (by kernel_rfl) (cast (by kernel_rfl) h)
    · clear h
      intro l I S _ h
      obtain ⟨x2, e2, h⟩ := asAdr_e h
      rw [upd_eta e2]
      exact Pre.sound _ _ _ _ _ (cast (by kernel_rfl) h)
/-! ### bolterlaw04_Data: function 31, bolter/bolterlaw04.Data -/
noncomputable def bolterlaw04_Data_code : Code := (Tryd.f31.body).getD .skip
def bolterlaw04_Data_b4 (R : Value → IMem → SH → Prop) (x6 : Int) (x7 : ByteArray) (I : IMem) (S : SH) : Prop :=
  R (.tuple #[.int .u16 x6, .string x7]) I S
def bolterlaw04_Data_b8 (R : Value → IMem → SH → Prop) (x6 : Int) (x7 : ByteArray) (I : IMem) (S : SH) : Prop :=
  R (.tuple #[.int .u16 x6, .string x7]) I S
def bolterlaw04_Data_b11 (R : Value → IMem → SH → Prop) (x6 : Int) (x7 : ByteArray) (I : IMem) (S : SH) : Prop :=
  R (.tuple #[.int .u16 x6, .string x7]) I S
def bolterlaw04_Data_b10 (R : Value → IMem → SH → Prop) (s_2 : ByteArray) (k_9 : Int) (I : IMem) (S : SH) : Prop :=
  (0 : Int) ≤ k_9 ∧ k_9 ≤ ((s_2.size : Nat) : Int) ∧
  ∀ b44 : Nat,
  ∃ x45 : ByteArray, BytesAt I ((b44, .cells #[.int .u8 (IntKind.wrap .u8 k_9)] 5 (0, 0)) :: S) (some ⟨b44, 0, none⟩) 1 x45 ∧
  ((x45.size + (s_2.extract 0 k_9.toNat).size : Nat) : Int) ≤ 9223372036854775807 ∧
  bolterlaw04_Data_b11 R 16 (x45 ++ (s_2.extract 0 k_9.toNat)) I ((b44, .cells #[.int .u8 (IntKind.wrap .u8 k_9)] 5 (0, 0)) :: S)
def bolterlaw04_Data_b13 (R : Value → IMem → SH → Prop) (x6 : Int) (x7 : ByteArray) (I : IMem) (S : SH) : Prop :=
  R (.tuple #[.int .u16 x6, .string x7]) I S
def bolterlaw04_Data_b15 (R : Value → IMem → SH → Prop) (x6 : Int) (x7 : ByteArray) (I : IMem) (S : SH) : Prop :=
  R (.tuple #[.int .u16 x6, .string x7]) I S
def bolterlaw04_Data_b14 (R : Value → IMem → SH → Prop) (s_2 : ByteArray) (I : IMem) (S : SH) : Prop :=
  (0 : Int) ≤ (if (512 : Int) < (s_2.size : Int) then (512 : Int) else (s_2.size : Int)) ∧ (if (512 : Int) < (s_2.size : Int) then (512 : Int) else (s_2.size : Int)) ≤ ((s_2.size : Nat) : Int) ∧
  bolterlaw04_Data_b15 R 99 (s_2.extract 0 ((if (512 : Int) < (s_2.size : Int) then (512 : Int) else (s_2.size : Int)).toNat)) I S
def bolterlaw04_Data_b12 (R : Value → IMem → SH → Prop) (s_2 : ByteArray) (x50 : Bool) (I : IMem) (S : SH) : Prop :=
  bcase x50
    (((s_2.size + (⟨#[48, 49, 50, 51, 52, 53, 54, 55, 56, 57, 97, 98, 99, 100, 101, 102]⟩ : ByteArray).size : Nat) : Int) ≤ 9223372036854775807 ∧
    (0 : Int) ≤ (16 : Int) ∧ (16 : Int) ≤ (((s_2 ++ (⟨#[48, 49, 50, 51, 52, 53, 54, 55, 56, 57, 97, 98, 99, 100, 101, 102]⟩ : ByteArray)).size : Nat) : Int) ∧
    bolterlaw04_Data_b13 R 28 ((s_2 ++ (⟨#[48, 49, 50, 51, 52, 53, 54, 55, 56, 57, 97, 98, 99, 100, 101, 102]⟩ : ByteArray)).extract 0 ((16 : Int).toNat)) I S)
    (bolterlaw04_Data_b14 R s_2 I S)
def bolterlaw04_Data_b9 (R : Value → IMem → SH → Prop) (s_2 : ByteArray) (x13 : Int) (x37 : Bool) (I : IMem) (S : SH) : Prop :=
  bcase x37
    (bolterlaw04_Data_b10 R s_2 (if (255 : Int) < (s_2.size : Int) then (255 : Int) else (s_2.size : Int)) I S)
    (bolterlaw04_Data_b12 R s_2 (x13 == (6 : Int)) I S)
def bolterlaw04_Data_b7 (R : Value → IMem → SH → Prop) (s_2 : ByteArray) (x_8 : ByteArray) (x13 : Int) (x26 : Bool) (I : IMem) (S : SH) : Prop :=
  bcase x26
    (((x_8.size + (⟨#[0]⟩ : ByteArray).size : Nat) : Int) ≤ 9223372036854775807 ∧
    (((x_8 ++ (⟨#[0]⟩ : ByteArray)).size + x_8.size : Nat) : Int) ≤ 9223372036854775807 ∧
    ((((x_8 ++ (⟨#[0]⟩ : ByteArray)) ++ x_8).size + (⟨#[0]⟩ : ByteArray).size : Nat) : Int) ≤ 9223372036854775807 ∧
    ((s_2.size + (⟨#[48, 49, 50, 51, 52, 53, 54, 55, 56, 57, 48, 49, 50, 51, 52, 53, 54, 55, 56, 57]⟩ : ByteArray).size : Nat) : Int) ≤ 9223372036854775807 ∧
    (0 : Int) ≤ (20 : Int) ∧ (20 : Int) ≤ (((s_2 ++ (⟨#[48, 49, 50, 51, 52, 53, 54, 55, 56, 57, 48, 49, 50, 51, 52, 53, 54, 55, 56, 57]⟩ : ByteArray)).size : Nat) : Int) ∧
    (((((x_8 ++ (⟨#[0]⟩ : ByteArray)) ++ x_8) ++ (⟨#[0]⟩ : ByteArray)).size + ((s_2 ++ (⟨#[48, 49, 50, 51, 52, 53, 54, 55, 56, 57, 48, 49, 50, 51, 52, 53, 54, 55, 56, 57]⟩ : ByteArray)).extract 0 ((20 : Int).toNat)).size : Nat) : Int) ≤ 9223372036854775807 ∧
    bolterlaw04_Data_b8 R 6 ((((x_8 ++ (⟨#[0]⟩ : ByteArray)) ++ x_8) ++ (⟨#[0]⟩ : ByteArray)) ++ ((s_2 ++ (⟨#[48, 49, 50, 51, 52, 53, 54, 55, 56, 57, 48, 49, 50, 51, 52, 53, 54, 55, 56, 57]⟩ : ByteArray)).extract 0 ((20 : Int).toNat))) I S)
    (bolterlaw04_Data_b9 R s_2 x13 (x13 == (5 : Int)) I S)
def bolterlaw04_Data_b6 (R : Value → IMem → SH → Prop) (s_2 : ByteArray) (x_8 : ByteArray) (x13 : Int) (x23 : Bool) (I : IMem) (S : SH) : Prop :=
  bcase x23
    (R (.tuple #[.int .u16 5, .string x_8]) I S)
    (bolterlaw04_Data_b7 R s_2 x_8 x13 (x13 == (4 : Int)) I S)
def bolterlaw04_Data_b5 (R : Value → IMem → SH → Prop) (s_2 : ByteArray) (x_8 : ByteArray) (x13 : Int) (x20 : Bool) (I : IMem) (S : SH) : Prop :=
  bcase x20
    (R (.tuple #[.int .u16 2, .string x_8]) I S)
    (bolterlaw04_Data_b6 R s_2 x_8 x13 (x13 == (3 : Int)) I S)
def bolterlaw04_Data_b3 (R : Value → IMem → SH → Prop) (s_2 : ByteArray) (x_8 : ByteArray) (x13 : Int) (x14 : Bool) (I : IMem) (S : SH) : Prop :=
  bcase x14
    (((s_2.size + (⟨#[1, 2, 3, 4]⟩ : ByteArray).size : Nat) : Int) ≤ 9223372036854775807 ∧
    (0 : Int) ≤ (4 : Int) ∧ (4 : Int) ≤ (((s_2 ++ (⟨#[1, 2, 3, 4]⟩ : ByteArray)).size : Nat) : Int) ∧
    bolterlaw04_Data_b4 R 1 ((s_2 ++ (⟨#[1, 2, 3, 4]⟩ : ByteArray)).extract 0 ((4 : Int).toNat)) I S)
    (bolterlaw04_Data_b5 R s_2 x_8 x13 (x13 == (2 : Int)) I S)
def bolterlaw04_Data_b2 (R : Value → IMem → SH → Prop) (s_2 : ByteArray) (x_8 : ByteArray) (x13 : Int) (I : IMem) (S : SH) : Prop :=
  bcase (x13 == (0 : Int))
    (bolterlaw04_Data_b3 R s_2 x_8 x13 (x13 == (0 : Int)) I S)
    (bolterlaw04_Data_b3 R s_2 x_8 x13 (x13 == (1 : Int)) I S)
def bolterlaw04_Data_b1 (R : Value → IMem → SH → Prop) (t_0 : Int) (s_2 : ByteArray) (x_8 : ByteArray) (I : IMem) (S : SH) : Prop :=
  bolterlaw04_Data_b2 R s_2 x_8 (t_0.tmod (8 : Int)) I S
def bolterlaw04_Data (R : Value → IMem → SH → Prop) (t_0 : Int) (ns_1 : Option Addr) (ns_1n : Nat) (ns_1c : Nat) (s_2 : ByteArray) (I : IMem) (S : SH) : Prop :=
  Runs Tryd.prog 32 #[.slice ns_1 ns_1n ns_1c] I S fun v I1 S1 => ∃ x11, v = .string x11 ∧
  bolterlaw04_Data_b1 R t_0 s_2 x11 I1 S1
theorem bolterlaw04_Data_fn (R : Value → IMem → SH → Prop) (t_0 : Int) (ns_1 : Option Addr) (ns_1n : Nat) (ns_1c : Nat) (s_2 : ByteArray) (I : IMem) (S : SH) (h : bolterlaw04_Data R t_0 ns_1 ns_1n ns_1c s_2 I S) :
    Runs Tryd.prog 31 #[.int .u16 t_0, .slice ns_1 ns_1n ns_1c, .string s_2] I S R := by
  refine Runs.of_wp (args := [.int .u16 t_0, .slice ns_1 ns_1n ns_1c, .string s_2]) (c := bolterlaw04_Data_code) Tryd.func31 (by kernel_rfl) (by kernel_rfl) ?_
  refine WP.cut 2 (fun l I S => asI .u16 (l 0) fun t_0 => asStr (l 2) fun s_2 => asStr (l 8) fun x_8 => bolterlaw04_Data_b1 R t_0 s_2 x_8 I S) (cast (by kernel_rfl) h) ?_
  clear h
  intro l I S _ h
  obtain ⟨t_0, e0, h⟩ := asI_e h
  obtain ⟨s_2, e2, h⟩ := asStr_e h
  obtain ⟨x_8, e8, h⟩ := asStr_e h
  rw [upd_eta e0, upd_eta e2, upd_eta e8]
  refine WP.seqY (by kernel_rfl) (fun l I S => asStr (l 2) fun s_2 => bolterlaw04_Data_b14 R s_2 I S) ?_ ?_
  ·
    refine WP.cut 1 (fun l I S => asStr (l 2) fun s_2 => asStr (l 8) fun x_8 => asI .u16 (l 13) fun x13 => bolterlaw04_Data_b2 R s_2 x_8 x13 I S) (cast (by kernel_rfl) h) ?_
    clear h
    intro l I S _ h
    obtain ⟨s_2, e2, h⟩ := asStr_e h
    obtain ⟨x_8, e8, h⟩ := asStr_e h
    obtain ⟨x13, e13, h⟩ := asI_e h
    rw [upd_eta e2, upd_eta e8, upd_eta e13]
    refine WP.block' (by kernel_rfl) ?_
    refine WP.cut 1 (fun l I S => asStr (l 2) fun s_2 => asStr (l 8) fun x_8 => asI .u16 (l 13) fun x13 => asB (l 14) fun x14 => bolterlaw04_Data_b3 R s_2 x_8 x13 x14 I S) (cast (by kernel_rfl) h) ?_
    clear h
    intro l I S _ h
    obtain ⟨s_2, e2, h⟩ := asStr_e h
    obtain ⟨x_8, e8, h⟩ := asStr_e h
    obtain ⟨x13, e13, h⟩ := asI_e h
    obtain ⟨x14, e14, h⟩ := asB_e h
    rw [upd_eta e2, upd_eta e8, upd_eta e13, upd_eta e14]
    refine WP.cond' (by kernel_rfl) (by kernel_rfl) h ?_ ?_
    · clear h
      intro h
      refine WP.seqY (by kernel_rfl) (fun l I S => asI .u16 (l 6) fun x6 => asStr (l 7) fun x7 => bolterlaw04_Data_b4 R x6 x7 I S) ?_ ?_
      ·
        exact WP.quiet' (by kernel_rfl) (by kernel_rfl) (by kernel_rfl) (cast (by kernel_rfl) h)
      · clear h
        intro l I S _ h
        obtain ⟨x6, e6, h⟩ := asI_e h
        obtain ⟨x7, e7, h⟩ := asStr_e h
        rw [upd_eta e6, upd_eta e7]
        exact Pre.sound _ _ _ _ _ (cast (by kernel_rfl) h)
    · clear h
      intro h
      refine WP.cut 1 (fun l I S => asStr (l 2) fun s_2 => asStr (l 8) fun x_8 => asI .u16 (l 13) fun x13 => asB (l 20) fun x20 => bolterlaw04_Data_b5 R s_2 x_8 x13 x20 I S) (cast (by kernel_rfl) h) ?_
      clear h
      intro l I S _ h
      obtain ⟨s_2, e2, h⟩ := asStr_e h
      obtain ⟨x_8, e8, h⟩ := asStr_e h
      obtain ⟨x13, e13, h⟩ := asI_e h
      obtain ⟨x20, e20, h⟩ := asB_e h
      rw [upd_eta e2, upd_eta e8, upd_eta e13, upd_eta e20]
      refine WP.cond' (by kernel_rfl) (by kernel_rfl) h ?_ ?_
      · clear h
        intro h
        exact Pre.sound _ _ _ _ _ (cast (by kernel_rfl) h)
      · clear h
        intro h
        refine WP.cut 1 (fun l I S => asStr (l 2) fun s_2 => asStr (l 8) fun x_8 => asI .u16 (l 13) fun x13 => asB (l 23) fun x23 => bolterlaw04_Data_b6 R s_2 x_8 x13 x23 I S) (cast (by kernel_rfl) h) ?_
        clear h
        intro l I S _ h
        obtain ⟨s_2, e2, h⟩ := asStr_e h
        obtain ⟨x_8, e8, h⟩ := asStr_e h
        obtain ⟨x13, e13, h⟩ := asI_e h
        obtain ⟨x23, e23, h⟩ := asB_e h
        rw [upd_eta e2, upd_eta e8, upd_eta e13, upd_eta e23]
        refine WP.cond' (by kernel_rfl) (by kernel_rfl) h ?_ ?_
        · clear h
          intro h
          exact Pre.sound _ _ _ _ _ (cast (by kernel_rfl) h)
        · clear h
          intro h
          refine WP.cut 1 (fun l I S => asStr (l 2) fun s_2 => asStr (l 8) fun x_8 => asI .u16 (l 13) fun x13 => asB (l 26) fun x26 => bolterlaw04_Data_b7 R s_2 x_8 x13 x26 I S) (cast (by kernel_rfl) h) ?_
          clear h
          intro l I S _ h
          obtain ⟨s_2, e2, h⟩ := asStr_e h
          obtain ⟨x_8, e8, h⟩ := asStr_e h
          obtain ⟨x13, e13, h⟩ := asI_e h
          obtain ⟨x26, e26, h⟩ := asB_e h
          rw [upd_eta e2, upd_eta e8, upd_eta e13, upd_eta e26]
          refine WP.cond' (by kernel_rfl) (by kernel_rfl) h ?_ ?_
          · clear h
            intro h
            refine WP.seqY (by kernel_rfl) (fun l I S => asI .u16 (l 6) fun x6 => asStr (l 7) fun x7 => bolterlaw04_Data_b8 R x6 x7 I S) ?_ ?_
            ·
              exact WP.quiet' (by kernel_rfl) (by kernel_rfl) (by kernel_rfl) (cast (by kernel_rfl) h)
            · clear h
              intro l I S _ h
              obtain ⟨x6, e6, h⟩ := asI_e h
              obtain ⟨x7, e7, h⟩ := asStr_e h
              rw [upd_eta e6, upd_eta e7]
              exact Pre.sound _ _ _ _ _ (cast (by kernel_rfl) h)
          · clear h
            intro h
            refine WP.cut 1 (fun l I S => asStr (l 2) fun s_2 => asI .u16 (l 13) fun x13 => asB (l 37) fun x37 => bolterlaw04_Data_b9 R s_2 x13 x37 I S) (cast (by kernel_rfl) h) ?_
            clear h
            intro l I S _ h
            obtain ⟨s_2, e2, h⟩ := asStr_e h
            obtain ⟨x13, e13, h⟩ := asI_e h
            obtain ⟨x37, e37, h⟩ := asB_e h
            rw [upd_eta e2, upd_eta e13, upd_eta e37]
            refine WP.cond' (by kernel_rfl) (by kernel_rfl) h ?_ ?_
            · clear h
              intro h
              refine WP.cut 1 (fun l I S => asStr (l 2) fun s_2 => asI .i64 (l 9) fun k_9 => bolterlaw04_Data_b10 R s_2 k_9 I S) (cast (by kernel_rfl) h) ?_
              clear h
              intro l I S _ h
              obtain ⟨s_2, e2, h⟩ := asStr_e h
              obtain ⟨k_9, e9, h⟩ := asI_e h
              rw [upd_eta e2, upd_eta e9]
              refine WP.seqY (by kernel_rfl) (fun l I S => asI .u16 (l 6) fun x6 => asStr (l 7) fun x7 => bolterlaw04_Data_b11 R x6 x7 I S) ?_ ?_
              ·
                exact WP.draw' (.take 0 (.take 1 (.take 4 (.take 5 (.take 6 (.take 8 (.step 2 (.step 3 (.take 7 (.take 9 .done)))))))))) [2, 3] (by kernel_rfl) (by kernel_rfl) (by kernel_rfl) (by kernel_rfl) (by kernel_rfl) (cast (by kernel_rfl) h)
              · clear h
                intro l I S _ h
                obtain ⟨x6, e6, h⟩ := asI_e h
                obtain ⟨x7, e7, h⟩ := asStr_e h
                rw [upd_eta e6, upd_eta e7]
                exact Pre.sound _ _ _ _ _ (cast (by kernel_rfl) h)
            · clear h
              intro h
              refine WP.cut 1 (fun l I S => asStr (l 2) fun s_2 => asB (l 50) fun x50 => bolterlaw04_Data_b12 R s_2 x50 I S) (cast (by kernel_rfl) h) ?_
              clear h
              intro l I S _ h
              obtain ⟨s_2, e2, h⟩ := asStr_e h
              obtain ⟨x50, e50, h⟩ := asB_e h
              rw [upd_eta e2, upd_eta e50]
              refine WP.cond' (by kernel_rfl) (by kernel_rfl) h ?_ ?_
              · clear h
                intro h
                refine WP.seqY (by kernel_rfl) (fun l I S => asI .u16 (l 6) fun x6 => asStr (l 7) fun x7 => bolterlaw04_Data_b13 R x6 x7 I S) ?_ ?_
                ·
                  exact WP.quiet' (by kernel_rfl) (by kernel_rfl) (by kernel_rfl) (cast (by kernel_rfl) h)
                · clear h
                  intro l I S _ h
                  obtain ⟨x6, e6, h⟩ := asI_e h
                  obtain ⟨x7, e7, h⟩ := asStr_e h
                  rw [upd_eta e6, upd_eta e7]
                  exact Pre.sound _ _ _ _ _ (cast (by kernel_rfl) h)
              · clear h
                intro h
                exact Pre.sound _ _ _ _ _ (cast (by kernel_rfl) h)
  · clear h
    intro l I S _ h
    obtain ⟨s_2, e2, h⟩ := asStr_e h
    rw [upd_eta e2]
    refine WP.seqY (by kernel_rfl) (fun l I S => asI .u16 (l 6) fun x6 => asStr (l 7) fun x7 => bolterlaw04_Data_b15 R x6 x7 I S) ?_ ?_
    ·
      exact WP.quiet' (by kernel_rfl) (by kernel_rfl) (by kernel_rfl) (cast (by kernel_rfl) h)
    · clear h
      intro l I S _ h
      obtain ⟨x6, e6, h⟩ := asI_e h
      obtain ⟨x7, e7, h⟩ := asStr_e h
      rw [upd_eta e6, upd_eta e7]
      exact Pre.sound _ _ _ _ _ (cast (by kernel_rfl) h)
/-! ### bolterlaw02_Name: function 32, bolter/bolterlaw02.Name -/
noncomputable def bolterlaw02_Name_code : Code := (Tryd.f32.body).getD .skip
def bolterlaw02_Name (R : Value → IMem → SH → Prop) (ns_0 : Option Addr) (ns_0n : Nat) (ns_0c : Nat) (I : IMem) (S : SH) : Prop :=
  Runs Tryd.prog 50 #[.slice ns_0 ns_0n ns_0c] I S fun v I1 S1 => ∃ x7 x7n x7c, v = .slice x7 x7n x7c ∧
  Runs Tryd.prog 49 #[.slice x7 x7n x7c] I1 S1 fun v' I1' S1' => ∃ x8_0 x8_1, v' = .tuple #[.string x8_0, .bool x8_1] ∧
  R (.string x8_0) I1' S1'
theorem bolterlaw02_Name_fn (R : Value → IMem → SH → Prop) (ns_0 : Option Addr) (ns_0n : Nat) (ns_0c : Nat) (I : IMem) (S : SH) (h : bolterlaw02_Name R ns_0 ns_0n ns_0c I S) :
    Runs Tryd.prog 32 #[.slice ns_0 ns_0n ns_0c] I S R := by
  refine Runs.of_wp (args := [.slice ns_0 ns_0n ns_0c]) (c := bolterlaw02_Name_code) Tryd.func32 (by kernel_rfl) (by kernel_rfl) ?_
  exact Pre.sound _ _ _ _ _ (cast (by kernel_rfl) h)
/-! ### message_MayRecord: function 77, bolter/message.MayRecord -/
noncomputable def message_MayRecord_code : Code := (Tryd.f77.body).getD .skip
def message_MayRecord_b1 (R : Value → IMem → SH → Prop) (x2 : Bool) (I : IMem) (S : SH) : Prop :=
  R (.bool x2) I S
def message_MayRecord (R : Value → IMem → SH → Prop) (r_0_0 : ByteArray) (r_0_1 : Int) (r_0_2 : Int) (r_0_3 : ByteArray) (I : IMem) (S : SH) : Prop :=
  ∀ b1 : Nat,
  ∃ x4, Cell I ((b1, .cells #[.string r_0_0, .int .u16 r_0_1, .int .u32 r_0_2, .string r_0_3] 36 (0, 0)) :: S) ⟨b1, 0, none⟩ (.string x4) ∧
  Runs Tryd.prog 58 #[.string x4] I ((b1, .cells #[.string r_0_0, .int .u16 r_0_1, .int .u32 r_0_2, .string r_0_3] 36 (0, 0)) :: S) fun v I1 S1 => ∃ x5, v = .bool x5 ∧
  bcase x5
    (∃ x8, Cell I1 S1 ⟨b1, 1, none⟩ (.int .u16 x8) ∧
    bcase (x8 != (41 : Int))
      (∃ x13, Cell I1 S1 ⟨b1, 1, none⟩ (.int .u16 x13) ∧
      ∃ x15, Cell I1 S1 ⟨b1, 3, none⟩ (.string x15) ∧
      Runs Tryd.prog 92 #[.int .u16 x13, .string x15] I1 S1 fun v' I1' S1' => ∃ x16, v' = .bool x16 ∧
      message_MayRecord_b1 R x16 I1' S1')
      (message_MayRecord_b1 R false I1 S1))
    (message_MayRecord_b1 R false I1 S1)
theorem message_MayRecord_fn (R : Value → IMem → SH → Prop) (r_0_0 : ByteArray) (r_0_1 : Int) (r_0_2 : Int) (r_0_3 : ByteArray) (I : IMem) (S : SH) (h : message_MayRecord R r_0_0 r_0_1 r_0_2 r_0_3 I S) :
    Runs Tryd.prog 77 #[.agg #[.string r_0_0, .int .u16 r_0_1, .int .u32 r_0_2, .string r_0_3]] I S R := by
  refine Runs.of_wp (args := [.agg #[.string r_0_0, .int .u16 r_0_1, .int .u32 r_0_2, .string r_0_3]]) (c := message_MayRecord_code) Tryd.func77 (by kernel_rfl) (by kernel_rfl) ?_
  refine WP.cut 2 (fun l I S => asB (l 2) fun x2 => message_MayRecord_b1 R x2 I S) (cast (by kernel_rfl) h) ?_
  clear h
  intro l I S _ h
  obtain ⟨x2, e2, h⟩ := asB_e h
  rw [upd_eta e2]
  exact Pre.sound _ _ _ _ _ (cast (by kernel_rfl) h)
/-! ### name_Below: function 78, bolter/name.Below -/
noncomputable def name_Below_code : Code := (Tryd.f78.body).getD .skip
def name_Below_b4 (R : Value → IMem → SH → Prop) (I : IMem) (S : SH) : Prop :=
  R (.bool false) I S
def name_Below_l3 (again3 : ByteArray → ByteArray → Bool → IMem → SH → Prop) (R : Value → IMem → SH → Prop) (n_0 : ByteArray) (on_1 : ByteArray) (ok_5 : Bool) (I : IMem) (S : SH) : Prop :=
  bcase ok_5
    (bcase (n_0.toList == on_1.toList)
      (R (.bool true) I S)
      (Runs Tryd.prog 93 #[.string n_0] I S fun v I1 S1 => ∃ x15_0 x15_1, v = .tuple #[.string x15_0, .bool x15_1] ∧
      again3 x15_0 on_1 x15_1 I1 S1))
    (name_Below_b4 R I S)
def name_Below_b2 (R : Value → IMem → SH → Prop) (n_0 : ByteArray) (on_1 : ByteArray) (ok_5 : Bool) (I : IMem) (S : SH) : Prop :=
  ∃ (Inv : Nat → ByteArray → ByteArray → Bool → IMem → SH → Prop) (m : Nat), Inv m n_0 on_1 ok_5 I S ∧
    ∀ (m : Nat) (n_0 : ByteArray) (on_1 : ByteArray) (ok_5 : Bool) (J : IMem) (T : SH), I.le J → Inv m n_0 on_1 ok_5 J T →
      name_Below_l3 (fun n_0 on_1 ok_5 I S => ∃ m', m' < m ∧ Inv m' n_0 on_1 ok_5 I S) R n_0 on_1 ok_5 J T
def name_Below_b1 (R : Value → IMem → SH → Prop) (n_0 : ByteArray) (on_1 : ByteArray) (I : IMem) (S : SH) : Prop :=
  Runs Tryd.prog 58 #[.string n_0] I S fun v I1 S1 => ∃ x7, v = .bool x7 ∧
  bcase x7
    (Runs Tryd.prog 58 #[.string on_1] I1 S1 fun v' I1' S1' => ∃ x10, v' = .bool x10 ∧
    name_Below_b2 R n_0 on_1 x10 I1' S1')
    (name_Below_b2 R n_0 on_1 false I1 S1)
def name_Below (R : Value → IMem → SH → Prop) (n_0 : ByteArray) (on_1 : ByteArray) (I : IMem) (S : SH) : Prop :=
  name_Below_b1 R n_0 on_1 I S
theorem name_Below_fn (R : Value → IMem → SH → Prop) (n_0 : ByteArray) (on_1 : ByteArray) (I : IMem) (S : SH) (h : name_Below R n_0 on_1 I S) :
    Runs Tryd.prog 78 #[.string n_0, .string on_1] I S R := by
  refine Runs.of_wp (args := [.string n_0, .string on_1]) (c := name_Below_code) Tryd.func78 (by kernel_rfl) (by kernel_rfl) ?_
  refine WP.cut 1 (fun l I S => asStr (l 0) fun n_0 => asStr (l 1) fun on_1 => name_Below_b1 R n_0 on_1 I S) (cast (by kernel_rfl) h) ?_
  clear h
  intro l I S _ h
  obtain ⟨n_0, e0, h⟩ := asStr_e h
  obtain ⟨on_1, e1, h⟩ := asStr_e h
  rw [upd_eta e0, upd_eta e1]
  refine WP.seqY (by kernel_rfl) (fun l I S => name_Below_b4 R I S) ?_ ?_
  ·
    refine WP.cut 1 (fun l I S => asStr (l 0) fun n_0 => asStr (l 1) fun on_1 => asB (l 5) fun ok_5 => name_Below_b2 R n_0 on_1 ok_5 I S) (cast (by kernel_rfl) h) ?_
    clear h
    intro l I S _ h
    obtain ⟨n_0, e0, h⟩ := asStr_e h
    obtain ⟨on_1, e1, h⟩ := asStr_e h
    obtain ⟨ok_5, e5, h⟩ := asB_e h
    rw [upd_eta e0, upd_eta e1, upd_eta e5]
    refine WP.block' (by kernel_rfl) ?_
    obtain ⟨Inv_again3, m_again3, h0, hr⟩ := h
    refine WP.loop' (by kernel_rfl) (fun m_again3 => fun l I S => asStr (l 0) fun n_0 => asStr (l 1) fun on_1 => asB (l 5) fun ok_5 => Inv_again3 m_again3 n_0 on_1 ok_5 I S) m_again3 (cast (by kernel_rfl) h0) ?_
    clear h0
    intro m_again3 l I S hle h
    obtain ⟨n_0, e0, h⟩ := asStr_e h
    obtain ⟨on_1, e1, h⟩ := asStr_e h
    obtain ⟨ok_5, e5, h⟩ := asB_e h
    rw [upd_eta e0, upd_eta e1, upd_eta e5]
    have h := hr m_again3 n_0 on_1 ok_5 I S hle h
    clear hr hle
    exact Pre.sound _ _ _ _ _ (cast (by kernel_rfl) h)
  · clear h
    intro l I S _ h
    exact Pre.sound _ _ _ _ _ (cast (by kernel_rfl) h)
/-! ### name_Make: function 49, bolter/name.Make -/
noncomputable def name_Make_code : Code := (Tryd.f49.body).getD .skip
def name_Make_b8 (again3 : Addr → Option Addr → Nat → Nat → Int → Int → IMem → SH → Prop) (R : Value → IMem → SH → Prop) (out_4 : Addr) (x7 : Option Addr) (x7n : Nat) (x7c : Nat) (x8 : Int) (x9 : Int) (I : IMem) (S : SH) : Prop :=
  again3 out_4 x7 x7n x7c x8 (IntKind.wrap .i64 (x9 + (1 : Int))) I S
def name_Make_b7 (again3 : Addr → Option Addr → Nat → Nat → Int → Int → IMem → SH → Prop) (R : Value → IMem → SH → Prop) (out_4 : Addr) (l_6 : ByteArray) (x7 : Option Addr) (x7n : Nat) (x7c : Nat) (x8 : Int) (x9 : Int) (I : IMem) (S : SH) : Prop :=
  Runs Tryd.prog 68 #[.pointer (some out_4), .int .u8 (IntKind.wrap .u8 (l_6.size : Int))] I S fun v I1 S1 => ∃ x32, v = x32 ∧
  Runs Tryd.prog 70 #[.string l_6] I1 S1 fun v' I1' S1' => ∃ x34, v' = .string x34 ∧
  Runs Tryd.prog 69 #[.pointer (some out_4), .string x34] I1' S1' fun v'' I1'' S1'' => ∃ x35_0 x35_1, v'' = .tuple #[.int .i64 x35_0, x35_1] ∧
  name_Make_b8 again3 R out_4 x7 x7n x7c x8 x9 I1'' S1''
def name_Make_b6 (again3 : Addr → Option Addr → Nat → Nat → Int → Int → IMem → SH → Prop) (R : Value → IMem → SH → Prop) (out_4 : Addr) (l_6 : ByteArray) (x7 : Option Addr) (x7n : Nat) (x7c : Nat) (x8 : Int) (x9 : Int) (x28 : Bool) (I : IMem) (S : SH) : Prop :=
  bcase x28
    (R (.tuple #[.string ⟨#[]⟩, .bool false]) I S)
    (name_Make_b7 again3 R out_4 l_6 x7 x7n x7c x8 x9 I S)
def name_Make_b5 (again3 : Addr → Option Addr → Nat → Nat → Int → Int → IMem → SH → Prop) (R : Value → IMem → SH → Prop) (out_4 : Addr) (l_6 : ByteArray) (x7 : Option Addr) (x7n : Nat) (x7c : Nat) (x8 : Int) (x9 : Int) (I : IMem) (S : SH) : Prop :=
  bcase (decide ((l_6.size : Int) < (1 : Int)))
    (name_Make_b6 again3 R out_4 l_6 x7 x7n x7c x8 x9 true I S)
    (bcase (decide ((l_6.size : Int) > (63 : Int)))
      (name_Make_b6 again3 R out_4 l_6 x7 x7n x7c x8 x9 true I S)
      (Runs Tryd.prog 67 #[.pointer (some out_4)] I S fun v I1 S1 => ∃ x22, v = .int .i64 x22 ∧
      name_Make_b6 again3 R out_4 l_6 x7 x7n x7c x8 x9 (decide ((IntKind.wrap .i64 ((IntKind.wrap .i64 (x22 + (1 : Int))) + (l_6.size : Int))) > (254 : Int))) I1 S1))
def name_Make_b4 (again3 : Addr → Option Addr → Nat → Nat → Int → Int → IMem → SH → Prop) (R : Value → IMem → SH → Prop) (out_4 : Addr) (x7 : Option Addr) (x7n : Nat) (x7c : Nat) (x8 : Int) (x9 : Int) (I : IMem) (S : SH) : Prop :=
  ptrP x7 fun x11 => (0 : Int) ≤ x9 ∧ x9 < (x7n : Int) ∧
  ∃ x12, Cell I S (x11.add (x9.toNat * 1)) (.string x12) ∧
  name_Make_b5 again3 R out_4 x12 x7 x7n x7c x8 x9 I S
def name_Make_b9 (R : Value → IMem → SH → Prop) (out_4 : Addr) (I : IMem) (S : SH) : Prop :=
  Runs Tryd.prog 71 #[.pointer (some out_4)] I S fun v I1 S1 => ∃ x37, v = .string x37 ∧
  R (.tuple #[.string x37, .bool true]) I1 S1
def name_Make_l3 (again3 : Addr → Option Addr → Nat → Nat → Int → Int → IMem → SH → Prop) (R : Value → IMem → SH → Prop) (out_4 : Addr) (x7 : Option Addr) (x7n : Nat) (x7c : Nat) (x8 : Int) (x9 : Int) (I : IMem) (S : SH) : Prop :=
  bcase (decide (x9 < x8))
    (name_Make_b4 again3 R out_4 x7 x7n x7c x8 x9 I S)
    (name_Make_b9 R out_4 I S)
def name_Make_b2 (R : Value → IMem → SH → Prop) (out_4 : Addr) (x7 : Option Addr) (x7n : Nat) (x7c : Nat) (x8 : Int) (x9 : Int) (I : IMem) (S : SH) : Prop :=
  ∃ (Inv : Nat → Addr → Option Addr → Nat → Nat → Int → Int → IMem → SH → Prop) (m : Nat), Inv m out_4 x7 x7n x7c x8 x9 I S ∧
    ∀ (m : Nat) (out_4 : Addr) (x7 : Option Addr) (x7n : Nat) (x7c : Nat) (x8 : Int) (x9 : Int) (J : IMem) (T : SH), I.le J → Inv m out_4 x7 x7n x7c x8 x9 J T →
      name_Make_l3 (fun out_4 x7 x7n x7c x8 x9 I S => ∃ m', m' < m ∧ Inv m' out_4 x7 x7n x7c x8 x9 I S) R out_4 x7 x7n x7c x8 x9 J T
def name_Make_b1 (R : Value → IMem → SH → Prop) (labels_0 : Option Addr) (labels_0n : Nat) (labels_0c : Nat) (out_4 : Addr) (I : IMem) (S : SH) : Prop :=
  name_Make_b2 R out_4 labels_0 labels_0n labels_0c (labels_0n : Int) 0 I S
def name_Make (R : Value → IMem → SH → Prop) (labels_0 : Option Addr) (labels_0n : Nat) (labels_0c : Nat) (I : IMem) (S : SH) : Prop :=
  ∀ b4 : Nat,
  name_Make_b1 R labels_0 labels_0n labels_0c ⟨b4, 0, none⟩ I ((b4, .cells #[.pointer none, .slice none 0 0] 122 (0, 0)) :: S)
theorem name_Make_fn (R : Value → IMem → SH → Prop) (labels_0 : Option Addr) (labels_0n : Nat) (labels_0c : Nat) (I : IMem) (S : SH) (h : name_Make R labels_0 labels_0n labels_0c I S) :
    Runs Tryd.prog 49 #[.slice labels_0 labels_0n labels_0c] I S R := by
  refine Runs.of_wp (args := [.slice labels_0 labels_0n labels_0c]) (c := name_Make_code) Tryd.func49 (by kernel_rfl) (by kernel_rfl) ?_
  refine WP.cut 2 (fun l I S => asSl (l 0) fun labels_0 labels_0n labels_0c => asAdr (l 4) fun out_4 => name_Make_b1 R labels_0 labels_0n labels_0c out_4 I S) (cast (by kernel_rfl) h) ?_
  clear h
  intro l I S _ h
  obtain ⟨labels_0, labels_0n, labels_0c, e0, h⟩ := asSl_e h
  obtain ⟨out_4, e4, h⟩ := asAdr_e h
  rw [upd_eta e0, upd_eta e4]
  refine WP.seqY (by kernel_rfl) (fun l I S => asAdr (l 4) fun out_4 => name_Make_b9 R out_4 I S) ?_ ?_
  ·
    refine WP.cut 1 (fun l I S => asAdr (l 4) fun out_4 => asSl (l 7) fun x7 x7n x7c => asI .i64 (l 8) fun x8 => asI .i64 (l 9) fun x9 => name_Make_b2 R out_4 x7 x7n x7c x8 x9 I S) (cast (by kernel_rfl) h) ?_
    clear h
    intro l I S _ h
    obtain ⟨out_4, e4, h⟩ := asAdr_e h
    obtain ⟨x7, x7n, x7c, e7, h⟩ := asSl_e h
    obtain ⟨x8, e8, h⟩ := asI_e h
    obtain ⟨x9, e9, h⟩ := asI_e h
    rw [upd_eta e4, upd_eta e7, upd_eta e8, upd_eta e9]
    refine WP.block' (by kernel_rfl) ?_
    obtain ⟨Inv_again3, m_again3, h0, hr⟩ := h
    refine WP.loop' (by kernel_rfl) (fun m_again3 => fun l I S => asAdr (l 4) fun out_4 => asSl (l 7) fun x7 x7n x7c => asI .i64 (l 8) fun x8 => asI .i64 (l 9) fun x9 => Inv_again3 m_again3 out_4 x7 x7n x7c x8 x9 I S) m_again3 (cast (by kernel_rfl) h0) ?_
    clear h0
    intro m_again3 l I S hle h
    obtain ⟨out_4, e4, h⟩ := asAdr_e h
    obtain ⟨x7, x7n, x7c, e7, h⟩ := asSl_e h
    obtain ⟨x8, e8, h⟩ := asI_e h
    obtain ⟨x9, e9, h⟩ := asI_e h
    rw [upd_eta e4, upd_eta e7, upd_eta e8, upd_eta e9]
    have h := hr m_again3 out_4 x7 x7n x7c x8 x9 I S hle h
    clear hr hle
    refine WP.cut 2 (fun l I S => asAdr (l 4) fun out_4 => asSl (l 7) fun x7 x7n x7c => asI .i64 (l 8) fun x8 => asI .i64 (l 9) fun x9 => name_Make_b4 (fun out_4 x7 x7n x7c x8 x9 I S => ∃ m', m' < m_again3 ∧ Inv_again3 m' out_4 x7 x7n x7c x8 x9 I S) R out_4 x7 x7n x7c x8 x9 I S) (cast (by kernel_rfl) h) ?_
    clear h
    intro l I S _ h
    obtain ⟨out_4, e4, h⟩ := asAdr_e h
    obtain ⟨x7, x7n, x7c, e7, h⟩ := asSl_e h
    obtain ⟨x8, e8, h⟩ := asI_e h
    obtain ⟨x9, e9, h⟩ := asI_e h
    rw [upd_eta e4, upd_eta e7, upd_eta e8, upd_eta e9]
    refine WP.seqY (by kernel_rfl) (fun l I S => asAdr (l 4) fun out_4 => asSl (l 7) fun x7 x7n x7c => asI .i64 (l 8) fun x8 => asI .i64 (l 9) fun x9 => name_Make_b8 (fun out_4 x7 x7n x7c x8 x9 I S => ∃ m', m' < m_again3 ∧ Inv_again3 m' out_4 x7 x7n x7c x8 x9 I S) R out_4 x7 x7n x7c x8 x9 I S) ?_ ?_
    ·
      refine WP.block' (by kernel_rfl) ?_
      refine WP.cut 1 (fun l I S => asAdr (l 4) fun out_4 => asStr (l 6) fun l_6 => asSl (l 7) fun x7 x7n x7c => asI .i64 (l 8) fun x8 => asI .i64 (l 9) fun x9 => name_Make_b5 (fun out_4 x7 x7n x7c x8 x9 I S => ∃ m', m' < m_again3 ∧ Inv_again3 m' out_4 x7 x7n x7c x8 x9 I S) R out_4 l_6 x7 x7n x7c x8 x9 I S) (cast (by kernel_rfl) h) ?_
      clear h
      intro l I S _ h
      obtain ⟨out_4, e4, h⟩ := asAdr_e h
      obtain ⟨l_6, e6, h⟩ := asStr_e h
      obtain ⟨x7, x7n, x7c, e7, h⟩ := asSl_e h
      obtain ⟨x8, e8, h⟩ := asI_e h
      obtain ⟨x9, e9, h⟩ := asI_e h
      rw [upd_eta e4, upd_eta e6, upd_eta e7, upd_eta e8, upd_eta e9]
      refine WP.seqY (by kernel_rfl) (fun l I S => asAdr (l 4) fun out_4 => asStr (l 6) fun l_6 => asSl (l 7) fun x7 x7n x7c => asI .i64 (l 8) fun x8 => asI .i64 (l 9) fun x9 => name_Make_b7 (fun out_4 x7 x7n x7c x8 x9 I S => ∃ m', m' < m_again3 ∧ Inv_again3 m' out_4 x7 x7n x7c x8 x9 I S) R out_4 l_6 x7 x7n x7c x8 x9 I S) ?_ ?_
      ·
        refine WP.cut 1 (fun l I S => asAdr (l 4) fun out_4 => asStr (l 6) fun l_6 => asSl (l 7) fun x7 x7n x7c => asI .i64 (l 8) fun x8 => asI .i64 (l 9) fun x9 => asB (l 28) fun x28 => name_Make_b6 (fun out_4 x7 x7n x7c x8 x9 I S => ∃ m', m' < m_again3 ∧ Inv_again3 m' out_4 x7 x7n x7c x8 x9 I S) R out_4 l_6 x7 x7n x7c x8 x9 x28 I S) (cast (by kernel_rfl) h) ?_
        clear h
        intro l I S _ h
        obtain ⟨out_4, e4, h⟩ := asAdr_e h
        obtain ⟨l_6, e6, h⟩ := asStr_e h
        obtain ⟨x7, x7n, x7c, e7, h⟩ := asSl_e h
        obtain ⟨x8, e8, h⟩ := asI_e h
        obtain ⟨x9, e9, h⟩ := asI_e h
        obtain ⟨x28, e28, h⟩ := asB_e h
        rw [upd_eta e4, upd_eta e6, upd_eta e7, upd_eta e8, upd_eta e9, upd_eta e28]
        exact Pre.sound _ _ _ _ _ (cast (by kernel_rfl) h)
      · clear h
        intro l I S _ h
        obtain ⟨out_4, e4, h⟩ := asAdr_e h
        obtain ⟨l_6, e6, h⟩ := asStr_e h
        obtain ⟨x7, x7n, x7c, e7, h⟩ := asSl_e h
        obtain ⟨x8, e8, h⟩ := asI_e h
        obtain ⟨x9, e9, h⟩ := asI_e h
        rw [upd_eta e4, upd_eta e6, upd_eta e7, upd_eta e8, upd_eta e9]
        exact Pre.sound _ _ _ _ _ (cast (by kernel_rfl) h)
    · clear h
      intro l I S _ h
      obtain ⟨out_4, e4, h⟩ := asAdr_e h
      obtain ⟨x7, x7n, x7c, e7, h⟩ := asSl_e h
      obtain ⟨x8, e8, h⟩ := asI_e h
      obtain ⟨x9, e9, h⟩ := asI_e h
      rw [upd_eta e4, upd_eta e7, upd_eta e8, upd_eta e9]
      exact Pre.sound _ _ _ _ _ (cast (by kernel_rfl) h)
  · clear h
    intro l I S _ h
    obtain ⟨out_4, e4, h⟩ := asAdr_e h
    rw [upd_eta e4]
    exact Pre.sound _ _ _ _ _ (cast (by kernel_rfl) h)
/-! ### bolterlaw02_Words: function 50, bolter/bolterlaw02.Words -/
noncomputable def bolterlaw02_Words_code : Code := (Tryd.f50.body).getD .skip
def bolterlaw02_Words_b4 (R : Value → IMem → SH → Prop) (out_3 : Option Addr) (out_3n : Nat) (out_3c : Nat) (I : IMem) (S : SH) : Prop :=
  R (.slice out_3 out_3n out_3c) I S
def bolterlaw02_Words_l3 (again3 : Option Addr → Nat → Nat → Option Addr → Nat → Nat → Int → Int → IMem → SH → Prop) (R : Value → IMem → SH → Prop) (out_3 : Option Addr) (out_3n : Nat) (out_3c : Nat) (x7 : Option Addr) (x7n : Nat) (x7c : Nat) (x8 : Int) (x9 : Int) (I : IMem) (S : SH) : Prop :=
  bcase (decide (x9 < x8))
    (ptrP x7 fun x12 => (0 : Int) ≤ x9 ∧ x9 < (x7n : Int) ∧
    ∃ x13, Cell I S (x12.add (x9.toNat * 1)) (.int .u8 x13) ∧
    bcase (x9 == (12 : Int))
      (bolterlaw02_Words_b4 R out_3 out_3n out_3c I S)
      (∀ b16 : Nat,
      ptrP (some ⟨b16, 0, none⟩) fun x21 => (0 : Int) ≤ (x13.tmod (8 : Int)) ∧ (x13.tmod (8 : Int)) < (8 : Int) ∧
      ∃ x22, Cell I ((b16, .cells #[.string ⟨#[97]⟩, .string ⟨#[98]⟩, .string ⟨#[99]⟩, .string ⟨#[119, 119, 119]⟩, .string ⟨#[101, 120]⟩, .string ⟨#[111, 114, 103]⟩, .string ⟨#[42]⟩, .string ⟨#[114, 112, 122, 45, 105, 112]⟩] 9 (0, 0)) :: S) (x21.add ((x13.tmod (8 : Int)).toNat * 1)) (.string x22) ∧
      ∀ b23 : Nat,
      AppG 9 1 16 [.string ⟨#[]⟩] (some (.slice 9)) I ((b23, .cells #[.string x22] 9 (0, 0)) :: ((b16, .cells #[.string ⟨#[97]⟩, .string ⟨#[98]⟩, .string ⟨#[99]⟩, .string ⟨#[119, 119, 119]⟩, .string ⟨#[101, 120]⟩, .string ⟨#[111, 114, 103]⟩, .string ⟨#[42]⟩, .string ⟨#[114, 112, 122, 45, 105, 112]⟩] 9 (0, 0)) :: S)) (.slice out_3 out_3n out_3c) (.slice (some ⟨b23, 0, none⟩) 1 1) fun x24 x24n x24c S1 =>
      again3 x24 x24n x24c x7 x7n x7c x8 (IntKind.wrap .i64 (x9 + (1 : Int))) I S1))
    (bolterlaw02_Words_b4 R out_3 out_3n out_3c I S)
def bolterlaw02_Words_b2 (R : Value → IMem → SH → Prop) (out_3 : Option Addr) (out_3n : Nat) (out_3c : Nat) (x7 : Option Addr) (x7n : Nat) (x7c : Nat) (x8 : Int) (x9 : Int) (I : IMem) (S : SH) : Prop :=
  ∃ (Inv : Nat → Option Addr → Nat → Nat → Option Addr → Nat → Nat → Int → Int → IMem → SH → Prop) (m : Nat), Inv m out_3 out_3n out_3c x7 x7n x7c x8 x9 I S ∧
    ∀ (m : Nat) (out_3 : Option Addr) (out_3n : Nat) (out_3c : Nat) (x7 : Option Addr) (x7n : Nat) (x7c : Nat) (x8 : Int) (x9 : Int) (J : IMem) (T : SH), I.le J → Inv m out_3 out_3n out_3c x7 x7n x7c x8 x9 J T →
      bolterlaw02_Words_l3 (fun out_3 out_3n out_3c x7 x7n x7c x8 x9 I S => ∃ m', m' < m ∧ Inv m' out_3 out_3n out_3c x7 x7n x7c x8 x9 I S) R out_3 out_3n out_3c x7 x7n x7c x8 x9 J T
def bolterlaw02_Words_b1 (R : Value → IMem → SH → Prop) (ns_0 : Option Addr) (ns_0n : Nat) (ns_0c : Nat) (out_3 : Option Addr) (out_3n : Nat) (out_3c : Nat) (I : IMem) (S : SH) : Prop :=
  bolterlaw02_Words_b2 R out_3 out_3n out_3c ns_0 ns_0n ns_0c (ns_0n : Int) 0 I S
def bolterlaw02_Words (R : Value → IMem → SH → Prop) (ns_0 : Option Addr) (ns_0n : Nat) (ns_0c : Nat) (I : IMem) (S : SH) : Prop :=
  bolterlaw02_Words_b1 R ns_0 ns_0n ns_0c none 0 0 I S
theorem bolterlaw02_Words_fn (R : Value → IMem → SH → Prop) (ns_0 : Option Addr) (ns_0n : Nat) (ns_0c : Nat) (I : IMem) (S : SH) (h : bolterlaw02_Words R ns_0 ns_0n ns_0c I S) :
    Runs Tryd.prog 50 #[.slice ns_0 ns_0n ns_0c] I S R := by
  refine Runs.of_wp (args := [.slice ns_0 ns_0n ns_0c]) (c := bolterlaw02_Words_code) Tryd.func50 (by kernel_rfl) (by kernel_rfl) ?_
  refine WP.cut 2 (fun l I S => asSl (l 0) fun ns_0 ns_0n ns_0c => asSl (l 3) fun out_3 out_3n out_3c => bolterlaw02_Words_b1 R ns_0 ns_0n ns_0c out_3 out_3n out_3c I S) (cast (by kernel_rfl) h) ?_
  clear h
  intro l I S _ h
  obtain ⟨ns_0, ns_0n, ns_0c, e0, h⟩ := asSl_e h
  obtain ⟨out_3, out_3n, out_3c, e3, h⟩ := asSl_e h
  rw [upd_eta e0, upd_eta e3]
  refine WP.seqY (by kernel_rfl) (fun l I S => asSl (l 3) fun out_3 out_3n out_3c => bolterlaw02_Words_b4 R out_3 out_3n out_3c I S) ?_ ?_
  ·
    refine WP.cut 1 (fun l I S => asSl (l 3) fun out_3 out_3n out_3c => asSl (l 7) fun x7 x7n x7c => asI .i64 (l 8) fun x8 => asI .i64 (l 9) fun x9 => bolterlaw02_Words_b2 R out_3 out_3n out_3c x7 x7n x7c x8 x9 I S) (cast (by kernel_rfl) h) ?_
    clear h
    intro l I S _ h
    obtain ⟨out_3, out_3n, out_3c, e3, h⟩ := asSl_e h
    obtain ⟨x7, x7n, x7c, e7, h⟩ := asSl_e h
    obtain ⟨x8, e8, h⟩ := asI_e h
    obtain ⟨x9, e9, h⟩ := asI_e h
    rw [upd_eta e3, upd_eta e7, upd_eta e8, upd_eta e9]
    refine WP.block' (by kernel_rfl) ?_
    obtain ⟨Inv_again3, m_again3, h0, hr⟩ := h
    refine WP.loop' (by kernel_rfl) (fun m_again3 => fun l I S => asSl (l 3) fun out_3 out_3n out_3c => asSl (l 7) fun x7 x7n x7c => asI .i64 (l 8) fun x8 => asI .i64 (l 9) fun x9 => Inv_again3 m_again3 out_3 out_3n out_3c x7 x7n x7c x8 x9 I S) m_again3 (cast (by kernel_rfl) h0) ?_
    clear h0
    intro m_again3 l I S hle h
    obtain ⟨out_3, out_3n, out_3c, e3, h⟩ := asSl_e h
    obtain ⟨x7, x7n, x7c, e7, h⟩ := asSl_e h
    obtain ⟨x8, e8, h⟩ := asI_e h
    obtain ⟨x9, e9, h⟩ := asI_e h
    rw [upd_eta e3, upd_eta e7, upd_eta e8, upd_eta e9]
    have h := hr m_again3 out_3 out_3n out_3c x7 x7n x7c x8 x9 I S hle h
    clear hr hle
    exact Pre.sound _ _ _ _ _ (cast (by kernel_rfl) h)
  · clear h
    intro l I S _ h
    obtain ⟨out_3, out_3n, out_3c, e3, h⟩ := asSl_e h
    rw [upd_eta e3]
    exact Pre.sound _ _ _ _ _ (cast (by kernel_rfl) h)
/-! ### name_May: function 58, bolter/name.May -/
noncomputable def name_May_code : Code := (Tryd.f58.body).getD .skip
def name_May (R : Value → IMem → SH → Prop) (n_0 : ByteArray) (I : IMem) (S : SH) : Prop :=
  Runs Tryd.prog 76 #[.string n_0] I S fun v I1 S1 => ∃ x7_0 x7_0n x7_0c x7_1, v = .tuple #[.slice x7_0 x7_0n x7_0c, .bool x7_1] ∧
  R (.bool x7_1) I1 S1
theorem name_May_fn (R : Value → IMem → SH → Prop) (n_0 : ByteArray) (I : IMem) (S : SH) (h : name_May R n_0 I S) :
    Runs Tryd.prog 58 #[.string n_0] I S R := by
  refine Runs.of_wp (args := [.string n_0]) (c := name_May_code) Tryd.func58 (by kernel_rfl) (by kernel_rfl) ?_
  exact Pre.sound _ _ _ _ _ (cast (by kernel_rfl) h)
/-! ### rdata_May: function 92, bolter/rdata.May -/
noncomputable def rdata_May_code : Code := (Tryd.f92.body).getD .skip
def rdata_May_b8 (R : Value → IMem → SH → Prop) (x4 : Bool) (I : IMem) (S : SH) : Prop :=
  R (.bool x4) I S
def rdata_May_b9 (R : Value → IMem → SH → Prop) (d_1 : ByteArray) (I : IMem) (S : SH) : Prop :=
  R (.bool (decide ((d_1.size : Int) ≤ (512 : Int)))) I S
def rdata_May_b7 (R : Value → IMem → SH → Prop) (d_1 : ByteArray) (x35 : Bool) (I : IMem) (S : SH) : Prop :=
  bcase x35
    (Runs Tryd.prog 101 #[.string d_1] I S fun v I1 S1 => ∃ x38, v = .bool x38 ∧
    bcase x38
      (rdata_May_b8 R (decide ((d_1.size : Int) ≤ (512 : Int))) I1 S1)
      (rdata_May_b8 R false I1 S1))
    (rdata_May_b9 R d_1 I S)
def rdata_May_b6 (R : Value → IMem → SH → Prop) (d_1 : ByteArray) (x9 : Int) (x25 : Bool) (I : IMem) (S : SH) : Prop :=
  bcase x25
    (Runs Tryd.prog 100 #[.string d_1] I S fun v I1 S1 => ∃ x29_0 x29_1 x29_2 x29_3, v = .tuple #[.string x29_0, .string x29_1, .string x29_2, .bool x29_3] ∧
    R (.bool x29_3) I1 S1)
    (rdata_May_b7 R d_1 (x9 == (16 : Int)) I S)
def rdata_May_b5 (R : Value → IMem → SH → Prop) (d_1 : ByteArray) (x9 : Int) (x20 : Bool) (I : IMem) (S : SH) : Prop :=
  bcase x20
    (Runs Tryd.prog 58 #[.string d_1] I S fun v I1 S1 => ∃ x24, v = .bool x24 ∧
    R (.bool x24) I1 S1)
    (rdata_May_b6 R d_1 x9 (x9 == (6 : Int)) I S)
def rdata_May_b4 (R : Value → IMem → SH → Prop) (d_1 : ByteArray) (x9 : Int) (x15 : Bool) (I : IMem) (S : SH) : Prop :=
  bcase x15
    (R (.bool ((d_1.size : Int) == (16 : Int))) I S)
    (bcase (x9 == (2 : Int))
      (rdata_May_b5 R d_1 x9 (x9 == (2 : Int)) I S)
      (rdata_May_b5 R d_1 x9 (x9 == (5 : Int)) I S))
def rdata_May_b3 (R : Value → IMem → SH → Prop) (d_1 : ByteArray) (x9 : Int) (x10 : Bool) (I : IMem) (S : SH) : Prop :=
  bcase x10
    (R (.bool ((d_1.size : Int) == (4 : Int))) I S)
    (rdata_May_b4 R d_1 x9 (x9 == (28 : Int)) I S)
def rdata_May_b2 (R : Value → IMem → SH → Prop) (d_1 : ByteArray) (x9 : Int) (I : IMem) (S : SH) : Prop :=
  rdata_May_b3 R d_1 x9 (x9 == (1 : Int)) I S
def rdata_May_b1 (R : Value → IMem → SH → Prop) (t_0 : Int) (d_1 : ByteArray) (I : IMem) (S : SH) : Prop :=
  rdata_May_b2 R d_1 t_0 I S
def rdata_May (R : Value → IMem → SH → Prop) (t_0 : Int) (d_1 : ByteArray) (I : IMem) (S : SH) : Prop :=
  rdata_May_b1 R t_0 d_1 I S
theorem rdata_May_fn (R : Value → IMem → SH → Prop) (t_0 : Int) (d_1 : ByteArray) (I : IMem) (S : SH) (h : rdata_May R t_0 d_1 I S) :
    Runs Tryd.prog 92 #[.int .u16 t_0, .string d_1] I S R := by
  refine Runs.of_wp (args := [.int .u16 t_0, .string d_1]) (c := rdata_May_code) Tryd.func92 (by kernel_rfl) (by kernel_rfl) ?_
  refine WP.cut 1 (fun l I S => asI .u16 (l 0) fun t_0 => asStr (l 1) fun d_1 => rdata_May_b1 R t_0 d_1 I S) (cast (by kernel_rfl) h) ?_
  clear h
  intro l I S _ h
  obtain ⟨t_0, e0, h⟩ := asI_e h
  obtain ⟨d_1, e1, h⟩ := asStr_e h
  rw [upd_eta e0, upd_eta e1]
  refine WP.seqY (by kernel_rfl) (fun l I S => asStr (l 1) fun d_1 => rdata_May_b9 R d_1 I S) ?_ ?_
  ·
    refine WP.cut 1 (fun l I S => asStr (l 1) fun d_1 => asI .u16 (l 9) fun x9 => rdata_May_b2 R d_1 x9 I S) (cast (by kernel_rfl) h) ?_
    clear h
    intro l I S _ h
    obtain ⟨d_1, e1, h⟩ := asStr_e h
    obtain ⟨x9, e9, h⟩ := asI_e h
    rw [upd_eta e1, upd_eta e9]
    refine WP.block' (by kernel_rfl) ?_
    refine WP.cut 1 (fun l I S => asStr (l 1) fun d_1 => asI .u16 (l 9) fun x9 => asB (l 10) fun x10 => rdata_May_b3 R d_1 x9 x10 I S) (cast (by kernel_rfl) h) ?_
    clear h
    intro l I S _ h
    obtain ⟨d_1, e1, h⟩ := asStr_e h
    obtain ⟨x9, e9, h⟩ := asI_e h
    obtain ⟨x10, e10, h⟩ := asB_e h
    rw [upd_eta e1, upd_eta e9, upd_eta e10]
    refine WP.cond' (by kernel_rfl) (by kernel_rfl) h ?_ ?_
    · clear h
      intro h
      exact Pre.sound _ _ _ _ _ (cast (by kernel_rfl) h)
    · clear h
      intro h
      refine WP.cut 1 (fun l I S => asStr (l 1) fun d_1 => asI .u16 (l 9) fun x9 => asB (l 15) fun x15 => rdata_May_b4 R d_1 x9 x15 I S) (cast (by kernel_rfl) h) ?_
      clear h
      intro l I S _ h
      obtain ⟨d_1, e1, h⟩ := asStr_e h
      obtain ⟨x9, e9, h⟩ := asI_e h
      obtain ⟨x15, e15, h⟩ := asB_e h
      rw [upd_eta e1, upd_eta e9, upd_eta e15]
      refine WP.cond' (by kernel_rfl) (by kernel_rfl) h ?_ ?_
      · clear h
        intro h
        exact Pre.sound _ _ _ _ _ (cast (by kernel_rfl) h)
      · clear h
        intro h
        refine WP.cut 1 (fun l I S => asStr (l 1) fun d_1 => asI .u16 (l 9) fun x9 => asB (l 20) fun x20 => rdata_May_b5 R d_1 x9 x20 I S) (cast (by kernel_rfl) h) ?_
        clear h
        intro l I S _ h
        obtain ⟨d_1, e1, h⟩ := asStr_e h
        obtain ⟨x9, e9, h⟩ := asI_e h
        obtain ⟨x20, e20, h⟩ := asB_e h
        rw [upd_eta e1, upd_eta e9, upd_eta e20]
        refine WP.cond' (by kernel_rfl) (by kernel_rfl) h ?_ ?_
        · clear h
          intro h
          exact Pre.sound _ _ _ _ _ (cast (by kernel_rfl) h)
        · clear h
          intro h
          refine WP.cut 1 (fun l I S => asStr (l 1) fun d_1 => asI .u16 (l 9) fun x9 => asB (l 25) fun x25 => rdata_May_b6 R d_1 x9 x25 I S) (cast (by kernel_rfl) h) ?_
          clear h
          intro l I S _ h
          obtain ⟨d_1, e1, h⟩ := asStr_e h
          obtain ⟨x9, e9, h⟩ := asI_e h
          obtain ⟨x25, e25, h⟩ := asB_e h
          rw [upd_eta e1, upd_eta e9, upd_eta e25]
          refine WP.cond' (by kernel_rfl) (by kernel_rfl) h ?_ ?_
          · clear h
            intro h
            exact Pre.sound _ _ _ _ _ (cast (by kernel_rfl) h)
          · clear h
            intro h
            refine WP.cut 1 (fun l I S => asStr (l 1) fun d_1 => asB (l 35) fun x35 => rdata_May_b7 R d_1 x35 I S) (cast (by kernel_rfl) h) ?_
            clear h
            intro l I S _ h
            obtain ⟨d_1, e1, h⟩ := asStr_e h
            obtain ⟨x35, e35, h⟩ := asB_e h
            rw [upd_eta e1, upd_eta e35]
            refine WP.cond' (by kernel_rfl) (by kernel_rfl) h ?_ ?_
            · clear h
              intro h
              refine WP.cut 1 (fun l I S => asB (l 4) fun x4 => rdata_May_b8 R x4 I S) (cast (by kernel_rfl) h) ?_
              clear h
              intro l I S _ h
              obtain ⟨x4, e4, h⟩ := asB_e h
              rw [upd_eta e4]
              exact Pre.sound _ _ _ _ _ (cast (by kernel_rfl) h)
            · clear h
              intro h
              exact Pre.sound _ _ _ _ _ (cast (by kernel_rfl) h)
  · clear h
    intro l I S _ h
    obtain ⟨d_1, e1, h⟩ := asStr_e h
    rw [upd_eta e1]
    exact Pre.sound _ _ _ _ _ (cast (by kernel_rfl) h)
/-! ### name_Parent: function 93, bolter/name.Parent -/
noncomputable def name_Parent_code : Code := (Tryd.f93.body).getD .skip
def name_Parent_b3 (R : Value → IMem → SH → Prop) (n_0 : ByteArray) (I : IMem) (S : SH) : Prop :=
  ∃ cx14 : UInt8, (0 : Int) ≤ (0 : Int) ∧ n_0[(0 : Int).toNat]? = some cx14 ∧
  (0 : Int) ≤ (IntKind.wrap .i64 ((1 : Int) + (IntKind.wrap .i64 (cx14.toNat : Int)))) ∧ (IntKind.wrap .i64 ((1 : Int) + (IntKind.wrap .i64 (cx14.toNat : Int)))) ≤ ((n_0.size : Nat) : Int) ∧
  R (.tuple #[.string (n_0.extract ((IntKind.wrap .i64 ((1 : Int) + (IntKind.wrap .i64 (cx14.toNat : Int)))).toNat) n_0.size), .bool true]) I S
def name_Parent_b2 (R : Value → IMem → SH → Prop) (n_0 : ByteArray) (x11 : Bool) (I : IMem) (S : SH) : Prop :=
  bcase x11
    (R (.tuple #[.string ⟨#[]⟩, .bool false]) I S)
    (name_Parent_b3 R n_0 I S)
def name_Parent_b1 (R : Value → IMem → SH → Prop) (n_0 : ByteArray) (I : IMem) (S : SH) : Prop :=
  bcase ((n_0.size : Int) == (0 : Int))
    (name_Parent_b2 R n_0 true I S)
    (Runs Tryd.prog 58 #[.string n_0] I S fun v I1 S1 => ∃ x9, v = .bool x9 ∧
    name_Parent_b2 R n_0 (!x9) I1 S1)
def name_Parent (R : Value → IMem → SH → Prop) (n_0 : ByteArray) (I : IMem) (S : SH) : Prop :=
  name_Parent_b1 R n_0 I S
theorem name_Parent_fn (R : Value → IMem → SH → Prop) (n_0 : ByteArray) (I : IMem) (S : SH) (h : name_Parent R n_0 I S) :
    Runs Tryd.prog 93 #[.string n_0] I S R := by
  refine Runs.of_wp (args := [.string n_0]) (c := name_Parent_code) Tryd.func93 (by kernel_rfl) (by kernel_rfl) ?_
  refine WP.cut 1 (fun l I S => asStr (l 0) fun n_0 => name_Parent_b1 R n_0 I S) (cast (by kernel_rfl) h) ?_
  clear h
  intro l I S _ h
  obtain ⟨n_0, e0, h⟩ := asStr_e h
  rw [upd_eta e0]
  refine WP.seqY (by kernel_rfl) (fun l I S => asStr (l 0) fun n_0 => name_Parent_b3 R n_0 I S) ?_ ?_
  ·
    refine WP.cut 1 (fun l I S => asStr (l 0) fun n_0 => asB (l 11) fun x11 => name_Parent_b2 R n_0 x11 I S) (cast (by kernel_rfl) h) ?_
    clear h
    intro l I S _ h
    obtain ⟨n_0, e0, h⟩ := asStr_e h
    obtain ⟨x11, e11, h⟩ := asB_e h
    rw [upd_eta e0, upd_eta e11]
    exact Pre.sound _ _ _ _ _ (cast (by kernel_rfl) h)
  · clear h
    intro l I S _ h
    obtain ⟨n_0, e0, h⟩ := asStr_e h
    rw [upd_eta e0]
    exact Pre.sound _ _ _ _ _ (cast (by kernel_rfl) h)
/-! ### strings_Builder_Len: function 67, (*strings.Builder).Len -/
noncomputable def strings_Builder_Len_code : Code := (Tryd.f67.body).getD .skip
def strings_Builder_Len (R : Value → IMem → SH → Prop) (b_0 : Option Addr) (I : IMem) (S : SH) : Prop :=
  ptrP b_0 fun x4 =>
  ∃ x6 x6n x6c, Cell I S (x4.add 1) (.slice x6 x6n x6c) ∧
  R (.int .i64 (x6n : Int)) I S
theorem strings_Builder_Len_fn (R : Value → IMem → SH → Prop) (b_0 : Option Addr) (I : IMem) (S : SH) (h : strings_Builder_Len R b_0 I S) :
    Runs Tryd.prog 67 #[.pointer b_0] I S R := by
  refine Runs.of_wp (args := [.pointer b_0]) (c := strings_Builder_Len_code) Tryd.func67 (by kernel_rfl) (by kernel_rfl) ?_
  exact Pre.sound _ _ _ _ _ (cast (by kernel_rfl) h)
/-! ### strings_Builder_WriteByte: function 68, (*strings.Builder).WriteByte -/
noncomputable def strings_Builder_WriteByte_code : Code := (Tryd.f68.body).getD .skip
def strings_Builder_WriteByte (R : Value → IMem → SH → Prop) (b_0 : Option Addr) (c_1 : Int) (I : IMem) (S : SH) : Prop :=
  Runs Tryd.prog 89 #[.pointer b_0] I S fun v I1 S1 => v = .tuple #[] ∧
  ptrP b_0 fun x9 =>
  ∃ x11 x11n x11c, Cell I1 S1 (x9.add 1) (.slice x11 x11n x11c) ∧
  ∀ b13 : Nat,
  AppG 5 1 1 [.int .u8 0] (some (.slice 5)) I1 ((b13, .cells #[.int .u8 c_1] 5 (0, 0)) :: S1) (.slice x11 x11n x11c) (.slice (some ⟨b13, 0, none⟩) 1 1) fun x14 x14n x14c S1' =>
  ptrP b_0 fun x15 =>
  StP S1' (x15.add 1) [.slice x14 x14n x14c] fun S1'' =>
  R .nilIface I1 S1''
theorem strings_Builder_WriteByte_fn (R : Value → IMem → SH → Prop) (b_0 : Option Addr) (c_1 : Int) (I : IMem) (S : SH) (h : strings_Builder_WriteByte R b_0 c_1 I S) :
    Runs Tryd.prog 68 #[.pointer b_0, .int .u8 c_1] I S R := by
  refine Runs.of_wp (args := [.pointer b_0, .int .u8 c_1]) (c := strings_Builder_WriteByte_code) Tryd.func68 (by kernel_rfl) (by kernel_rfl) ?_
  exact Pre.sound _ _ _ _ _ (cast (by kernel_rfl) h)
/-! ### strings_Builder_WriteString: function 69, (*strings.Builder).WriteString -/
noncomputable def strings_Builder_WriteString_code : Code := (Tryd.f69.body).getD .skip
def strings_Builder_WriteString (R : Value → IMem → SH → Prop) (b_0 : Option Addr) (s_1 : ByteArray) (I : IMem) (S : SH) : Prop :=
  Runs Tryd.prog 89 #[.pointer b_0] I S fun v I1 S1 => v = .tuple #[] ∧
  ptrP b_0 fun x10 =>
  ∃ x12 x12n x12c, Cell I1 S1 (x10.add 1) (.slice x12 x12n x12c) ∧
  AppG 5 1 1 [.int .u8 0] (some .string) I1 S1 (.slice x12 x12n x12c) (.string s_1) fun x14 x14n x14c S1' =>
  ptrP b_0 fun x15 =>
  StP S1' (x15.add 1) [.slice x14 x14n x14c] fun S1'' =>
  R (.tuple #[.int .i64 (s_1.size : Int), .nilIface]) I1 S1''
theorem strings_Builder_WriteString_fn (R : Value → IMem → SH → Prop) (b_0 : Option Addr) (s_1 : ByteArray) (I : IMem) (S : SH) (h : strings_Builder_WriteString R b_0 s_1 I S) :
    Runs Tryd.prog 69 #[.pointer b_0, .string s_1] I S R := by
  refine Runs.of_wp (args := [.pointer b_0, .string s_1]) (c := strings_Builder_WriteString_code) Tryd.func69 (by kernel_rfl) (by kernel_rfl) ?_
  exact Pre.sound _ _ _ _ _ (cast (by kernel_rfl) h)
/-! ### name_folded: function 70, bolter/name.folded -/
noncomputable def name_folded_code : Code := (Tryd.f70.body).getD .skip
def name_folded_b4 (R : Value → IMem → SH → Prop) (b_3 : Option Addr) (b_3n : Nat) (b_3c : Nat) (I : IMem) (S : SH) : Prop :=
  ∃ x22 : ByteArray, BytesAt I S b_3 b_3n x22 ∧
  R (.string x22) I S
def name_folded_l3 (again3 : Option Addr → Nat → Nat → Option Addr → Nat → Nat → Int → Int → IMem → SH → Prop) (R : Value → IMem → SH → Prop) (b_3 : Option Addr) (b_3n : Nat) (b_3c : Nat) (x8 : Option Addr) (x8n : Nat) (x8c : Nat) (x9 : Int) (x10 : Int) (I : IMem) (S : SH) : Prop :=
  bcase (decide (x10 < x9))
    (ptrP x8 fun x13 => (0 : Int) ≤ x10 ∧ x10 < (x8n : Int) ∧
    ∃ x14, Cell I S (x13.add (x10.toNat * 1)) (.int .u8 x14) ∧
    Runs Tryd.prog 90 #[.int .u8 x14] I S fun v I1 S1 => ∃ x18, v = .int .u8 x18 ∧
    ptrP b_3 fun x19 => (0 : Int) ≤ x10 ∧ x10 < (b_3n : Int) ∧
    StP S1 (x19.add (x10.toNat * 1)) [.int .u8 x18] fun S1' =>
    again3 b_3 b_3n b_3c x8 x8n x8c x9 (IntKind.wrap .i64 (x10 + (1 : Int))) I1 S1')
    (name_folded_b4 R b_3 b_3n b_3c I S)
def name_folded_b2 (R : Value → IMem → SH → Prop) (b_3 : Option Addr) (b_3n : Nat) (b_3c : Nat) (x8 : Option Addr) (x8n : Nat) (x8c : Nat) (x9 : Int) (x10 : Int) (I : IMem) (S : SH) : Prop :=
  ∃ (Inv : Nat → Option Addr → Nat → Nat → Option Addr → Nat → Nat → Int → Int → IMem → SH → Prop) (m : Nat), Inv m b_3 b_3n b_3c x8 x8n x8c x9 x10 I S ∧
    ∀ (m : Nat) (b_3 : Option Addr) (b_3n : Nat) (b_3c : Nat) (x8 : Option Addr) (x8n : Nat) (x8c : Nat) (x9 : Int) (x10 : Int) (J : IMem) (T : SH), I.le J → Inv m b_3 b_3n b_3c x8 x8n x8c x9 x10 J T →
      name_folded_l3 (fun b_3 b_3n b_3c x8 x8n x8c x9 x10 I S => ∃ m', m' < m ∧ Inv m' b_3 b_3n b_3c x8 x8n x8c x9 x10 I S) R b_3 b_3n b_3c x8 x8n x8c x9 x10 J T
def name_folded_b1 (R : Value → IMem → SH → Prop) (b_3 : Option Addr) (b_3n : Nat) (b_3c : Nat) (I : IMem) (S : SH) : Prop :=
  name_folded_b2 R b_3 b_3n b_3c b_3 b_3n b_3c (b_3n : Int) 0 I S
def name_folded (R : Value → IMem → SH → Prop) (s_0 : ByteArray) (I : IMem) (S : SH) : Prop :=
  s_0.size ≤ maxLen ∧ ∀ b7 c7 : Nat, s_0.size ≤ c7 → c7 ≤ maxLen →
  name_folded_b1 R (some ⟨b7, 0, none⟩) s_0.size c7 I ((b7, .cells (byteCells s_0 ++ repV (c7 - s_0.size) [.int .u8 0]).toArray 5 (c7, c7 + 1)) :: S)
theorem name_folded_fn (R : Value → IMem → SH → Prop) (s_0 : ByteArray) (I : IMem) (S : SH) (h : name_folded R s_0 I S) :
    Runs Tryd.prog 70 #[.string s_0] I S R := by
  refine Runs.of_wp (args := [.string s_0]) (c := name_folded_code) Tryd.func70 (by kernel_rfl) (by kernel_rfl) ?_
  refine WP.cut 2 (fun l I S => asSl (l 3) fun b_3 b_3n b_3c => name_folded_b1 R b_3 b_3n b_3c I S) (cast (by kernel_rfl) h) ?_
  clear h
  intro l I S _ h
  obtain ⟨b_3, b_3n, b_3c, e3, h⟩ := asSl_e h
  rw [upd_eta e3]
  refine WP.seqY (by kernel_rfl) (fun l I S => asSl (l 3) fun b_3 b_3n b_3c => name_folded_b4 R b_3 b_3n b_3c I S) ?_ ?_
  ·
    refine WP.cut 1 (fun l I S => asSl (l 3) fun b_3 b_3n b_3c => asSl (l 8) fun x8 x8n x8c => asI .i64 (l 9) fun x9 => asI .i64 (l 10) fun x10 => name_folded_b2 R b_3 b_3n b_3c x8 x8n x8c x9 x10 I S) (cast (by kernel_rfl) h) ?_
    clear h
    intro l I S _ h
    obtain ⟨b_3, b_3n, b_3c, e3, h⟩ := asSl_e h
    obtain ⟨x8, x8n, x8c, e8, h⟩ := asSl_e h
    obtain ⟨x9, e9, h⟩ := asI_e h
    obtain ⟨x10, e10, h⟩ := asI_e h
    rw [upd_eta e3, upd_eta e8, upd_eta e9, upd_eta e10]
    refine WP.block' (by kernel_rfl) ?_
    obtain ⟨Inv_again3, m_again3, h0, hr⟩ := h
    refine WP.loop' (by kernel_rfl) (fun m_again3 => fun l I S => asSl (l 3) fun b_3 b_3n b_3c => asSl (l 8) fun x8 x8n x8c => asI .i64 (l 9) fun x9 => asI .i64 (l 10) fun x10 => Inv_again3 m_again3 b_3 b_3n b_3c x8 x8n x8c x9 x10 I S) m_again3 (cast (by kernel_rfl) h0) ?_
    clear h0
    intro m_again3 l I S hle h
    obtain ⟨b_3, b_3n, b_3c, e3, h⟩ := asSl_e h
    obtain ⟨x8, x8n, x8c, e8, h⟩ := asSl_e h
    obtain ⟨x9, e9, h⟩ := asI_e h
    obtain ⟨x10, e10, h⟩ := asI_e h
    rw [upd_eta e3, upd_eta e8, upd_eta e9, upd_eta e10]
    have h := hr m_again3 b_3 b_3n b_3c x8 x8n x8c x9 x10 I S hle h
    clear hr hle
    exact Pre.sound _ _ _ _ _ (cast (by kernel_rfl) h)
  · clear h
    intro l I S _ h
    obtain ⟨b_3, b_3n, b_3c, e3, h⟩ := asSl_e h
    rw [upd_eta e3]
    exact Pre.sound _ _ _ _ _ (cast (by kernel_rfl) h)
/-! ### strings_Builder_String: function 71, (*strings.Builder).String -/
noncomputable def strings_Builder_String_code : Code := (Tryd.f71.body).getD .skip
def strings_Builder_String_b2 (R : Value → IMem → SH → Prop) (x2 : ByteArray) (I : IMem) (S : SH) : Prop :=
  R (.string x2) I S
def strings_Builder_String_b1 (R : Value → IMem → SH → Prop) (b_0 : Option Addr) (I : IMem) (S : SH) : Prop :=
  ptrP b_0 fun x4 =>
  ∃ x6 x6n x6c, Cell I S (x4.add 1) (.slice x6 x6n x6c) ∧
  ((x6 : Option Addr).isSome = true → x6c ≠ 0) ∧
  ptrP b_0 fun x9 =>
  ∃ x11 x11n x11c, Cell I S (x9.add 1) (.slice x11 x11n x11c) ∧
  UsP Tryd.prog 5 I S x6 (x11n : Int) fun x13 S1 =>
  strings_Builder_String_b2 R x13 I S1
def strings_Builder_String (R : Value → IMem → SH → Prop) (b_0 : Option Addr) (I : IMem) (S : SH) : Prop :=
  strings_Builder_String_b1 R b_0 I S
theorem strings_Builder_String_fn (R : Value → IMem → SH → Prop) (b_0 : Option Addr) (I : IMem) (S : SH) (h : strings_Builder_String R b_0 I S) :
    Runs Tryd.prog 71 #[.pointer b_0] I S R := by
  refine Runs.of_wp (args := [.pointer b_0]) (c := strings_Builder_String_code) Tryd.func71 (by kernel_rfl) (by kernel_rfl) ?_
  refine WP.cut 1 (fun l I S => asPtr (l 0) fun b_0 => strings_Builder_String_b1 R b_0 I S) (cast (by kernel_rfl) h) ?_
  clear h
  intro l I S _ h
  obtain ⟨b_0, e0, h⟩ := asPtr_e h
  rw [upd_eta e0]
  refine WP.seqY (by kernel_rfl) (fun l I S => asStr (l 2) fun x2 => strings_Builder_String_b2 R x2 I S) ?_ ?_
  ·
    exact WP.draw' (.take 0 (.take 1 (.take 2 (.take 3 (.take 4 (.take 5 (.take 6 (.take 7 (.take 8 (.take 9 (.step 10 (.take 11 .done)))))))))))) [10] (by kernel_rfl) (by kernel_rfl) (by kernel_rfl) (by kernel_rfl) (by kernel_rfl) (cast (by kernel_rfl) h)
  · clear h
    intro l I S _ h
    obtain ⟨x2, e2, h⟩ := asStr_e h
    rw [upd_eta e2]
    exact Pre.sound _ _ _ _ _ (cast (by kernel_rfl) h)
/-! ### name_Labels: function 76, bolter/name.Labels -/
noncomputable def name_Labels_code : Code := (Tryd.f76.body).getD .skip
def name_Labels_b8 (again4 : Option Addr → Nat → Nat → ByteArray → IMem → SH → Prop) (R : Value → IMem → SH → Prop) (out_4 : Option Addr) (out_4n : Nat) (out_4c : Nat) (s_5 : ByteArray) (k_6 : Int) (I : IMem) (S : SH) : Prop :=
  (0 : Int) ≤ (IntKind.wrap .i64 ((1 : Int) + k_6)) ∧ (IntKind.wrap .i64 ((1 : Int) + k_6)) ≤ ((s_5.size : Nat) : Int) ∧
  (0 : Int) ≤ (1 : Int) ∧ (1 : Int) ≤ (((IntKind.wrap .i64 ((1 : Int) + k_6)).toNat : Nat) : Int) ∧
  ∀ b40 : Nat,
  AppG 9 1 16 [.string ⟨#[]⟩] (some (.slice 9)) I ((b40, .cells #[.string (s_5.extract ((1 : Int).toNat) ((IntKind.wrap .i64 ((1 : Int) + k_6)).toNat))] 9 (0, 0)) :: S) (.slice out_4 out_4n out_4c) (.slice (some ⟨b40, 0, none⟩) 1 1) fun x41 x41n x41c S1 =>
  (0 : Int) ≤ (IntKind.wrap .i64 ((1 : Int) + k_6)) ∧ (IntKind.wrap .i64 ((1 : Int) + k_6)) ≤ ((s_5.size : Nat) : Int) ∧
  again4 x41 x41n x41c (s_5.extract ((IntKind.wrap .i64 ((1 : Int) + k_6)).toNat) s_5.size) I S1
def name_Labels_b7 (again4 : Option Addr → Nat → Nat → ByteArray → IMem → SH → Prop) (R : Value → IMem → SH → Prop) (out_4 : Option Addr) (out_4n : Nat) (out_4c : Nat) (s_5 : ByteArray) (k_6 : Int) (x34 : Bool) (I : IMem) (S : SH) : Prop :=
  bcase x34
    (R (.tuple #[.slice none 0 0, .bool false]) I S)
    (name_Labels_b8 again4 R out_4 out_4n out_4c s_5 k_6 I S)
def name_Labels_b6 (again4 : Option Addr → Nat → Nat → ByteArray → IMem → SH → Prop) (R : Value → IMem → SH → Prop) (out_4 : Option Addr) (out_4n : Nat) (out_4c : Nat) (s_5 : ByteArray) (k_6 : Int) (I : IMem) (S : SH) : Prop :=
  bcase (decide (k_6 < (1 : Int)))
    (name_Labels_b7 again4 R out_4 out_4n out_4c s_5 k_6 true I S)
    (bcase (decide (k_6 > (63 : Int)))
      (name_Labels_b7 again4 R out_4 out_4n out_4c s_5 k_6 true I S)
      (name_Labels_b7 again4 R out_4 out_4n out_4c s_5 k_6 (decide (k_6 ≥ (s_5.size : Int))) I S))
def name_Labels_b5 (again4 : Option Addr → Nat → Nat → ByteArray → IMem → SH → Prop) (R : Value → IMem → SH → Prop) (out_4 : Option Addr) (out_4n : Nat) (out_4c : Nat) (s_5 : ByteArray) (I : IMem) (S : SH) : Prop :=
  ∃ cx21 : UInt8, (0 : Int) ≤ (0 : Int) ∧ s_5[(0 : Int).toNat]? = some cx21 ∧
  name_Labels_b6 again4 R out_4 out_4n out_4c s_5 (IntKind.wrap .i64 (cx21.toNat : Int)) I S
def name_Labels_b9 (R : Value → IMem → SH → Prop) (out_4 : Option Addr) (out_4n : Nat) (out_4c : Nat) (I : IMem) (S : SH) : Prop :=
  R (.tuple #[.slice out_4 out_4n out_4c, .bool true]) I S
def name_Labels_l4 (again4 : Option Addr → Nat → Nat → ByteArray → IMem → SH → Prop) (R : Value → IMem → SH → Prop) (out_4 : Option Addr) (out_4n : Nat) (out_4c : Nat) (s_5 : ByteArray) (I : IMem) (S : SH) : Prop :=
  bcase (decide ((s_5.size : Int) > (0 : Int)))
    (name_Labels_b5 again4 R out_4 out_4n out_4c s_5 I S)
    (name_Labels_b9 R out_4 out_4n out_4c I S)
def name_Labels_b3 (R : Value → IMem → SH → Prop) (out_4 : Option Addr) (out_4n : Nat) (out_4c : Nat) (s_5 : ByteArray) (I : IMem) (S : SH) : Prop :=
  ∃ (Inv : Nat → Option Addr → Nat → Nat → ByteArray → IMem → SH → Prop) (m : Nat), Inv m out_4 out_4n out_4c s_5 I S ∧
    ∀ (m : Nat) (out_4 : Option Addr) (out_4n : Nat) (out_4c : Nat) (s_5 : ByteArray) (J : IMem) (T : SH), I.le J → Inv m out_4 out_4n out_4c s_5 J T →
      name_Labels_l4 (fun out_4 out_4n out_4c s_5 I S => ∃ m', m' < m ∧ Inv m' out_4 out_4n out_4c s_5 I S) R out_4 out_4n out_4c s_5 J T
def name_Labels_b2 (R : Value → IMem → SH → Prop) (out_4 : Option Addr) (out_4n : Nat) (out_4c : Nat) (s_5 : ByteArray) (x16 : Bool) (I : IMem) (S : SH) : Prop :=
  bcase x16
    (R (.tuple #[.slice none 0 0, .bool false]) I S)
    (name_Labels_b3 R out_4 out_4n out_4c s_5 I S)
def name_Labels_b1 (R : Value → IMem → SH → Prop) (out_4 : Option Addr) (out_4n : Nat) (out_4c : Nat) (s_5 : ByteArray) (I : IMem) (S : SH) : Prop :=
  bcase (decide ((s_5.size : Int) > (254 : Int)))
    (name_Labels_b2 R out_4 out_4n out_4c s_5 true I S)
    (Runs Tryd.prog 70 #[.string s_5] I S fun v I1 S1 => ∃ x14, v = .string x14 ∧
    name_Labels_b2 R out_4 out_4n out_4c s_5 (!(s_5.toList == x14.toList)) I1 S1)
def name_Labels (R : Value → IMem → SH → Prop) (n_0 : ByteArray) (I : IMem) (S : SH) : Prop :=
  name_Labels_b1 R none 0 0 n_0 I S
theorem name_Labels_fn (R : Value → IMem → SH → Prop) (n_0 : ByteArray) (I : IMem) (S : SH) (h : name_Labels R n_0 I S) :
    Runs Tryd.prog 76 #[.string n_0] I S R := by
  refine Runs.of_wp (args := [.string n_0]) (c := name_Labels_code) Tryd.func76 (by kernel_rfl) (by kernel_rfl) ?_
  refine WP.cut 3 (fun l I S => asSl (l 4) fun out_4 out_4n out_4c => asStr (l 5) fun s_5 => name_Labels_b1 R out_4 out_4n out_4c s_5 I S) (cast (by kernel_rfl) h) ?_
  clear h
  intro l I S _ h
  obtain ⟨out_4, out_4n, out_4c, e4, h⟩ := asSl_e h
  obtain ⟨s_5, e5, h⟩ := asStr_e h
  rw [upd_eta e4, upd_eta e5]
  refine WP.seqY (by kernel_rfl) (fun l I S => asSl (l 4) fun out_4 out_4n out_4c => asStr (l 5) fun s_5 => name_Labels_b3 R out_4 out_4n out_4c s_5 I S) ?_ ?_
  ·
    refine WP.cut 1 (fun l I S => asSl (l 4) fun out_4 out_4n out_4c => asStr (l 5) fun s_5 => asB (l 16) fun x16 => name_Labels_b2 R out_4 out_4n out_4c s_5 x16 I S) (cast (by kernel_rfl) h) ?_
    clear h
    intro l I S _ h
    obtain ⟨out_4, out_4n, out_4c, e4, h⟩ := asSl_e h
    obtain ⟨s_5, e5, h⟩ := asStr_e h
    obtain ⟨x16, e16, h⟩ := asB_e h
    rw [upd_eta e4, upd_eta e5, upd_eta e16]
    exact Pre.sound _ _ _ _ _ (cast (by kernel_rfl) h)
  · clear h
    intro l I S _ h
    obtain ⟨out_4, out_4n, out_4c, e4, h⟩ := asSl_e h
    obtain ⟨s_5, e5, h⟩ := asStr_e h
    rw [upd_eta e4, upd_eta e5]
    refine WP.seqY (by kernel_rfl) (fun l I S => asSl (l 4) fun out_4 out_4n out_4c => name_Labels_b9 R out_4 out_4n out_4c I S) ?_ ?_
    ·
      refine WP.block' (by kernel_rfl) ?_
      obtain ⟨Inv_again4, m_again4, h0, hr⟩ := h
      refine WP.loop' (by kernel_rfl) (fun m_again4 => fun l I S => asSl (l 4) fun out_4 out_4n out_4c => asStr (l 5) fun s_5 => Inv_again4 m_again4 out_4 out_4n out_4c s_5 I S) m_again4 (cast (by kernel_rfl) h0) ?_
      clear h0
      intro m_again4 l I S hle h
      obtain ⟨out_4, out_4n, out_4c, e4, h⟩ := asSl_e h
      obtain ⟨s_5, e5, h⟩ := asStr_e h
      rw [upd_eta e4, upd_eta e5]
      have h := hr m_again4 out_4 out_4n out_4c s_5 I S hle h
      clear hr hle
      refine WP.cut 1 (fun l I S => asSl (l 4) fun out_4 out_4n out_4c => asStr (l 5) fun s_5 => name_Labels_b5 (fun out_4 out_4n out_4c s_5 I S => ∃ m', m' < m_again4 ∧ Inv_again4 m' out_4 out_4n out_4c s_5 I S) R out_4 out_4n out_4c s_5 I S) (cast (by kernel_rfl) h) ?_
      clear h
      intro l I S _ h
      obtain ⟨out_4, out_4n, out_4c, e4, h⟩ := asSl_e h
      obtain ⟨s_5, e5, h⟩ := asStr_e h
      rw [upd_eta e4, upd_eta e5]
      refine WP.block' (by kernel_rfl) ?_
      refine WP.cut 1 (fun l I S => asSl (l 4) fun out_4 out_4n out_4c => asStr (l 5) fun s_5 => asI .i64 (l 6) fun k_6 => name_Labels_b6 (fun out_4 out_4n out_4c s_5 I S => ∃ m', m' < m_again4 ∧ Inv_again4 m' out_4 out_4n out_4c s_5 I S) R out_4 out_4n out_4c s_5 k_6 I S) (cast (by kernel_rfl) h) ?_
      clear h
      intro l I S _ h
      obtain ⟨out_4, out_4n, out_4c, e4, h⟩ := asSl_e h
      obtain ⟨s_5, e5, h⟩ := asStr_e h
      obtain ⟨k_6, e6, h⟩ := asI_e h
      rw [upd_eta e4, upd_eta e5, upd_eta e6]
      refine WP.seqY (by kernel_rfl) (fun l I S => asSl (l 4) fun out_4 out_4n out_4c => asStr (l 5) fun s_5 => asI .i64 (l 6) fun k_6 => name_Labels_b8 (fun out_4 out_4n out_4c s_5 I S => ∃ m', m' < m_again4 ∧ Inv_again4 m' out_4 out_4n out_4c s_5 I S) R out_4 out_4n out_4c s_5 k_6 I S) ?_ ?_
      ·
        refine WP.cut 1 (fun l I S => asSl (l 4) fun out_4 out_4n out_4c => asStr (l 5) fun s_5 => asI .i64 (l 6) fun k_6 => asB (l 34) fun x34 => name_Labels_b7 (fun out_4 out_4n out_4c s_5 I S => ∃ m', m' < m_again4 ∧ Inv_again4 m' out_4 out_4n out_4c s_5 I S) R out_4 out_4n out_4c s_5 k_6 x34 I S) (cast (by kernel_rfl) h) ?_
        clear h
        intro l I S _ h
        obtain ⟨out_4, out_4n, out_4c, e4, h⟩ := asSl_e h
        obtain ⟨s_5, e5, h⟩ := asStr_e h
        obtain ⟨k_6, e6, h⟩ := asI_e h
        obtain ⟨x34, e34, h⟩ := asB_e h
        rw [upd_eta e4, upd_eta e5, upd_eta e6, upd_eta e34]
        exact Pre.sound _ _ _ _ _ (cast (by kernel_rfl) h)
      · clear h
        intro l I S _ h
        obtain ⟨out_4, out_4n, out_4c, e4, h⟩ := asSl_e h
        obtain ⟨s_5, e5, h⟩ := asStr_e h
        obtain ⟨k_6, e6, h⟩ := asI_e h
        rw [upd_eta e4, upd_eta e5, upd_eta e6]
        exact Pre.sound _ _ _ _ _ (cast (by kernel_rfl) h)
    · clear h
      intro l I S _ h
      obtain ⟨out_4, out_4n, out_4c, e4, h⟩ := asSl_e h
      rw [upd_eta e4]
      exact Pre.sound _ _ _ _ _ (cast (by kernel_rfl) h)
/-! ### rdata_soa: function 100, bolter/rdata.soa -/
noncomputable def rdata_soa_code : Code := (Tryd.f100.body).getD .skip
def rdata_soa_b3 (R : Value → IMem → SH → Prop) (a_6 : ByteArray) (b_9 : ByteArray) (last_10 : ByteArray) (I : IMem) (S : SH) : Prop :=
  R (.tuple #[.string a_6, .string b_9, .string last_10, .bool true]) I S
def rdata_soa_b2 (R : Value → IMem → SH → Prop) (a_6 : ByteArray) (b_9 : ByteArray) (last_10 : ByteArray) (x34 : Bool) (I : IMem) (S : SH) : Prop :=
  bcase x34
    (R (.tuple #[.string ⟨#[]⟩, .string ⟨#[]⟩, .string ⟨#[]⟩, .bool false]) I S)
    (rdata_soa_b3 R a_6 b_9 last_10 I S)
def rdata_soa_b1 (R : Value → IMem → SH → Prop) (a_6 : ByteArray) (ok_8 : Bool) (b_9 : ByteArray) (last_10 : ByteArray) (is_11 : Bool) (I : IMem) (S : SH) : Prop :=
  bcase (!ok_8)
    (rdata_soa_b2 R a_6 b_9 last_10 true I S)
    (bcase (!is_11)
      (rdata_soa_b2 R a_6 b_9 last_10 true I S)
      (rdata_soa_b2 R a_6 b_9 last_10 ((last_10.size : Int) != (20 : Int)) I S))
def rdata_soa (R : Value → IMem → SH → Prop) (d_0 : ByteArray) (I : IMem) (S : SH) : Prop :=
  Runs Tryd.prog 103 #[.string d_0] I S fun v I1 S1 => ∃ x14_0 x14_1 x14_2, v = .tuple #[.string x14_0, .string x14_1, .bool x14_2] ∧
  Runs Tryd.prog 103 #[.string x14_1] I1 S1 fun v' I1' S1' => ∃ x20_0 x20_1 x20_2, v' = .tuple #[.string x20_0, .string x20_1, .bool x20_2] ∧
  rdata_soa_b1 R x14_0 x14_2 x20_0 x20_1 x20_2 I1' S1'
theorem rdata_soa_fn (R : Value → IMem → SH → Prop) (d_0 : ByteArray) (I : IMem) (S : SH) (h : rdata_soa R d_0 I S) :
    Runs Tryd.prog 100 #[.string d_0] I S R := by
  refine Runs.of_wp (args := [.string d_0]) (c := rdata_soa_code) Tryd.func100 (by kernel_rfl) (by kernel_rfl) ?_
  refine WP.cut 3 (fun l I S => asStr (l 6) fun a_6 => asB (l 8) fun ok_8 => asStr (l 9) fun b_9 => asStr (l 10) fun last_10 => asB (l 11) fun is_11 => rdata_soa_b1 R a_6 ok_8 b_9 last_10 is_11 I S) (cast (by kernel_rfl) h) ?_
  clear h
  intro l I S _ h
  obtain ⟨a_6, e6, h⟩ := asStr_e h
  obtain ⟨ok_8, e8, h⟩ := asB_e h
  obtain ⟨b_9, e9, h⟩ := asStr_e h
  obtain ⟨last_10, e10, h⟩ := asStr_e h
  obtain ⟨is_11, e11, h⟩ := asB_e h
  rw [upd_eta e6, upd_eta e8, upd_eta e9, upd_eta e10, upd_eta e11]
  refine WP.seqY (by kernel_rfl) (fun l I S => asStr (l 6) fun a_6 => asStr (l 9) fun b_9 => asStr (l 10) fun last_10 => rdata_soa_b3 R a_6 b_9 last_10 I S) ?_ ?_
  ·
    refine WP.cut 1 (fun l I S => asStr (l 6) fun a_6 => asStr (l 9) fun b_9 => asStr (l 10) fun last_10 => asB (l 34) fun x34 => rdata_soa_b2 R a_6 b_9 last_10 x34 I S) (cast (by kernel_rfl) h) ?_
    clear h
    intro l I S _ h
    obtain ⟨a_6, e6, h⟩ := asStr_e h
    obtain ⟨b_9, e9, h⟩ := asStr_e h
    obtain ⟨last_10, e10, h⟩ := asStr_e h
    obtain ⟨x34, e34, h⟩ := asB_e h
    rw [upd_eta e6, upd_eta e9, upd_eta e10, upd_eta e34]
    exact Pre.sound _ _ _ _ _ (cast (by kernel_rfl) h)
  · clear h
    intro l I S _ h
    obtain ⟨a_6, e6, h⟩ := asStr_e h
    obtain ⟨b_9, e9, h⟩ := asStr_e h
    obtain ⟨last_10, e10, h⟩ := asStr_e h
    rw [upd_eta e6, upd_eta e9, upd_eta e10]
    exact Pre.sound _ _ _ _ _ (cast (by kernel_rfl) h)
/-! ### rdata_texts: function 101, bolter/rdata.texts -/
noncomputable def rdata_texts_code : Code := (Tryd.f101.body).getD .skip
def rdata_texts_b4 (again2 : ByteArray → Int → IMem → SH → Prop) (R : Value → IMem → SH → Prop) (x2 : Bool) (I : IMem) (S : SH) : Prop :=
  R (.bool x2) I S
def rdata_texts_b5 (again2 : ByteArray → Int → IMem → SH → Prop) (R : Value → IMem → SH → Prop) (d_0 : ByteArray) (at_3 : Int) (I : IMem) (S : SH) : Prop :=
  ∃ cx19 : UInt8, (0 : Int) ≤ at_3 ∧ d_0[at_3.toNat]? = some cx19 ∧
  again2 d_0 (IntKind.wrap .i64 (at_3 + (IntKind.wrap .i64 ((1 : Int) + (IntKind.wrap .i64 (cx19.toNat : Int)))))) I S
def rdata_texts_b3 (again2 : ByteArray → Int → IMem → SH → Prop) (R : Value → IMem → SH → Prop) (d_0 : ByteArray) (at_3 : Int) (x7 : Bool) (I : IMem) (S : SH) : Prop :=
  bcase x7
    (bcase (at_3 == (d_0.size : Int))
      (rdata_texts_b4 again2 R (decide (at_3 > (0 : Int))) I S)
      (rdata_texts_b4 again2 R false I S))
    (rdata_texts_b5 again2 R d_0 at_3 I S)
def rdata_texts_l2 (again2 : ByteArray → Int → IMem → SH → Prop) (R : Value → IMem → SH → Prop) (d_0 : ByteArray) (at_3 : Int) (I : IMem) (S : SH) : Prop :=
  rdata_texts_b3 again2 R d_0 at_3 (decide (at_3 ≥ (d_0.size : Int))) I S
def rdata_texts_b1 (R : Value → IMem → SH → Prop) (d_0 : ByteArray) (at_3 : Int) (I : IMem) (S : SH) : Prop :=
  ∃ (Inv : Nat → ByteArray → Int → IMem → SH → Prop) (m : Nat), Inv m d_0 at_3 I S ∧
    ∀ (m : Nat) (d_0 : ByteArray) (at_3 : Int) (J : IMem) (T : SH), I.le J → Inv m d_0 at_3 J T →
      rdata_texts_l2 (fun d_0 at_3 I S => ∃ m', m' < m ∧ Inv m' d_0 at_3 I S) R d_0 at_3 J T
def rdata_texts (R : Value → IMem → SH → Prop) (d_0 : ByteArray) (I : IMem) (S : SH) : Prop :=
  rdata_texts_b1 R d_0 0 I S
theorem rdata_texts_fn (R : Value → IMem → SH → Prop) (d_0 : ByteArray) (I : IMem) (S : SH) (h : rdata_texts R d_0 I S) :
    Runs Tryd.prog 101 #[.string d_0] I S R := by
  refine Runs.of_wp (args := [.string d_0]) (c := rdata_texts_code) Tryd.func101 (by kernel_rfl) (by kernel_rfl) ?_
  refine WP.cut 2 (fun l I S => asStr (l 0) fun d_0 => asI .i64 (l 3) fun at_3 => rdata_texts_b1 R d_0 at_3 I S) (cast (by kernel_rfl) h) ?_
  clear h
  intro l I S _ h
  obtain ⟨d_0, e0, h⟩ := asStr_e h
  obtain ⟨at_3, e3, h⟩ := asI_e h
  rw [upd_eta e0, upd_eta e3]
  refine WP.block' (by kernel_rfl) ?_
  obtain ⟨Inv_again2, m_again2, h0, hr⟩ := h
  refine WP.loop' (by kernel_rfl) (fun m_again2 => fun l I S => asStr (l 0) fun d_0 => asI .i64 (l 3) fun at_3 => Inv_again2 m_again2 d_0 at_3 I S) m_again2 (cast (by kernel_rfl) h0) ?_
  clear h0
  intro m_again2 l I S hle h
  obtain ⟨d_0, e0, h⟩ := asStr_e h
  obtain ⟨at_3, e3, h⟩ := asI_e h
  rw [upd_eta e0, upd_eta e3]
  have h := hr m_again2 d_0 at_3 I S hle h
  clear hr hle
  refine WP.block' (by kernel_rfl) ?_
  refine WP.seqY (by kernel_rfl) (fun l I S => asStr (l 0) fun d_0 => asI .i64 (l 3) fun at_3 => rdata_texts_b5 (fun d_0 at_3 I S => ∃ m', m' < m_again2 ∧ Inv_again2 m' d_0 at_3 I S) R d_0 at_3 I S) ?_ ?_
  ·
    refine WP.cut 1 (fun l I S => asStr (l 0) fun d_0 => asI .i64 (l 3) fun at_3 => asB (l 7) fun x7 => rdata_texts_b3 (fun d_0 at_3 I S => ∃ m', m' < m_again2 ∧ Inv_again2 m' d_0 at_3 I S) R d_0 at_3 x7 I S) (cast (by kernel_rfl) h) ?_
    clear h
    intro l I S _ h
    obtain ⟨d_0, e0, h⟩ := asStr_e h
    obtain ⟨at_3, e3, h⟩ := asI_e h
    obtain ⟨x7, e7, h⟩ := asB_e h
    rw [upd_eta e0, upd_eta e3, upd_eta e7]
    refine WP.cond' (by kernel_rfl) (by kernel_rfl) h ?_ ?_
    · clear h
      intro h
      refine WP.cut 1 (fun l I S => asB (l 2) fun x2 => rdata_texts_b4 (fun d_0 at_3 I S => ∃ m', m' < m_again2 ∧ Inv_again2 m' d_0 at_3 I S) R x2 I S) (cast (by kernel_rfl) h) ?_
      clear h
      intro l I S _ h
      obtain ⟨x2, e2, h⟩ := asB_e h
      rw [upd_eta e2]
      exact Pre.sound _ _ _ _ _ (cast (by kernel_rfl) h)
    · clear h
      intro h
      exact Pre.sound _ _ _ _ _ (cast (by kernel_rfl) h)
  · clear h
    intro l I S _ h
    obtain ⟨d_0, e0, h⟩ := asStr_e h
    obtain ⟨at_3, e3, h⟩ := asI_e h
    rw [upd_eta e0, upd_eta e3]
    exact Pre.sound _ _ _ _ _ (cast (by kernel_rfl) h)
/-! ### strings_Builder_copyCheck: function 89, (*strings.Builder).copyCheck -/
noncomputable def strings_Builder_copyCheck_code : Code := (Tryd.f89.body).getD .skip
def strings_Builder_copyCheck (R : Value → IMem → SH → Prop) (b_0 : Addr) (I : IMem) (S : SH) : Prop :=
  ∃ x5, Cell I S b_0 (.pointer x5) ∧
  bcase ((x5 : Option Addr).isNone)
    (∃ csx9 ex9, BlkAt I S b_0.block csx9 ex9 ∧ b_0.off < csx9.size ∧
    RunsX Tryd.prog 99 #[.pointer (some b_0)] I S fun v I1 S1 => ∃ x10, v = .pointer x10 ∧
    ptrP x10 fun x11 => ∃ csx11 ex11, BlkAt I1 S1 x11.block csx11 ex11 ∧ liesAt Tryd.prog (Program.depth Tryd.prog) ex11 (csx11.size / Program.cellsOf Tryd.prog ex11) x11.off 122 1 = true ∧
    StP S1 b_0 [.pointer (some x11)] fun S1' =>
    R (.tuple #[]) I1 S1')
    (∃ x17, Cell I S b_0 (.pointer x17) ∧
    (x17 : Option Addr) = some b_0 ∧
    R (.tuple #[]) I S)
theorem strings_Builder_copyCheck_fn (R : Value → IMem → SH → Prop) (b_0 : Addr) (I : IMem) (S : SH) (h : strings_Builder_copyCheck R b_0 I S) :
    Runs Tryd.prog 89 #[.pointer (some b_0)] I S R := by
  refine Runs.of_wp (args := [.pointer (some b_0)]) (c := strings_Builder_copyCheck_code) Tryd.func89 (by kernel_rfl) (by kernel_rfl) ?_
  exact Pre.sound _ _ _ _ _ (cast (by kernel_rfl) h)
/-! ### name_Fold: function 90, bolter/name.Fold -/
noncomputable def name_Fold_code : Code := (Tryd.f90.body).getD .skip
def name_Fold_b3 (R : Value → IMem → SH → Prop) (c_0 : Int) (I : IMem) (S : SH) : Prop :=
  R (.int .u8 c_0) I S
def name_Fold_b2 (R : Value → IMem → SH → Prop) (c_0 : Int) (x8 : Bool) (I : IMem) (S : SH) : Prop :=
  bcase x8
    (R (.int .u8 (IntKind.wrap .u8 ((IntKind.wrap .u8 (c_0 + (97 : Int))) - (65 : Int)))) I S)
    (name_Fold_b3 R c_0 I S)
def name_Fold_b1 (R : Value → IMem → SH → Prop) (c_0 : Int) (I : IMem) (S : SH) : Prop :=
  bcase (decide (c_0 ≥ (65 : Int)))
    (name_Fold_b2 R c_0 (decide (c_0 ≤ (90 : Int))) I S)
    (name_Fold_b2 R c_0 false I S)
def name_Fold (R : Value → IMem → SH → Prop) (c_0 : Int) (I : IMem) (S : SH) : Prop :=
  name_Fold_b1 R c_0 I S
theorem name_Fold_fn (R : Value → IMem → SH → Prop) (c_0 : Int) (I : IMem) (S : SH) (h : name_Fold R c_0 I S) :
    Runs Tryd.prog 90 #[.int .u8 c_0] I S R := by
  refine Runs.of_wp (args := [.int .u8 c_0]) (c := name_Fold_code) Tryd.func90 (by kernel_rfl) (by kernel_rfl) ?_
  refine WP.cut 1 (fun l I S => asI .u8 (l 0) fun c_0 => name_Fold_b1 R c_0 I S) (cast (by kernel_rfl) h) ?_
  clear h
  intro l I S _ h
  obtain ⟨c_0, e0, h⟩ := asI_e h
  rw [upd_eta e0]
  refine WP.seqY (by kernel_rfl) (fun l I S => asI .u8 (l 0) fun c_0 => name_Fold_b3 R c_0 I S) ?_ ?_
  ·
    refine WP.cut 1 (fun l I S => asI .u8 (l 0) fun c_0 => asB (l 8) fun x8 => name_Fold_b2 R c_0 x8 I S) (cast (by kernel_rfl) h) ?_
    clear h
    intro l I S _ h
    obtain ⟨c_0, e0, h⟩ := asI_e h
    obtain ⟨x8, e8, h⟩ := asB_e h
    rw [upd_eta e0, upd_eta e8]
    exact Pre.sound _ _ _ _ _ (cast (by kernel_rfl) h)
  · clear h
    intro l I S _ h
    obtain ⟨c_0, e0, h⟩ := asI_e h
    rw [upd_eta e0]
    exact Pre.sound _ _ _ _ _ (cast (by kernel_rfl) h)
/-! ### point_Cut: function 103, bolter/point.Cut -/
noncomputable def point_Cut_code : Code := (Tryd.f103.body).getD .skip
def point_Cut_b7 (again3 : ByteArray → Int → IMem → SH → Prop) (R : Value → IMem → SH → Prop) (x2 : ByteArray) (x3 : ByteArray) (x4 : Bool) (I : IMem) (S : SH) : Prop :=
  R (.tuple #[.string x2, .string x3, .bool x4]) I S
def point_Cut_b6 (again3 : ByteArray → Int → IMem → SH → Prop) (R : Value → IMem → SH → Prop) (s_0 : ByteArray) (at_5 : Int) (n_6 : ByteArray) (I : IMem) (S : SH) : Prop :=
  (0 : Int) ≤ (IntKind.wrap .i64 (at_5 + (1 : Int))) ∧ (IntKind.wrap .i64 (at_5 + (1 : Int))) ≤ ((s_0.size : Nat) : Int) ∧
  point_Cut_b7 again3 R n_6 (s_0.extract ((IntKind.wrap .i64 (at_5 + (1 : Int))).toNat) s_0.size) true I S
def point_Cut_b8 (again3 : ByteArray → Int → IMem → SH → Prop) (R : Value → IMem → SH → Prop) (s_0 : ByteArray) (at_5 : Int) (I : IMem) (S : SH) : Prop :=
  ∃ cx14 : UInt8, (0 : Int) ≤ at_5 ∧ s_0[at_5.toNat]? = some cx14 ∧
  again3 s_0 (IntKind.wrap .i64 (at_5 + (IntKind.wrap .i64 ((1 : Int) + (IntKind.wrap .i64 (cx14.toNat : Int)))))) I S
def point_Cut_b5 (again3 : ByteArray → Int → IMem → SH → Prop) (R : Value → IMem → SH → Prop) (s_0 : ByteArray) (at_5 : Int) (x21 : Bool) (I : IMem) (S : SH) : Prop :=
  bcase x21
    ((0 : Int) ≤ at_5 ∧ at_5 ≤ ((s_0.size : Nat) : Int) ∧
    Runs Tryd.prog 58 #[.string (s_0.extract 0 at_5.toNat)] I S fun v I1 S1 => ∃ x26, v = .bool x26 ∧
    bcase (!x26)
      (R (.tuple #[.string ⟨#[]⟩, .string ⟨#[]⟩, .bool false]) I1 S1)
      (point_Cut_b6 again3 R s_0 at_5 (s_0.extract 0 at_5.toNat) I1 S1))
    (point_Cut_b8 again3 R s_0 at_5 I S)
def point_Cut_b4 (again3 : ByteArray → Int → IMem → SH → Prop) (R : Value → IMem → SH → Prop) (s_0 : ByteArray) (at_5 : Int) (I : IMem) (S : SH) : Prop :=
  ∃ cx20 : UInt8, (0 : Int) ≤ at_5 ∧ s_0[at_5.toNat]? = some cx20 ∧
  point_Cut_b5 again3 R s_0 at_5 ((cx20.toNat : Int) == (0 : Int)) I S
def point_Cut_b9 (R : Value → IMem → SH → Prop) (I : IMem) (S : SH) : Prop :=
  R (.tuple #[.string ⟨#[]⟩, .string ⟨#[]⟩, .bool false]) I S
def point_Cut_l3 (again3 : ByteArray → Int → IMem → SH → Prop) (R : Value → IMem → SH → Prop) (s_0 : ByteArray) (at_5 : Int) (I : IMem) (S : SH) : Prop :=
  bcase (decide (at_5 < (s_0.size : Int)))
    (point_Cut_b4 again3 R s_0 at_5 I S)
    (point_Cut_b9 R I S)
def point_Cut_b2 (R : Value → IMem → SH → Prop) (s_0 : ByteArray) (at_5 : Int) (I : IMem) (S : SH) : Prop :=
  ∃ (Inv : Nat → ByteArray → Int → IMem → SH → Prop) (m : Nat), Inv m s_0 at_5 I S ∧
    ∀ (m : Nat) (s_0 : ByteArray) (at_5 : Int) (J : IMem) (T : SH), I.le J → Inv m s_0 at_5 J T →
      point_Cut_l3 (fun s_0 at_5 I S => ∃ m', m' < m ∧ Inv m' s_0 at_5 I S) R s_0 at_5 J T
def point_Cut_b1 (R : Value → IMem → SH → Prop) (s_0 : ByteArray) (I : IMem) (S : SH) : Prop :=
  point_Cut_b2 R s_0 0 I S
def point_Cut (R : Value → IMem → SH → Prop) (s_0 : ByteArray) (I : IMem) (S : SH) : Prop :=
  point_Cut_b1 R s_0 I S
theorem point_Cut_fn (R : Value → IMem → SH → Prop) (s_0 : ByteArray) (I : IMem) (S : SH) (h : point_Cut R s_0 I S) :
    Runs Tryd.prog 103 #[.string s_0] I S R := by
  refine Runs.of_wp (args := [.string s_0]) (c := point_Cut_code) Tryd.func103 (by kernel_rfl) (by kernel_rfl) ?_
  refine WP.cut 1 (fun l I S => asStr (l 0) fun s_0 => point_Cut_b1 R s_0 I S) (cast (by kernel_rfl) h) ?_
  clear h
  intro l I S _ h
  obtain ⟨s_0, e0, h⟩ := asStr_e h
  rw [upd_eta e0]
  refine WP.seqY (by kernel_rfl) (fun l I S => point_Cut_b9 R I S) ?_ ?_
  ·
    refine WP.cut 1 (fun l I S => asStr (l 0) fun s_0 => asI .i64 (l 5) fun at_5 => point_Cut_b2 R s_0 at_5 I S) (cast (by kernel_rfl) h) ?_
    clear h
    intro l I S _ h
    obtain ⟨s_0, e0, h⟩ := asStr_e h
    obtain ⟨at_5, e5, h⟩ := asI_e h
    rw [upd_eta e0, upd_eta e5]
    refine WP.block' (by kernel_rfl) ?_
    obtain ⟨Inv_again3, m_again3, h0, hr⟩ := h
    refine WP.loop' (by kernel_rfl) (fun m_again3 => fun l I S => asStr (l 0) fun s_0 => asI .i64 (l 5) fun at_5 => Inv_again3 m_again3 s_0 at_5 I S) m_again3 (cast (by kernel_rfl) h0) ?_
    clear h0
    intro m_again3 l I S hle h
    obtain ⟨s_0, e0, h⟩ := asStr_e h
    obtain ⟨at_5, e5, h⟩ := asI_e h
    rw [upd_eta e0, upd_eta e5]
    have h := hr m_again3 s_0 at_5 I S hle h
    clear hr hle
    refine WP.cut 1 (fun l I S => asStr (l 0) fun s_0 => asI .i64 (l 5) fun at_5 => point_Cut_b4 (fun s_0 at_5 I S => ∃ m', m' < m_again3 ∧ Inv_again3 m' s_0 at_5 I S) R s_0 at_5 I S) (cast (by kernel_rfl) h) ?_
    clear h
    intro l I S _ h
    obtain ⟨s_0, e0, h⟩ := asStr_e h
    obtain ⟨at_5, e5, h⟩ := asI_e h
    rw [upd_eta e0, upd_eta e5]
    refine WP.seqY (by kernel_rfl) (fun l I S => asStr (l 0) fun s_0 => asI .i64 (l 5) fun at_5 => point_Cut_b8 (fun s_0 at_5 I S => ∃ m', m' < m_again3 ∧ Inv_again3 m' s_0 at_5 I S) R s_0 at_5 I S) ?_ ?_
    ·
      refine WP.block' (by kernel_rfl) ?_
      refine WP.cut 1 (fun l I S => asStr (l 0) fun s_0 => asI .i64 (l 5) fun at_5 => asB (l 21) fun x21 => point_Cut_b5 (fun s_0 at_5 I S => ∃ m', m' < m_again3 ∧ Inv_again3 m' s_0 at_5 I S) R s_0 at_5 x21 I S) (cast (by kernel_rfl) h) ?_
      clear h
      intro l I S _ h
      obtain ⟨s_0, e0, h⟩ := asStr_e h
      obtain ⟨at_5, e5, h⟩ := asI_e h
      obtain ⟨x21, e21, h⟩ := asB_e h
      rw [upd_eta e0, upd_eta e5, upd_eta e21]
      refine WP.cond' (by kernel_rfl) (by kernel_rfl) h ?_ ?_
      · clear h
        intro h
        refine WP.cut 2 (fun l I S => asStr (l 0) fun s_0 => asI .i64 (l 5) fun at_5 => asStr (l 6) fun n_6 => point_Cut_b6 (fun s_0 at_5 I S => ∃ m', m' < m_again3 ∧ Inv_again3 m' s_0 at_5 I S) R s_0 at_5 n_6 I S) (cast (by kernel_rfl) h) ?_
        clear h
        intro l I S _ h
        obtain ⟨s_0, e0, h⟩ := asStr_e h
        obtain ⟨at_5, e5, h⟩ := asI_e h
        obtain ⟨n_6, e6, h⟩ := asStr_e h
        rw [upd_eta e0, upd_eta e5, upd_eta e6]
        refine WP.seqY (by kernel_rfl) (fun l I S => asStr (l 2) fun x2 => asStr (l 3) fun x3 => asB (l 4) fun x4 => point_Cut_b7 (fun s_0 at_5 I S => ∃ m', m' < m_again3 ∧ Inv_again3 m' s_0 at_5 I S) R x2 x3 x4 I S) ?_ ?_
        ·
          exact WP.quiet' (by kernel_rfl) (by kernel_rfl) (by kernel_rfl) (cast (by kernel_rfl) h)
        · clear h
          intro l I S _ h
          obtain ⟨x2, e2, h⟩ := asStr_e h
          obtain ⟨x3, e3, h⟩ := asStr_e h
          obtain ⟨x4, e4, h⟩ := asB_e h
          rw [upd_eta e2, upd_eta e3, upd_eta e4]
          exact Pre.sound _ _ _ _ _ (cast (by kernel_rfl) h)
      · clear h
        intro h
        exact Pre.sound _ _ _ _ _ (cast (by kernel_rfl) h)
    · clear h
      intro l I S _ h
      obtain ⟨s_0, e0, h⟩ := asStr_e h
      obtain ⟨at_5, e5, h⟩ := asI_e h
      rw [upd_eta e0, upd_eta e5]
      exact Pre.sound _ _ _ _ _ (cast (by kernel_rfl) h)
  · clear h
    intro l I S _ h
    exact Pre.sound _ _ _ _ _ (cast (by kernel_rfl) h)
/-! ### slices_Reverse_api_Record: function 91, slices.Reverse[[]bolter/api.Record,bolter/api.Record] -/
noncomputable def slices_Reverse_api_Record_code : Code := (Tryd.f91.body).getD .skip
def slices_Reverse_api_Record_b4 (again2 : Option Addr → Nat → Nat → Int → Int → IMem → SH → Prop) (R : Value → IMem → SH → Prop) (s_0 : Option Addr) (s_0n : Nat) (s_0c : Nat) (i_2 : Int) (j_3 : Int) (I : IMem) (S : SH) : Prop :=
  again2 s_0 s_0n s_0c (IntKind.wrap .i64 (i_2 + (1 : Int))) (IntKind.wrap .i64 (j_3 - (1 : Int))) I S
def slices_Reverse_api_Record_b3 (again2 : Option Addr → Nat → Nat → Int → Int → IMem → SH → Prop) (R : Value → IMem → SH → Prop) (s_0 : Option Addr) (s_0n : Nat) (s_0c : Nat) (i_2 : Int) (j_3 : Int) (I : IMem) (S : SH) : Prop :=
  ptrP s_0 fun x20 => (0 : Int) ≤ j_3 ∧ j_3 < (s_0n : Int) ∧
  ∃ x21_0, Cell I S (x20.add (j_3.toNat * 4)) (.string x21_0) ∧
  ∃ x21_1, Cell I S ((x20.add (j_3.toNat * 4)).add 1) (.int .u16 x21_1) ∧
  ∃ x21_2, Cell I S ((x20.add (j_3.toNat * 4)).add 2) (.int .u32 x21_2) ∧
  ∃ x21_3, Cell I S ((x20.add (j_3.toNat * 4)).add 3) (.string x21_3) ∧
  ptrP s_0 fun x24 => (0 : Int) ≤ i_2 ∧ i_2 < (s_0n : Int) ∧
  ∃ x25_0, Cell I S (x24.add (i_2.toNat * 4)) (.string x25_0) ∧
  ∃ x25_1, Cell I S ((x24.add (i_2.toNat * 4)).add 1) (.int .u16 x25_1) ∧
  ∃ x25_2, Cell I S ((x24.add (i_2.toNat * 4)).add 2) (.int .u32 x25_2) ∧
  ∃ x25_3, Cell I S ((x24.add (i_2.toNat * 4)).add 3) (.string x25_3) ∧
  ptrP s_0 fun x26 => (0 : Int) ≤ i_2 ∧ i_2 < (s_0n : Int) ∧
  StP S (x26.add (i_2.toNat * 4)) [.string x21_0, .int .u16 x21_1, .int .u32 x21_2, .string x21_3] fun S1 =>
  ptrP s_0 fun x27 => (0 : Int) ≤ j_3 ∧ j_3 < (s_0n : Int) ∧
  StP S1 (x27.add (j_3.toNat * 4)) [.string x25_0, .int .u16 x25_1, .int .u32 x25_2, .string x25_3] fun S1' =>
  slices_Reverse_api_Record_b4 again2 R s_0 s_0n s_0c i_2 j_3 I S1'
def slices_Reverse_api_Record_l2 (again2 : Option Addr → Nat → Nat → Int → Int → IMem → SH → Prop) (R : Value → IMem → SH → Prop) (s_0 : Option Addr) (s_0n : Nat) (s_0c : Nat) (i_2 : Int) (j_3 : Int) (I : IMem) (S : SH) : Prop :=
  bcase (decide (i_2 < j_3))
    (slices_Reverse_api_Record_b3 again2 R s_0 s_0n s_0c i_2 j_3 I S)
    (R (.tuple #[]) I S)
def slices_Reverse_api_Record_b1 (R : Value → IMem → SH → Prop) (s_0 : Option Addr) (s_0n : Nat) (s_0c : Nat) (i_2 : Int) (j_3 : Int) (I : IMem) (S : SH) : Prop :=
  ∃ (Inv : Nat → Option Addr → Nat → Nat → Int → Int → IMem → SH → Prop) (m : Nat), Inv m s_0 s_0n s_0c i_2 j_3 I S ∧
    ∀ (m : Nat) (s_0 : Option Addr) (s_0n : Nat) (s_0c : Nat) (i_2 : Int) (j_3 : Int) (J : IMem) (T : SH), I.le J → Inv m s_0 s_0n s_0c i_2 j_3 J T →
      slices_Reverse_api_Record_l2 (fun s_0 s_0n s_0c i_2 j_3 I S => ∃ m', m' < m ∧ Inv m' s_0 s_0n s_0c i_2 j_3 I S) R s_0 s_0n s_0c i_2 j_3 J T
def slices_Reverse_api_Record (R : Value → IMem → SH → Prop) (s_0 : Option Addr) (s_0n : Nat) (s_0c : Nat) (I : IMem) (S : SH) : Prop :=
  slices_Reverse_api_Record_b1 R s_0 s_0n s_0c 0 (IntKind.wrap .i64 ((s_0n : Int) - (1 : Int))) I S
theorem slices_Reverse_api_Record_fn (R : Value → IMem → SH → Prop) (s_0 : Option Addr) (s_0n : Nat) (s_0c : Nat) (I : IMem) (S : SH) (h : slices_Reverse_api_Record R s_0 s_0n s_0c I S) :
    Runs Tryd.prog 91 #[.slice s_0 s_0n s_0c] I S R := by
  refine Runs.of_wp (args := [.slice s_0 s_0n s_0c]) (c := slices_Reverse_api_Record_code) Tryd.func91 (by kernel_rfl) (by kernel_rfl) ?_
  refine WP.cut 1 (fun l I S => asSl (l 0) fun s_0 s_0n s_0c => asI .i64 (l 2) fun i_2 => asI .i64 (l 3) fun j_3 => slices_Reverse_api_Record_b1 R s_0 s_0n s_0c i_2 j_3 I S) (cast (by kernel_rfl) h) ?_
  clear h
  intro l I S _ h
  obtain ⟨s_0, s_0n, s_0c, e0, h⟩ := asSl_e h
  obtain ⟨i_2, e2, h⟩ := asI_e h
  obtain ⟨j_3, e3, h⟩ := asI_e h
  rw [upd_eta e0, upd_eta e2, upd_eta e3]
  refine WP.block' (by kernel_rfl) ?_
  obtain ⟨Inv_again2, m_again2, h0, hr⟩ := h
  refine WP.loop' (by kernel_rfl) (fun m_again2 => fun l I S => asSl (l 0) fun s_0 s_0n s_0c => asI .i64 (l 2) fun i_2 => asI .i64 (l 3) fun j_3 => Inv_again2 m_again2 s_0 s_0n s_0c i_2 j_3 I S) m_again2 (cast (by kernel_rfl) h0) ?_
  clear h0
  intro m_again2 l I S hle h
  obtain ⟨s_0, s_0n, s_0c, e0, h⟩ := asSl_e h
  obtain ⟨i_2, e2, h⟩ := asI_e h
  obtain ⟨j_3, e3, h⟩ := asI_e h
  rw [upd_eta e0, upd_eta e2, upd_eta e3]
  have h := hr m_again2 s_0 s_0n s_0c i_2 j_3 I S hle h
  clear hr hle
  refine WP.cut 1 (fun l I S => asSl (l 0) fun s_0 s_0n s_0c => asI .i64 (l 2) fun i_2 => asI .i64 (l 3) fun j_3 => slices_Reverse_api_Record_b3 (fun s_0 s_0n s_0c i_2 j_3 I S => ∃ m', m' < m_again2 ∧ Inv_again2 m' s_0 s_0n s_0c i_2 j_3 I S) R s_0 s_0n s_0c i_2 j_3 I S) (cast (by kernel_rfl) h) ?_
  clear h
  intro l I S _ h
  obtain ⟨s_0, s_0n, s_0c, e0, h⟩ := asSl_e h
  obtain ⟨i_2, e2, h⟩ := asI_e h
  obtain ⟨j_3, e3, h⟩ := asI_e h
  rw [upd_eta e0, upd_eta e2, upd_eta e3]
  refine WP.seqY (by kernel_rfl) (fun l I S => asSl (l 0) fun s_0 s_0n s_0c => asI .i64 (l 2) fun i_2 => asI .i64 (l 3) fun j_3 => slices_Reverse_api_Record_b4 (fun s_0 s_0n s_0c i_2 j_3 I S => ∃ m', m' < m_again2 ∧ Inv_again2 m' s_0 s_0n s_0c i_2 j_3 I S) R s_0 s_0n s_0c i_2 j_3 I S) ?_ ?_
  ·
    refine WP.block' (by kernel_rfl) ?_
    exact WP.draw' (.take 0 (.take 1 (.take 2 (.take 3 (.take 4 (.take 5 (.take 6 (.take 7 (.take 8 (.take 9 (.take 10 (.take 11 (.take 12 (.step 13 (.take 14 (.step 15 .done)))))))))))))))) [13, 15] (by kernel_rfl) (by kernel_rfl) (by kernel_rfl) (by kernel_rfl) (by kernel_rfl) (cast (by kernel_rfl) h)
  · clear h
    intro l I S _ h
    obtain ⟨s_0, s_0n, s_0c, e0, h⟩ := asSl_e h
    obtain ⟨i_2, e2, h⟩ := asI_e h
    obtain ⟨j_3, e3, h⟩ := asI_e h
    rw [upd_eta e0, upd_eta e2, upd_eta e3]
    exact Pre.sound _ _ _ _ _ (cast (by kernel_rfl) h)
/-! ### slices_rotateRight_api_Record: function 52, slices.rotateRight[bolter/api.Record] -/
noncomputable def slices_rotateRight_api_Record_code : Code := (Tryd.f52.body).getD .skip
def slices_rotateRight_api_Record (R : Value → IMem → SH → Prop) (s_0 : Option Addr) (s_0n : Nat) (s_0c : Nat) (r_1 : Int) (I : IMem) (S : SH) : Prop :=
  Runs Tryd.prog 72 #[.slice s_0 s_0n s_0c, .int .i64 (IntKind.wrap .i64 ((s_0n : Int) - r_1))] I S fun v I1 S1 => v = .tuple #[] ∧
  R (.tuple #[]) I1 S1
theorem slices_rotateRight_api_Record_fn (R : Value → IMem → SH → Prop) (s_0 : Option Addr) (s_0n : Nat) (s_0c : Nat) (r_1 : Int) (I : IMem) (S : SH) (h : slices_rotateRight_api_Record R s_0 s_0n s_0c r_1 I S) :
    Runs Tryd.prog 52 #[.slice s_0 s_0n s_0c, .int .i64 r_1] I S R := by
  refine Runs.of_wp (args := [.slice s_0 s_0n s_0c, .int .i64 r_1]) (c := slices_rotateRight_api_Record_code) Tryd.func52 (by kernel_rfl) (by kernel_rfl) ?_
  exact Pre.sound _ _ _ _ _ (cast (by kernel_rfl) h)
end Go.Proofs.YtdajglfbbcbgpaaDoor
