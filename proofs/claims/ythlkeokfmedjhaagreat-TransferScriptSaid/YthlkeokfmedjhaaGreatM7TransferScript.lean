import Derived.Test.YthlkeokfmedjhaaGreatProg
import Derived.Test.YthlkeokfmedjhaaGreatM1TransferScript
import Derived.Test.YthlkeokfmedjhaaGreatM2TransferScript
import Derived.Test.YthlkeokfmedjhaaGreatM3TransferScript
import Derived.Test.YthlkeokfmedjhaaGreatM4TransferScript
import Derived.Test.YthlkeokfmedjhaaGreatM5TransferScript
import Derived.Test.YthlkeokfmedjhaaGreatM6TransferScript
set_option linter.unusedVariables false
set_option maxRecDepth 8000
set_option maxHeartbeats 2000000
namespace Go.Proofs.YthlkeokfmedjhaaGreat
open Go.Px
/-! ### bolterlaw11_model_times: function 21, (*bolter/bolterlaw11.model).times -/
noncomputable def bolterlaw11_model_times_code : Code := (Tryz.f21.body).getD .skip
def bolterlaw11_model_times_b4 (R : Value → IMem → SH → Prop) (x2 : Addr) (I : IMem) (S : SH) : Prop :=
  StP S x2 [.string ⟨#[]⟩, .string ⟨#[]⟩, .int .u32 0, .int .u32 5, .int .u32 5, .int .u32 0, .int .u32 0] fun S1 =>
  ∃ r2_0, Cell I S1 x2 (.string r2_0) ∧
  ∃ r2_1, Cell I S1 (x2.add 1) (.string r2_1) ∧
  ∃ r2_2, Cell I S1 (x2.add 2) (.int .u32 r2_2) ∧
  ∃ r2_3, Cell I S1 (x2.add 3) (.int .u32 r2_3) ∧
  ∃ r2_4, Cell I S1 (x2.add 4) (.int .u32 r2_4) ∧
  ∃ r2_5, Cell I S1 (x2.add 5) (.int .u32 r2_5) ∧
  ∃ r2_6, Cell I S1 (x2.add 6) (.int .u32 r2_6) ∧
  R (.agg #[.string r2_0, .string r2_1, .int .u32 r2_2, .int .u32 r2_3, .int .u32 r2_4, .int .u32 r2_5, .int .u32 r2_6]) I S1
def bolterlaw11_model_times_l3 (again3 : Addr → Option Addr → Nat → Nat → Int → Int → IMem → SH → Prop) (R : Value → IMem → SH → Prop) (x2 : Addr) (x10 : Option Addr) (x10n : Nat) (x10c : Nat) (x11 : Int) (x12 : Int) (I : IMem) (S : SH) : Prop :=
  bcase (decide (x12 < x11))
    (ptrP x10 fun x14 => (0 : Int) ≤ x12 ∧ x12 < (x10n : Int) ∧
    ∃ x15_0, Cell I S (x14.add (x12.toNat * 4)) (.string x15_0) ∧
    ∃ x15_1, Cell I S ((x14.add (x12.toNat * 4)).add 1) (.int .u16 x15_1) ∧
    ∃ x15_2, Cell I S ((x14.add (x12.toNat * 4)).add 2) (.int .u32 x15_2) ∧
    ∃ x15_3, Cell I S ((x14.add (x12.toNat * 4)).add 3) (.string x15_3) ∧
    ∀ b4 : Nat,
    StP ((b4, .cells #[.string ⟨#[]⟩, .int .u16 0, .int .u32 0, .string ⟨#[]⟩] 32 (0, 0)) :: S) ⟨b4, 0, none⟩ [.string x15_0, .int .u16 x15_1, .int .u32 x15_2, .string x15_3] fun S1 =>
    ∃ x17_0, Cell I S1 ⟨b4, 0, none⟩ (.string x17_0) ∧
    ∃ x17_1, Cell I S1 ⟨b4, 1, none⟩ (.int .u16 x17_1) ∧
    ∃ x17_2, Cell I S1 ⟨b4, 2, none⟩ (.int .u32 x17_2) ∧
    ∃ x17_3, Cell I S1 ⟨b4, 3, none⟩ (.string x17_3) ∧
    Runs Tryz.prog 39 #[.agg #[.string x17_0, .int .u16 x17_1, .int .u32 x17_2, .string x17_3]] I S1 fun v I1 S1' => ∃ x18_0_0 x18_0_1 x18_0_2 x18_0_3 x18_0_4 x18_0_5 x18_0_6 x18_1, v = .tuple #[.agg #[.string x18_0_0, .string x18_0_1, .int .u32 x18_0_2, .int .u32 x18_0_3, .int .u32 x18_0_4, .int .u32 x18_0_5, .int .u32 x18_0_6], .bool x18_1] ∧
    ∀ b5 : Nat,
    StP ((b5, .cells #[.string ⟨#[]⟩, .string ⟨#[]⟩, .int .u32 0, .int .u32 0, .int .u32 0, .int .u32 0, .int .u32 0] 67 (0, 0)) :: S1') ⟨b5, 0, none⟩ [.string x18_0_0, .string x18_0_1, .int .u32 x18_0_2, .int .u32 x18_0_3, .int .u32 x18_0_4, .int .u32 x18_0_5, .int .u32 x18_0_6] fun S1'' =>
    bcase x18_1
      (∃ x22_0, Cell I1 S1'' ⟨b5, 0, none⟩ (.string x22_0) ∧
      ∃ x22_1, Cell I1 S1'' ⟨b5, 1, none⟩ (.string x22_1) ∧
      ∃ x22_2, Cell I1 S1'' ⟨b5, 2, none⟩ (.int .u32 x22_2) ∧
      ∃ x22_3, Cell I1 S1'' ⟨b5, 3, none⟩ (.int .u32 x22_3) ∧
      ∃ x22_4, Cell I1 S1'' ⟨b5, 4, none⟩ (.int .u32 x22_4) ∧
      ∃ x22_5, Cell I1 S1'' ⟨b5, 5, none⟩ (.int .u32 x22_5) ∧
      ∃ x22_6, Cell I1 S1'' ⟨b5, 6, none⟩ (.int .u32 x22_6) ∧
      StP S1'' x2 [.string x22_0, .string x22_1, .int .u32 x22_2, .int .u32 x22_3, .int .u32 x22_4, .int .u32 x22_5, .int .u32 x22_6] fun S1_r3 =>
      ∃ r2_0, Cell I1 S1_r3 x2 (.string r2_0) ∧
      ∃ r2_1, Cell I1 S1_r3 (x2.add 1) (.string r2_1) ∧
      ∃ r2_2, Cell I1 S1_r3 (x2.add 2) (.int .u32 r2_2) ∧
      ∃ r2_3, Cell I1 S1_r3 (x2.add 3) (.int .u32 r2_3) ∧
      ∃ r2_4, Cell I1 S1_r3 (x2.add 4) (.int .u32 r2_4) ∧
      ∃ r2_5, Cell I1 S1_r3 (x2.add 5) (.int .u32 r2_5) ∧
      ∃ r2_6, Cell I1 S1_r3 (x2.add 6) (.int .u32 r2_6) ∧
      R (.agg #[.string r2_0, .string r2_1, .int .u32 r2_2, .int .u32 r2_3, .int .u32 r2_4, .int .u32 r2_5, .int .u32 r2_6]) I1 S1_r3)
      (again3 x2 x10 x10n x10c x11 (IntKind.wrap .i64 (x12 + (1 : Int))) I1 S1''))
    (bolterlaw11_model_times_b4 R x2 I S)
def bolterlaw11_model_times_b2 (R : Value → IMem → SH → Prop) (x2 : Addr) (x10 : Option Addr) (x10n : Nat) (x10c : Nat) (x11 : Int) (x12 : Int) (I : IMem) (S : SH) : Prop :=
  ∃ (Inv : Nat → Addr → Option Addr → Nat → Nat → Int → Int → IMem → SH → Prop) (m : Nat), Inv m x2 x10 x10n x10c x11 x12 I S ∧
    ∀ (m : Nat) (x2 : Addr) (x10 : Option Addr) (x10n : Nat) (x10c : Nat) (x11 : Int) (x12 : Int) (J : IMem) (T : SH), I.le J → Inv m x2 x10 x10n x10c x11 x12 J T →
      bolterlaw11_model_times_l3 (fun x2 x10 x10n x10c x11 x12 I S => ∃ m', m' < m ∧ Inv m' x2 x10 x10n x10c x11 x12 I S) R x2 x10 x10n x10c x11 x12 J T
def bolterlaw11_model_times_b1 (R : Value → IMem → SH → Prop) (m_0 : Option Addr) (x2 : Addr) (I : IMem) (S : SH) : Prop :=
  ptrP m_0 fun x8 =>
  ∃ x10 x10n x10c, Cell I S (x8.add 1) (.slice x10 x10n x10c) ∧
  bolterlaw11_model_times_b2 R x2 x10 x10n x10c (x10n : Int) 0 I S
def bolterlaw11_model_times (R : Value → IMem → SH → Prop) (m_0 : Option Addr) (I : IMem) (S : SH) : Prop :=
  ∀ b2 : Nat,
  bolterlaw11_model_times_b1 R m_0 ⟨b2, 0, none⟩ I ((b2, .cells #[.string ⟨#[]⟩, .string ⟨#[]⟩, .int .u32 0, .int .u32 0, .int .u32 0, .int .u32 0, .int .u32 0] 67 (0, 0)) :: S)
theorem bolterlaw11_model_times_fn (R : Value → IMem → SH → Prop) (m_0 : Option Addr) (I : IMem) (S : SH) (h : bolterlaw11_model_times R m_0 I S) :
    Runs Tryz.prog 21 #[.pointer m_0] I S R := by
  refine Runs.of_wp (args := [.pointer m_0]) (c := bolterlaw11_model_times_code) Tryz.func21 (by kernel_rfl) (by kernel_rfl) ?_
  refine WP.cut 1 (fun l I S => asPtr (l 0) fun m_0 => asAdr (l 2) fun x2 => bolterlaw11_model_times_b1 R m_0 x2 I S) (cast (by kernel_rfl) h) ?_
  clear h
  intro l I S _ h
  obtain ⟨m_0, e0, h⟩ := asPtr_e h
  obtain ⟨x2, e2, h⟩ := asAdr_e h
  rw [upd_eta e0, upd_eta e2]
  refine WP.seqY (by kernel_rfl) (fun l I S => asAdr (l 2) fun x2 => bolterlaw11_model_times_b4 R x2 I S) ?_ ?_
  ·
    refine WP.cut 1 (fun l I S => asAdr (l 2) fun x2 => asSl (l 10) fun x10 x10n x10c => asI .i64 (l 11) fun x11 => asI .i64 (l 12) fun x12 => bolterlaw11_model_times_b2 R x2 x10 x10n x10c x11 x12 I S) (cast (by kernel_rfl) h) ?_
    clear h
    intro l I S _ h
    obtain ⟨x2, e2, h⟩ := asAdr_e h
    obtain ⟨x10, x10n, x10c, e10, h⟩ := asSl_e h
    obtain ⟨x11, e11, h⟩ := asI_e h
    obtain ⟨x12, e12, h⟩ := asI_e h
    rw [upd_eta e2, upd_eta e10, upd_eta e11, upd_eta e12]
    refine WP.block' (by kernel_rfl) ?_
    obtain ⟨Inv_again3, m_again3, h0, hr⟩ := h
    refine WP.loop' (by kernel_rfl) (fun m_again3 => fun l I S => asAdr (l 2) fun x2 => asSl (l 10) fun x10 x10n x10c => asI .i64 (l 11) fun x11 => asI .i64 (l 12) fun x12 => Inv_again3 m_again3 x2 x10 x10n x10c x11 x12 I S) m_again3 (cast (by kernel_rfl) h0) ?_
    clear h0
    intro m_again3 l I S hle h
    obtain ⟨x2, e2, h⟩ := asAdr_e h
    obtain ⟨x10, x10n, x10c, e10, h⟩ := asSl_e h
    obtain ⟨x11, e11, h⟩ := asI_e h
    obtain ⟨x12, e12, h⟩ := asI_e h
    rw [upd_eta e2, upd_eta e10, upd_eta e11, upd_eta e12]
    have h := hr m_again3 x2 x10 x10n x10c x11 x12 I S hle h
    clear hr hle
    exact Pre.sound _ _ _ _ _ (cast (by kernel_rfl) h)
  · clear h
    intro l I S _ h
    obtain ⟨x2, e2, h⟩ := asAdr_e h
    rw [upd_eta e2]
    exact Pre.sound _ _ _ _ _ (cast (by kernel_rfl) h)
/-! ### bolterlaw11_model_ask: function 38, (*bolter/bolterlaw11.model).ask -/
noncomputable def bolterlaw11_model_ask_code : Code := (Tryz.f38.body).getD .skip
def bolterlaw11_model_ask_b3 (R : Value → IMem → SH → Prop) (m_0 : Option Addr) (now_1 : Int) (x8 : Addr) (I : IMem) (S : SH) : Prop :=
  ptrP m_0 fun x44 =>
  StP S (x44.add 12) [.bool true] fun S1 =>
  ptrP m_0 fun x46 =>
  StP S1 (x46.add 13) [.int .i64 (IntKind.wrap .i64 (now_1 + (4 : Int)))] fun S1' =>
  ptrP m_0 fun x48 =>
  StP S1' (x48.add 14) [.slice none 0 0] fun S1'' =>
  ptrP m_0 fun x51 =>
  ∃ x53_0, Cell I S1'' (x51.add 5) (.int .u16 x53_0) ∧
  ∃ x53_1, Cell I S1'' ((x51.add 5).add 1) (.int .u16 x53_1) ∧
  ∃ x53_2, Cell I S1'' ((x51.add 5).add 2) (.bool x53_2) ∧
  ∃ x53_3, Cell I S1'' ((x51.add 5).add 3) (.string x53_3) ∧
  ∃ x53_4, Cell I S1'' ((x51.add 5).add 4) (.int .u16 x53_4) ∧
  ∃ x53_5, Cell I S1'' ((x51.add 5).add 5) (.int .u32 x53_5) ∧
  ∃ x53_6, Cell I S1'' ((x51.add 5).add 6) (.string x53_6) ∧
  StP S1'' x8 [.int .u16 x53_0, .int .u16 x53_1, .bool x53_2, .string x53_3, .int .u16 x53_4, .int .u32 x53_5, .string x53_6] fun S1_r3 =>
  ∃ r8_0, Cell I S1_r3 x8 (.int .u16 r8_0) ∧
  ∃ r8_1, Cell I S1_r3 (x8.add 1) (.int .u16 r8_1) ∧
  ∃ r8_2, Cell I S1_r3 (x8.add 2) (.bool r8_2) ∧
  ∃ r8_3, Cell I S1_r3 (x8.add 3) (.string r8_3) ∧
  ∃ r8_4, Cell I S1_r3 (x8.add 4) (.int .u16 r8_4) ∧
  ∃ r8_5, Cell I S1_r3 (x8.add 5) (.int .u32 r8_5) ∧
  ∃ r8_6, Cell I S1_r3 (x8.add 6) (.string r8_6) ∧
  R (.agg #[.int .u16 r8_0, .int .u16 r8_1, .bool r8_2, .string r8_3, .int .u16 r8_4, .int .u32 r8_5, .string r8_6]) I S1_r3
def bolterlaw11_model_ask_b2 (R : Value → IMem → SH → Prop) (m_0 : Option Addr) (now_1 : Int) (x8 : Addr) (s_9 : Addr) (x29 : Bool) (I : IMem) (S : SH) : Prop :=
  bcase x29
    (∃ F1 : SH, Keep I F1 I S ∧
    ∃ x32_0, Cell I F1 s_9 (.string x32_0) ∧
    ∃ x32_1, Cell I F1 (s_9.add 1) (.int .u16 x32_1) ∧
    ∃ x32_2, Cell I F1 (s_9.add 2) (.int .u32 x32_2) ∧
    ∃ x32_3, Cell I F1 (s_9.add 3) (.string x32_3) ∧
    ptrP m_0 fun x33 =>
    StP S ((x33.add 5).add 2) [.bool true] fun S1 =>
    Keep I F1 I S1 ∧
    ptrP m_0 fun x36 =>
    StP S1 ((x36.add 5).add 3) [.string x32_0, .int .u16 x32_1, .int .u32 x32_2, .string x32_3] fun S1' =>
    bolterlaw11_model_ask_b3 R m_0 now_1 x8 I S1')
    (bolterlaw11_model_ask_b3 R m_0 now_1 x8 I S)
def bolterlaw11_model_ask_b1 (R : Value → IMem → SH → Prop) (m_0 : Option Addr) (now_1 : Int) (kind_3 : Int) (x8 : Addr) (I : IMem) (S : SH) : Prop :=
  ptrP m_0 fun x19 =>
  ∃ x21 x21n x21c, Cell I S (x19.add 1) (.slice x21 x21n x21c) ∧
  Runs Tryz.prog 40 #[.slice x21 x21n x21c] I S fun v I1 S1 => ∃ x22_0_0 x22_0_1 x22_0_2 x22_0_3 x22_1, v = .tuple #[.agg #[.string x22_0_0, .int .u16 x22_0_1, .int .u32 x22_0_2, .string x22_0_3], .bool x22_1] ∧
  ∀ b9 : Nat,
  StP ((b9, .cells #[.string ⟨#[]⟩, .int .u16 0, .int .u32 0, .string ⟨#[]⟩] 32 (0, 0)) :: S1) ⟨b9, 0, none⟩ [.string x22_0_0, .int .u16 x22_0_1, .int .u32 x22_0_2, .string x22_0_3] fun S1' =>
  bcase x22_1
    (bolterlaw11_model_ask_b2 R m_0 now_1 x8 ⟨b9, 0, none⟩ (kind_3 == (251 : Int)) I1 S1')
    (bolterlaw11_model_ask_b2 R m_0 now_1 x8 ⟨b9, 0, none⟩ false I1 S1')
def bolterlaw11_model_ask (R : Value → IMem → SH → Prop) (m_0 : Option Addr) (now_1 : Int) (id_2 : Int) (kind_3 : Int) (I : IMem) (S : SH) : Prop :=
  ∀ b8 : Nat,
  ptrP m_0 fun x15 =>
  StP ((b8, .cells #[.int .u16 0, .int .u16 0, .bool false, .string ⟨#[]⟩, .int .u16 0, .int .u32 0, .string ⟨#[]⟩] 34 (0, 0)) :: S) (x15.add 5) [.int .u16 id_2, .int .u16 kind_3, .bool false, .string ⟨#[]⟩, .int .u16 0, .int .u32 0, .string ⟨#[]⟩] fun S1 =>
  bolterlaw11_model_ask_b1 R m_0 now_1 kind_3 ⟨b8, 0, none⟩ I S1
theorem bolterlaw11_model_ask_fn (R : Value → IMem → SH → Prop) (m_0 : Option Addr) (now_1 : Int) (id_2 : Int) (kind_3 : Int) (I : IMem) (S : SH) (h : bolterlaw11_model_ask R m_0 now_1 id_2 kind_3 I S) :
    Runs Tryz.prog 38 #[.pointer m_0, .int .i64 now_1, .int .u16 id_2, .int .u16 kind_3] I S R := by
  refine Runs.of_wp (args := [.pointer m_0, .int .i64 now_1, .int .u16 id_2, .int .u16 kind_3]) (c := bolterlaw11_model_ask_code) Tryz.func38 (by kernel_rfl) (by kernel_rfl) ?_
  refine WP.cut 2 (fun l I S => asPtr (l 0) fun m_0 => asI .i64 (l 1) fun now_1 => asI .u16 (l 3) fun kind_3 => asAdr (l 8) fun x8 => bolterlaw11_model_ask_b1 R m_0 now_1 kind_3 x8 I S) (cast (by kernel_rfl) h) ?_
  clear h
  intro l I S _ h
  obtain ⟨m_0, e0, h⟩ := asPtr_e h
  obtain ⟨now_1, e1, h⟩ := asI_e h
  obtain ⟨kind_3, e3, h⟩ := asI_e h
  obtain ⟨x8, e8, h⟩ := asAdr_e h
  rw [upd_eta e0, upd_eta e1, upd_eta e3, upd_eta e8]
  refine WP.seqY (by kernel_rfl) (fun l I S => asPtr (l 0) fun m_0 => asI .i64 (l 1) fun now_1 => asAdr (l 8) fun x8 => bolterlaw11_model_ask_b3 R m_0 now_1 x8 I S) ?_ ?_
  ·
    refine WP.cut 2 (fun l I S => asPtr (l 0) fun m_0 => asI .i64 (l 1) fun now_1 => asAdr (l 8) fun x8 => asAdr (l 9) fun s_9 => asB (l 29) fun x29 => bolterlaw11_model_ask_b2 R m_0 now_1 x8 s_9 x29 I S) (cast (by kernel_rfl) h) ?_
    clear h
    intro l I S _ h
    obtain ⟨m_0, e0, h⟩ := asPtr_e h
    obtain ⟨now_1, e1, h⟩ := asI_e h
    obtain ⟨x8, e8, h⟩ := asAdr_e h
    obtain ⟨s_9, e9, h⟩ := asAdr_e h
    obtain ⟨x29, e29, h⟩ := asB_e h
    rw [upd_eta e0, upd_eta e1, upd_eta e8, upd_eta e9, upd_eta e29]
    refine WP.cond' (by kernel_rfl) (by kernel_rfl) h ?_ ?_
    · clear h
      intro h
      exact WP.drawF (.take 0 (.take 1 (.take 2 (.take 3 (.take 4 (.take 5 (.step 6 (.take 7 (.take 8 (.take 9 (.step 10 .done))))))))))) [6, 10] (by kernel_rfl) (by kernel_rfl) (by kernel_rfl) (by kernel_rfl) (by kernel_rfl) (cast (by kernel_rfl) h)
    · clear h
      intro h
      exact Pre.sound _ _ _ _ _ (cast (by kernel_rfl) h)
  · clear h
    intro l I S _ h
    obtain ⟨m_0, e0, h⟩ := asPtr_e h
    obtain ⟨now_1, e1, h⟩ := asI_e h
    obtain ⟨x8, e8, h⟩ := asAdr_e h
    rw [upd_eta e0, upd_eta e1, upd_eta e8]
    exact Pre.sound _ _ _ _ _ (cast (by kernel_rfl) h)
/-! ### bolterlaw11_model_close: function 37, (*bolter/bolterlaw11.model).close -/
noncomputable def bolterlaw11_model_close_code : Code := (Tryz.f37.body).getD .skip
def bolterlaw11_model_close (R : Value → IMem → SH → Prop) (m_0 : Option Addr) (now_1 : Int) (later_2 : Int) (I : IMem) (S : SH) : Prop :=
  ptrP m_0 fun x14 =>
  StP S (x14.add 12) [.bool false] fun S1 =>
  ptrP m_0 fun x16 =>
  StP S1 (x16.add 14) [.slice none 0 0] fun S1' =>
  ptrP m_0 fun x18 =>
  StP S1' (x18.add 3) [.int .i64 (IntKind.wrap .i64 (now_1 + (if (IntKind.wrap .i64 later_2) > (1 : Int) then (IntKind.wrap .i64 later_2) else (1 : Int))))] fun S1'' =>
  R (.tuple #[]) I S1''
theorem bolterlaw11_model_close_fn (R : Value → IMem → SH → Prop) (m_0 : Option Addr) (now_1 : Int) (later_2 : Int) (I : IMem) (S : SH) (h : bolterlaw11_model_close R m_0 now_1 later_2 I S) :
    Runs Tryz.prog 37 #[.pointer m_0, .int .i64 now_1, .int .u32 later_2] I S R := by
  refine Runs.of_wp (args := [.pointer m_0, .int .i64 now_1, .int .u32 later_2]) (c := bolterlaw11_model_close_code) Tryz.func37 (by kernel_rfl) (by kernel_rfl) ?_
  exact Pre.sound _ _ _ _ _ (cast (by kernel_rfl) h)
/-! ### bolterlaw11_model_tick: function 19, (*bolter/bolterlaw11.model).tick -/
noncomputable def bolterlaw11_model_tick_code : Code := (Tryz.f19.body).getD .skip
def bolterlaw11_model_tick_b5 (R : Value → IMem → SH → Prop) (m_0 : Option Addr) (now_1 : Int) (id_2 : Int) (x6 : Addr) (I : IMem) (S : SH) : Prop :=
  Runs Tryz.prog 38 #[.pointer m_0, .int .i64 now_1, .int .u16 id_2, .int .u16 252] I S fun v I1 S1 => ∃ x52_0 x52_1 x52_2 x52_3 x52_4 x52_5 x52_6, v = .agg #[.int .u16 x52_0, .int .u16 x52_1, .bool x52_2, .string x52_3, .int .u16 x52_4, .int .u32 x52_5, .string x52_6] ∧
  StP S1 x6 [.int .u16 x52_0, .int .u16 x52_1, .bool x52_2, .string x52_3, .int .u16 x52_4, .int .u32 x52_5, .string x52_6] fun S1' =>
  ∃ r6_0, Cell I1 S1' x6 (.int .u16 r6_0) ∧
  ∃ r6_1, Cell I1 S1' (x6.add 1) (.int .u16 r6_1) ∧
  ∃ r6_2, Cell I1 S1' (x6.add 2) (.bool r6_2) ∧
  ∃ r6_3, Cell I1 S1' (x6.add 3) (.string r6_3) ∧
  ∃ r6_4, Cell I1 S1' (x6.add 4) (.int .u16 r6_4) ∧
  ∃ r6_5, Cell I1 S1' (x6.add 5) (.int .u32 r6_5) ∧
  ∃ r6_6, Cell I1 S1' (x6.add 6) (.string r6_6) ∧
  R (.tuple #[.agg #[.int .u16 r6_0, .int .u16 r6_1, .bool r6_2, .string r6_3, .int .u16 r6_4, .int .u32 r6_5, .string r6_6], .bool true]) I1 S1'
def bolterlaw11_model_tick_b4 (R : Value → IMem → SH → Prop) (m_0 : Option Addr) (now_1 : Int) (id_2 : Int) (x6 : Addr) (x26 : Bool) (I : IMem) (S : SH) : Prop :=
  bcase x26
    (StP S x6 [.int .u16 0, .int .u16 0, .bool false, .string ⟨#[]⟩, .int .u16 0, .int .u32 0, .string ⟨#[]⟩] fun S1 =>
    ∃ r6_0, Cell I S1 x6 (.int .u16 r6_0) ∧
    ∃ r6_1, Cell I S1 (x6.add 1) (.int .u16 r6_1) ∧
    ∃ r6_2, Cell I S1 (x6.add 2) (.bool r6_2) ∧
    ∃ r6_3, Cell I S1 (x6.add 3) (.string r6_3) ∧
    ∃ r6_4, Cell I S1 (x6.add 4) (.int .u16 r6_4) ∧
    ∃ r6_5, Cell I S1 (x6.add 5) (.int .u32 r6_5) ∧
    ∃ r6_6, Cell I S1 (x6.add 6) (.string r6_6) ∧
    R (.tuple #[.agg #[.int .u16 r6_0, .int .u16 r6_1, .bool r6_2, .string r6_3, .int .u16 r6_4, .int .u32 r6_5, .string r6_6], .bool false]) I S1)
    (ptrP m_0 fun x42 =>
    ∃ x44, Cell I S (x42.add 2) (.bool x44) ∧
    bcase x44
      (Runs Tryz.prog 38 #[.pointer m_0, .int .i64 now_1, .int .u16 id_2, .int .u16 6] I S fun v I1 S1' => ∃ x48_0 x48_1 x48_2 x48_3 x48_4 x48_5 x48_6, v = .agg #[.int .u16 x48_0, .int .u16 x48_1, .bool x48_2, .string x48_3, .int .u16 x48_4, .int .u32 x48_5, .string x48_6] ∧
      StP S1' x6 [.int .u16 x48_0, .int .u16 x48_1, .bool x48_2, .string x48_3, .int .u16 x48_4, .int .u32 x48_5, .string x48_6] fun S1'' =>
      ∃ r6_0', Cell I1 S1'' x6 (.int .u16 r6_0') ∧
      ∃ r6_1', Cell I1 S1'' (x6.add 1) (.int .u16 r6_1') ∧
      ∃ r6_2', Cell I1 S1'' (x6.add 2) (.bool r6_2') ∧
      ∃ r6_3', Cell I1 S1'' (x6.add 3) (.string r6_3') ∧
      ∃ r6_4', Cell I1 S1'' (x6.add 4) (.int .u16 r6_4') ∧
      ∃ r6_5', Cell I1 S1'' (x6.add 5) (.int .u32 r6_5') ∧
      ∃ r6_6', Cell I1 S1'' (x6.add 6) (.string r6_6') ∧
      R (.tuple #[.agg #[.int .u16 r6_0', .int .u16 r6_1', .bool r6_2', .string r6_3', .int .u16 r6_4', .int .u32 r6_5', .string r6_6'], .bool true]) I1 S1'')
      (bolterlaw11_model_tick_b5 R m_0 now_1 id_2 x6 I S))
def bolterlaw11_model_tick_b3 (R : Value → IMem → SH → Prop) (m_0 : Option Addr) (now_1 : Int) (id_2 : Int) (x6 : Addr) (I : IMem) (S : SH) : Prop :=
  ptrP m_0 fun x28 =>
  ∃ x30, Cell I S (x28.add 12) (.bool x30) ∧
  bcase x30
    (bolterlaw11_model_tick_b4 R m_0 now_1 id_2 x6 true I S)
    (ptrP m_0 fun x34 =>
    ∃ x36, Cell I S (x34.add 3) (.int .i64 x36) ∧
    bolterlaw11_model_tick_b4 R m_0 now_1 id_2 x6 (decide (now_1 < x36)) I S)
def bolterlaw11_model_tick_b2 (R : Value → IMem → SH → Prop) (m_0 : Option Addr) (now_1 : Int) (id_2 : Int) (x6 : Addr) (x19 : Bool) (I : IMem) (S : SH) : Prop :=
  bcase x19
    (Runs Tryz.prog 21 #[.pointer m_0] I S fun v I1 S1 => ∃ x23_0 x23_1 x23_2 x23_3 x23_4 x23_5 x23_6, v = .agg #[.string x23_0, .string x23_1, .int .u32 x23_2, .int .u32 x23_3, .int .u32 x23_4, .int .u32 x23_5, .int .u32 x23_6] ∧
    Runs Tryz.prog 37 #[.pointer m_0, .int .i64 now_1, .int .u32 x23_4] I1 S1 fun v' I1' S1' => v' = .tuple #[] ∧
    bolterlaw11_model_tick_b3 R m_0 now_1 id_2 x6 I1' S1')
    (bolterlaw11_model_tick_b3 R m_0 now_1 id_2 x6 I S)
def bolterlaw11_model_tick_b1 (R : Value → IMem → SH → Prop) (m_0 : Option Addr) (now_1 : Int) (id_2 : Int) (x6 : Addr) (I : IMem) (S : SH) : Prop :=
  ptrP m_0 fun x9 =>
  ∃ x11, Cell I S (x9.add 12) (.bool x11) ∧
  bcase x11
    (ptrP m_0 fun x15 =>
    ∃ x17, Cell I S (x15.add 13) (.int .i64 x17) ∧
    bolterlaw11_model_tick_b2 R m_0 now_1 id_2 x6 (decide (now_1 ≥ x17)) I S)
    (bolterlaw11_model_tick_b2 R m_0 now_1 id_2 x6 false I S)
def bolterlaw11_model_tick (R : Value → IMem → SH → Prop) (m_0 : Option Addr) (now_1 : Int) (id_2 : Int) (I : IMem) (S : SH) : Prop :=
  ∀ b6 : Nat,
  bolterlaw11_model_tick_b1 R m_0 now_1 id_2 ⟨b6, 0, none⟩ I ((b6, .cells #[.int .u16 0, .int .u16 0, .bool false, .string ⟨#[]⟩, .int .u16 0, .int .u32 0, .string ⟨#[]⟩] 34 (0, 0)) :: S)
theorem bolterlaw11_model_tick_fn (R : Value → IMem → SH → Prop) (m_0 : Option Addr) (now_1 : Int) (id_2 : Int) (I : IMem) (S : SH) (h : bolterlaw11_model_tick R m_0 now_1 id_2 I S) :
    Runs Tryz.prog 19 #[.pointer m_0, .int .i64 now_1, .int .u16 id_2] I S R := by
  refine Runs.of_wp (args := [.pointer m_0, .int .i64 now_1, .int .u16 id_2]) (c := bolterlaw11_model_tick_code) Tryz.func19 (by kernel_rfl) (by kernel_rfl) ?_
  refine WP.cut 1 (fun l I S => asPtr (l 0) fun m_0 => asI .i64 (l 1) fun now_1 => asI .u16 (l 2) fun id_2 => asAdr (l 6) fun x6 => bolterlaw11_model_tick_b1 R m_0 now_1 id_2 x6 I S) (cast (by kernel_rfl) h) ?_
  clear h
  intro l I S _ h
  obtain ⟨m_0, e0, h⟩ := asPtr_e h
  obtain ⟨now_1, e1, h⟩ := asI_e h
  obtain ⟨id_2, e2, h⟩ := asI_e h
  obtain ⟨x6, e6, h⟩ := asAdr_e h
  rw [upd_eta e0, upd_eta e1, upd_eta e2, upd_eta e6]
  refine WP.seqY (by kernel_rfl) (fun l I S => asPtr (l 0) fun m_0 => asI .i64 (l 1) fun now_1 => asI .u16 (l 2) fun id_2 => asAdr (l 6) fun x6 => bolterlaw11_model_tick_b3 R m_0 now_1 id_2 x6 I S) ?_ ?_
  ·
    refine WP.cut 1 (fun l I S => asPtr (l 0) fun m_0 => asI .i64 (l 1) fun now_1 => asI .u16 (l 2) fun id_2 => asAdr (l 6) fun x6 => asB (l 19) fun x19 => bolterlaw11_model_tick_b2 R m_0 now_1 id_2 x6 x19 I S) (cast (by kernel_rfl) h) ?_
    clear h
    intro l I S _ h
    obtain ⟨m_0, e0, h⟩ := asPtr_e h
    obtain ⟨now_1, e1, h⟩ := asI_e h
    obtain ⟨id_2, e2, h⟩ := asI_e h
    obtain ⟨x6, e6, h⟩ := asAdr_e h
    obtain ⟨x19, e19, h⟩ := asB_e h
    rw [upd_eta e0, upd_eta e1, upd_eta e2, upd_eta e6, upd_eta e19]
    exact Pre.sound _ _ _ _ _ (cast (by kernel_rfl) h)
  · clear h
    intro l I S _ h
    obtain ⟨m_0, e0, h⟩ := asPtr_e h
    obtain ⟨now_1, e1, h⟩ := asI_e h
    obtain ⟨id_2, e2, h⟩ := asI_e h
    obtain ⟨x6, e6, h⟩ := asAdr_e h
    rw [upd_eta e0, upd_eta e1, upd_eta e2, upd_eta e6]
    refine WP.seqY (by kernel_rfl) (fun l I S => asPtr (l 0) fun m_0 => asI .i64 (l 1) fun now_1 => asI .u16 (l 2) fun id_2 => asAdr (l 6) fun x6 => bolterlaw11_model_tick_b5 R m_0 now_1 id_2 x6 I S) ?_ ?_
    ·
      refine WP.block' (by kernel_rfl) ?_
      refine WP.cut 1 (fun l I S => asPtr (l 0) fun m_0 => asI .i64 (l 1) fun now_1 => asI .u16 (l 2) fun id_2 => asAdr (l 6) fun x6 => asB (l 26) fun x26 => bolterlaw11_model_tick_b4 R m_0 now_1 id_2 x6 x26 I S) (cast (by kernel_rfl) h) ?_
      clear h
      intro l I S _ h
      obtain ⟨m_0, e0, h⟩ := asPtr_e h
      obtain ⟨now_1, e1, h⟩ := asI_e h
      obtain ⟨id_2, e2, h⟩ := asI_e h
      obtain ⟨x6, e6, h⟩ := asAdr_e h
      obtain ⟨x26, e26, h⟩ := asB_e h
      rw [upd_eta e0, upd_eta e1, upd_eta e2, upd_eta e6, upd_eta e26]
      exact Pre.sound _ _ _ _ _ (cast (by kernel_rfl) h)
    · clear h
      intro l I S _ h
      obtain ⟨m_0, e0, h⟩ := asPtr_e h
      obtain ⟨now_1, e1, h⟩ := asI_e h
      obtain ⟨id_2, e2, h⟩ := asI_e h
      obtain ⟨x6, e6, h⟩ := asAdr_e h
      rw [upd_eta e0, upd_eta e1, upd_eta e2, upd_eta e6]
      exact Pre.sound _ _ _ _ _ (cast (by kernel_rfl) h)
/-! ### bolterlaw11_model_failed: function 41, (*bolter/bolterlaw11.model).failed -/
noncomputable def bolterlaw11_model_failed_code : Code := (Tryz.f41.body).getD .skip
def bolterlaw11_model_failed (R : Value → IMem → SH → Prop) (m_0 : Option Addr) (now_1 : Int) (id_2 : Int) (I : IMem) (S : SH) : Prop :=
  ∀ b7 : Nat,
  ptrP m_0 fun x10 =>
  ∃ x13, Cell I ((b7, .cells #[.int .u16 0, .int .u16 0, .bool false, .string ⟨#[]⟩, .int .u16 0, .int .u32 0, .string ⟨#[]⟩] 34 (0, 0)) :: S) ((x10.add 5).add 1) (.int .u16 x13) ∧
  bcase (x13 == (251 : Int))
    (Runs Tryz.prog 38 #[.pointer m_0, .int .i64 now_1, .int .u16 id_2, .int .u16 252] I ((b7, .cells #[.int .u16 0, .int .u16 0, .bool false, .string ⟨#[]⟩, .int .u16 0, .int .u32 0, .string ⟨#[]⟩] 34 (0, 0)) :: S) fun v I1 S1 => ∃ x18_0 x18_1 x18_2 x18_3 x18_4 x18_5 x18_6, v = .agg #[.int .u16 x18_0, .int .u16 x18_1, .bool x18_2, .string x18_3, .int .u16 x18_4, .int .u32 x18_5, .string x18_6] ∧
    StP S1 ⟨b7, 0, none⟩ [.int .u16 x18_0, .int .u16 x18_1, .bool x18_2, .string x18_3, .int .u16 x18_4, .int .u32 x18_5, .string x18_6] fun S1' =>
    ∃ r7_0, Cell I1 S1' ⟨b7, 0, none⟩ (.int .u16 r7_0) ∧
    ∃ r7_1, Cell I1 S1' ⟨b7, 1, none⟩ (.int .u16 r7_1) ∧
    ∃ r7_2, Cell I1 S1' ⟨b7, 2, none⟩ (.bool r7_2) ∧
    ∃ r7_3, Cell I1 S1' ⟨b7, 3, none⟩ (.string r7_3) ∧
    ∃ r7_4, Cell I1 S1' ⟨b7, 4, none⟩ (.int .u16 r7_4) ∧
    ∃ r7_5, Cell I1 S1' ⟨b7, 5, none⟩ (.int .u32 r7_5) ∧
    ∃ r7_6, Cell I1 S1' ⟨b7, 6, none⟩ (.string r7_6) ∧
    R (.tuple #[.bool false, .agg #[.int .u16 r7_0, .int .u16 r7_1, .bool r7_2, .string r7_3, .int .u16 r7_4, .int .u32 r7_5, .string r7_6], .bool true]) I1 S1')
    (Runs Tryz.prog 21 #[.pointer m_0] I ((b7, .cells #[.int .u16 0, .int .u16 0, .bool false, .string ⟨#[]⟩, .int .u16 0, .int .u32 0, .string ⟨#[]⟩] 34 (0, 0)) :: S) fun v' I1' S1'' => ∃ x22_0 x22_1 x22_2 x22_3 x22_4 x22_5 x22_6, v' = .agg #[.string x22_0, .string x22_1, .int .u32 x22_2, .int .u32 x22_3, .int .u32 x22_4, .int .u32 x22_5, .int .u32 x22_6] ∧
    Runs Tryz.prog 37 #[.pointer m_0, .int .i64 now_1, .int .u32 x22_4] I1' S1'' fun v'' I1'' S1_r3 => v'' = .tuple #[] ∧
    StP S1_r3 ⟨b7, 0, none⟩ [.int .u16 0, .int .u16 0, .bool false, .string ⟨#[]⟩, .int .u16 0, .int .u32 0, .string ⟨#[]⟩] fun S1_r4 =>
    ∃ r7_0', Cell I1'' S1_r4 ⟨b7, 0, none⟩ (.int .u16 r7_0') ∧
    ∃ r7_1', Cell I1'' S1_r4 ⟨b7, 1, none⟩ (.int .u16 r7_1') ∧
    ∃ r7_2', Cell I1'' S1_r4 ⟨b7, 2, none⟩ (.bool r7_2') ∧
    ∃ r7_3', Cell I1'' S1_r4 ⟨b7, 3, none⟩ (.string r7_3') ∧
    ∃ r7_4', Cell I1'' S1_r4 ⟨b7, 4, none⟩ (.int .u16 r7_4') ∧
    ∃ r7_5', Cell I1'' S1_r4 ⟨b7, 5, none⟩ (.int .u32 r7_5') ∧
    ∃ r7_6', Cell I1'' S1_r4 ⟨b7, 6, none⟩ (.string r7_6') ∧
    R (.tuple #[.bool false, .agg #[.int .u16 r7_0', .int .u16 r7_1', .bool r7_2', .string r7_3', .int .u16 r7_4', .int .u32 r7_5', .string r7_6'], .bool false]) I1'' S1_r4)
theorem bolterlaw11_model_failed_fn (R : Value → IMem → SH → Prop) (m_0 : Option Addr) (now_1 : Int) (id_2 : Int) (I : IMem) (S : SH) (h : bolterlaw11_model_failed R m_0 now_1 id_2 I S) :
    Runs Tryz.prog 41 #[.pointer m_0, .int .i64 now_1, .int .u16 id_2] I S R := by
  refine Runs.of_wp (args := [.pointer m_0, .int .i64 now_1, .int .u16 id_2]) (c := bolterlaw11_model_failed_code) Tryz.func41 (by kernel_rfl) (by kernel_rfl) ?_
  exact Pre.sound _ _ _ _ _ (cast (by kernel_rfl) h)
/-! ### bolterlaw11_model_made: function 42, (*bolter/bolterlaw11.model).made -/
noncomputable def bolterlaw11_model_made_code : Code := (Tryz.f42.body).getD .skip
def bolterlaw11_model_made_b7 (R : Value → IMem → SH → Prop) (x2 : Option Addr) (x2n : Nat) (x2c : Nat) (x3 : Value) (I : IMem) (S : SH) : Prop :=
  R (.tuple #[.slice x2 x2n x2c, x3]) I S
def bolterlaw11_model_made_b9 (R : Value → IMem → SH → Prop) (x2 : Option Addr) (x2n : Nat) (x2c : Nat) (x3 : Value) (I : IMem) (S : SH) : Prop :=
  R (.tuple #[.slice x2 x2n x2c, x3]) I S
def bolterlaw11_model_made_b8 (R : Value → IMem → SH → Prop) (m_0 : Option Addr) (r_4 : Addr) (I : IMem) (S : SH) : Prop :=
  ptrP m_0 fun x58 =>
  ∃ x60, Cell I S x58 (.string x60) ∧
  ∃ x62 x62n x62c, Cell I S (r_4.add 1) (.slice x62 x62n x62c) ∧
  Runs Tryz.prog 47 #[.string x60, .slice x62 x62n x62c] I S fun v I1 S1 => ∃ x63_0 x63_0n x63_0c x63_1, v = .tuple #[.slice x63_0 x63_0n x63_0c, x63_1] ∧
  bolterlaw11_model_made_b9 R x63_0 x63_0n x63_0c x63_1 I1 S1
def bolterlaw11_model_made_b6 (R : Value → IMem → SH → Prop) (m_0 : Option Addr) (r_4 : Addr) (x43 : Bool) (I : IMem) (S : SH) : Prop :=
  bcase x43
    (ptrP m_0 fun x45 =>
    ∃ x47, Cell I S x45 (.string x47) ∧
    ptrP m_0 fun x49 =>
    ∃ x51 x51n x51c, Cell I S (x49.add 1) (.slice x51 x51n x51c) ∧
    ∃ x53 x53n x53c, Cell I S (r_4.add 2) (.slice x53 x53n x53c) ∧
    Runs Tryz.prog 49 #[.string x47, .slice x51 x51n x51c, .slice x53 x53n x53c] I S fun v I1 S1 => ∃ x54_0 x54_0n x54_0c x54_1, v = .tuple #[.slice x54_0 x54_0n x54_0c, x54_1] ∧
    bolterlaw11_model_made_b7 R x54_0 x54_0n x54_0c x54_1 I1 S1)
    (bolterlaw11_model_made_b8 R m_0 r_4 I S)
def bolterlaw11_model_made_b5 (R : Value → IMem → SH → Prop) (m_0 : Option Addr) (r_4 : Addr) (I : IMem) (S : SH) : Prop :=
  ∃ x41 x41n x41c, Cell I S (r_4.add 2) (.slice x41 x41n x41c) ∧
  bolterlaw11_model_made_b6 R m_0 r_4 (decide ((x41n : Int) > (0 : Int))) I S
def bolterlaw11_model_made_b4 (R : Value → IMem → SH → Prop) (m_0 : Option Addr) (r_4 : Addr) (e_5 : Value) (x34 : Bool) (I : IMem) (S : SH) : Prop :=
  bcase x34
    (ptrP m_0 fun x36 =>
    ∃ x38 x38n x38c, Cell I S (x36.add 1) (.slice x38 x38n x38c) ∧
    R (.tuple #[.slice x38 x38n x38c, e_5]) I S)
    (bolterlaw11_model_made_b5 R m_0 r_4 I S)
def bolterlaw11_model_made_b3 (R : Value → IMem → SH → Prop) (m_0 : Option Addr) (r_4 : Addr) (e_5 : Value) (I : IMem) (S : SH) : Prop :=
  ∃ nl, isNilI e_5 = some nl ∧
  bcase (!nl)
    (bolterlaw11_model_made_b4 R m_0 r_4 e_5 true I S)
    (∃ x33, Cell I S r_4 (.bool x33) ∧
    bolterlaw11_model_made_b4 R m_0 r_4 e_5 x33 I S)
def bolterlaw11_model_made_b11 (R : Value → IMem → SH → Prop) (m_0 : Option Addr) (all_6 : Option Addr) (all_6n : Nat) (all_6c : Nat) (e_7 : Value) (I : IMem) (S : SH) : Prop :=
  ∃ nl, isNilI e_7 = some nl ∧
  bcase (!nl)
    (R (.tuple #[.slice none 0 0, e_7]) I S)
    (ptrP m_0 fun x82 =>
    ∃ x84, Cell I S x82 (.string x84) ∧
    Runs Tryz.prog 47 #[.string x84, .slice all_6 all_6n all_6c] I S fun v I1 S1 => ∃ x86_0 x86_0n x86_0c x86_1, v = .tuple #[.slice x86_0 x86_0n x86_0c, x86_1] ∧
    R (.tuple #[.slice x86_0 x86_0n x86_0c, x86_1]) I1 S1)
def bolterlaw11_model_made_b10 (R : Value → IMem → SH → Prop) (m_0 : Option Addr) (I : IMem) (S : SH) : Prop :=
  ptrP m_0 fun x68 =>
  ∃ x70, Cell I S x68 (.string x70) ∧
  ptrP m_0 fun x72 =>
  ∃ x74 x74n x74c, Cell I S (x72.add 14) (.slice x74 x74n x74c) ∧
  Runs Tryz.prog 46 #[.string x70, .slice x74 x74n x74c] I S fun v I1 S1 => ∃ x75_0 x75_0n x75_0c x75_1, v = .tuple #[.slice x75_0 x75_0n x75_0c, x75_1] ∧
  bolterlaw11_model_made_b11 R m_0 x75_0 x75_0n x75_0c x75_1 I1 S1
def bolterlaw11_model_made_b2 (R : Value → IMem → SH → Prop) (m_0 : Option Addr) (x13 : Bool) (I : IMem) (S : SH) : Prop :=
  bcase x13
    (ptrP m_0 fun x16 =>
    ∃ x18, Cell I S x16 (.string x18) ∧
    ptrP m_0 fun x23 =>
    ∃ x25 x25n x25c, Cell I S (x23.add 14) (.slice x25 x25n x25c) ∧
    (Runs Tryz.prog 21 #[.pointer m_0] I S fun v I1 S1 => ∃ x20_0 x20_1 x20_2 x20_3 x20_4 x20_5 x20_6, v = .agg #[.string x20_0, .string x20_1, .int .u32 x20_2, .int .u32 x20_3, .int .u32 x20_4, .int .u32 x20_5, .int .u32 x20_6] ∧
    Keep I S I1 S1 ∧
    (Runs Tryz.prog 48 #[.string x18, .int .u32 x20_2, .slice x25 x25n x25c] I1 S1 fun v' I1' S1' => ∃ x26_0_0 x26_0_1 x26_0_1n x26_0_1c x26_0_2 x26_0_2n x26_0_2c x26_1, v' = .tuple #[.agg #[.bool x26_0_0, .slice x26_0_1 x26_0_1n x26_0_1c, .slice x26_0_2 x26_0_2n x26_0_2c], x26_1] ∧
    ∀ b4 : Nat,
    Keep I S I1' ((b4, .cells #[.bool false, .slice none 0 0, .slice none 0 0] 100 (0, 0)) :: S1') ∧
    StP ((b4, .cells #[.bool false, .slice none 0 0, .slice none 0 0] 100 (0, 0)) :: S1') ⟨b4, 0, none⟩ [.bool x26_0_0, .slice x26_0_1 x26_0_1n x26_0_1c, .slice x26_0_2 x26_0_2n x26_0_2c] fun S1'' =>
    bolterlaw11_model_made_b3 R m_0 ⟨b4, 0, none⟩ x26_1 I1' S1'') ∧
    (∀ b4' : Nat,
    Keep I S I1 ((b4', .cells #[.bool false, .slice none 0 0, .slice none 0 0] 100 (0, 0)) :: S1) ∧
    Runs Tryz.prog 48 #[.string x18, .int .u32 x20_2, .slice x25 x25n x25c] I1 ((b4', .cells #[.bool false, .slice none 0 0, .slice none 0 0] 100 (0, 0)) :: S1) fun v'' I1'' S1_r3 => ∃ x26_0_0' x26_0_1' x26_0_1'n x26_0_1'c x26_0_2' x26_0_2'n x26_0_2'c x26_1', v'' = .tuple #[.agg #[.bool x26_0_0', .slice x26_0_1' x26_0_1'n x26_0_1'c, .slice x26_0_2' x26_0_2'n x26_0_2'c], x26_1'] ∧
    StP S1_r3 ⟨b4', 0, none⟩ [.bool x26_0_0', .slice x26_0_1' x26_0_1'n x26_0_1'c, .slice x26_0_2' x26_0_2'n x26_0_2'c] fun S1_r4 =>
    bolterlaw11_model_made_b3 R m_0 ⟨b4', 0, none⟩ x26_1' I1'' S1_r4)) ∧
    (∀ b4'' : Nat,
    Keep I S I ((b4'', .cells #[.bool false, .slice none 0 0, .slice none 0 0] 100 (0, 0)) :: S) ∧
    Runs Tryz.prog 21 #[.pointer m_0] I ((b4'', .cells #[.bool false, .slice none 0 0, .slice none 0 0] 100 (0, 0)) :: S) fun v_r3 I1_r3 S1_r5 => ∃ x20_0' x20_1' x20_2' x20_3' x20_4' x20_5' x20_6', v_r3 = .agg #[.string x20_0', .string x20_1', .int .u32 x20_2', .int .u32 x20_3', .int .u32 x20_4', .int .u32 x20_5', .int .u32 x20_6'] ∧
    Keep I S I1_r3 S1_r5 ∧
    Runs Tryz.prog 48 #[.string x18, .int .u32 x20_2', .slice x25 x25n x25c] I1_r3 S1_r5 fun v_r4 I1_r4 S1_r6 => ∃ x26_0_0'' x26_0_1'' x26_0_1''n x26_0_1''c x26_0_2'' x26_0_2''n x26_0_2''c x26_1'', v_r4 = .tuple #[.agg #[.bool x26_0_0'', .slice x26_0_1'' x26_0_1''n x26_0_1''c, .slice x26_0_2'' x26_0_2''n x26_0_2''c], x26_1''] ∧
    StP S1_r6 ⟨b4'', 0, none⟩ [.bool x26_0_0'', .slice x26_0_1'' x26_0_1''n x26_0_1''c, .slice x26_0_2'' x26_0_2''n x26_0_2''c] fun S1_r7 =>
    bolterlaw11_model_made_b3 R m_0 ⟨b4'', 0, none⟩ x26_1'' I1_r4 S1_r7))
    (bolterlaw11_model_made_b10 R m_0 I S)
def bolterlaw11_model_made_b1 (R : Value → IMem → SH → Prop) (m_0 : Option Addr) (I : IMem) (S : SH) : Prop :=
  ptrP m_0 fun x9 =>
  ∃ x12, Cell I S ((x9.add 5).add 1) (.int .u16 x12) ∧
  bolterlaw11_model_made_b2 R m_0 (x12 == (251 : Int)) I S
def bolterlaw11_model_made (R : Value → IMem → SH → Prop) (m_0 : Option Addr) (I : IMem) (S : SH) : Prop :=
  bolterlaw11_model_made_b1 R m_0 I S
theorem bolterlaw11_model_made_fn (R : Value → IMem → SH → Prop) (m_0 : Option Addr) (I : IMem) (S : SH) (h : bolterlaw11_model_made R m_0 I S) :
    Runs Tryz.prog 42 #[.pointer m_0] I S R := by
  refine Runs.of_wp (args := [.pointer m_0]) (c := bolterlaw11_model_made_code) Tryz.func42 (by kernel_rfl) (by kernel_rfl) ?_
  refine WP.cut 1 (fun l I S => asPtr (l 0) fun m_0 => bolterlaw11_model_made_b1 R m_0 I S) (cast (by kernel_rfl) h) ?_
  clear h
  intro l I S _ h
  obtain ⟨m_0, e0, h⟩ := asPtr_e h
  rw [upd_eta e0]
  refine WP.seqY (by kernel_rfl) (fun l I S => asPtr (l 0) fun m_0 => bolterlaw11_model_made_b10 R m_0 I S) ?_ ?_
  ·
    refine WP.cut 1 (fun l I S => asPtr (l 0) fun m_0 => asB (l 13) fun x13 => bolterlaw11_model_made_b2 R m_0 x13 I S) (cast (by kernel_rfl) h) ?_
    clear h
    intro l I S _ h
    obtain ⟨m_0, e0, h⟩ := asPtr_e h
    obtain ⟨x13, e13, h⟩ := asB_e h
    rw [upd_eta e0, upd_eta e13]
    refine WP.cond' (by kernel_rfl) (by kernel_rfl) h ?_ ?_
    · clear h
      intro h
      refine WP.seqY (by kernel_rfl) (fun l I S => asPtr (l 0) fun m_0 => asAdr (l 4) fun r_4 => asV (l 5) fun e_5 => bolterlaw11_model_made_b3 R m_0 r_4 e_5 I S) ?_ ?_
      ·
        exact WP.draw' (.take 0 (.take 1 (.take 2 (.take 3 (.take 4 (.take 7 (.take 8 (.take 9 (.take 10 (.fork 5 (.take 6 (.fork 11 (.take 12 (.take 13 (.take 14 (.step 15 (.step 16 (.take 17 .done)))))) 15 (.step 11 (.take 12 (.take 13 (.take 14 (.step 16 (.take 17 .done)))))))) 15 (.step 5 (.take 6 (.step 11 (.take 12 (.take 13 (.take 14 (.step 16 (.take 17 .done)))))))))))))))))) [5, 11, 15, 16] (by kernel_rfl) (by kernel_rfl) (by kernel_rfl) (by kernel_rfl) (by kernel_rfl) (cast (by kernel_rfl) h)
      · clear h
        intro l I S _ h
        obtain ⟨m_0, e0, h⟩ := asPtr_e h
        obtain ⟨r_4, e4, h⟩ := asAdr_e h
        obtain ⟨e_5, e5, h⟩ := asV_e h
        rw [upd_eta e0, upd_eta e4, upd_eta e5]
        refine WP.seqY (by kernel_rfl) (fun l I S => asPtr (l 0) fun m_0 => asAdr (l 4) fun r_4 => bolterlaw11_model_made_b5 R m_0 r_4 I S) ?_ ?_
        ·
          refine WP.cut 1 (fun l I S => asPtr (l 0) fun m_0 => asAdr (l 4) fun r_4 => asV (l 5) fun e_5 => asB (l 34) fun x34 => bolterlaw11_model_made_b4 R m_0 r_4 e_5 x34 I S) (cast (by kernel_rfl) h) ?_
          clear h
          intro l I S _ h
          obtain ⟨m_0, e0, h⟩ := asPtr_e h
          obtain ⟨r_4, e4, h⟩ := asAdr_e h
          obtain ⟨e_5, e5, h⟩ := asV_e h
          obtain ⟨x34, e34, h⟩ := asB_e h
          rw [upd_eta e0, upd_eta e4, upd_eta e5, upd_eta e34]
          exact Pre.sound _ _ _ _ _ (cast (by kernel_rfl) h)
        · clear h
          intro l I S _ h
          obtain ⟨m_0, e0, h⟩ := asPtr_e h
          obtain ⟨r_4, e4, h⟩ := asAdr_e h
          rw [upd_eta e0, upd_eta e4]
          refine WP.seqY (by kernel_rfl) (fun l I S => asPtr (l 0) fun m_0 => asAdr (l 4) fun r_4 => bolterlaw11_model_made_b8 R m_0 r_4 I S) ?_ ?_
          ·
            refine WP.cut 1 (fun l I S => asPtr (l 0) fun m_0 => asAdr (l 4) fun r_4 => asB (l 43) fun x43 => bolterlaw11_model_made_b6 R m_0 r_4 x43 I S) (cast (by kernel_rfl) h) ?_
            clear h
            intro l I S _ h
            obtain ⟨m_0, e0, h⟩ := asPtr_e h
            obtain ⟨r_4, e4, h⟩ := asAdr_e h
            obtain ⟨x43, e43, h⟩ := asB_e h
            rw [upd_eta e0, upd_eta e4, upd_eta e43]
            refine WP.cond' (by kernel_rfl) (by kernel_rfl) h ?_ ?_
            · clear h
              intro h
              refine WP.seqY (by kernel_rfl) (fun l I S => asSl (l 2) fun x2 x2n x2c => asV (l 3) fun x3 => bolterlaw11_model_made_b7 R x2 x2n x2c x3 I S) ?_ ?_
              ·
                exact WP.draw' (.take 0 (.take 1 (.take 2 (.take 3 (.take 4 (.take 5 (.take 6 (.take 7 (.take 8 (.take 9 (.step 10 (.take 11 (.take 12 (.take 13 (.take 14 .done))))))))))))))) [10] (by kernel_rfl) (by kernel_rfl) (by kernel_rfl) (by kernel_rfl) (by kernel_rfl) (cast (by kernel_rfl) h)
              · clear h
                intro l I S _ h
                obtain ⟨x2, x2n, x2c, e2, h⟩ := asSl_e h
                obtain ⟨x3, e3, h⟩ := asV_e h
                rw [upd_eta e2, upd_eta e3]
                exact Pre.sound _ _ _ _ _ (cast (by kernel_rfl) h)
            · clear h
              intro h
              exact Pre.sound _ _ _ _ _ (cast (by kernel_rfl) h)
          · clear h
            intro l I S _ h
            obtain ⟨m_0, e0, h⟩ := asPtr_e h
            obtain ⟨r_4, e4, h⟩ := asAdr_e h
            rw [upd_eta e0, upd_eta e4]
            refine WP.seqY (by kernel_rfl) (fun l I S => asSl (l 2) fun x2 x2n x2c => asV (l 3) fun x3 => bolterlaw11_model_made_b9 R x2 x2n x2c x3 I S) ?_ ?_
            ·
              exact WP.draw' (.take 0 (.take 1 (.take 2 (.take 3 (.take 4 (.take 5 (.step 6 (.take 7 (.take 8 (.take 9 (.take 10 .done))))))))))) [6] (by kernel_rfl) (by kernel_rfl) (by kernel_rfl) (by kernel_rfl) (by kernel_rfl) (cast (by kernel_rfl) h)
            · clear h
              intro l I S _ h
              obtain ⟨x2, x2n, x2c, e2, h⟩ := asSl_e h
              obtain ⟨x3, e3, h⟩ := asV_e h
              rw [upd_eta e2, upd_eta e3]
              exact Pre.sound _ _ _ _ _ (cast (by kernel_rfl) h)
    · clear h
      intro h
      exact Pre.sound _ _ _ _ _ (cast (by kernel_rfl) h)
  · clear h
    intro l I S _ h
    obtain ⟨m_0, e0, h⟩ := asPtr_e h
    rw [upd_eta e0]
    refine WP.seqY (by kernel_rfl) (fun l I S => asPtr (l 0) fun m_0 => asSl (l 6) fun all_6 all_6n all_6c => asV (l 7) fun e_7 => bolterlaw11_model_made_b11 R m_0 all_6 all_6n all_6c e_7 I S) ?_ ?_
    ·
      exact WP.draw' (.take 0 (.take 1 (.take 2 (.take 3 (.take 4 (.take 5 (.take 6 (.take 7 (.step 8 (.take 9 (.take 10 (.take 11 (.take 12 (.take 13 .done)))))))))))))) [8] (by kernel_rfl) (by kernel_rfl) (by kernel_rfl) (by kernel_rfl) (by kernel_rfl) (cast (by kernel_rfl) h)
    · clear h
      intro l I S _ h
      obtain ⟨m_0, e0, h⟩ := asPtr_e h
      obtain ⟨all_6, all_6n, all_6c, e6, h⟩ := asSl_e h
      obtain ⟨e_7, e7, h⟩ := asV_e h
      rw [upd_eta e0, upd_eta e6, upd_eta e7]
      exact Pre.sound _ _ _ _ _ (cast (by kernel_rfl) h)
/-! ### bolterlaw11_model_take: function 24, (*bolter/bolterlaw11.model).take -/
noncomputable def bolterlaw11_model_take_code : Code := (Tryz.f24.body).getD .skip
def bolterlaw11_model_take_b3 (R : Value → IMem → SH → Prop) (x8 : Bool) (x9 : Addr) (x10 : Bool) (I : IMem) (S : SH) : Prop :=
  ∃ r9_0, Cell I S x9 (.int .u16 r9_0) ∧
  ∃ r9_1, Cell I S (x9.add 1) (.int .u16 r9_1) ∧
  ∃ r9_2, Cell I S (x9.add 2) (.bool r9_2) ∧
  ∃ r9_3, Cell I S (x9.add 3) (.string r9_3) ∧
  ∃ r9_4, Cell I S (x9.add 4) (.int .u16 r9_4) ∧
  ∃ r9_5, Cell I S (x9.add 5) (.int .u32 r9_5) ∧
  ∃ r9_6, Cell I S (x9.add 6) (.string r9_6) ∧
  R (.tuple #[.bool x8, .agg #[.int .u16 r9_0, .int .u16 r9_1, .bool r9_2, .string r9_3, .int .u16 r9_4, .int .u32 r9_5, .string r9_6], .bool x10]) I S
def bolterlaw11_model_take_b14 (R : Value → IMem → SH → Prop) (x8 : Bool) (x9 : Addr) (x10 : Bool) (I : IMem) (S : SH) : Prop :=
  ∃ r9_0, Cell I S x9 (.int .u16 r9_0) ∧
  ∃ r9_1, Cell I S (x9.add 1) (.int .u16 r9_1) ∧
  ∃ r9_2, Cell I S (x9.add 2) (.bool r9_2) ∧
  ∃ r9_3, Cell I S (x9.add 3) (.string r9_3) ∧
  ∃ r9_4, Cell I S (x9.add 4) (.int .u16 r9_4) ∧
  ∃ r9_5, Cell I S (x9.add 5) (.int .u32 r9_5) ∧
  ∃ r9_6, Cell I S (x9.add 6) (.string r9_6) ∧
  R (.tuple #[.bool x8, .agg #[.int .u16 r9_0, .int .u16 r9_1, .bool r9_2, .string r9_3, .int .u16 r9_4, .int .u32 r9_5, .string r9_6], .bool x10]) I S
def bolterlaw11_model_take_b13 (R : Value → IMem → SH → Prop) (x9 : Addr) (none_11 : Addr) (I : IMem) (S : SH) : Prop :=
  ∃ x149_0, Cell I S none_11 (.int .u16 x149_0) ∧
  ∃ x149_1, Cell I S (none_11.add 1) (.int .u16 x149_1) ∧
  ∃ x149_2, Cell I S (none_11.add 2) (.bool x149_2) ∧
  ∃ x149_3, Cell I S (none_11.add 3) (.string x149_3) ∧
  ∃ x149_4, Cell I S (none_11.add 4) (.int .u16 x149_4) ∧
  ∃ x149_5, Cell I S (none_11.add 5) (.int .u32 x149_5) ∧
  ∃ x149_6, Cell I S (none_11.add 6) (.string x149_6) ∧
  StP S x9 [.int .u16 x149_0, .int .u16 x149_1, .bool x149_2, .string x149_3, .int .u16 x149_4, .int .u32 x149_5, .string x149_6] fun S1 =>
  bolterlaw11_model_take_b14 R false x9 false I S1
def bolterlaw11_model_take_b12 (R : Value → IMem → SH → Prop) (m_0 : Option Addr) (now_1 : Int) (x9 : Addr) (none_11 : Addr) (I : IMem) (S : SH) : Prop :=
  Runs Tryz.prog 21 #[.pointer m_0] I S fun v I1 S1 => ∃ x137_0 x137_1 x137_2 x137_3 x137_4 x137_5 x137_6, v = .agg #[.string x137_0, .string x137_1, .int .u32 x137_2, .int .u32 x137_3, .int .u32 x137_4, .int .u32 x137_5, .int .u32 x137_6] ∧
  ptrP m_0 fun x141 =>
  StP S1 (x141.add 4) [.int .i64 (IntKind.wrap .i64 (now_1 + (IntKind.wrap .i64 x137_5)))] fun S1' =>
  Runs Tryz.prog 21 #[.pointer m_0] I1 S1' fun v' I1' S1'' => ∃ x146_0 x146_1 x146_2 x146_3 x146_4 x146_5 x146_6, v' = .agg #[.string x146_0, .string x146_1, .int .u32 x146_2, .int .u32 x146_3, .int .u32 x146_4, .int .u32 x146_5, .int .u32 x146_6] ∧
  Runs Tryz.prog 37 #[.pointer m_0, .int .i64 now_1, .int .u32 x146_3] I1' S1'' fun v'' I1'' S1_r3 => v'' = .tuple #[] ∧
  bolterlaw11_model_take_b13 R x9 none_11 I1'' S1_r3
def bolterlaw11_model_take_b11 (R : Value → IMem → SH → Prop) (m_0 : Option Addr) (now_1 : Int) (id_3 : Int) (x9 : Addr) (none_11 : Addr) (x129 : Bool) (I : IMem) (S : SH) : Prop :=
  bcase x129
    (Runs Tryz.prog 38 #[.pointer m_0, .int .i64 now_1, .int .u16 id_3, .int .u16 251] I S fun v I1 S1 => ∃ x133_0 x133_1 x133_2 x133_3 x133_4 x133_5 x133_6, v = .agg #[.int .u16 x133_0, .int .u16 x133_1, .bool x133_2, .string x133_3, .int .u16 x133_4, .int .u32 x133_5, .string x133_6] ∧
    StP S1 x9 [.int .u16 x133_0, .int .u16 x133_1, .bool x133_2, .string x133_3, .int .u16 x133_4, .int .u32 x133_5, .string x133_6] fun S1' =>
    ∃ r9_0, Cell I1 S1' x9 (.int .u16 r9_0) ∧
    ∃ r9_1, Cell I1 S1' (x9.add 1) (.int .u16 r9_1) ∧
    ∃ r9_2, Cell I1 S1' (x9.add 2) (.bool r9_2) ∧
    ∃ r9_3, Cell I1 S1' (x9.add 3) (.string r9_3) ∧
    ∃ r9_4, Cell I1 S1' (x9.add 4) (.int .u16 r9_4) ∧
    ∃ r9_5, Cell I1 S1' (x9.add 5) (.int .u32 r9_5) ∧
    ∃ r9_6, Cell I1 S1' (x9.add 6) (.string r9_6) ∧
    R (.tuple #[.bool false, .agg #[.int .u16 r9_0, .int .u16 r9_1, .bool r9_2, .string r9_3, .int .u16 r9_4, .int .u32 r9_5, .string r9_6], .bool true]) I1 S1')
    (bolterlaw11_model_take_b12 R m_0 now_1 x9 none_11 I S)
def bolterlaw11_model_take_b10 (R : Value → IMem → SH → Prop) (m_0 : Option Addr) (now_1 : Int) (id_3 : Int) (x9 : Addr) (none_11 : Addr) (s_12 : Addr) (I : IMem) (S : SH) : Prop :=
  ∃ x125, Cell I S (s_12.add 2) (.int .u32 x125) ∧
  Runs Tryz.prog 21 #[.pointer m_0] I S fun v I1 S1 => ∃ x127_0 x127_1 x127_2 x127_3 x127_4 x127_5 x127_6, v = .agg #[.string x127_0, .string x127_1, .int .u32 x127_2, .int .u32 x127_3, .int .u32 x127_4, .int .u32 x127_5, .int .u32 x127_6] ∧
  Keep I S I1 S1 ∧
  Runs Tryz.prog 20 #[.int .u32 x125, .int .u32 x127_2] I1 S1 fun v' I1' S1' => ∃ x129, v' = .bool x129 ∧
  bolterlaw11_model_take_b11 R m_0 now_1 id_3 x9 none_11 x129 I1' S1'
def bolterlaw11_model_take_b9 (R : Value → IMem → SH → Prop) (m_0 : Option Addr) (now_1 : Int) (id_3 : Int) (x_6 : Addr) (x9 : Addr) (none_11 : Addr) (I : IMem) (S : SH) : Prop :=
  ∃ x109 x109n x109c, Cell I S (x_6.add 10) (.slice x109 x109n x109c) ∧
  ptrP x109 fun x110 => (0 : Int) ≤ (0 : Int) ∧ (0 : Int) < (x109n : Int) ∧
  ∃ x111_0, Cell I S (x110.add ((0 : Int).toNat * 4)) (.string x111_0) ∧
  ∃ x111_1, Cell I S ((x110.add ((0 : Int).toNat * 4)).add 1) (.int .u16 x111_1) ∧
  ∃ x111_2, Cell I S ((x110.add ((0 : Int).toNat * 4)).add 2) (.int .u32 x111_2) ∧
  ∃ x111_3, Cell I S ((x110.add ((0 : Int).toNat * 4)).add 3) (.string x111_3) ∧
  Runs Tryz.prog 39 #[.agg #[.string x111_0, .int .u16 x111_1, .int .u32 x111_2, .string x111_3]] I S fun v I1 S1 => ∃ x112_0_0 x112_0_1 x112_0_2 x112_0_3 x112_0_4 x112_0_5 x112_0_6 x112_1, v = .tuple #[.agg #[.string x112_0_0, .string x112_0_1, .int .u32 x112_0_2, .int .u32 x112_0_3, .int .u32 x112_0_4, .int .u32 x112_0_5, .int .u32 x112_0_6], .bool x112_1] ∧
  ∀ b12 : Nat,
  StP ((b12, .cells #[.string ⟨#[]⟩, .string ⟨#[]⟩, .int .u32 0, .int .u32 0, .int .u32 0, .int .u32 0, .int .u32 0] 67 (0, 0)) :: S1) ⟨b12, 0, none⟩ [.string x112_0_0, .string x112_0_1, .int .u32 x112_0_2, .int .u32 x112_0_3, .int .u32 x112_0_4, .int .u32 x112_0_5, .int .u32 x112_0_6] fun S1' =>
  bcase (!x112_1)
    (Runs Tryz.prog 41 #[.pointer m_0, .int .i64 now_1, .int .u16 id_3] I1 S1' fun v' I1' S1'' => ∃ x120_0 x120_1_0 x120_1_1 x120_1_2 x120_1_3 x120_1_4 x120_1_5 x120_1_6 x120_2, v' = .tuple #[.bool x120_0, .agg #[.int .u16 x120_1_0, .int .u16 x120_1_1, .bool x120_1_2, .string x120_1_3, .int .u16 x120_1_4, .int .u32 x120_1_5, .string x120_1_6], .bool x120_2] ∧
    StP S1'' x9 [.int .u16 x120_1_0, .int .u16 x120_1_1, .bool x120_1_2, .string x120_1_3, .int .u16 x120_1_4, .int .u32 x120_1_5, .string x120_1_6] fun S1_r3 =>
    ∃ r9_0, Cell I1' S1_r3 x9 (.int .u16 r9_0) ∧
    ∃ r9_1, Cell I1' S1_r3 (x9.add 1) (.int .u16 r9_1) ∧
    ∃ r9_2, Cell I1' S1_r3 (x9.add 2) (.bool r9_2) ∧
    ∃ r9_3, Cell I1' S1_r3 (x9.add 3) (.string r9_3) ∧
    ∃ r9_4, Cell I1' S1_r3 (x9.add 4) (.int .u16 r9_4) ∧
    ∃ r9_5, Cell I1' S1_r3 (x9.add 5) (.int .u32 r9_5) ∧
    ∃ r9_6, Cell I1' S1_r3 (x9.add 6) (.string r9_6) ∧
    R (.tuple #[.bool x120_0, .agg #[.int .u16 r9_0, .int .u16 r9_1, .bool r9_2, .string r9_3, .int .u16 r9_4, .int .u32 r9_5, .string r9_6], .bool x120_2]) I1' S1_r3)
    (bolterlaw11_model_take_b10 R m_0 now_1 id_3 x9 none_11 ⟨b12, 0, none⟩ I1 S1')
def bolterlaw11_model_take_b8 (R : Value → IMem → SH → Prop) (m_0 : Option Addr) (now_1 : Int) (id_3 : Int) (x_6 : Addr) (x9 : Addr) (none_11 : Addr) (x99 : Bool) (I : IMem) (S : SH) : Prop :=
  bcase x99
    (Runs Tryz.prog 41 #[.pointer m_0, .int .i64 now_1, .int .u16 id_3] I S fun v I1 S1 => ∃ x103_0 x103_1_0 x103_1_1 x103_1_2 x103_1_3 x103_1_4 x103_1_5 x103_1_6 x103_2, v = .tuple #[.bool x103_0, .agg #[.int .u16 x103_1_0, .int .u16 x103_1_1, .bool x103_1_2, .string x103_1_3, .int .u16 x103_1_4, .int .u32 x103_1_5, .string x103_1_6], .bool x103_2] ∧
    StP S1 x9 [.int .u16 x103_1_0, .int .u16 x103_1_1, .bool x103_1_2, .string x103_1_3, .int .u16 x103_1_4, .int .u32 x103_1_5, .string x103_1_6] fun S1' =>
    ∃ r9_0, Cell I1 S1' x9 (.int .u16 r9_0) ∧
    ∃ r9_1, Cell I1 S1' (x9.add 1) (.int .u16 r9_1) ∧
    ∃ r9_2, Cell I1 S1' (x9.add 2) (.bool r9_2) ∧
    ∃ r9_3, Cell I1 S1' (x9.add 3) (.string r9_3) ∧
    ∃ r9_4, Cell I1 S1' (x9.add 4) (.int .u16 r9_4) ∧
    ∃ r9_5, Cell I1 S1' (x9.add 5) (.int .u32 r9_5) ∧
    ∃ r9_6, Cell I1 S1' (x9.add 6) (.string r9_6) ∧
    R (.tuple #[.bool x103_0, .agg #[.int .u16 r9_0, .int .u16 r9_1, .bool r9_2, .string r9_3, .int .u16 r9_4, .int .u32 r9_5, .string r9_6], .bool x103_2]) I1 S1')
    (bolterlaw11_model_take_b9 R m_0 now_1 id_3 x_6 x9 none_11 I S)
def bolterlaw11_model_take_b19 (R : Value → IMem → SH → Prop) (x8 : Bool) (x9 : Addr) (x10 : Bool) (I : IMem) (S : SH) : Prop :=
  ∃ r9_0, Cell I S x9 (.int .u16 r9_0) ∧
  ∃ r9_1, Cell I S (x9.add 1) (.int .u16 r9_1) ∧
  ∃ r9_2, Cell I S (x9.add 2) (.bool r9_2) ∧
  ∃ r9_3, Cell I S (x9.add 3) (.string r9_3) ∧
  ∃ r9_4, Cell I S (x9.add 4) (.int .u16 r9_4) ∧
  ∃ r9_5, Cell I S (x9.add 5) (.int .u32 r9_5) ∧
  ∃ r9_6, Cell I S (x9.add 6) (.string r9_6) ∧
  R (.tuple #[.bool x8, .agg #[.int .u16 r9_0, .int .u16 r9_1, .bool r9_2, .string r9_3, .int .u16 r9_4, .int .u32 r9_5, .string r9_6], .bool x10]) I S
def bolterlaw11_model_take_b22 (R : Value → IMem → SH → Prop) (x8 : Bool) (x9 : Addr) (x10 : Bool) (I : IMem) (S : SH) : Prop :=
  ∃ r9_0, Cell I S x9 (.int .u16 r9_0) ∧
  ∃ r9_1, Cell I S (x9.add 1) (.int .u16 r9_1) ∧
  ∃ r9_2, Cell I S (x9.add 2) (.bool r9_2) ∧
  ∃ r9_3, Cell I S (x9.add 3) (.string r9_3) ∧
  ∃ r9_4, Cell I S (x9.add 4) (.int .u16 r9_4) ∧
  ∃ r9_5, Cell I S (x9.add 5) (.int .u32 r9_5) ∧
  ∃ r9_6, Cell I S (x9.add 6) (.string r9_6) ∧
  R (.tuple #[.bool x8, .agg #[.int .u16 r9_0, .int .u16 r9_1, .bool r9_2, .string r9_3, .int .u16 r9_4, .int .u32 r9_5, .string r9_6], .bool x10]) I S
def bolterlaw11_model_take_b21 (R : Value → IMem → SH → Prop) (x9 : Addr) (none_11 : Addr) (same_16 : Bool) (I : IMem) (S : SH) : Prop :=
  ∃ x230_0, Cell I S none_11 (.int .u16 x230_0) ∧
  ∃ x230_1, Cell I S (none_11.add 1) (.int .u16 x230_1) ∧
  ∃ x230_2, Cell I S (none_11.add 2) (.bool x230_2) ∧
  ∃ x230_3, Cell I S (none_11.add 3) (.string x230_3) ∧
  ∃ x230_4, Cell I S (none_11.add 4) (.int .u16 x230_4) ∧
  ∃ x230_5, Cell I S (none_11.add 5) (.int .u32 x230_5) ∧
  ∃ x230_6, Cell I S (none_11.add 6) (.string x230_6) ∧
  StP S x9 [.int .u16 x230_0, .int .u16 x230_1, .bool x230_2, .string x230_3, .int .u16 x230_4, .int .u32 x230_5, .string x230_6] fun S1 =>
  bolterlaw11_model_take_b22 R (!same_16) x9 false I S1
def bolterlaw11_model_take_b20 (R : Value → IMem → SH → Prop) (m_0 : Option Addr) (now_1 : Int) (id_3 : Int) (x9 : Addr) (none_11 : Addr) (I : IMem) (S : SH) : Prop :=
  Runs Tryz.prog 42 #[.pointer m_0] I S fun v I1 S1 => ∃ x188_0 x188_0n x188_0c x188_1, v = .tuple #[.slice x188_0 x188_0n x188_0c, x188_1] ∧
  ∃ nl, isNilI x188_1 = some nl ∧
  bcase (!nl)
    (Runs Tryz.prog 41 #[.pointer m_0, .int .i64 now_1, .int .u16 id_3] I1 S1 fun v' I1' S1' => ∃ x196_0 x196_1_0 x196_1_1 x196_1_2 x196_1_3 x196_1_4 x196_1_5 x196_1_6 x196_2, v' = .tuple #[.bool x196_0, .agg #[.int .u16 x196_1_0, .int .u16 x196_1_1, .bool x196_1_2, .string x196_1_3, .int .u16 x196_1_4, .int .u32 x196_1_5, .string x196_1_6], .bool x196_2] ∧
    StP S1' x9 [.int .u16 x196_1_0, .int .u16 x196_1_1, .bool x196_1_2, .string x196_1_3, .int .u16 x196_1_4, .int .u32 x196_1_5, .string x196_1_6] fun S1'' =>
    ∃ r9_0, Cell I1' S1'' x9 (.int .u16 r9_0) ∧
    ∃ r9_1, Cell I1' S1'' (x9.add 1) (.int .u16 r9_1) ∧
    ∃ r9_2, Cell I1' S1'' (x9.add 2) (.bool r9_2) ∧
    ∃ r9_3, Cell I1' S1'' (x9.add 3) (.string r9_3) ∧
    ∃ r9_4, Cell I1' S1'' (x9.add 4) (.int .u16 r9_4) ∧
    ∃ r9_5, Cell I1' S1'' (x9.add 5) (.int .u32 r9_5) ∧
    ∃ r9_6, Cell I1' S1'' (x9.add 6) (.string r9_6) ∧
    R (.tuple #[.bool x196_0, .agg #[.int .u16 r9_0, .int .u16 r9_1, .bool r9_2, .string r9_3, .int .u16 r9_4, .int .u32 r9_5, .string r9_6], .bool x196_2]) I1' S1'')
    (ptrP m_0 fun x202 =>
    ∃ x204 x204n x204c, Cell I1 S1 (x202.add 1) (.slice x204 x204n x204c) ∧
    Runs Tryz.prog 15 #[.slice x188_0 x188_0n x188_0c, .slice x204 x204n x204c] I1 S1 fun v'' I1'' S1_r3 => ∃ x205, v'' = .bool x205 ∧
    ptrP m_0 fun x209 =>
    StP S1_r3 (x209.add 1) [.slice x188_0 x188_0n x188_0c] fun S1_r4 =>
    ptrP m_0 fun x211 =>
    StP S1_r4 (x211.add 2) [.bool true] fun S1_r5 =>
    Runs Tryz.prog 21 #[.pointer m_0] I1'' S1_r5 fun v_r3 I1_r3 S1_r6 => ∃ x216_0 x216_1 x216_2 x216_3 x216_4 x216_5 x216_6, v_r3 = .agg #[.string x216_0, .string x216_1, .int .u32 x216_2, .int .u32 x216_3, .int .u32 x216_4, .int .u32 x216_5, .int .u32 x216_6] ∧
    ptrP m_0 fun x220 =>
    StP S1_r6 (x220.add 4) [.int .i64 (IntKind.wrap .i64 (now_1 + (IntKind.wrap .i64 x216_5)))] fun S1_r7 =>
    Runs Tryz.prog 21 #[.pointer m_0] I1_r3 S1_r7 fun v_r4 I1_r4 S1_r8 => ∃ x225_0 x225_1 x225_2 x225_3 x225_4 x225_5 x225_6, v_r4 = .agg #[.string x225_0, .string x225_1, .int .u32 x225_2, .int .u32 x225_3, .int .u32 x225_4, .int .u32 x225_5, .int .u32 x225_6] ∧
    Runs Tryz.prog 37 #[.pointer m_0, .int .i64 now_1, .int .u32 x225_3] I1_r4 S1_r8 fun v_r5 I1_r5 S1_r9 => v_r5 = .tuple #[] ∧
    bolterlaw11_model_take_b21 R x9 none_11 x205 I1_r5 S1_r9)
def bolterlaw11_model_take_b18 (R : Value → IMem → SH → Prop) (m_0 : Option Addr) (now_1 : Int) (id_3 : Int) (x9 : Addr) (none_11 : Addr) (x184 : Bool) (I : IMem) (S : SH) : Prop :=
  bcase x184
    (∃ x185_0, Cell I S none_11 (.int .u16 x185_0) ∧
    ∃ x185_1, Cell I S (none_11.add 1) (.int .u16 x185_1) ∧
    ∃ x185_2, Cell I S (none_11.add 2) (.bool x185_2) ∧
    ∃ x185_3, Cell I S (none_11.add 3) (.string x185_3) ∧
    ∃ x185_4, Cell I S (none_11.add 4) (.int .u16 x185_4) ∧
    ∃ x185_5, Cell I S (none_11.add 5) (.int .u32 x185_5) ∧
    ∃ x185_6, Cell I S (none_11.add 6) (.string x185_6) ∧
    StP S x9 [.int .u16 x185_0, .int .u16 x185_1, .bool x185_2, .string x185_3, .int .u16 x185_4, .int .u32 x185_5, .string x185_6] fun S1 =>
    bolterlaw11_model_take_b19 R false x9 false I S1)
    (bolterlaw11_model_take_b20 R m_0 now_1 id_3 x9 none_11 I S)
def bolterlaw11_model_take_b17 (R : Value → IMem → SH → Prop) (m_0 : Option Addr) (now_1 : Int) (id_3 : Int) (x9 : Addr) (none_11 : Addr) (I : IMem) (S : SH) : Prop :=
  ptrP m_0 fun x180 =>
  ∃ x182 x182n x182c, Cell I S (x180.add 14) (.slice x182 x182n x182c) ∧
  Runs Tryz.prog 32 #[.slice x182 x182n x182c] I S fun v I1 S1 => ∃ x183, v = .bool x183 ∧
  bolterlaw11_model_take_b18 R m_0 now_1 id_3 x9 none_11 (!x183) I1 S1
def bolterlaw11_model_take_b16 (R : Value → IMem → SH → Prop) (m_0 : Option Addr) (now_1 : Int) (id_3 : Int) (x9 : Addr) (none_11 : Addr) (I : IMem) (S : SH) : Prop :=
  ptrP m_0 fun x164 =>
  StP S (x164.add 13) [.int .i64 (IntKind.wrap .i64 (now_1 + (4 : Int)))] fun S1 =>
  ptrP m_0 fun x167 =>
  ∃ x169 x169n x169c, Cell I S1 (x167.add 14) (.slice x169 x169n x169c) ∧
  bcase (decide ((x169n : Int) > (1024 : Int)))
    (Runs Tryz.prog 41 #[.pointer m_0, .int .i64 now_1, .int .u16 id_3] I S1 fun v I1 S1' => ∃ x175_0 x175_1_0 x175_1_1 x175_1_2 x175_1_3 x175_1_4 x175_1_5 x175_1_6 x175_2, v = .tuple #[.bool x175_0, .agg #[.int .u16 x175_1_0, .int .u16 x175_1_1, .bool x175_1_2, .string x175_1_3, .int .u16 x175_1_4, .int .u32 x175_1_5, .string x175_1_6], .bool x175_2] ∧
    StP S1' x9 [.int .u16 x175_1_0, .int .u16 x175_1_1, .bool x175_1_2, .string x175_1_3, .int .u16 x175_1_4, .int .u32 x175_1_5, .string x175_1_6] fun S1'' =>
    ∃ r9_0, Cell I1 S1'' x9 (.int .u16 r9_0) ∧
    ∃ r9_1, Cell I1 S1'' (x9.add 1) (.int .u16 r9_1) ∧
    ∃ r9_2, Cell I1 S1'' (x9.add 2) (.bool r9_2) ∧
    ∃ r9_3, Cell I1 S1'' (x9.add 3) (.string r9_3) ∧
    ∃ r9_4, Cell I1 S1'' (x9.add 4) (.int .u16 r9_4) ∧
    ∃ r9_5, Cell I1 S1'' (x9.add 5) (.int .u32 r9_5) ∧
    ∃ r9_6, Cell I1 S1'' (x9.add 6) (.string r9_6) ∧
    R (.tuple #[.bool x175_0, .agg #[.int .u16 r9_0, .int .u16 r9_1, .bool r9_2, .string r9_3, .int .u16 r9_4, .int .u32 r9_5, .string r9_6], .bool x175_2]) I1 S1'')
    (bolterlaw11_model_take_b17 R m_0 now_1 id_3 x9 none_11 I S1)
def bolterlaw11_model_take_b15 (R : Value → IMem → SH → Prop) (m_0 : Option Addr) (now_1 : Int) (id_3 : Int) (x_6 : Addr) (x9 : Addr) (none_11 : Addr) (I : IMem) (S : SH) : Prop :=
  ptrP m_0 fun x152 =>
  ∃ x154 x154n x154c, Cell I S (x152.add 14) (.slice x154 x154n x154c) ∧
  ∃ x157 x157n x157c, Cell I S (x_6.add 10) (.slice x157 x157n x157c) ∧
  AppG 32 4 40 [.string ⟨#[]⟩, .int .u16 0, .int .u32 0, .string ⟨#[]⟩] (some (.slice 32)) I S (.slice none 0 0) (.slice x154 x154n x154c) fun x155 x155n x155c S1 =>
  Keep I S I S1 ∧
  AppG 32 4 40 [.string ⟨#[]⟩, .int .u16 0, .int .u32 0, .string ⟨#[]⟩] (some (.slice 32)) I S1 (.slice x155 x155n x155c) (.slice x157 x157n x157c) fun x158 x158n x158c S1' =>
  ptrP m_0 fun x159 =>
  StP S1' (x159.add 14) [.slice x158 x158n x158c] fun S1'' =>
  bolterlaw11_model_take_b16 R m_0 now_1 id_3 x9 none_11 I S1''
def bolterlaw11_model_take_b7 (R : Value → IMem → SH → Prop) (m_0 : Option Addr) (now_1 : Int) (id_3 : Int) (x_6 : Addr) (x9 : Addr) (none_11 : Addr) (x83 : Bool) (I : IMem) (S : SH) : Prop :=
  bcase x83
    (∃ x85 x85n x85c, Cell I S (x_6.add 10) (.slice x85 x85n x85c) ∧
    bcase ((x85n : Int) != (1 : Int))
      (bolterlaw11_model_take_b8 R m_0 now_1 id_3 x_6 x9 none_11 true I S)
      (∃ x90 x90n x90c, Cell I S (x_6.add 10) (.slice x90 x90n x90c) ∧
      ptrP x90 fun x91 => (0 : Int) ≤ (0 : Int) ∧ (0 : Int) < (x90n : Int) ∧
      ∃ x93, Cell I S (x91.add ((0 : Int).toNat * 4)) (.string x93) ∧
      ptrP m_0 fun x95 =>
      ∃ x97, Cell I S x95 (.string x97) ∧
      bolterlaw11_model_take_b8 R m_0 now_1 id_3 x_6 x9 none_11 (!(x93.toList == x97.toList)) I S))
    (bolterlaw11_model_take_b15 R m_0 now_1 id_3 x_6 x9 none_11 I S)
def bolterlaw11_model_take_b6 (R : Value → IMem → SH → Prop) (m_0 : Option Addr) (now_1 : Int) (id_3 : Int) (x_6 : Addr) (x9 : Addr) (none_11 : Addr) (I : IMem) (S : SH) : Prop :=
  ptrP m_0 fun x79 =>
  ∃ x82, Cell I S ((x79.add 5).add 1) (.int .u16 x82) ∧
  bolterlaw11_model_take_b7 R m_0 now_1 id_3 x_6 x9 none_11 (x82 == (6 : Int)) I S
def bolterlaw11_model_take_b5 (R : Value → IMem → SH → Prop) (m_0 : Option Addr) (now_1 : Int) (id_3 : Int) (x_6 : Addr) (x9 : Addr) (none_11 : Addr) (x70 : Bool) (I : IMem) (S : SH) : Prop :=
  bcase x70
    (Runs Tryz.prog 41 #[.pointer m_0, .int .i64 now_1, .int .u16 id_3] I S fun v I1 S1 => ∃ x74_0 x74_1_0 x74_1_1 x74_1_2 x74_1_3 x74_1_4 x74_1_5 x74_1_6 x74_2, v = .tuple #[.bool x74_0, .agg #[.int .u16 x74_1_0, .int .u16 x74_1_1, .bool x74_1_2, .string x74_1_3, .int .u16 x74_1_4, .int .u32 x74_1_5, .string x74_1_6], .bool x74_2] ∧
    StP S1 x9 [.int .u16 x74_1_0, .int .u16 x74_1_1, .bool x74_1_2, .string x74_1_3, .int .u16 x74_1_4, .int .u32 x74_1_5, .string x74_1_6] fun S1' =>
    ∃ r9_0, Cell I1 S1' x9 (.int .u16 r9_0) ∧
    ∃ r9_1, Cell I1 S1' (x9.add 1) (.int .u16 r9_1) ∧
    ∃ r9_2, Cell I1 S1' (x9.add 2) (.bool r9_2) ∧
    ∃ r9_3, Cell I1 S1' (x9.add 3) (.string r9_3) ∧
    ∃ r9_4, Cell I1 S1' (x9.add 4) (.int .u16 r9_4) ∧
    ∃ r9_5, Cell I1 S1' (x9.add 5) (.int .u32 r9_5) ∧
    ∃ r9_6, Cell I1 S1' (x9.add 6) (.string r9_6) ∧
    R (.tuple #[.bool x74_0, .agg #[.int .u16 r9_0, .int .u16 r9_1, .bool r9_2, .string r9_3, .int .u16 r9_4, .int .u32 r9_5, .string r9_6], .bool x74_2]) I1 S1')
    (bolterlaw11_model_take_b6 R m_0 now_1 id_3 x_6 x9 none_11 I S)
def bolterlaw11_model_take_b4 (R : Value → IMem → SH → Prop) (m_0 : Option Addr) (now_1 : Int) (id_3 : Int) (x_6 : Addr) (x9 : Addr) (none_11 : Addr) (I : IMem) (S : SH) : Prop :=
  ∃ x64, Cell I S (x_6.add 7) (.int .i64 x64) ∧
  bcase (x64 != (0 : Int))
    (bolterlaw11_model_take_b5 R m_0 now_1 id_3 x_6 x9 none_11 true I S)
    (∃ x69, Cell I S (x_6.add 4) (.bool x69) ∧
    bolterlaw11_model_take_b5 R m_0 now_1 id_3 x_6 x9 none_11 x69 I S)
def bolterlaw11_model_take_b2 (R : Value → IMem → SH → Prop) (m_0 : Option Addr) (now_1 : Int) (id_3 : Int) (x_6 : Addr) (x9 : Addr) (none_11 : Addr) (x60 : Bool) (I : IMem) (S : SH) : Prop :=
  bcase x60
    (∃ x61_0, Cell I S none_11 (.int .u16 x61_0) ∧
    ∃ x61_1, Cell I S (none_11.add 1) (.int .u16 x61_1) ∧
    ∃ x61_2, Cell I S (none_11.add 2) (.bool x61_2) ∧
    ∃ x61_3, Cell I S (none_11.add 3) (.string x61_3) ∧
    ∃ x61_4, Cell I S (none_11.add 4) (.int .u16 x61_4) ∧
    ∃ x61_5, Cell I S (none_11.add 5) (.int .u32 x61_5) ∧
    ∃ x61_6, Cell I S (none_11.add 6) (.string x61_6) ∧
    StP S x9 [.int .u16 x61_0, .int .u16 x61_1, .bool x61_2, .string x61_3, .int .u16 x61_4, .int .u32 x61_5, .string x61_6] fun S1 =>
    bolterlaw11_model_take_b3 R false x9 false I S1)
    (bolterlaw11_model_take_b4 R m_0 now_1 id_3 x_6 x9 none_11 I S)
def bolterlaw11_model_take_b1 (R : Value → IMem → SH → Prop) (m_0 : Option Addr) (now_1 : Int) (id_3 : Int) (x_6 : Addr) (x9 : Addr) (none_11 : Addr) (I : IMem) (S : SH) : Prop :=
  ptrP m_0 fun x19 =>
  ∃ x21, Cell I S (x19.add 12) (.bool x21) ∧
  bcase (!x21)
    (bolterlaw11_model_take_b2 R m_0 now_1 id_3 x_6 x9 none_11 true I S)
    (∃ x26, Cell I S (x_6.add 1) (.bool x26) ∧
    bcase (!x26)
      (bolterlaw11_model_take_b2 R m_0 now_1 id_3 x_6 x9 none_11 true I S)
      (∃ x32, Cell I S x_6 (.int .u16 x32) ∧
      ptrP m_0 fun x34 =>
      ∃ x37, Cell I S (x34.add 5) (.int .u16 x37) ∧
      bcase (x32 != x37)
        (bolterlaw11_model_take_b2 R m_0 now_1 id_3 x_6 x9 none_11 true I S)
        (∃ x43, Cell I S (x_6.add 8) (.string x43) ∧
        ptrP m_0 fun x45 =>
        ∃ x47, Cell I S x45 (.string x47) ∧
        bcase (!(x43.toList == x47.toList))
          (bolterlaw11_model_take_b2 R m_0 now_1 id_3 x_6 x9 none_11 true I S)
          (∃ x53, Cell I S ((x_6.add 8).add 1) (.int .u16 x53) ∧
          ptrP m_0 fun x55 =>
          ∃ x58, Cell I S ((x55.add 5).add 1) (.int .u16 x58) ∧
          bolterlaw11_model_take_b2 R m_0 now_1 id_3 x_6 x9 none_11 (x53 != x58) I S))))
def bolterlaw11_model_take (R : Value → IMem → SH → Prop) (m_0 : Option Addr) (now_1 : Int) (x_2_0 : Int) (x_2_1 : Bool) (x_2_2 : Int) (x_2_3 : Bool) (x_2_4 : Bool) (x_2_5 : Bool) (x_2_6 : Bool) (x_2_7 : Int) (x_2_8 : ByteArray) (x_2_9 : Int) (x_2_10 : Option Addr) (x_2_10n : Nat) (x_2_10c : Nat) (x_2_11 : Option Addr) (x_2_11n : Nat) (x_2_11c : Nat) (x_2_12 : Option Addr) (x_2_12n : Nat) (x_2_12c : Nat) (x_2_13 : Int) (id_3 : Int) (I : IMem) (S : SH) : Prop :=
  ∀ b6 : Nat,
  ∀ b9 : Nat,
  ∀ b11 : Nat,
  StP ((b11, .cells #[.int .u16 0, .int .u16 0, .bool false, .string ⟨#[]⟩, .int .u16 0, .int .u32 0, .string ⟨#[]⟩] 34 (0, 0)) :: ((b9, .cells #[.int .u16 0, .int .u16 0, .bool false, .string ⟨#[]⟩, .int .u16 0, .int .u32 0, .string ⟨#[]⟩] 34 (0, 0)) :: ((b6, .cells #[.int .u16 x_2_0, .bool x_2_1, .int .i64 x_2_2, .bool x_2_3, .bool x_2_4, .bool x_2_5, .bool x_2_6, .int .i64 x_2_7, .string x_2_8, .int .u16 x_2_9, .slice x_2_10 x_2_10n x_2_10c, .slice x_2_11 x_2_11n x_2_11c, .slice x_2_12 x_2_12n x_2_12c, .int .i64 x_2_13] 44 (0, 0)) :: S))) ⟨b11, 0, none⟩ [.int .u16 0, .int .u16 0, .bool false, .string ⟨#[]⟩, .int .u16 0, .int .u32 0, .string ⟨#[]⟩] fun S1 =>
  bolterlaw11_model_take_b1 R m_0 now_1 id_3 ⟨b6, 0, none⟩ ⟨b9, 0, none⟩ ⟨b11, 0, none⟩ I S1
theorem bolterlaw11_model_take_fn (R : Value → IMem → SH → Prop) (m_0 : Option Addr) (now_1 : Int) (x_2_0 : Int) (x_2_1 : Bool) (x_2_2 : Int) (x_2_3 : Bool) (x_2_4 : Bool) (x_2_5 : Bool) (x_2_6 : Bool) (x_2_7 : Int) (x_2_8 : ByteArray) (x_2_9 : Int) (x_2_10 : Option Addr) (x_2_10n : Nat) (x_2_10c : Nat) (x_2_11 : Option Addr) (x_2_11n : Nat) (x_2_11c : Nat) (x_2_12 : Option Addr) (x_2_12n : Nat) (x_2_12c : Nat) (x_2_13 : Int) (id_3 : Int) (I : IMem) (S : SH) (h : bolterlaw11_model_take R m_0 now_1 x_2_0 x_2_1 x_2_2 x_2_3 x_2_4 x_2_5 x_2_6 x_2_7 x_2_8 x_2_9 x_2_10 x_2_10n x_2_10c x_2_11 x_2_11n x_2_11c x_2_12 x_2_12n x_2_12c x_2_13 id_3 I S) :
    Runs Tryz.prog 24 #[.pointer m_0, .int .i64 now_1, .agg #[.int .u16 x_2_0, .bool x_2_1, .int .i64 x_2_2, .bool x_2_3, .bool x_2_4, .bool x_2_5, .bool x_2_6, .int .i64 x_2_7, .string x_2_8, .int .u16 x_2_9, .slice x_2_10 x_2_10n x_2_10c, .slice x_2_11 x_2_11n x_2_11c, .slice x_2_12 x_2_12n x_2_12c, .int .i64 x_2_13], .int .u16 id_3] I S R := by
  refine Runs.of_wp (args := [.pointer m_0, .int .i64 now_1, .agg #[.int .u16 x_2_0, .bool x_2_1, .int .i64 x_2_2, .bool x_2_3, .bool x_2_4, .bool x_2_5, .bool x_2_6, .int .i64 x_2_7, .string x_2_8, .int .u16 x_2_9, .slice x_2_10 x_2_10n x_2_10c, .slice x_2_11 x_2_11n x_2_11c, .slice x_2_12 x_2_12n x_2_12c, .int .i64 x_2_13], .int .u16 id_3]) (c := bolterlaw11_model_take_code) Tryz.func24 (by kernel_rfl) (by kernel_rfl) ?_
  refine WP.cut 2 (fun l I S => asPtr (l 0) fun m_0 => asI .i64 (l 1) fun now_1 => asI .u16 (l 3) fun id_3 => asAdr (l 6) fun x_6 => asAdr (l 9) fun x9 => asAdr (l 11) fun none_11 => bolterlaw11_model_take_b1 R m_0 now_1 id_3 x_6 x9 none_11 I S) (cast (by kernel_rfl) h) ?_
  clear h
  intro l I S _ h
  obtain ⟨m_0, e0, h⟩ := asPtr_e h
  obtain ⟨now_1, e1, h⟩ := asI_e h
  obtain ⟨id_3, e3, h⟩ := asI_e h
  obtain ⟨x_6, e6, h⟩ := asAdr_e h
  obtain ⟨x9, e9, h⟩ := asAdr_e h
  obtain ⟨none_11, e11, h⟩ := asAdr_e h
  rw [upd_eta e0, upd_eta e1, upd_eta e3, upd_eta e6, upd_eta e9, upd_eta e11]
  refine WP.seqY (by kernel_rfl) (fun l I S => asPtr (l 0) fun m_0 => asI .i64 (l 1) fun now_1 => asI .u16 (l 3) fun id_3 => asAdr (l 6) fun x_6 => asAdr (l 9) fun x9 => asAdr (l 11) fun none_11 => bolterlaw11_model_take_b4 R m_0 now_1 id_3 x_6 x9 none_11 I S) ?_ ?_
  ·
    refine WP.seqY (by kernel_rfl) (fun l I S => asPtr (l 0) fun m_0 => asI .i64 (l 1) fun now_1 => asI .u16 (l 3) fun id_3 => asAdr (l 6) fun x_6 => asAdr (l 9) fun x9 => asAdr (l 11) fun none_11 => asB (l 60) fun x60 => bolterlaw11_model_take_b2 R m_0 now_1 id_3 x_6 x9 none_11 x60 I S) ?_ ?_
    ·
      exact WP.quiet' (by kernel_rfl) (by kernel_rfl) (by kernel_rfl) (cast (by kernel_rfl) h)
    · clear h
      intro l I S _ h
      obtain ⟨m_0, e0, h⟩ := asPtr_e h
      obtain ⟨now_1, e1, h⟩ := asI_e h
      obtain ⟨id_3, e3, h⟩ := asI_e h
      obtain ⟨x_6, e6, h⟩ := asAdr_e h
      obtain ⟨x9, e9, h⟩ := asAdr_e h
      obtain ⟨none_11, e11, h⟩ := asAdr_e h
      obtain ⟨x60, e60, h⟩ := asB_e h
      rw [upd_eta e0, upd_eta e1, upd_eta e3, upd_eta e6, upd_eta e9, upd_eta e11, upd_eta e60]
      refine WP.cond' (by kernel_rfl) (by kernel_rfl) h ?_ ?_
      · clear h
        intro h
        refine WP.seqY (by kernel_rfl) (fun l I S => asB (l 8) fun x8 => asAdr (l 9) fun x9 => asB (l 10) fun x10 => bolterlaw11_model_take_b3 R x8 x9 x10 I S) ?_ ?_
        ·
          exact WP.draw' (.take 0 (.take 1 (.step 2 (.take 3 .done)))) [2] (by kernel_rfl) (by kernel_rfl) (by kernel_rfl) (by kernel_rfl) (by kernel_rfl) (cast (by kernel_rfl) h)
        · clear h
          intro l I S _ h
          obtain ⟨x8, e8, h⟩ := asB_e h
          obtain ⟨x9, e9, h⟩ := asAdr_e h
          obtain ⟨x10, e10, h⟩ := asB_e h
          rw [upd_eta e8, upd_eta e9, upd_eta e10]
          exact Pre.sound _ _ _ _ _ (cast (by kernel_rfl) h)
      · clear h
        intro h
        exact Pre.sound _ _ _ _ _ (cast (by kernel_rfl) h)
  · clear h
    intro l I S _ h
    obtain ⟨m_0, e0, h⟩ := asPtr_e h
    obtain ⟨now_1, e1, h⟩ := asI_e h
    obtain ⟨id_3, e3, h⟩ := asI_e h
    obtain ⟨x_6, e6, h⟩ := asAdr_e h
    obtain ⟨x9, e9, h⟩ := asAdr_e h
    obtain ⟨none_11, e11, h⟩ := asAdr_e h
    rw [upd_eta e0, upd_eta e1, upd_eta e3, upd_eta e6, upd_eta e9, upd_eta e11]
    refine WP.seqY (by kernel_rfl) (fun l I S => asPtr (l 0) fun m_0 => asI .i64 (l 1) fun now_1 => asI .u16 (l 3) fun id_3 => asAdr (l 6) fun x_6 => asAdr (l 9) fun x9 => asAdr (l 11) fun none_11 => bolterlaw11_model_take_b6 R m_0 now_1 id_3 x_6 x9 none_11 I S) ?_ ?_
    ·
      refine WP.cut 1 (fun l I S => asPtr (l 0) fun m_0 => asI .i64 (l 1) fun now_1 => asI .u16 (l 3) fun id_3 => asAdr (l 6) fun x_6 => asAdr (l 9) fun x9 => asAdr (l 11) fun none_11 => asB (l 70) fun x70 => bolterlaw11_model_take_b5 R m_0 now_1 id_3 x_6 x9 none_11 x70 I S) (cast (by kernel_rfl) h) ?_
      clear h
      intro l I S _ h
      obtain ⟨m_0, e0, h⟩ := asPtr_e h
      obtain ⟨now_1, e1, h⟩ := asI_e h
      obtain ⟨id_3, e3, h⟩ := asI_e h
      obtain ⟨x_6, e6, h⟩ := asAdr_e h
      obtain ⟨x9, e9, h⟩ := asAdr_e h
      obtain ⟨none_11, e11, h⟩ := asAdr_e h
      obtain ⟨x70, e70, h⟩ := asB_e h
      rw [upd_eta e0, upd_eta e1, upd_eta e3, upd_eta e6, upd_eta e9, upd_eta e11, upd_eta e70]
      exact Pre.sound _ _ _ _ _ (cast (by kernel_rfl) h)
    · clear h
      intro l I S _ h
      obtain ⟨m_0, e0, h⟩ := asPtr_e h
      obtain ⟨now_1, e1, h⟩ := asI_e h
      obtain ⟨id_3, e3, h⟩ := asI_e h
      obtain ⟨x_6, e6, h⟩ := asAdr_e h
      obtain ⟨x9, e9, h⟩ := asAdr_e h
      obtain ⟨none_11, e11, h⟩ := asAdr_e h
      rw [upd_eta e0, upd_eta e1, upd_eta e3, upd_eta e6, upd_eta e9, upd_eta e11]
      refine WP.seqY (by kernel_rfl) (fun l I S => asPtr (l 0) fun m_0 => asI .i64 (l 1) fun now_1 => asI .u16 (l 3) fun id_3 => asAdr (l 6) fun x_6 => asAdr (l 9) fun x9 => asAdr (l 11) fun none_11 => bolterlaw11_model_take_b15 R m_0 now_1 id_3 x_6 x9 none_11 I S) ?_ ?_
      ·
        refine WP.cut 1 (fun l I S => asPtr (l 0) fun m_0 => asI .i64 (l 1) fun now_1 => asI .u16 (l 3) fun id_3 => asAdr (l 6) fun x_6 => asAdr (l 9) fun x9 => asAdr (l 11) fun none_11 => asB (l 83) fun x83 => bolterlaw11_model_take_b7 R m_0 now_1 id_3 x_6 x9 none_11 x83 I S) (cast (by kernel_rfl) h) ?_
        clear h
        intro l I S _ h
        obtain ⟨m_0, e0, h⟩ := asPtr_e h
        obtain ⟨now_1, e1, h⟩ := asI_e h
        obtain ⟨id_3, e3, h⟩ := asI_e h
        obtain ⟨x_6, e6, h⟩ := asAdr_e h
        obtain ⟨x9, e9, h⟩ := asAdr_e h
        obtain ⟨none_11, e11, h⟩ := asAdr_e h
        obtain ⟨x83, e83, h⟩ := asB_e h
        rw [upd_eta e0, upd_eta e1, upd_eta e3, upd_eta e6, upd_eta e9, upd_eta e11, upd_eta e83]
        refine WP.cond' (by kernel_rfl) (by kernel_rfl) h ?_ ?_
        · clear h
          intro h
          refine WP.seqY (by kernel_rfl) (fun l I S => asPtr (l 0) fun m_0 => asI .i64 (l 1) fun now_1 => asI .u16 (l 3) fun id_3 => asAdr (l 6) fun x_6 => asAdr (l 9) fun x9 => asAdr (l 11) fun none_11 => bolterlaw11_model_take_b9 R m_0 now_1 id_3 x_6 x9 none_11 I S) ?_ ?_
          ·
            refine WP.seqY (by kernel_rfl) (fun l I S => asPtr (l 0) fun m_0 => asI .i64 (l 1) fun now_1 => asI .u16 (l 3) fun id_3 => asAdr (l 6) fun x_6 => asAdr (l 9) fun x9 => asAdr (l 11) fun none_11 => asB (l 99) fun x99 => bolterlaw11_model_take_b8 R m_0 now_1 id_3 x_6 x9 none_11 x99 I S) ?_ ?_
            ·
              exact WP.quiet' (by kernel_rfl) (by kernel_rfl) (by kernel_rfl) (cast (by kernel_rfl) h)
            · clear h
              intro l I S _ h
              obtain ⟨m_0, e0, h⟩ := asPtr_e h
              obtain ⟨now_1, e1, h⟩ := asI_e h
              obtain ⟨id_3, e3, h⟩ := asI_e h
              obtain ⟨x_6, e6, h⟩ := asAdr_e h
              obtain ⟨x9, e9, h⟩ := asAdr_e h
              obtain ⟨none_11, e11, h⟩ := asAdr_e h
              obtain ⟨x99, e99, h⟩ := asB_e h
              rw [upd_eta e0, upd_eta e1, upd_eta e3, upd_eta e6, upd_eta e9, upd_eta e11, upd_eta e99]
              exact Pre.sound _ _ _ _ _ (cast (by kernel_rfl) h)
          · clear h
            intro l I S _ h
            obtain ⟨m_0, e0, h⟩ := asPtr_e h
            obtain ⟨now_1, e1, h⟩ := asI_e h
            obtain ⟨id_3, e3, h⟩ := asI_e h
            obtain ⟨x_6, e6, h⟩ := asAdr_e h
            obtain ⟨x9, e9, h⟩ := asAdr_e h
            obtain ⟨none_11, e11, h⟩ := asAdr_e h
            rw [upd_eta e0, upd_eta e1, upd_eta e3, upd_eta e6, upd_eta e9, upd_eta e11]
            refine WP.cut 2 (fun l I S => asPtr (l 0) fun m_0 => asI .i64 (l 1) fun now_1 => asI .u16 (l 3) fun id_3 => asAdr (l 9) fun x9 => asAdr (l 11) fun none_11 => asAdr (l 12) fun s_12 => bolterlaw11_model_take_b10 R m_0 now_1 id_3 x9 none_11 s_12 I S) (cast (by kernel_rfl) h) ?_
            clear h
            intro l I S _ h
            obtain ⟨m_0, e0, h⟩ := asPtr_e h
            obtain ⟨now_1, e1, h⟩ := asI_e h
            obtain ⟨id_3, e3, h⟩ := asI_e h
            obtain ⟨x9, e9, h⟩ := asAdr_e h
            obtain ⟨none_11, e11, h⟩ := asAdr_e h
            obtain ⟨s_12, e12, h⟩ := asAdr_e h
            rw [upd_eta e0, upd_eta e1, upd_eta e3, upd_eta e9, upd_eta e11, upd_eta e12]
            refine WP.seqY (by kernel_rfl) (fun l I S => asPtr (l 0) fun m_0 => asI .i64 (l 1) fun now_1 => asAdr (l 9) fun x9 => asAdr (l 11) fun none_11 => bolterlaw11_model_take_b12 R m_0 now_1 x9 none_11 I S) ?_ ?_
            ·
              refine WP.seqY (by kernel_rfl) (fun l I S => asPtr (l 0) fun m_0 => asI .i64 (l 1) fun now_1 => asI .u16 (l 3) fun id_3 => asAdr (l 9) fun x9 => asAdr (l 11) fun none_11 => asB (l 129) fun x129 => bolterlaw11_model_take_b11 R m_0 now_1 id_3 x9 none_11 x129 I S) ?_ ?_
              ·
                exact WP.draw' (.take 0 (.take 1 (.take 2 (.step 3 (.take 4 (.step 5 .done)))))) [3, 5] (by kernel_rfl) (by kernel_rfl) (by kernel_rfl) (by kernel_rfl) (by kernel_rfl) (cast (by kernel_rfl) h)
              · clear h
                intro l I S _ h
                obtain ⟨m_0, e0, h⟩ := asPtr_e h
                obtain ⟨now_1, e1, h⟩ := asI_e h
                obtain ⟨id_3, e3, h⟩ := asI_e h
                obtain ⟨x9, e9, h⟩ := asAdr_e h
                obtain ⟨none_11, e11, h⟩ := asAdr_e h
                obtain ⟨x129, e129, h⟩ := asB_e h
                rw [upd_eta e0, upd_eta e1, upd_eta e3, upd_eta e9, upd_eta e11, upd_eta e129]
                exact Pre.sound _ _ _ _ _ (cast (by kernel_rfl) h)
            · clear h
              intro l I S _ h
              obtain ⟨m_0, e0, h⟩ := asPtr_e h
              obtain ⟨now_1, e1, h⟩ := asI_e h
              obtain ⟨x9, e9, h⟩ := asAdr_e h
              obtain ⟨none_11, e11, h⟩ := asAdr_e h
              rw [upd_eta e0, upd_eta e1, upd_eta e9, upd_eta e11]
              refine WP.cut 2 (fun l I S => asAdr (l 9) fun x9 => asAdr (l 11) fun none_11 => bolterlaw11_model_take_b13 R x9 none_11 I S) (cast (by kernel_rfl) h) ?_
              clear h
              intro l I S _ h
              obtain ⟨x9, e9, h⟩ := asAdr_e h
              obtain ⟨none_11, e11, h⟩ := asAdr_e h
              rw [upd_eta e9, upd_eta e11]
              refine WP.seqY (by kernel_rfl) (fun l I S => asB (l 8) fun x8 => asAdr (l 9) fun x9 => asB (l 10) fun x10 => bolterlaw11_model_take_b14 R x8 x9 x10 I S) ?_ ?_
              ·
                exact WP.draw' (.take 0 (.take 1 (.step 2 (.take 3 .done)))) [2] (by kernel_rfl) (by kernel_rfl) (by kernel_rfl) (by kernel_rfl) (by kernel_rfl) (cast (by kernel_rfl) h)
              · clear h
                intro l I S _ h
                obtain ⟨x8, e8, h⟩ := asB_e h
                obtain ⟨x9, e9, h⟩ := asAdr_e h
                obtain ⟨x10, e10, h⟩ := asB_e h
                rw [upd_eta e8, upd_eta e9, upd_eta e10]
                exact Pre.sound _ _ _ _ _ (cast (by kernel_rfl) h)
        · clear h
          intro h
          exact Pre.sound _ _ _ _ _ (cast (by kernel_rfl) h)
      · clear h
        intro l I S _ h
        obtain ⟨m_0, e0, h⟩ := asPtr_e h
        obtain ⟨now_1, e1, h⟩ := asI_e h
        obtain ⟨id_3, e3, h⟩ := asI_e h
        obtain ⟨x_6, e6, h⟩ := asAdr_e h
        obtain ⟨x9, e9, h⟩ := asAdr_e h
        obtain ⟨none_11, e11, h⟩ := asAdr_e h
        rw [upd_eta e0, upd_eta e1, upd_eta e3, upd_eta e6, upd_eta e9, upd_eta e11]
        refine WP.seqY (by kernel_rfl) (fun l I S => asPtr (l 0) fun m_0 => asI .i64 (l 1) fun now_1 => asI .u16 (l 3) fun id_3 => asAdr (l 9) fun x9 => asAdr (l 11) fun none_11 => bolterlaw11_model_take_b16 R m_0 now_1 id_3 x9 none_11 I S) ?_ ?_
        ·
          exact WP.draw' (.take 0 (.take 1 (.take 2 (.take 3 (.take 4 (.take 6 (.take 7 (.step 5 (.step 8 (.take 9 (.take 10 (.step 11 .done)))))))))))) [5, 8, 11] (by kernel_rfl) (by kernel_rfl) (by kernel_rfl) (by kernel_rfl) (by kernel_rfl) (cast (by kernel_rfl) h)
        · clear h
          intro l I S _ h
          obtain ⟨m_0, e0, h⟩ := asPtr_e h
          obtain ⟨now_1, e1, h⟩ := asI_e h
          obtain ⟨id_3, e3, h⟩ := asI_e h
          obtain ⟨x9, e9, h⟩ := asAdr_e h
          obtain ⟨none_11, e11, h⟩ := asAdr_e h
          rw [upd_eta e0, upd_eta e1, upd_eta e3, upd_eta e9, upd_eta e11]
          refine WP.cut 2 (fun l I S => asPtr (l 0) fun m_0 => asI .i64 (l 1) fun now_1 => asI .u16 (l 3) fun id_3 => asAdr (l 9) fun x9 => asAdr (l 11) fun none_11 => bolterlaw11_model_take_b17 R m_0 now_1 id_3 x9 none_11 I S) (cast (by kernel_rfl) h) ?_
          clear h
          intro l I S _ h
          obtain ⟨m_0, e0, h⟩ := asPtr_e h
          obtain ⟨now_1, e1, h⟩ := asI_e h
          obtain ⟨id_3, e3, h⟩ := asI_e h
          obtain ⟨x9, e9, h⟩ := asAdr_e h
          obtain ⟨none_11, e11, h⟩ := asAdr_e h
          rw [upd_eta e0, upd_eta e1, upd_eta e3, upd_eta e9, upd_eta e11]
          refine WP.seqY (by kernel_rfl) (fun l I S => asPtr (l 0) fun m_0 => asI .i64 (l 1) fun now_1 => asI .u16 (l 3) fun id_3 => asAdr (l 9) fun x9 => asAdr (l 11) fun none_11 => bolterlaw11_model_take_b20 R m_0 now_1 id_3 x9 none_11 I S) ?_ ?_
          ·
            refine WP.cut 1 (fun l I S => asPtr (l 0) fun m_0 => asI .i64 (l 1) fun now_1 => asI .u16 (l 3) fun id_3 => asAdr (l 9) fun x9 => asAdr (l 11) fun none_11 => asB (l 184) fun x184 => bolterlaw11_model_take_b18 R m_0 now_1 id_3 x9 none_11 x184 I S) (cast (by kernel_rfl) h) ?_
            clear h
            intro l I S _ h
            obtain ⟨m_0, e0, h⟩ := asPtr_e h
            obtain ⟨now_1, e1, h⟩ := asI_e h
            obtain ⟨id_3, e3, h⟩ := asI_e h
            obtain ⟨x9, e9, h⟩ := asAdr_e h
            obtain ⟨none_11, e11, h⟩ := asAdr_e h
            obtain ⟨x184, e184, h⟩ := asB_e h
            rw [upd_eta e0, upd_eta e1, upd_eta e3, upd_eta e9, upd_eta e11, upd_eta e184]
            refine WP.cond' (by kernel_rfl) (by kernel_rfl) h ?_ ?_
            · clear h
              intro h
              refine WP.seqY (by kernel_rfl) (fun l I S => asB (l 8) fun x8 => asAdr (l 9) fun x9 => asB (l 10) fun x10 => bolterlaw11_model_take_b19 R x8 x9 x10 I S) ?_ ?_
              ·
                exact WP.draw' (.take 0 (.take 1 (.step 2 (.take 3 .done)))) [2] (by kernel_rfl) (by kernel_rfl) (by kernel_rfl) (by kernel_rfl) (by kernel_rfl) (cast (by kernel_rfl) h)
              · clear h
                intro l I S _ h
                obtain ⟨x8, e8, h⟩ := asB_e h
                obtain ⟨x9, e9, h⟩ := asAdr_e h
                obtain ⟨x10, e10, h⟩ := asB_e h
                rw [upd_eta e8, upd_eta e9, upd_eta e10]
                exact Pre.sound _ _ _ _ _ (cast (by kernel_rfl) h)
            · clear h
              intro h
              exact Pre.sound _ _ _ _ _ (cast (by kernel_rfl) h)
          · clear h
            intro l I S _ h
            obtain ⟨m_0, e0, h⟩ := asPtr_e h
            obtain ⟨now_1, e1, h⟩ := asI_e h
            obtain ⟨id_3, e3, h⟩ := asI_e h
            obtain ⟨x9, e9, h⟩ := asAdr_e h
            obtain ⟨none_11, e11, h⟩ := asAdr_e h
            rw [upd_eta e0, upd_eta e1, upd_eta e3, upd_eta e9, upd_eta e11]
            refine WP.cut 6 (fun l I S => asAdr (l 9) fun x9 => asAdr (l 11) fun none_11 => asB (l 16) fun same_16 => bolterlaw11_model_take_b21 R x9 none_11 same_16 I S) (cast (by kernel_rfl) h) ?_
            clear h
            intro l I S _ h
            obtain ⟨x9, e9, h⟩ := asAdr_e h
            obtain ⟨none_11, e11, h⟩ := asAdr_e h
            obtain ⟨same_16, e16, h⟩ := asB_e h
            rw [upd_eta e9, upd_eta e11, upd_eta e16]
            refine WP.seqY (by kernel_rfl) (fun l I S => asB (l 8) fun x8 => asAdr (l 9) fun x9 => asB (l 10) fun x10 => bolterlaw11_model_take_b22 R x8 x9 x10 I S) ?_ ?_
            ·
              exact WP.draw' (.take 0 (.take 1 (.take 2 (.take 3 (.step 4 (.take 5 .done)))))) [4] (by kernel_rfl) (by kernel_rfl) (by kernel_rfl) (by kernel_rfl) (by kernel_rfl) (cast (by kernel_rfl) h)
            · clear h
              intro l I S _ h
              obtain ⟨x8, e8, h⟩ := asB_e h
              obtain ⟨x9, e9, h⟩ := asAdr_e h
              obtain ⟨x10, e10, h⟩ := asB_e h
              rw [upd_eta e8, upd_eta e9, upd_eta e10]
              exact Pre.sound _ _ _ _ _ (cast (by kernel_rfl) h)
/-! ### bolterlaw11_model_agrees: function 18, (*bolter/bolterlaw11.model).agrees -/
noncomputable def bolterlaw11_model_agrees_code : Code := (Tryz.f18.body).getD .skip
def bolterlaw11_model_agrees_b2 (R : Value → IMem → SH → Prop) (x6 : Bool) (I : IMem) (S : SH) : Prop :=
  R (.bool x6) I S
def bolterlaw11_model_agrees_b1 (R : Value → IMem → SH → Prop) (m_0 : Option Addr) (t_1 : Option Addr) (now_2 : Int) (r_7 : Addr) (ok_8 : Bool) (I : IMem) (S : SH) : Prop :=
  ptrP t_1 fun x15 =>
  ∃ x17 x17n x17c, Cell I S (x15.add 1) (.slice x17 x17n x17c) ∧
  ptrP m_0 fun x19 =>
  ∃ x21 x21n x21c, Cell I S (x19.add 1) (.slice x21 x21n x21c) ∧
  ∃ x22, (∀ J T, I.le J → Runs Tryz.prog 15 #[.slice x17 x17n x17c, .slice x21 x21n x21c] J (T ++ S) (fun v' _ T' => v' = .bool x22 ∧ T' = T ++ S)) ∧
  bcase x22
    (ptrP t_1 fun x25 =>
    ∃ x27, Cell I S (x25.add 2) (.bool x27) ∧
    ptrP m_0 fun x29 =>
    ∃ x31, Cell I S (x29.add 2) (.bool x31) ∧
    bcase (x27 == x31)
      (ptrP t_1 fun x36 =>
      ∃ x38, Cell I S (x36.add 3) (.int .i64 x38) ∧
      ptrP m_0 fun x40 =>
      ∃ x42, Cell I S (x40.add 3) (.int .i64 x42) ∧
      bcase (x38 == x42)
        (ptrP t_1 fun x47 =>
        ∃ x49, Cell I S (x47.add 4) (.int .i64 x49) ∧
        ptrP m_0 fun x51 =>
        ∃ x53, Cell I S (x51.add 4) (.int .i64 x53) ∧
        bcase (x49 == x53)
          (ptrP m_0 fun x59 =>
          ∃ x61, Cell I S (x59.add 12) (.bool x61) ∧
          bcase (ok_8 == x61)
            (bcase (!ok_8)
              (bcase ok_8
                (ptrP m_0 fun x89 =>
                ∃ x91, Cell I S (x89.add 2) (.bool x91) ∧
                Runs Tryz.prog 16 #[.pointer t_1, .int .i64 now_2] I S fun v I1 S1 => ∃ x87, v = .bool x87 ∧
                Keep I S I1 S1 ∧
                bcase x91
                  (ptrP m_0 fun x95 =>
                  ∃ x97, Cell I S (x95.add 4) (.int .i64 x97) ∧
                  bolterlaw11_model_agrees_b2 R (x87 == (decide (now_2 < x97))) I1 S1)
                  (bolterlaw11_model_agrees_b2 R (x87 == false) I1 S1))
                (∃ x79_0, Cell I S r_7 (.int .u16 x79_0) ∧
                ∃ x79_1, Cell I S (r_7.add 1) (.int .u16 x79_1) ∧
                ∃ x79_2, Cell I S (r_7.add 2) (.bool x79_2) ∧
                ∃ x79_3, Cell I S (r_7.add 3) (.string x79_3) ∧
                ∃ x79_4, Cell I S (r_7.add 4) (.int .u16 x79_4) ∧
                ∃ x79_5, Cell I S (r_7.add 5) (.int .u32 x79_5) ∧
                ∃ x79_6, Cell I S (r_7.add 6) (.string x79_6) ∧
                bcase (((x79_0 : Int) == (0 : Int)) && (((x79_1 : Int) == (0 : Int)) && (((x79_2 : Bool) == (false : Bool)) && ((((x79_3 : ByteArray) == (⟨#[]⟩ : ByteArray)) && (((x79_4 : Int) == (0 : Int)) && (((x79_5 : Int) == (0 : Int)) && (((x79_6 : ByteArray) == (⟨#[]⟩ : ByteArray)) && true)))) && true))))
                  (ptrP m_0 fun x89' =>
                  ∃ x91', Cell I S (x89'.add 2) (.bool x91') ∧
                  Runs Tryz.prog 16 #[.pointer t_1, .int .i64 now_2] I S fun v' I1' S1' => ∃ x87', v' = .bool x87' ∧
                  Keep I S I1' S1' ∧
                  bcase x91'
                    (ptrP m_0 fun x95' =>
                    ∃ x97', Cell I S (x95'.add 4) (.int .i64 x97') ∧
                    bolterlaw11_model_agrees_b2 R (x87' == (decide (now_2 < x97'))) I1' S1')
                    (bolterlaw11_model_agrees_b2 R (x87' == false) I1' S1'))
                  (Keep I S I S ∧
                  bolterlaw11_model_agrees_b2 R false I S)))
              (∃ x68_0, Cell I S r_7 (.int .u16 x68_0) ∧
              ∃ x68_1, Cell I S (r_7.add 1) (.int .u16 x68_1) ∧
              ∃ x68_2, Cell I S (r_7.add 2) (.bool x68_2) ∧
              ∃ x68_3, Cell I S (r_7.add 3) (.string x68_3) ∧
              ∃ x68_4, Cell I S (r_7.add 4) (.int .u16 x68_4) ∧
              ∃ x68_5, Cell I S (r_7.add 5) (.int .u32 x68_5) ∧
              ∃ x68_6, Cell I S (r_7.add 6) (.string x68_6) ∧
              ptrP m_0 fun x70 =>
              ∃ x72_0, Cell I S (x70.add 5) (.int .u16 x72_0) ∧
              ∃ x72_1, Cell I S ((x70.add 5).add 1) (.int .u16 x72_1) ∧
              ∃ x72_2, Cell I S ((x70.add 5).add 2) (.bool x72_2) ∧
              ∃ x72_3, Cell I S ((x70.add 5).add 3) (.string x72_3) ∧
              ∃ x72_4, Cell I S ((x70.add 5).add 4) (.int .u16 x72_4) ∧
              ∃ x72_5, Cell I S ((x70.add 5).add 5) (.int .u32 x72_5) ∧
              ∃ x72_6, Cell I S ((x70.add 5).add 6) (.string x72_6) ∧
              bcase (((x68_0 : Int) == (x72_0 : Int)) && (((x68_1 : Int) == (x72_1 : Int)) && (((x68_2 : Bool) == (x72_2 : Bool)) && ((((x68_3 : ByteArray) == (x72_3 : ByteArray)) && (((x68_4 : Int) == (x72_4 : Int)) && (((x68_5 : Int) == (x72_5 : Int)) && (((x68_6 : ByteArray) == (x72_6 : ByteArray)) && true)))) && true))))
                (bcase ok_8
                  (ptrP m_0 fun x89'' =>
                  ∃ x91'', Cell I S (x89''.add 2) (.bool x91'') ∧
                  Runs Tryz.prog 16 #[.pointer t_1, .int .i64 now_2] I S fun v'' I1'' S1'' => ∃ x87'', v'' = .bool x87'' ∧
                  Keep I S I1'' S1'' ∧
                  bcase x91''
                    (ptrP m_0 fun x95'' =>
                    ∃ x97'', Cell I S (x95''.add 4) (.int .i64 x97'') ∧
                    bolterlaw11_model_agrees_b2 R (x87'' == (decide (now_2 < x97''))) I1'' S1'')
                    (bolterlaw11_model_agrees_b2 R (x87'' == false) I1'' S1''))
                  (∃ x79_0', Cell I S r_7 (.int .u16 x79_0') ∧
                  ∃ x79_1', Cell I S (r_7.add 1) (.int .u16 x79_1') ∧
                  ∃ x79_2', Cell I S (r_7.add 2) (.bool x79_2') ∧
                  ∃ x79_3', Cell I S (r_7.add 3) (.string x79_3') ∧
                  ∃ x79_4', Cell I S (r_7.add 4) (.int .u16 x79_4') ∧
                  ∃ x79_5', Cell I S (r_7.add 5) (.int .u32 x79_5') ∧
                  ∃ x79_6', Cell I S (r_7.add 6) (.string x79_6') ∧
                  bcase (((x79_0' : Int) == (0 : Int)) && (((x79_1' : Int) == (0 : Int)) && (((x79_2' : Bool) == (false : Bool)) && ((((x79_3' : ByteArray) == (⟨#[]⟩ : ByteArray)) && (((x79_4' : Int) == (0 : Int)) && (((x79_5' : Int) == (0 : Int)) && (((x79_6' : ByteArray) == (⟨#[]⟩ : ByteArray)) && true)))) && true))))
                    (ptrP m_0 fun x89_r3 =>
                    ∃ x91_r3, Cell I S (x89_r3.add 2) (.bool x91_r3) ∧
                    Runs Tryz.prog 16 #[.pointer t_1, .int .i64 now_2] I S fun v_r3 I1_r3 S1_r3 => ∃ x87_r3, v_r3 = .bool x87_r3 ∧
                    Keep I S I1_r3 S1_r3 ∧
                    bcase x91_r3
                      (ptrP m_0 fun x95_r3 =>
                      ∃ x97_r3, Cell I S (x95_r3.add 4) (.int .i64 x97_r3) ∧
                      bolterlaw11_model_agrees_b2 R (x87_r3 == (decide (now_2 < x97_r3))) I1_r3 S1_r3)
                      (bolterlaw11_model_agrees_b2 R (x87_r3 == false) I1_r3 S1_r3))
                    (Keep I S I S ∧
                    bolterlaw11_model_agrees_b2 R false I S)))
                (Keep I S I S ∧
                bolterlaw11_model_agrees_b2 R false I S)))
            (Keep I S I S ∧
            bolterlaw11_model_agrees_b2 R false I S))
          (Keep I S I S ∧
          bolterlaw11_model_agrees_b2 R false I S))
        (Keep I S I S ∧
        bolterlaw11_model_agrees_b2 R false I S))
      (Keep I S I S ∧
      bolterlaw11_model_agrees_b2 R false I S))
    (Keep I S I S ∧
    bolterlaw11_model_agrees_b2 R false I S)
def bolterlaw11_model_agrees (R : Value → IMem → SH → Prop) (m_0 : Option Addr) (t_1 : Option Addr) (now_2 : Int) (I : IMem) (S : SH) : Prop :=
  Runs Tryz.prog 17 #[.pointer t_1] I S fun v I1 S1 => ∃ x11_0_0 x11_0_1 x11_0_2 x11_0_3 x11_0_4 x11_0_5 x11_0_6 x11_1, v = .tuple #[.agg #[.int .u16 x11_0_0, .int .u16 x11_0_1, .bool x11_0_2, .string x11_0_3, .int .u16 x11_0_4, .int .u32 x11_0_5, .string x11_0_6], .bool x11_1] ∧
  ∀ b7 : Nat,
  StP ((b7, .cells #[.int .u16 0, .int .u16 0, .bool false, .string ⟨#[]⟩, .int .u16 0, .int .u32 0, .string ⟨#[]⟩] 34 (0, 0)) :: S1) ⟨b7, 0, none⟩ [.int .u16 x11_0_0, .int .u16 x11_0_1, .bool x11_0_2, .string x11_0_3, .int .u16 x11_0_4, .int .u32 x11_0_5, .string x11_0_6] fun S1' =>
  bolterlaw11_model_agrees_b1 R m_0 t_1 now_2 ⟨b7, 0, none⟩ x11_1 I1 S1'
theorem bolterlaw11_model_agrees_fn (R : Value → IMem → SH → Prop) (m_0 : Option Addr) (t_1 : Option Addr) (now_2 : Int) (I : IMem) (S : SH) (h : bolterlaw11_model_agrees R m_0 t_1 now_2 I S) :
    Runs Tryz.prog 18 #[.pointer m_0, .pointer t_1, .int .i64 now_2] I S R := by
  refine Runs.of_wp (args := [.pointer m_0, .pointer t_1, .int .i64 now_2]) (c := bolterlaw11_model_agrees_code) Tryz.func18 (by kernel_rfl) (by kernel_rfl) ?_
  refine WP.cut 2 (fun l I S => asPtr (l 0) fun m_0 => asPtr (l 1) fun t_1 => asI .i64 (l 2) fun now_2 => asAdr (l 7) fun r_7 => asB (l 8) fun ok_8 => bolterlaw11_model_agrees_b1 R m_0 t_1 now_2 r_7 ok_8 I S) (cast (by kernel_rfl) h) ?_
  clear h
  intro l I S _ h
  obtain ⟨m_0, e0, h⟩ := asPtr_e h
  obtain ⟨t_1, e1, h⟩ := asPtr_e h
  obtain ⟨now_2, e2, h⟩ := asI_e h
  obtain ⟨r_7, e7, h⟩ := asAdr_e h
  obtain ⟨ok_8, e8, h⟩ := asB_e h
  rw [upd_eta e0, upd_eta e1, upd_eta e2, upd_eta e7, upd_eta e8]
  refine WP.seqY (by kernel_rfl) (fun l I S => asB (l 6) fun x6 => bolterlaw11_model_agrees_b2 R x6 I S) ?_ ?_
  ·
    exact WP.draw' (.take 0 (.take 1 (.take 2 (.take 3 (.take 4 (.take 5 (.take 6 (.take 7 (.take 8 (.take 9 (.take 10 (.take 11 (.take 12 (.take 13 (.take 14 (.take 15 (.take 16 (.take 17 (.take 18 (.take 19 (.take 20 (.take 21 (.take 22 (.take 23 (.take 24 (.take 25 (.take 26 (.take 27 (.take 28 (.take 29 (.take 30 (.take 31 (.take 32 (.take 33 (.take 34 (.take 35 (.take 36 (.take 37 (.take 38 (.take 39 (.take 40 (.take 41 (.take 42 (.take 43 (.take 44 (.take 45 (.take 46 (.take 47 (.take 48 (.take 49 (.take 50 (.take 51 (.take 52 (.take 53 (.take 54 (.take 55 (.take 56 (.take 57 (.take 58 (.take 59 (.take 60 (.take 61 (.take 62 (.take 63 (.take 64 (.take 65 (.take 66 (.take 67 (.take 68 (.take 69 (.take 70 (.take 71 (.take 72 (.take 74 (.take 75 (.take 76 (.take 77 (.step 73 (.take 78 (.take 79 (.take 80 (.take 81 (.take 82 (.take 83 (.take 84 (.take 85 (.take 86 (.take 87 (.take 88 .done))))))))))))))))))))))))))))))))))))))))))))))))))))))))))))))))))))))))))))))))))))))))) [73] (by kernel_rfl) (by kernel_rfl) (by kernel_rfl) (by kernel_rfl) (by kernel_rfl) (cast (by kernel_rfl) h)
  · clear h
    intro l I S _ h
    obtain ⟨x6, e6, h⟩ := asB_e h
    rw [upd_eta e6]
    exact Pre.sound _ _ _ _ _ (cast (by kernel_rfl) h)
end Go.Proofs.YthlkeokfmedjhaaGreat
/- The law's own model of a transfer: its times, how it asks, fails and ticks: the same as the transfer's. -/
namespace Go.Proofs.YthlkeokfmedjhaaGreat
open Go.Px
set_option linter.unusedVariables false
set_option linter.unusedSimpArgs false

def timesF (zs : List Rc) : Sv := match zs.find? soaB with
  | some r => soaO r
  | none => sdft
theorem soaB_soa {r : Rc} (h : soaB r = true) : isSoa r = true := (Bool.and_eq_true_iff.1 h).1
theorem timesF_eq : ∀ {zs : List Rc}, cntS zs ≤ 1 → timesF zs = timesT zs
  | [], _ => rfl
  | r :: l, h => by
    by_cases hs : isSoa r = true
    · have hl : l.filter isSoa = [] := by
        unfold cntS at h
        rw [List.filter_cons, if_pos hs, List.length_cons] at h
        exact List.eq_nil_of_length_eq_zero (by omega)
      have hz : soaZ (r :: l) = r := by unfold soaZ; rw [List.find?_cons, hs]; rfl
      have hn : l.find? soaB = none := List.find?_eq_none.2 fun x hx hb => by
        have : x ∈ l.filter isSoa := List.mem_filter.2 ⟨hx, soaB_soa hb⟩
        rw [hl] at this; cases this
      unfold timesF timesT
      rw [hz, List.find?_cons]
      cases hb : soaB r with
      | true => rfl
      | false => rw [hn]; rfl
    · have hb : soaB r = false := by
        cases hb : soaB r with
        | true => exact absurd (soaB_soa hb) hs
        | false => rfl
      have hs' : isSoa r = false := by simpa using hs
      have hz : soaZ (r :: l) = soaZ l := by unfold soaZ; rw [List.find?_cons, hs']
      have ih := timesF_eq (zs := l) (by unfold cntS at h ⊢; rw [List.filter_cons, if_neg hs] at h; exact h)
      have e1 : timesF (r :: l) = timesF l := by unfold timesF; rw [List.find?_cons, hb]
      have e2 : timesT (r :: l) = timesT l := by unfold timesT; rw [hz]
      rw [e1, e2, ih]
theorem TOK.times {s : Tr} (h : TOK s) : timesF s.zone = timesT s.zone := timesF_eq (by
  rcases h.right with h | h
  · rw [h]; decide
  · rw [h.one]; exact Nat.le_refl 1)
theorem mtimes_runs {e : TypeId} {b : Nat} {s : Tr} {own F S : SH} {I : IMem} (h : TrAt e b s own) (hs : Sub (own ++ F) S) (hl : s.zone.length ≤ 100000) (hsm : SizeOK s.zone) :
    Runs Tryz.prog 21 #[.pointer (some ⟨b, 0, none⟩)] I S fun v _ T => v = vS (timesF s.zone) ∧ T = S := by
  obtain ⟨z, g, ownz, owng, rfl, hz, hg⟩ := h
  have hzl := hz.len
  refine Runs.drop (bolterlaw11_model_times_fn _ _ _ _ ?_)
  unfold bolterlaw11_model_times bolterlaw11_model_times_b1 bolterlaw11_model_times_b2
  intro b2
  refine ⟨_, _, _, Cell.at_ (add_mk _ _ _) (Cell.among (hs.skip _) rfl), ?_⟩
  rw [hzl]
  refine ⟨fun m x2 x xn xc q i J T => x2 = ⟨b2, 0, none⟩ ∧ x = z.1 ∧ xn = s.zone.length ∧ q = (s.zone.length : Int) ∧ ∃ k : Nat, i = (k : Int) ∧ k ≤ s.zone.length ∧ m = s.zone.length - k ∧ (s.zone.take k).find? soaB = none ∧ Sub ((b2, .cells (encS s0).toArray 67 (0, 0)) :: S) T,
    s.zone.length, ⟨rfl, rfl, rfl, rfl, 0, rfl, Nat.zero_le _, rfl, rfl, Sub.refl _⟩, ?_⟩
  rintro m x2 x xn xc q i J T - ⟨rfl, rfl, rfl, rfl, k, rfl, hk, rfl, hf, hT⟩
  have hrow : RowIn J T z.1 s.zone.length 4 encR s.zone := hzl ▸ ((hz.row encR_len).sub ((hs.trans hT.drop).left.drop.left))
  unfold bolterlaw11_model_times_l3
  refine bcase_dec (fun hg => ?_) (fun hg => ?_)
  · obtain ⟨y, hy⟩ := get_lt (xs := s.zone) (k := k) (by omega)
    obtain ⟨a', ha', hc⟩ := hrow.cell hy
    rw [ha']
    obtain ⟨c0, c1, c2, c3⟩ := CellsR hc
    have e1 : IntKind.wrap .i64 ((k : Int) + 1) = ((k + 1 : Nat) : Int) := by rw [wrap_i64 (by omega) (by omega)]; rfl
    refine ⟨by omega, by omega, _, c0, _, c1, _, c2, _, c3, fun b4 => StP.rec (x := y) ⟨_, Cell.at0 rfl, _, Cell.at0 rfl, _, Cell.at0 rfl, _, Cell.at0 rfl, (Of_runs y (hsm y (List.mem_of_getElem? hy)) _ _).mono ?_⟩⟩
    rintro v J2 T2 hle2 ⟨rfl, rfl⟩
    refine ⟨_, _, _, _, _, _, _, _, rfl, fun b5 => StP.all (vs := encS (soaO y)) rfl rfl ?_⟩
    have htk : (s.zone.take (k + 1)).find? soaB = if soaB y = true then some y else none := by
      rw [List.take_add_one, hy, List.find?_append, hf]
      simp [List.find?_cons]
      cases soaB y <;> rfl
    refine bcase_of (fun h1 => ?_) (fun h1 => ?_)
    · refine ⟨_, Cell.at0 rfl, _, Cell.at0 rfl, _, Cell.at0 rfl, _, Cell.at0 rfl, _, Cell.at0 rfl, _, Cell.at0 rfl, _, Cell.at0 rfl, ?_⟩
      refine StP.among (e := 67) (L := encS s0) (L' := encS (soaO y)) (F := S) ((hT.skip _).skip _) (Nat.le_of_ble_eq_true rfl) rfl rfl ?_
      intro T9 hT9
      have hfind : s.zone.find? soaB = some y := by
        rw [← List.take_append_drop (k + 1) s.zone, List.find?_append, htk, if_pos h1]; rfl
      refine ⟨_, Cell.among hT9 rfl, _, Cell.at_ (add_mk _ _ _) (Cell.among hT9 rfl), _, Cell.at_ (add_mk _ _ _) (Cell.among hT9 rfl), _, Cell.at_ (add_mk _ _ _) (Cell.among hT9 rfl), _, Cell.at_ (add_mk _ _ _) (Cell.among hT9 rfl), _, Cell.at_ (add_mk _ _ _) (Cell.among hT9 rfl), _, Cell.at_ (add_mk _ _ _) (Cell.among hT9 rfl), S, hT9.drop, ?_, rfl⟩
      unfold timesF
      rw [hfind]
    · exact ⟨s.zone.length - (k + 1), by omega, rfl, rfl, rfl, rfl, k + 1, e1, by omega, rfl, by rw [htk, if_neg (by rw [h1]; exact Bool.false_ne_true)], (hT.skip _).skip _⟩
  · have hke : k = s.zone.length := by omega
    subst hke
    rw [List.take_length] at hf
    unfold bolterlaw11_model_times_b4
    refine StP.among (e := 67) (L := encS s0) (L' := encS sdft) (F := S) hT (Nat.le_of_ble_eq_true rfl) rfl rfl ?_
    intro T9 hT9
    refine ⟨_, Cell.among hT9 rfl, _, Cell.at_ (add_mk _ _ _) (Cell.among hT9 rfl), _, Cell.at_ (add_mk _ _ _) (Cell.among hT9 rfl), _, Cell.at_ (add_mk _ _ _) (Cell.among hT9 rfl), _, Cell.at_ (add_mk _ _ _) (Cell.among hT9 rfl), _, Cell.at_ (add_mk _ _ _) (Cell.among hT9 rfl), _, Cell.at_ (add_mk _ _ _) (Cell.among hT9 rfl), S, hT9.drop, ?_, rfl⟩
    unfold timesF
    rw [hf]
end Go.Proofs.YthlkeokfmedjhaaGreat
/- The law's own model of a transfer: how it asks, closes, fails and ticks: the same as the transfer. -/
namespace Go.Proofs.YthlkeokfmedjhaaGreat
open Go.Px
set_option linter.unusedVariables false
set_option linter.unusedSimpArgs false

theorem mclose_runs {e : TypeId} {b : Nat} {s : Tr} {own F S : SH} {I : IMem} (h : TrAt e b s own) (hs : Sub (own ++ F) S) (now later : Int) :
    Runs Tryz.prog 37 #[.pointer (some ⟨b, 0, none⟩), .int .i64 now, .int .u32 later] I S fun v _ T => v = .tuple #[] ∧ ∃ own', TrAt e b (closeT s now later) own' ∧ Sub (own' ++ F) T := by
  obtain ⟨z, g, ownz, owng, rfl, hz, hg⟩ := h
  refine bolterlaw11_model_close_fn _ _ _ _ _ _ ?_
  unfold bolterlaw11_model_close
  refine StP.at_ (add_mk _ _ _) (StP.among (L' := encT { s with opn := false } z g) hs (Nat.le_of_ble_eq_true rfl) rfl rfl ?_)
  intro T1 hT1
  refine StP.at_ (add_mk _ _ _) (StP.among (L' := encT { s with opn := false, got := [] } z (none, 0, 0)) hT1 (Nat.le_of_ble_eq_true rfl) rfl rfl ?_)
  intro T2 hT2
  refine StP.at_ (add_mk _ _ _) (StP.among (L' := encT (closeT s now later) z (none, 0, 0)) hT2 (Nat.le_of_ble_eq_true rfl) rfl rfl ?_)
  intro T3 hT3
  exact ⟨rfl, _, ⟨z, (none, 0, 0), ownz, [], rfl, hz, OwnR.nil⟩, hT3.re (by intro a; simp only [tB, List.append_eq, cnt_cons, cnt_app, cnt_nil]; omega)⟩
theorem mask_end {e : TypeId} {b : Nat} {s : Tr} {z g : Sl} {ownz owng F S : SH} {I : IMem} {now b8 : Int} {b9 : Nat} {u : Rq} (hz : OwnZ (.slice z.1 z.2.1 z.2.2) s.zone ownz) (hs : Sub (tB e b s z g :: ((b9, .cells (encQ u).toArray 34 (0, 0)) :: (ownz ++ (owng ++ F)))) S) :
    bolterlaw11_model_ask_b3 (fun v _ T => v = vQ s.q ∧ ∃ own', TrAt e b { s with opn := true, til := IntKind.wrap .i64 (now + 4), got := [] } own' ∧ Sub (own' ++ F) T) (some ⟨b, 0, none⟩) now ⟨b9, 0, none⟩ I S := by
  unfold bolterlaw11_model_ask_b3
  refine StP.at_ (add_mk _ _ _) (StP.among (L' := encT { s with opn := true } z g) hs (Nat.le_of_ble_eq_true rfl) rfl rfl ?_)
  intro T1 hT1
  refine StP.at_ (add_mk _ _ _) (StP.among (L' := encT { s with opn := true, til := IntKind.wrap .i64 (now + 4) } z g) hT1 (Nat.le_of_ble_eq_true rfl) rfl rfl ?_)
  intro T2 hT2
  refine StP.at_ (add_mk _ _ _) (StP.among (L' := encT { s with opn := true, til := IntKind.wrap .i64 (now + 4), got := [] } z (none, 0, 0)) hT2 (Nat.le_of_ble_eq_true rfl) rfl rfl ?_)
  intro T3 hT3
  refine ⟨_, Cell.at_ (add_mk _ _ _) (Cell.among hT3 rfl), _, Cell.at_ (add2 _ _ _ _) (Cell.among hT3 rfl), _, Cell.at_ (add2 _ _ _ _) (Cell.among hT3 rfl), _, Cell.at_ (add2 _ _ _ _) (Cell.among hT3 rfl), _, Cell.at_ (add2 _ _ _ _) (Cell.among hT3 rfl), _, Cell.at_ (add2 _ _ _ _) (Cell.among hT3 rfl), _, Cell.at_ (add2 _ _ _ _) (Cell.among hT3 rfl), ?_⟩
  refine StP.among (e := 34) (L := encQ u) (L' := encQ s.q) (F := tB e b { s with opn := true, til := IntKind.wrap .i64 (now + 4), got := [] } z (none, 0, 0) :: (ownz ++ (owng ++ F))) (hT3.re (by intro a; simp only [tB, List.append_eq, cnt_cons, cnt_app, cnt_nil]; omega)) (Nat.le_of_ble_eq_true rfl) rfl rfl ?_
  intro T4 hT4
  refine ⟨_, Cell.among hT4 rfl, _, Cell.at_ (add_mk _ _ _) (Cell.among hT4 rfl), _, Cell.at_ (add_mk _ _ _) (Cell.among hT4 rfl), _, Cell.at_ (add_mk _ _ _) (Cell.among hT4 rfl), _, Cell.at_ (add_mk _ _ _) (Cell.among hT4 rfl), _, Cell.at_ (add_mk _ _ _) (Cell.among hT4 rfl), _, Cell.at_ (add_mk _ _ _) (Cell.among hT4 rfl), rfl, _, ⟨z, (none, 0, 0), ownz, [], rfl, hz, OwnR.nil⟩, hT4.drop.re (by intro a; simp only [tB, List.append_eq, cnt_cons, cnt_app, cnt_nil]; omega)⟩
theorem mask_runs {e : TypeId} {b : Nat} {s : Tr} {own F S : SH} {I : IMem} (h : TrAt e b s own) (hs : Sub (own ++ F) S) (now id kind : Int) (hl : s.zone.length ≤ 100000) :
    Runs Tryz.prog 38 #[.pointer (some ⟨b, 0, none⟩), .int .i64 now, .int .u16 id, .int .u16 kind] I S fun v _ T => v = vQ (askQ s.zone id kind) ∧ ∃ own', TrAt e b (askT s now id kind) own' ∧ Sub (own' ++ F) T := by
  obtain ⟨z, g, ownz, owng, rfl, hz, hg⟩ := h
  have hzl := hz.len
  refine bolterlaw11_model_ask_fn _ _ _ _ _ _ _ ?_
  unfold bolterlaw11_model_ask
  intro b8
  refine StP.at_ (add_mk _ _ _) (StP.among (e := e) (L := encT s z g) (L' := encT { s with q := (id, kind, false, zR0) } z g) (F := qB b8 rq0 :: (ownz ++ (owng ++ F))) ((hs.cons (qB b8 rq0)).re (by intro a; simp only [tB, qB, List.append_eq, cnt_cons, cnt_app, cnt_nil]; omega)) (Nat.le_of_ble_eq_true rfl) rfl rfl ?_)
  intro T1 hT1
  unfold bolterlaw11_model_ask_b1
  have hzr : RowIn I T1 z.1 s.zone.length 4 encR s.zone := hzl ▸ ((hz.row encR_len).sub hT1.drop.drop.left)
  refine ⟨_, _, _, Cell.at_ (add_mk _ _ _) (Cell.among hT1 rfl), ?_⟩
  rw [show z.2.1 = s.zone.length from hzl]
  refine (Soa_runs hzr (by omega)).mono ?_
  rintro v J T hle ⟨rfl, rfl⟩
  refine ⟨_, _, _, _, _, rfl, fun b9 => StP.rec (x := soaZ s.zone) ?_⟩
  have hsub : Go.Px.Sub (tB e b { s with q := (id, kind, false, zR0) } z g :: (qB b8 rq0 :: (ownz ++ (owng ++ F)))) ((b9, Obj.cells (encR (soaZ s.zone)).toArray 32 (0, 0)) :: T) := Sub.skip hT1 _
  have plain : askQ s.zone id kind = (id, kind, false, zR0) → ∀ {T' : SH}, Sub (tB e b { s with q := (id, kind, false, zR0) } z g :: (qB b8 rq0 :: (ownz ++ (owng ++ F)))) T' → bolterlaw11_model_ask_b3 (fun v _ T => v = vQ (askQ s.zone id kind) ∧ ∃ own', TrAt e b (askT s now id kind) own' ∧ Sub (own' ++ F) T) (some ⟨b, 0, none⟩) now ⟨b8, 0, none⟩ J T' := by
    intro hq T' hT'
    have := mask_end (I := J) (b8 := 0) (now := now) (s := { s with q := (id, kind, false, zR0) }) hz hT'
    rw [askT, hq]
    exact this
  unfold bolterlaw11_model_ask_b2
  cases hsome : (s.zone.find? isSoa).isSome with
  | false =>
    exact bcase_f rfl (bcase_f rfl (plain (by rw [askQ, hsome]; simp) hsub))
  | true =>
    refine bcase_t rfl (bcase_beq (fun hk => ?_) (fun hk => plain (by rw [askQ, if_neg (fun h => hk h.1)]) hsub))
    have hq : askQ s.zone id kind = (id, kind, true, soaZ s.zone) := by rw [askQ, if_pos ⟨hk, hsome⟩]
    refine ⟨[(b9, Obj.cells (encR (soaZ s.zone)).toArray 32 (0, 0))], ⟨IMem.le.refl J, T, List.perm_append_comm (l₁ := [_]) (l₂ := T)⟩, _, Cell.at0 rfl, _, Cell.at0 rfl, _, Cell.at0 rfl, _, Cell.at0 rfl, ?_⟩
    refine StP.at_ (add2 _ _ _ _) (StP.among (e := e) (L := encT { s with q := (id, kind, false, zR0) } z g) (L' := encT { s with q := (id, kind, true, zR0) } z g) (F := (b9, Obj.cells (encR (soaZ s.zone)).toArray 32 (0, 0)) :: (qB b8 rq0 :: (ownz ++ (owng ++ F)))) ((hT1.cons (b9, Obj.cells (encR (soaZ s.zone)).toArray 32 (0, 0))).re (by intro a; simp only [tB, qB, List.append_eq, cnt_cons, cnt_app, cnt_nil]; omega)) (Nat.le_of_ble_eq_true rfl) rfl rfl ?_)
    intro T2 hT2
    refine ⟨Sub.keep (IMem.le.refl J) (hT2.re (by intro a; simp only [cnt_cons, cnt_nil]; omega)), ?_⟩
    refine StP.at_ (add2 _ _ _ _) (StP.among (L' := encT { s with q := (id, kind, true, soaZ s.zone) } z g) hT2 (Nat.le_of_ble_eq_true rfl) rfl rfl ?_)
    intro T3 hT3
    have := mask_end (e := e) (b := b) (z := z) (g := g) (ownz := ownz) (I := J) (b8 := 0) (b9 := b8) (u := rq0) (now := now) (owng := owng) (F := F) (S := T3) (s := { s with q := (id, kind, true, soaZ s.zone) }) hz (hT3.re (by intro a; simp only [tB, qB, List.append_eq, cnt_cons, cnt_app, cnt_nil]; omega))
    rw [askT, hq]
    exact this
theorem mfailed_runs {e : TypeId} {b : Nat} {s : Tr} {own F S : SH} {I : IMem} (h : TrAt e b s own) (hs : Sub (own ++ F) S) (now id : Int) (hl : s.zone.length ≤ 100000) (hsm : SizeOK s.zone) (ht : timesF s.zone = timesT s.zone) :
    Runs Tryz.prog 41 #[.pointer (some ⟨b, 0, none⟩), .int .i64 now, .int .u16 id] I S fun v _ T => v = vR3 (failedT s now id).2 ∧ ∃ own', TrAt e b (failedT s now id).1 own' ∧ Sub (own' ++ F) T := by
  refine bolterlaw11_model_failed_fn _ _ _ _ _ _ ?_
  unfold bolterlaw11_model_failed
  intro b7
  have hs7 : Sub (own ++ (qB b7 rq0 :: F)) (qB b7 rq0 :: S) := TrAt.frame (e := e) (b := b) (s := s) hs
  have h' := h
  obtain ⟨z, g, ownz, owng, rfl, hz, hg⟩ := h'
  refine ⟨_, Cell.at_ (add2 _ _ _ _) (Cell.among hs7 rfl), bcase_beq (fun hq => ?_) (fun hq => ?_)⟩
  · rw [failedT, if_pos hq]
    refine (mask_runs h hs7 now id 252 hl).mono ?_
    rintro v J T hle ⟨rfl, own', ha, hs'⟩
    refine ⟨_, _, _, _, _, _, _, rfl, put_q (TrAt.back hs') fun T2 hT2 => ⟨rfl, own', ha, hT2⟩⟩
  · rw [failedT, if_neg hq]
    refine (mtimes_runs h hs7 hl hsm).mono ?_
    rw [ht]
    rintro v J T hle ⟨rfl, rfl⟩
    refine ⟨_, _, _, _, _, _, _, rfl, (mclose_runs h hs7 now _).mono ?_⟩
    rintro v J2 T2 hle2 ⟨rfl, own', ha, hs'⟩
    exact ⟨rfl, put_q (q := rq0) (TrAt.back hs') fun T3 hT3 => ⟨rfl, own', ha, hT3⟩⟩
theorem mtick_end {e : TypeId} {b b6 : Nat} {s : Tr} {own F S : SH} {I : IMem} (h : TrAt e b s own) (hs : Sub (own ++ (qB b6 rq0 :: F)) S) (now id : Int) (hl : s.zone.length ≤ 100000) {r : Tr × (Rq × Bool)}
    (hr : r = if s.opn = true ∨ now < s.next then (s, (rq0, false)) else if s.has = true then (askT s now id 6, (askQ s.zone id 6, true)) else (askT s now id 252, (askQ s.zone id 252, true))) :
    bolterlaw11_model_tick_b3 (fun v _ T => v = .tuple #[vQ r.2.1, .bool r.2.2] ∧ ∃ own', TrAt e b r.1 own' ∧ Sub (own' ++ F) T) (some ⟨b, 0, none⟩) now id ⟨b6, 0, none⟩ I S := by
  have h' := h
  obtain ⟨z, g, ownz, owng, rfl, hz, hg⟩ := h'
  unfold bolterlaw11_model_tick_b3 bolterlaw11_model_tick_b4 bolterlaw11_model_tick_b5
  have no : r = (s, (rq0, false)) → ∀ J, StP S ⟨b6, 0, none⟩ [.int .u16 0, .int .u16 0, .bool false, .string ⟨#[]⟩, .int .u16 0, .int .u32 0, .string ⟨#[]⟩] fun S1 =>
      ∃ r0, Cell J S1 ⟨b6, 0, none⟩ (.int .u16 r0) ∧ ∃ r1, Cell J S1 ((⟨b6, 0, none⟩ : Addr).add 1) (.int .u16 r1) ∧ ∃ r2, Cell J S1 ((⟨b6, 0, none⟩ : Addr).add 2) (.bool r2) ∧ ∃ r3, Cell J S1 ((⟨b6, 0, none⟩ : Addr).add 3) (.string r3) ∧
      ∃ r4, Cell J S1 ((⟨b6, 0, none⟩ : Addr).add 4) (.int .u16 r4) ∧ ∃ r5, Cell J S1 ((⟨b6, 0, none⟩ : Addr).add 5) (.int .u32 r5) ∧ ∃ r6, Cell J S1 ((⟨b6, 0, none⟩ : Addr).add 6) (.string r6) ∧
      (Value.tuple #[.agg #[.int .u16 r0, .int .u16 r1, .bool r2, .string r3, .int .u16 r4, .int .u32 r5, .string r6], .bool false] = .tuple #[vQ r.2.1, .bool r.2.2] ∧ ∃ own', TrAt e b r.1 own' ∧ Sub (own' ++ F) S1) := by
    intro hr2 J
    rw [hr2]
    exact put_q (q := rq0) (TrAt.back hs) fun T hT => ⟨rfl, _, h, hT⟩
  refine ⟨_, Cell.at_ (add_mk _ _ _) (Cell.among hs rfl), bcase_of (fun h1 => bcase_t rfl (no (by rw [hr, if_pos (.inl h1)]) I)) (fun h1 => ?_)⟩
  refine ⟨_, Cell.at_ (add_mk _ _ _) (Cell.among hs rfl), bcase_dec (fun h2 => no (by rw [hr, if_pos (.inr h2)]) I) (fun h2 => ?_)⟩
  rw [if_neg (by rw [h1]; rintro (h | h); exact Bool.false_ne_true h; exact h2 h)] at hr
  refine ⟨_, Cell.at_ (add_mk _ _ _) (Cell.among hs rfl), bcase_of (fun h3 => ?_) (fun h3 => ?_)⟩
  · rw [if_pos h3] at hr
    subst hr
    refine (mask_runs h hs now id 6 hl).mono ?_
    rintro v J T hle ⟨rfl, own', ha, hs'⟩
    exact ⟨_, _, _, _, _, _, _, rfl, put_q (TrAt.back hs') fun T2 hT2 => ⟨rfl, own', ha, hT2⟩⟩
  · rw [if_neg (by rw [h3]; exact Bool.false_ne_true)] at hr
    subst hr
    refine (mask_runs h hs now id 252 hl).mono ?_
    rintro v J T hle ⟨rfl, own', ha, hs'⟩
    exact ⟨_, _, _, _, _, _, _, rfl, put_q (TrAt.back hs') fun T2 hT2 => ⟨rfl, own', ha, hT2⟩⟩
theorem mtick_runs {e : TypeId} {b : Nat} {s : Tr} {own F S : SH} {I : IMem} (h : TrAt e b s own) (hs : Sub (own ++ F) S) (now id : Int) (hl : s.zone.length ≤ 100000) (hsm : SizeOK s.zone) (ht : timesF s.zone = timesT s.zone) :
    Runs Tryz.prog 19 #[.pointer (some ⟨b, 0, none⟩), .int .i64 now, .int .u16 id] I S fun v _ T => v = .tuple #[vQ (tickT s now id).2.1, .bool (tickT s now id).2.2] ∧ ∃ own', TrAt e b (tickT s now id).1 own' ∧ Sub (own' ++ F) T := by
  refine bolterlaw11_model_tick_fn _ _ _ _ _ _ ?_
  unfold bolterlaw11_model_tick bolterlaw11_model_tick_b1 bolterlaw11_model_tick_b2
  intro b6
  have hs6 : Sub (own ++ (qB b6 rq0 :: F)) (qB b6 rq0 :: S) := TrAt.frame (e := e) (b := b) (s := s) hs
  have h' := h
  obtain ⟨z, g, ownz, owng, rfl, hz, hg⟩ := h'
  have stay : ¬ (s.opn = true ∧ now ≥ s.til) → bolterlaw11_model_tick_b3 (fun v _ T => v = .tuple #[vQ (tickT s now id).2.1, .bool (tickT s now id).2.2] ∧ ∃ own', TrAt e b (tickT s now id).1 own' ∧ Sub (own' ++ F) T) (some ⟨b, 0, none⟩) now id ⟨b6, 0, none⟩ I (qB b6 rq0 :: S) := fun hn =>
    mtick_end h hs6 now id hl (by unfold tickT; rw [if_neg hn])
  refine ⟨_, Cell.at_ (add_mk _ _ _) (Cell.among hs6 rfl), bcase_of (fun h1 => ?_) (fun h1 => bcase_f rfl (stay (by rw [h1]; exact fun h => Bool.false_ne_true h.1)))⟩
  refine ⟨_, Cell.at_ (add_mk _ _ _) (Cell.among hs6 rfl), bcase_dec (fun h2 => ?_) (fun h2 => stay fun h => h2 h.2)⟩
  refine (mtimes_runs h hs6 hl hsm).mono ?_
  rw [ht]
  rintro v J T hle ⟨rfl, rfl⟩
  refine ⟨_, _, _, _, _, _, _, rfl, (mclose_runs h hs6 now _).mono ?_⟩
  rintro v J2 T2 hle2 ⟨rfl, own', ha, hs'⟩
  exact ⟨rfl, mtick_end ha hs' now id hl (by have hc : s.opn = true ∧ now ≥ s.til := ⟨h1, h2⟩; unfold tickT; rw [if_pos hc])⟩
end Go.Proofs.YthlkeokfmedjhaaGreat
/- The law's own model of a transfer: the zone that comes. -/
namespace Go.Proofs.YthlkeokfmedjhaaGreat
open Go.Px
set_option linter.unusedVariables false
set_option linter.unusedSimpArgs false

abbrev MRM (z : Sl) (S : SH) (s : Tr) (v : Value) (T : SH) (res : Option Int × List Rc) : Prop := ∃ p n d, v = .tuple #[.slice p n d, errN res.1] ∧ ((∃ c, res.1 = some c ∧ Sub S T) ∨ (∃ own, OwnZ (.slice p n d) res.2 own ∧ Sub (own ++ S) T) ∨ (z = (p, n, d) ∧ res = (none, s.zone) ∧ Sub S T))
theorem mmade_end {e : TypeId} {b b6 : Nat} {s : Tr} {z g : Sl} {ownz owng F S S' own1 own2 G : SH} {J : IMem} {same : Bool} {all : List Rc} {er : Option Int} {xs : List Dd} {ds : List Dl} {p dp : Option Addr} {n d dn dc : Nat} (hok : TOK s) (hz : OwnZ (.slice z.1 z.2.1 z.2.2) s.zone ownz) (hs : Sub (tB e b s z g :: (ownz ++ (owng ++ F))) S)
    (hp : partT s.org (timesT s.zone).2.2.1 s.got = (same, all, (er, xs))) (h1 : OwnZ (.slice p n d) all own1) (h2 : OwnD (.slice dp dn dc) ds own2) (h3 : DsOK J (G ++ owng) ds xs) (h4 : Sub (rsB b6 same p n d dp dn dc :: (own1 ++ (own2 ++ (G ++ S)))) S') :
    bolterlaw11_model_made_b3 (fun v _ T => MRM z S s v T (made2 s (partT s.org (timesT s.zone).2.2.1 s.got))) (some ⟨b, 0, none⟩) ⟨b6, 0, none⟩ (errN er) J S' := by
  have hSS : Sub S S' := h4.drop.right.right.right
  have hs' := hs.trans hSS
  unfold bolterlaw11_model_made_b3
  rw [hp]
  cases er with
  | some c => exact ⟨false, rfl, bcase_t rfl (bcase_t rfl ⟨_, _, _, Cell.at_ (add_mk _ _ _) (Cell.among hs' rfl), z.1, z.2.1, z.2.2, rfl, .inl ⟨c, rfl, hSS⟩⟩)⟩
  | none =>
    obtain ⟨f1, f2, f3, f4⟩ := part_facts hp
    have hgl := hok.gl
    have hzl := hok.len
    refine ⟨true, rfl, bcase_f rfl ⟨_, Cell.among h4 rfl, ?_⟩⟩
    unfold bolterlaw11_model_made_b4
    refine bcase_of (fun hsame => ?_) (fun hsame => ?_)
    · subst hsame
      exact ⟨_, _, _, Cell.at_ (add_mk _ _ _) (Cell.among hs' rfl), z.1, z.2.1, z.2.2, rfl, .inr (.inr ⟨rfl, rfl, hSS⟩)⟩
    · subst hsame
      have hdl := h3.len
      have hdn := h2.len
      subst hdn
      unfold bolterlaw11_model_made_b5
      refine ⟨_, _, _, Cell.at_ (add_mk _ _ _) (Cell.among h4 rfl), ?_⟩
      unfold bolterlaw11_model_made_b6
      refine bcase_dec (fun h0 => ?_) (fun h0 => ?_)
      · have hm : made2 s (false, all, (none, xs)) = delsF s.org s.zone xs := if_pos (by omega)
        rw [hm]
        obtain ⟨w1, w2⟩ := wT_len xs
        have hzn := hz.len
        refine ⟨_, Cell.among hs' rfl, _, _, _, Cell.at_ (add_mk _ _ _) (Cell.among hs' rfl), _, _, _, Cell.at_ (add_mk _ _ _) (Cell.among h4 rfl), ?_⟩
        rw [show z.2.1 = s.zone.length from hzn]
        have hrz : RowIn J S' z.1 s.zone.length 4 encR s.zone := hzn ▸ ((hz.row encR_len).sub hs'.drop.left)
        have hG : Sub (G ++ owng) S' := ((Sub.refl G).both (hs.drop.right.left)).trans h4.drop.right.right
        refine (Deltas2_runs (o := s.org) hrz hok.ss (by omega) ((h2.row encDl_len).sub h4.drop.right.left) (h3.keep (hG.keep (IMem.le.refl J))) (by omega) (fun x hx => by have := wT_mem hx; omega) hok.small (fun x hx => ⟨hok.gsm _ (f4 x hx).1, fun r hr => hok.gsm r ((f4 x hx).2 r hr)⟩)).mono ?_
        rintro v J2 T2 hle2 hres
        obtain ⟨p2, n2, d2, own3, rfl, ho3, hs3⟩ := hres
        refine ⟨_, _, _, _, rfl, ?_⟩
        unfold bolterlaw11_model_made_b7
        exact ⟨p2, n2, d2, rfl, .inr (.inl ⟨own3, ho3, hs3.of_right hSS⟩)⟩
      · have hm : made2 s (false, all, (none, xs)) = repF all s.org := if_neg (by omega)
        rw [hm]
        have han := h1.len
        subst han
        unfold bolterlaw11_model_made_b8
        refine ⟨_, Cell.among hs' rfl, _, _, _, Cell.at_ (add_mk _ _ _) (Cell.among h4 rfl), ?_⟩
        refine (Replace_runs (o := s.org) ((h1.row encR_len).sub h4.drop.left) (by omega) (fun r hr => hok.gsm r (f1 r hr))).mono ?_
        rintro v J2 T2 hle2 hres
        obtain ⟨p2, n2, d2, own3, rfl, ho3, hs3⟩ := hres
        refine ⟨_, _, _, _, rfl, ?_⟩
        unfold bolterlaw11_model_made_b9
        exact ⟨p2, n2, d2, rfl, .inr (.inl ⟨own3, ho3, hs3.of_right hSS⟩)⟩
theorem mmade_runs {e : TypeId} {b : Nat} {s : Tr} {z g : Sl} {ownz owng F S : SH} {I : IMem} (hok : TOK s) (hqq : s.q.2.1 = 251 ∨ s.q.2.1 = 252) (hz : OwnZ (.slice z.1 z.2.1 z.2.2) s.zone ownz) (hg : OwnZ (.slice g.1 g.2.1 g.2.2) s.got owng) (hs : Sub (tB e b s z g :: (ownz ++ (owng ++ F))) S) :
    Runs Tryz.prog 42 #[.pointer (some ⟨b, 0, none⟩)] I S fun v _ T => MRM z S s v T (madeT s) := by
  refine bolterlaw11_model_made_fn _ _ _ _ ?_
  unfold bolterlaw11_model_made bolterlaw11_model_made_b1 bolterlaw11_model_made_b2
  have hgl := hok.gl
  have hgn := hg.len
  have hgc := OwnR.cap (by decide) hg
  have hgz := small_size hok.gsm
  have hrow : ∀ {J : IMem}, RowIn J owng g.1 s.got.length 4 encR s.got := fun {J} => hgn ▸ hg.row encR_len
  refine ⟨_, Cell.at_ (add2 _ _ _ _) (Cell.among hs rfl), bcase_beq (fun hq => ?_) (fun hq => ?_)⟩
  · rw [madeT, if_neg (by rw [hq]; decide)]
    have hTr : TrAt e b s (tB e b s z g :: (ownz ++ owng)) := ⟨z, g, ownz, owng, rfl, hz, hg⟩
    have hsA : Sub ((tB e b s z g :: (ownz ++ owng)) ++ F) S := hs.re (by intro a; simp only [cnt_cons, cnt_app]; omega)
    have hog : Sub owng S := hs.drop.right.left
    have hzs := small_size hok.small
    have hzl := hok.len
    refine ⟨_, Cell.among hs rfl, _, _, _, Cell.at_ (add_mk _ _ _) (Cell.among hs rfl), ?_, ?_⟩
    · refine (mtimes_runs hTr hsA (by omega) hzs).mono ?_
      rw [hok.times]
      rintro v J T hle ⟨rfl, rfl⟩
      refine ⟨_, _, _, _, _, _, _, rfl, ⟨hle, [], List.Perm.refl _⟩, ?_, fun b6 => ⟨⟨hle, [_], List.Perm.refl _⟩, ?_⟩⟩
      · rw [show g.2.1 = s.got.length from hgn]
        refine (Part_runs (o := s.org) (frm := (timesT s.zone).2.2.1) hog (hrow (J := J)) (by omega) hgc hgz).mono ?_
        rintro v J2 T2 hle2 ⟨p, n, d, own1, dp, dn, dc, own2, G, ds, rfl, ho1, ho2, hds, hs2⟩
        refine ⟨_, _, _, _, _, _, _, _, rfl, fun b6 => ⟨Sub.keep (hle.trans hle2) (hs2.right.right.right.skip _), StP.all (vs := [.bool _, .slice p n d, .slice dp dn dc]) rfl rfl ?_⟩⟩
        exact mmade_end hok hz hs rfl ho1 ho2 hds (hs2.cons _)
      · rw [show g.2.1 = s.got.length from hgn]
        refine (Part_runs (o := s.org) (frm := (timesT s.zone).2.2.1) (hog.skip _) (hrow (J := J)) (by omega) hgc hgz).mono ?_
        rintro v J2 T2 hle2 ⟨p, n, d, own1, dp, dn, dc, own2, G, ds, rfl, ho1, ho2, hds, hs2⟩
        refine ⟨_, _, _, _, _, _, _, _, rfl, ?_⟩
        have hs3 : Go.Px.Sub (rsB b6 false none 0 0 none 0 0 :: (own1 ++ (own2 ++ (G ++ T)))) T2 := Sub.re (show Go.Px.Sub (own1 ++ (own2 ++ (G ++ (rsB b6 false none 0 0 none 0 0 :: T)))) T2 from hs2) (by intro a; simp only [cnt_cons, cnt_app, cnt_nil]; omega)
        refine StP.among (L' := [.bool _, .slice p n d, .slice dp dn dc]) hs3 (Nat.le_of_ble_eq_true rfl) rfl rfl ?_
        intro T3 hT3
        exact mmade_end hok hz hs rfl ho1 ho2 hds hT3
    · intro b6
      refine ⟨⟨IMem.le.refl I, [_], List.Perm.refl _⟩, (mtimes_runs hTr (hsA.skip _) (by omega) hzs).mono ?_⟩
      rw [hok.times]
      rintro v J T hle ⟨rfl, rfl⟩
      refine ⟨_, _, _, _, _, _, _, rfl, ⟨hle, [_], List.Perm.refl _⟩, ?_⟩
      rw [show g.2.1 = s.got.length from hgn]
      refine (Part_runs (o := s.org) (frm := (timesT s.zone).2.2.1) (hog.skip _) (hrow (J := J)) (by omega) hgc hgz).mono ?_
      rintro v J2 T2 hle2 ⟨p, n, d, own1, dp, dn, dc, own2, G, ds, rfl, ho1, ho2, hds, hs2⟩
      refine ⟨_, _, _, _, _, _, _, _, rfl, ?_⟩
      have hs3 : Go.Px.Sub (rsB b6 false none 0 0 none 0 0 :: (own1 ++ (own2 ++ (G ++ S)))) T2 := Sub.re (show Go.Px.Sub (own1 ++ (own2 ++ (G ++ (rsB b6 false none 0 0 none 0 0 :: S)))) T2 from hs2) (by intro a; simp only [cnt_cons, cnt_app, cnt_nil]; omega)
      refine StP.among (L' := [.bool _, .slice p n d, .slice dp dn dc]) hs3 (Nat.le_of_ble_eq_true rfl) rfl rfl ?_
      intro T3 hT3
      exact mmade_end hok hz hs rfl ho1 ho2 hds hT3
  · have hq2 : s.q.2.1 = 252 := hqq.resolve_left hq
    rw [madeT, if_pos hq2]
    unfold bolterlaw11_model_made_b10
    refine ⟨_, Cell.among hs rfl, _, _, _, Cell.at_ (add_mk _ _ _) (Cell.among hs rfl), ?_⟩
    rw [show g.2.1 = s.got.length from hgn]
    refine (Full_runs (o := s.org) (hrow.sub hs.drop.right.left) (by omega) hgc hgz).mono ?_
    rintro v J T hle ⟨p, n, d, own, rfl, ho, hs2⟩
    refine ⟨_, _, _, _, rfl, ?_⟩
    unfold bolterlaw11_model_made_b11
    have hs2' := hs.trans hs2.right
    cases hf : fullT s.org s.got with
    | mk er l =>
      rw [hf] at ho
      cases er with
      | some c => exact ⟨false, rfl, bcase_t rfl ⟨none, 0, 0, rfl, .inl ⟨c, rfl, hs2.right⟩⟩⟩
      | none =>
        obtain ⟨hl, _⟩ := full_none hf
        have hln := ho.len
        subst hln
        refine ⟨true, rfl, bcase_f rfl ⟨_, Cell.among hs2' rfl, ?_⟩⟩
        refine (Replace_runs (o := s.org) ((ho.row encR_len).sub hs2.left) (by rw [hl, List.length_take]; omega) (fun r hr => hok.gsm r (List.mem_of_mem_take (hl ▸ hr)))).mono ?_
        rintro v J2 T2 hle2 hres
        obtain ⟨p2, n2, d2, own3, rfl, ho3, hs3⟩ := hres
        exact ⟨_, _, _, _, rfl, p2, n2, d2, rfl, .inr (.inl ⟨own3, ho3, hs3.of_right hs2.right⟩)⟩
end Go.Proofs.YthlkeokfmedjhaaGreat
/- The law's own model of a transfer takes an answer: the same as the transfer. -/
namespace Go.Proofs.YthlkeokfmedjhaaGreat
open Go.Px
set_option linter.unusedVariables false
set_option linter.unusedSimpArgs false

section
variable {e : TypeId} {b b9 b11 : Nat} {s : Tr} {own F G S Fin : SH} {I : IMem} {now id : Int}
theorem mput_failed {r : Tr × Ret} (hF : ∀ {o T : SH}, Sub (o ++ G) T → Sub (o ++ Fin) T) (h : TrAt e b s own) (hok : TOK s) (hs : Sub (own ++ (qB b9 rq0 :: G)) S) (hr : r = failedT s now id) :
    Runs Tryz.prog 41 #[.pointer (some ⟨b, 0, none⟩), .int .i64 now, .int .u16 id] I S fun v I1 S1 => ∃ x0 x1 x2 x3 x4 x5 x6 x7 x8, v = .tuple #[.bool x0, .agg #[.int .u16 x1, .int .u16 x2, .bool x3, .string x4, .int .u16 x5, .int .u32 x6, .string x7], .bool x8] ∧
      PutR b9 (fun v _ T => TRes e b Fin v T r) I1 S1 x0 x1 x2 x3 x4 x5 x6 x7 x8 := by
  subst hr
  have hl := hok.len
  refine (mfailed_runs h hs now id (by omega) (small_size hok.small) hok.times).mono ?_
  rintro v J2 T2 hle2 ⟨rfl, own', ha, hs'⟩
  exact ⟨_, _, _, _, _, _, _, _, _, rfl, put_q (TrAt.back hs') fun T3 hT3 => ⟨rfl, own', ha, hF hT3⟩⟩
abbrev NoneR (b11 b9 : Nat) (R : Value → IMem → SH → Prop) (J : IMem) (S : SH) (c : Bool) : Prop :=
  ∃ q0, Cell J S ⟨b11, 0, none⟩ (.int .u16 q0) ∧ ∃ q1, Cell J S ((⟨b11, 0, none⟩ : Addr).add 1) (.int .u16 q1) ∧ ∃ q2, Cell J S ((⟨b11, 0, none⟩ : Addr).add 2) (.bool q2) ∧ ∃ q3, Cell J S ((⟨b11, 0, none⟩ : Addr).add 3) (.string q3) ∧
  ∃ q4, Cell J S ((⟨b11, 0, none⟩ : Addr).add 4) (.int .u16 q4) ∧ ∃ q5, Cell J S ((⟨b11, 0, none⟩ : Addr).add 5) (.int .u32 q5) ∧ ∃ q6, Cell J S ((⟨b11, 0, none⟩ : Addr).add 6) (.string q6) ∧ PutR b9 R J S c q0 q1 q2 q3 q4 q5 q6 false
theorem mput_none {c : Bool} {r : Tr × Ret} (hF : ∀ {o T : SH}, Sub (o ++ (qB b11 rq0 :: G)) T → Sub (o ++ Fin) T) (h : TrAt e b s own) (hs : Sub (own ++ (qB b9 rq0 :: (qB b11 rq0 :: G))) S) (hr : r = (s, (c, rq0, false))) :
    NoneR b11 b9 (fun v _ T => TRes e b Fin v T r) I S c := by
  subst hr
  have hq : Sub (qB b11 rq0 :: G) S := hs.right.drop
  refine ⟨_, Cell.among hq rfl, _, Cell.at_ (add_mk _ _ _) (Cell.among hq rfl), _, Cell.at_ (add_mk _ _ _) (Cell.among hq rfl), _, Cell.at_ (add_mk _ _ _) (Cell.among hq rfl), _, Cell.at_ (add_mk _ _ _) (Cell.among hq rfl), _, Cell.at_ (add_mk _ _ _) (Cell.among hq rfl), _, Cell.at_ (add_mk _ _ _) (Cell.among hq rfl), ?_⟩
  exact put_q (q := rq0) (TrAt.back hs) fun T3 hT3 => ⟨rfl, own, h, hF hT3⟩
end
end Go.Proofs.YthlkeokfmedjhaaGreat
/- The law's own model of a transfer is told a serial number: the same as the transfer. -/
namespace Go.Proofs.YthlkeokfmedjhaaGreat
open Go.Px
set_option linter.unusedVariables false
set_option linter.unusedSimpArgs false

theorem mtold_run {e : TypeId} {b b6 b9 b11 : Nat} {s : Tr} {own F S Fin : SH} {I : IMem} {m : Ms} {xs : List Rc} {now id : Int} (hF : ∀ {o T : SH}, Sub (o ++ (qB b11 rq0 :: (mB b6 m :: F))) T → Sub (o ++ Fin) T) (h : TrAt e b s own) (hs : Sub (own ++ (qB b9 rq0 :: (qB b11 rq0 :: (mB b6 m :: F)))) S) (hok : TOK s) (hm : m.an.2.1 = xs.length) (hx : RowIn I F m.an.1 xs.length 4 encR xs) (hsx : SizeOK xs) :
    bolterlaw11_model_take_b7 (fun v _ T => TRes e b Fin v T (toldT s now id xs)) (some ⟨b, 0, none⟩) now id ⟨b6, 0, none⟩ ⟨b9, 0, none⟩ ⟨b11, 0, none⟩ true I S := by
  have hzl := hok.len
  have hl : s.zone.length ≤ 100000 := by omega
  have hsm := small_size hok.small
  have hti := hok.times
  have hM : Sub (mB b6 m :: F) S := hs.right.drop.drop
  have h' := h
  obtain ⟨z, g, ownz, owng, rfl, hz, hg⟩ := h'
  unfold bolterlaw11_model_take_b7
  have hmc : ∀ {J : IMem}, Cell J S ((⟨b6, 0, none⟩ : Addr).add 10) (.slice m.an.1 xs.length m.an.2.2) := fun {J} => hm ▸ Cell.at_ (add_mk _ _ _) (Cell.among hM rfl)
  unfold bolterlaw11_model_take_b8
  refine bcase_t rfl ⟨_, _, _, hmc, bcase_bne (fun h1 => bcase_t rfl (mput_failed hF h hok hs (told_many (fun e => h1 (by rw [e]; rfl))))) (fun h1 => ?_)⟩
  obtain ⟨r, rfl⟩ : ∃ r, xs = [r] := by
    match xs, h1 with
    | [y], _ => exact ⟨y, rfl⟩
    | [], h1 => simp at h1
    | _ :: _ :: _, h1 => simp only [List.length_cons] at h1; omega
  obtain ⟨a', ha', hcr⟩ := (hx.sub hM.drop).cell (i := 0) (x := r) rfl
  obtain ⟨c0, c1, c2, c3⟩ := CellsR hcr
  have hmc2 : ∀ {J : IMem}, Cell J S ((⟨b6, 0, none⟩ : Addr).add 10) (.slice (some a') [r].length m.an.2.2) := fun {J} => by rw [← ha']; exact hmc
  refine ⟨_, _, _, hmc2, by decide, by simp, _, c0, _, Cell.among hs rfl, ?_⟩
  refine bcase_of (fun h2 => mput_failed hF h hok hs ?_) (fun h2 => ?_)
  · have hne : r.1 ≠ s.org := strNe.1 h2
    show (if _ then _ else _) = _
    rw [if_neg hne]
  · have heq : r.1 = s.org := strNe'.1 h2
    unfold bolterlaw11_model_take_b9
    refine ⟨_, _, _, hmc2, by decide, by simp, _, c0, _, c1, _, c2, _, c3, (Of_runs r (hsx r (List.mem_cons_self ..)) _ _).mono ?_⟩
    rintro v J T hle ⟨rfl, rfl⟩
    refine ⟨_, _, _, _, _, _, _, _, rfl, fun b12 => StP.all (vs := encS (soaO r)) rfl rfl ?_⟩
    have hs11 : Sub ((tB e b s z g :: (ownz ++ owng)) ++ (qB b9 rq0 :: (qB b11 rq0 :: (mB b6 m :: F)))) (sB b12 (soaO r) :: T) := hs.skip _
    refine bcase_not (bcase_of (fun h3 => ?_) (fun h3 => mput_failed hF h hok hs11 ?_))
    · unfold bolterlaw11_model_take_b10
      refine ⟨_, Cell.at_ (add_mk _ _ _) (Cell.at0 rfl), (mtimes_runs h hs11 hl hsm).mono ?_⟩
      rw [hti]
      rintro v J2 T2 hle2 ⟨rfl, rfl⟩
      refine ⟨_, _, _, _, _, _, _, rfl, ⟨hle2, [], List.Perm.refl _⟩, (Later_runs _ _ _ _).mono ?_⟩
      rintro v J3 T3 hle3 ⟨rfl, rfl⟩
      refine ⟨_, rfl, ?_⟩
      unfold bolterlaw11_model_take_b11
      refine bcase_of (fun h4 => ?_) (fun h4 => ?_)
      · have ht : toldT s now id [r] = (askT s now id 251, (false, askQ s.zone id 251, true)) := by
          show (if _ then _ else _) = _
          rw [if_pos heq, if_pos h3, if_pos h4]
        rw [ht]
        refine (mask_runs h hs11 now id 251 hl).mono ?_
        rintro v J4 T4 hle4 ⟨rfl, own', ha, hs'⟩
        exact ⟨_, _, _, _, _, _, _, rfl, put_q (TrAt.back hs') fun T5 hT5 => ⟨rfl, own', ha, hF hT5⟩⟩
      · have ht : toldT s now id [r] = (closeT (overT s now (timesT s.zone).2.2.2.2.2.1) now (timesT s.zone).2.2.2.1, (false, rq0, false)) := by
          show (if _ then _ else _) = _
          rw [if_pos heq, if_pos h3, if_neg (by rw [h4]; exact Bool.false_ne_true)]
        rw [ht]
        unfold bolterlaw11_model_take_b12
        refine (mtimes_runs h hs11 hl hsm).mono ?_
        rw [hti]
        rintro v J4 T4 hle4 ⟨rfl, rfl⟩
        refine ⟨_, _, _, _, _, _, _, rfl, StP.at_ (add_mk _ _ _) (StP.among (L' := encT (overT s now (timesT s.zone).2.2.2.2.2.1) z g) hs11 (Nat.le_of_ble_eq_true rfl) rfl rfl ?_)⟩
        intro T5 hT5
        have h2' : TrAt e b (overT s now (timesT s.zone).2.2.2.2.2.1) (tB e b (overT s now (timesT s.zone).2.2.2.2.2.1) z g :: (ownz ++ owng)) := ⟨z, g, ownz, owng, rfl, hz, hg⟩
        have hT5' : Sub ((tB e b (overT s now (timesT s.zone).2.2.2.2.2.1) z g :: (ownz ++ owng)) ++ (qB b9 rq0 :: (qB b11 rq0 :: (mB b6 m :: F)))) T5 := hT5
        refine (mtimes_runs h2' hT5' hl hsm).mono ?_
        rw [show timesF (overT s now (timesT s.zone).2.2.2.2.2.1).zone = timesT s.zone from hti]
        rintro v J6 T6 hle6 ⟨rfl, rfl⟩
        refine ⟨_, _, _, _, _, _, _, rfl, (mclose_runs h2' hT5' now _).mono ?_⟩
        rintro v J7 T7 hle7 ⟨rfl, own', ha, hs'⟩
        refine ⟨rfl, ?_⟩
        unfold bolterlaw11_model_take_b13 bolterlaw11_model_take_b14
        exact mput_none hF ha hs' rfl
    · show (if _ then _ else _) = _
      rw [if_pos heq, if_neg (by rw [h3]; exact Bool.false_ne_true)]
end Go.Proofs.YthlkeokfmedjhaaGreat
/- The law's own model of a transfer takes an answer: the walk. -/
namespace Go.Proofs.YthlkeokfmedjhaaGreat
open Go.Px
set_option linter.unusedVariables false
set_option linter.unusedSimpArgs false

theorem less_none {a b : List Rc} (h : lessF a b = []) : ∀ x, x ∈ a → x ∈ b := fun x hx => by
  by_cases hb : has b x = true
  · exact has_iff.1 hb
  · have : x ∈ lessF a b := by
      unfold lessF
      exact List.mem_filter.2 ⟨hx, by simpa using hb⟩
    rw [h] at this; cases this
theorem less_self (a : List Rc) : lessF a a = [] := by
  unfold lessF
  refine List.filter_eq_nil_iff.2 fun x hx => ?_
  rw [has_iff.2 hx]; simp
theorem turn_same {a b : List Rc} {f : Bool} (ha : SS a) (hb : SS b) (hl : a.length + b.length ≤ 100000) (hf : f = true ↔ b = a) : (!f) = decide (IntKind.wrap .i64 (((lessF a b).length : Int) + ((lessF b a).length : Int)) > 0) := by
  have l1 := less_len a b
  have l2 := less_len b a
  rw [wrap_i64 (by omega) (by omega)]
  cases f with
  | true =>
    have := hf.1 rfl
    subst this
    rw [less_self]; rfl
  | false =>
    symm
    refine decide_eq_true ?_
    have hne : ¬ b = a := fun h => by have := hf.2 h; cases this
    by_cases h0 : lessF a b = [] ∧ lessF b a = []
    · exact absurd (SS.ext hb ha fun x => ⟨less_none h0.2 x, less_none h0.1 x⟩) hne
    · have : (lessF a b).length ≠ 0 ∨ (lessF b a).length ≠ 0 := by
        by_cases h1 : (lessF a b).length = 0
        · by_cases h2 : (lessF b a).length = 0
          · exact absurd ⟨List.eq_nil_of_length_eq_zero h1, List.eq_nil_of_length_eq_zero h2⟩ h0
          · exact .inr h2
        · exact .inl h1
      omega
theorem mtake_b16 {e : TypeId} {b b9 b11 : Nat} {s : Tr} {z g : Sl} {ownz owng G S Fin : SH} {I : IMem} {now id : Int} {xs : List Rc} (hF : ∀ {o T : SH}, Sub (o ++ (qB b11 rq0 :: G)) T → Sub (o ++ Fin) T) (hok : TOK s) (hqq : s.q.2.1 = 251 ∨ s.q.2.1 = 252) (hz : OwnZ (.slice z.1 z.2.1 z.2.2) s.zone ownz) (hg : OwnZ (.slice g.1 g.2.1 g.2.2) (s.got ++ xs) owng)
    (hs : Sub (tB e b { s with got := s.got ++ xs } z g :: (ownz ++ (owng ++ (qB b9 rq0 :: (qB b11 rq0 :: G))))) S) (hxl : xs.length ≤ 10000) (hxs : ∀ r ∈ xs, SmallR r) :
    bolterlaw11_model_take_b16 (fun v _ T => TRes e b Fin v T (take2 (gotT s now xs) now id)) (some ⟨b, 0, none⟩) now id ⟨b9, 0, none⟩ ⟨b11, 0, none⟩ I S := by
  have hgn := hg.len
  have hzn := hz.len
  have hzl := hok.len
  have hgl := hok.gl
  have hzs := small_size hok.small
  unfold bolterlaw11_model_take_b16
  refine StP.at_ (add_mk _ _ _) (StP.among (L' := encT (gotT s now xs) z g) hs (Nat.le_of_ble_eq_true rfl) rfl rfl ?_)
  intro T1 hT1
  have hT1 : Sub (tB e b (gotT s now xs) z g :: (ownz ++ (owng ++ (qB b9 rq0 :: (qB b11 rq0 :: G))))) T1 := hT1
  have hTr : TrAt e b (gotT s now xs) (tB e b (gotT s now xs) z g :: (ownz ++ owng)) := ⟨z, g, ownz, owng, rfl, hz, hg⟩
  have hsA : ∀ {T : SH}, Sub T1 T → Sub ((tB e b (gotT s now xs) z g :: (ownz ++ owng)) ++ (qB b9 rq0 :: (qB b11 rq0 :: G))) T := fun h => (hT1.trans h).re (by intro a; simp only [cnt_cons, cnt_app]; omega)
  refine ⟨_, _, _, Cell.at_ (add_mk _ _ _) (Cell.among hT1 rfl), ?_⟩
  have hn : g.2.1 = (gotT s now xs).got.length := hgn
  rw [show ((⟨g.1, g.2.1, g.2.2⟩ : Sl)).2.1 = (gotT s now xs).got.length from hn]
  refine bcase_dec (fun h1 => ?_) (fun h1 => ?_)
  · -- too many: what fails looks at the zone alone
    have hl : s.zone.length ≤ 100000 := by omega
    refine (mfailed_runs hTr (hsA (Sub.refl T1)) now id hl hzs (show timesF s.zone = timesT s.zone from hok.times)).mono ?_
    rintro v J2 T2 hle2 ⟨rfl, own', ha, hs'⟩
    rw [take2_many (by omega)]
    exact ⟨_, _, _, _, _, _, _, _, _, rfl, put_q (TrAt.back hs') fun T3 hT3 => ⟨rfl, own', ha, hF hT3⟩⟩
  have hgl2 : (gotT s now xs).got.length ≤ 1024 := by omega
  have hokG : TOK (gotT s now xs) := ⟨hok.ss, hok.right, hok.small, hgl2, fun r hr => by
    rcases List.mem_append.1 hr with h | h
    · exact hok.gsm r h
    · exact hxs r h⟩
  unfold bolterlaw11_model_take_b17
  refine ⟨_, _, _, Cell.at_ (add_mk _ _ _) (Cell.among hT1 rfl), ?_⟩
  rw [show ((⟨g.1, g.2.1, g.2.2⟩ : Sl)).2.1 = (gotT s now xs).got.length from hn]
  have hrow : RowIn I T1 g.1 (gotT s now xs).got.length 4 encR (gotT s now xs).got := hn ▸ ((hg.row encR_len).sub hT1.drop.right.left)
  refine (Done_runs hrow (by omega)).mono ?_
  rintro v J T hle ⟨rfl, rfl⟩
  refine ⟨_, rfl, ?_⟩
  unfold bolterlaw11_model_take_b18 bolterlaw11_model_take_b19
  refine bcase_not (bcase_of (fun h2 => ?_) (fun h2 => mput_none hF hTr (hsA (Sub.refl _)) (take2_more (by omega) (by rw [h2]; exact Bool.false_ne_true))))
  rw [take2_done (by omega) h2]
  unfold bolterlaw11_model_take_b20
  refine (mmade_runs hokG hqq hz hg hT1).mono ?_
  rintro v J2 T2 hle2 ⟨p, n, d, rfl, hres⟩
  have hTT : Sub T T2 := by
    rcases hres with ⟨_, _, h⟩ | ⟨_, _, h⟩ | ⟨_, _, h⟩
    · exact h
    · exact h.right
    · exact h
  refine ⟨_, _, _, _, rfl, ?_⟩
  cases hm : madeT (gotT s now xs) with
  | mk er zz =>
    rw [hm] at hres
    cases er with
    | some c => exact ⟨false, rfl, bcase_t rfl (mput_failed hF hTr hokG (hsA hTT) rfl)⟩
    | none =>
      refine ⟨true, rfl, bcase_f rfl ?_⟩
      obtain ⟨k1, k2, k3⟩ := made_ok hokG hm
      have hzzl : zz.length ≤ 256 := by
        rcases k2 with k2 | k2
        · rw [k2]; decide
        · exact k2.many
      have htz : timesF zz = timesT zz := timesF_eq (by
        rcases k2 with k2 | k2
        · rw [k2]; decide
        · rw [k2.one]; exact Nat.le_refl 1)
      obtain ⟨ownN, hN, hsN⟩ : ∃ ownN, OwnZ (.slice p n d) zz ownN ∧ Sub (tB e b (gotT s now xs) z g :: (ownN ++ (owng ++ (qB b9 rq0 :: (qB b11 rq0 :: G))))) T2 := by
        rcases hres with ⟨_, h, _⟩ | ⟨own, h1, h2⟩ | ⟨h1, h2, h3⟩
        · cases h
        · refine ⟨own, h1, ?_⟩
          have h3 : Go.Px.Sub (own ++ (tB e b (gotT s now xs) z g :: (ownz ++ (owng ++ (qB b9 rq0 :: (qB b11 rq0 :: G)))))) T2 := ((Sub.refl own).both hT1).trans h2
          exact h3.re (by intro a; simp only [cnt_cons, cnt_app]; omega)
        · injection h2 with _ h2
          subst h2
          subst h1
          exact ⟨ownz, hz, hT1.trans h3⟩
      have hnn := hN.len
      subst hnn
      have hzr : RowIn J2 T2 z.1 s.zone.length 4 encR s.zone := hzn ▸ ((hz.row encR_len).sub (hT1.drop.left.trans hTT))
      refine ⟨_, _, _, Cell.at_ (add_mk _ _ _) (Cell.among hsN rfl), ?_⟩
      rw [show ((⟨z.1, z.2.1, z.2.2⟩ : Sl)).2.1 = s.zone.length from hzn]
      refine (Same_runs ((hN.row encR_len).sub hsN.drop.left) hzr (by omega)).mono ?_
      rintro v J3 T3 hle3 ⟨⟨f, rfl, hf⟩, rfl⟩
      refine ⟨_, rfl, ?_⟩
      refine StP.at_ (add_mk _ _ _) (StP.among (L' := encT { gotT s now xs with zone := zz } (p, zz.length, d) g) hsN (Nat.le_of_ble_eq_true rfl) rfl rfl ?_)
      intro T5 hT5
      refine StP.at_ (add_mk _ _ _) (StP.among (L' := encT { gotT s now xs with zone := zz, has := true } (p, zz.length, d) g) hT5 (Nat.le_of_ble_eq_true rfl) rfl rfl ?_)
      intro T6 hT6
      have hTr6 : TrAt e b { gotT s now xs with zone := zz, has := true } (tB e b { gotT s now xs with zone := zz, has := true } (p, zz.length, d) g :: (ownN ++ owng)) := ⟨(p, zz.length, d), g, ownN, owng, rfl, hN, hg⟩
      have hT6' : Sub ((tB e b { gotT s now xs with zone := zz, has := true } (p, zz.length, d) g :: (ownN ++ owng)) ++ (qB b9 rq0 :: (qB b11 rq0 :: G))) T6 := hT6.re (by intro a; simp only [tB, cnt_cons, cnt_app]; omega)
      have hszz := small_size k3
      refine (mtimes_runs hTr6 hT6' (by show zz.length ≤ _; omega) hszz).mono ?_
      rw [show timesF ({ gotT s now xs with zone := zz, has := true } : Tr).zone = timesT zz from htz]
      rintro v J7 T7 hle7 ⟨rfl, rfl⟩
      refine ⟨_, _, _, _, _, _, _, rfl, StP.at_ (add_mk _ _ _) (StP.among (L' := encT (zoneT (gotT s now xs) now zz) (p, zz.length, d) g) hT6 (Nat.le_of_ble_eq_true rfl) rfl rfl ?_)⟩
      intro T8 hT8
      have hTr8 : TrAt e b (zoneT (gotT s now xs) now zz) (tB e b (zoneT (gotT s now xs) now zz) (p, zz.length, d) g :: (ownN ++ owng)) := ⟨(p, zz.length, d), g, ownN, owng, rfl, hN, hg⟩
      have hT8' : Sub ((tB e b (zoneT (gotT s now xs) now zz) (p, zz.length, d) g :: (ownN ++ owng)) ++ (qB b9 rq0 :: (qB b11 rq0 :: G))) T8 := hT8.re (by intro a; simp only [tB, cnt_cons, cnt_app]; omega)
      refine (mtimes_runs hTr8 hT8' (by show zz.length ≤ _; omega) hszz).mono ?_
      rw [show timesF (zoneT (gotT s now xs) now zz).zone = timesT zz from htz]
      rintro v J9 T9 hle9 ⟨rfl, rfl⟩
      refine ⟨_, _, _, _, _, _, _, rfl, (mclose_runs hTr8 hT8' now _).mono ?_⟩
      rintro v J10 T10 hle10 ⟨rfl, own', ha, hs'⟩
      refine ⟨rfl, ?_⟩
      unfold bolterlaw11_model_take_b21 bolterlaw11_model_take_b22
      refine mput_none hF ha hs' ?_
      show turnT (gotT s now xs) now zz = _
      unfold turnT
      rw [turn_same (a := s.zone) (b := zz) hok.ss k1 (by omega) hf]
      rfl
end Go.Proofs.YthlkeokfmedjhaaGreat
/- The law's own model of a transfer takes an answer. -/
namespace Go.Proofs.YthlkeokfmedjhaaGreat
open Go.Px
set_option linter.unusedVariables false
set_option linter.unusedSimpArgs false

theorem mTake_runs {e : TypeId} {b : Nat} {s : Tr} {own F S : SH} {I : IMem} {m : Ms} {xs : List Rc} {now id : Int} (h : TrAt e b s own) (hs : Sub (own ++ F) S) (hok : TOK s) (hq : s.opn = true → s.q.2.1 = 6 ∨ s.q.2.1 = 251 ∨ s.q.2.1 = 252)
    (hm : s.opn = true ∧ fitsT s m = true → m.an.2.1 = xs.length ∧ RowIn I F m.an.1 xs.length 4 encR xs ∧ xs.length ≤ 10000 ∧ ∀ r ∈ xs, SmallR r) :
    Runs Tryz.prog 24 #[.pointer (some ⟨b, 0, none⟩), .int .i64 now, vM m, .int .u16 id] I S fun v _ T => TRes e b F v T (takeT s now id m xs) := by
  refine bolterlaw11_model_take_fn _ _ _ _ _ _ _ _ _ _ _ _ _ _ _ _ _ _ _ _ _ _ _ _ _ _ ?_
  unfold bolterlaw11_model_take
  intro b6 b9 b11
  refine StP.all (vs := encQ rq0) rfl rfl ?_
  have hs9 : Sub (own ++ (qB b9 rq0 :: (qB b11 rq0 :: (mB b6 m :: F)))) (qB b11 rq0 :: qB b9 rq0 :: mB b6 m :: S) := (((hs.cons (mB b6 m)).cons (qB b9 rq0)).cons (qB b11 rq0)).re (by intro a; simp only [cnt_cons, cnt_app]; omega)
  generalize hSS : (qB b11 rq0 :: qB b9 rq0 :: mB b6 m :: S) = S9 at hs9
  have hSS9 : (b11, Obj.cells (encQ rq0).toArray 34 (0, 0)) :: (b9, Obj.cells #[.int .u16 0, .int .u16 0, .bool false, .string ⟨#[]⟩, .int .u16 0, .int .u32 0, .string ⟨#[]⟩] 34 (0, 0)) :: (b6, Obj.cells #[.int .u16 m.id, .bool m.rep, .int .i64 m.op, .bool m.aut, .bool m.trunc, .bool m.des, .bool m.ava, .int .i64 m.code, .string m.qn, .int .u16 m.qt, .slice m.an.1 m.an.2.1 m.an.2.2, .slice m.auth.1 m.auth.2.1 m.auth.2.2, .slice m.ext.1 m.ext.2.1 m.ext.2.2, .int .i64 m.size] 44 (0, 0)) :: S = S9 := hSS
  rw [hSS9]
  have hF : ∀ {o T : SH}, Sub (o ++ (qB b11 rq0 :: (mB b6 m :: F))) T → Sub (o ++ F) T := fun {o T} hT => hT.re (by intro a; simp only [cnt_cons, cnt_app]; omega)
  have hzl := hok.len
  have hzs := small_size hok.small
  have h' := h
  obtain ⟨z, g, ownz, owng, rfl, hz, hg⟩ := h'
  have hzn := hz.len
  have hMs : Sub (mB b6 m :: F) S9 := hs9.right.drop.drop
  have hM : ∀ {J : IMem} (k : Nat) {v : Value}, (encM m)[k]? = some v → Cell J S9 ((⟨b6, 0, none⟩ : Addr).add k) v := fun {J} k {v} hk => Cell.at_ (a' := ⟨b6, k, none⟩) (by rw [add_mk, Nat.zero_add]) (Cell.among hMs (by rw [List.getElem?_toArray]; exact hk))
  have no : (s.opn = true ∧ fitsT s m = true → False) → bolterlaw11_model_take_b2 (fun v _ T => TRes e b F v T (takeT s now id m xs)) (some ⟨b, 0, none⟩) now id ⟨b6, 0, none⟩ ⟨b9, 0, none⟩ ⟨b11, 0, none⟩ true I S9 := by
    intro hn
    unfold bolterlaw11_model_take_b2 bolterlaw11_model_take_b3
    exact bcase_t rfl (mput_none hF h hs9 (takeT_no hn))
  have b2 : ∀ fl : Bool, (fl = false ↔ s.opn = true ∧ fitsT s m = true) → bolterlaw11_model_take_b2 (fun v _ T => TRes e b F v T (takeT s now id m xs)) (some ⟨b, 0, none⟩) now id ⟨b6, 0, none⟩ ⟨b9, 0, none⟩ ⟨b11, 0, none⟩ fl I S9 := by
    intro fl hfl
    cases fl with
    | true => exact no fun hh => by have := hfl.2 hh; cases this
    | false =>
      have hopen := hfl.1 rfl
      obtain ⟨hm1, hx, hxl, hxs⟩ := hm hopen
      unfold bolterlaw11_model_take_b2
      have b4 : ∀ bad : Bool, (bad = true ↔ (m.code ≠ 0 ∨ m.trunc = true)) → bolterlaw11_model_take_b5 (fun v _ T => TRes e b F v T (takeT s now id m xs)) (some ⟨b, 0, none⟩) now id ⟨b6, 0, none⟩ ⟨b9, 0, none⟩ ⟨b11, 0, none⟩ bad I S9 := by
        intro bad hbad
        unfold bolterlaw11_model_take_b5
        refine bcase_of (fun h2 => mput_failed hF h hok hs9 (takeT_bad hopen (hbad.1 h2))) (fun h2 => ?_)
        have hgood : ¬ (m.code ≠ 0 ∨ m.trunc = true) := fun hh => by rw [hbad.2 hh] at h2; cases h2
        unfold bolterlaw11_model_take_b6
        refine ⟨_, Cell.at_ (add2 _ _ _ _) (Cell.among hs9 rfl), ?_⟩
        by_cases h3 : s.q.2.1 = 6
        · rw [takeT_told hopen hgood h3, show (s.q.2.1 == (6 : Int)) = true from by rw [h3]; rfl]
          exact mtold_run hF h hs9 hok hm1 hx (small_size hxs)
        · rw [takeT_got hopen hgood h3, show (s.q.2.1 == (6 : Int)) = false from by rw [beq_eq_false_iff_ne]; exact h3]
          unfold bolterlaw11_model_take_b7 bolterlaw11_model_take_b15
          refine bcase_f rfl ⟨_, _, _, Cell.at_ (add_mk _ _ _) (Cell.among hs9 rfl), _, _, _, hM 10 rfl, ?_⟩
          have hgl := hok.gl
          have hgn := hg.len
          have hxr : RowIn I S9 m.an.1 m.an.2.1 4 encR xs := hm1 ▸ (hx.sub hMs.drop)
          have hgr : RowIn I S9 g.1 g.2.1 4 encR s.got := (hg.row encR_len).sub hs9.left.drop.right
          refine AppR (xs := []) (ys := s.got) (own := []) (F := S9) (Sub.refl S9) OwnR.nil hgr (by simp; omega) ?_
          intro p1 n1 c1 own1 T1 ho1 hT1
          refine ⟨Sub.keep (IMem.le.refl I) hT1.right, ?_⟩
          rw [List.nil_append] at ho1
          refine AppR (xs := s.got) (ys := xs) (own := own1) (F := S9) hT1 ho1 (hxr.sub hT1.right) (by omega) ?_
          intro p n c own' T ho hT
          have hT' := ((Sub.refl own').both hs9).trans hT
          refine StP.at_ (add_mk _ _ _) (StP.among (e := e) (L := encT s z g) (L' := encT { s with got := s.got ++ xs } z (p, n, c)) (F := ownz ++ (own' ++ (qB b9 rq0 :: (qB b11 rq0 :: (mB b6 m :: F))))) (hT'.re (by intro a; simp only [tB, cnt_cons, cnt_app]; omega)) (Nat.le_of_ble_eq_true rfl) rfl rfl ?_)
          intro T2 hT2
          exact mtake_b16 hF hok ((hq hopen.1).resolve_left h3) hz ho hT2 hxl hxs
      unfold bolterlaw11_model_take_b4
      refine bcase_f rfl ⟨_, hM 7 rfl, bcase_bne (fun h2 => b4 true ⟨fun _ => .inl h2, fun _ => rfl⟩) (fun h2 => ⟨_, hM 4 rfl, b4 _ ⟨fun h => .inr h, fun h => ?_⟩⟩)⟩
      rcases h with h | h
      · exact absurd h2 h
      · exact h
  unfold bolterlaw11_model_take_b1
  refine ⟨_, Cell.at_ (add_mk _ _ _) (Cell.among hs9 rfl), bcase_not (bcase_of (fun h1 => ?_) (fun h1 => no fun hh => by rw [hh.1] at h1; cases h1))⟩
  refine ⟨_, hM 1 rfl, bcase_not (bcase_of (fun h2 => ?_) (fun h2 => no fun hh => ?_))⟩
  · refine ⟨_, hM 0 rfl, _, Cell.at_ (add_mk _ _ _) (Cell.among hs9 rfl), bcase_bne (fun h3 => no fun hh => ?_) (fun h3 => ?_)⟩
    · have := hh.2
      unfold fitsT at this
      rw [show (m.id == s.q.1) = false from by rw [beq_eq_false_iff_ne]; exact h3] at this
      cases this
    · refine ⟨_, hM 8 rfl, _, Cell.among hs9 rfl, bcase_of (fun h4 => no fun hh => ?_) (fun h4 => ?_)⟩
      · have hne := strNe.1 h4
        have := hh.2
        unfold fitsT at this
        rw [show (m.qn == s.org) = false from by rw [← Bool.not_eq_true, ba_beq]; exact hne] at this
        simp at this
      · have heq := strNe'.1 h4
        refine ⟨_, Cell.at_ (add2 _ _ _ _) (Cell.among hMs rfl), _, Cell.at_ (add2 _ _ _ _) (Cell.among hs9 rfl), b2 _ ⟨fun h5 => ⟨h1, ?_⟩, fun hh => ?_⟩⟩
        · have h5' : m.qt = s.q.2.1 := by simpa using h5
          unfold fitsT
          have e4 : (m.qn == s.org) = true := ba_beq.2 heq
          rw [h2, h3, e4, h5']; simp
        · have := hh.2
          unfold fitsT at this
          simp only [Bool.and_eq_true, Bool.and_true] at this
          have h5 : m.qt = s.q.2.1 := by have := this.2.2.2; simpa using this
          show (m.qt != s.q.2.1) = false
          rw [h5]; simp
  · have := hh.2
    unfold fitsT at this
    rw [h2] at this
    simp at this
end Go.Proofs.YthlkeokfmedjhaaGreat
/- A transfer is as the law's own model. -/
namespace Go.Proofs.YthlkeokfmedjhaaGreat
open Go.Px
set_option linter.unusedVariables false
set_option linter.unusedSimpArgs false

theorem strEq_self' (o : ByteArray) : (o == o) = true := ba_beq.2 rfl
theorem agrees_runs {e1 e2 : TypeId} {b1 b2 : Nat} {s : Tr} {own1 own2 F S : SH} {I : IMem} (h1 : TrAt e1 b1 s own1) (h2 : TrAt e2 b2 s own2) (hs : Sub (own1 ++ (own2 ++ F)) S) (hl : s.zone.length ≤ 100000) (now : Int) :
    Runs Tryz.prog 18 #[.pointer (some ⟨b2, 0, none⟩), .pointer (some ⟨b1, 0, none⟩), .int .i64 now] I S fun v _ T => v = .bool true ∧ T = S := by
  refine Runs.drop (bolterlaw11_model_agrees_fn _ _ _ _ _ _ ?_)
  unfold bolterlaw11_model_agrees
  refine (Open_runs h1 hs).mono ?_
  rintro v J1 T1 hle1 ⟨rfl, rfl⟩
  refine ⟨_, _, _, _, _, _, _, _, rfl, fun b7 => StP.all (vs := encQ (openT s).1) rfl rfl ?_⟩
  have hs7 : Sub (own1 ++ (own2 ++ F)) (qB b7 (openT s).1 :: T1) := hs.skip _
  have h1' := h1
  obtain ⟨z1, g1, oz1, og1, rfl, hz1, hg1⟩ := h1'
  have h2' := h2
  obtain ⟨z2, g2, oz2, og2, rfl, hz2, hg2⟩ := h2'
  have hA : Sub (tB e1 b1 s z1 g1 :: (oz1 ++ og1)) (qB b7 (openT s).1 :: T1) := hs7.left
  have hB : Sub (tB e2 b2 s z2 g2 :: (oz2 ++ og2)) (qB b7 (openT s).1 :: T1) := hs7.right.left
  have l1 : z1.2.1 = s.zone.length := hz1.len
  have l2 : z2.2.1 = s.zone.length := hz2.len
  have same : ∀ J T, J1.le J → Runs Tryz.prog 15 #[.slice z1.1 z1.2.1 z1.2.2, .slice z2.1 z2.2.1 z2.2.2] J (T ++ (qB b7 (openT s).1 :: T1)) fun v' _ T' => v' = .bool true ∧ T' = T ++ (qB b7 (openT s).1 :: T1) := by
    intro J T hJ
    have r1 : RowIn J (T ++ (qB b7 (openT s).1 :: T1)) z1.1 s.zone.length 4 encR s.zone := l1 ▸ ((hz1.row encR_len).sub (hA.drop.left.trans (Sub.refl (T ++ (qB b7 (openT s).1 :: T1))).right))
    have r2 : RowIn J (T ++ (qB b7 (openT s).1 :: T1)) z2.1 s.zone.length 4 encR s.zone := l2 ▸ ((hz2.row encR_len).sub (hB.drop.left.trans (Sub.refl (T ++ (qB b7 (openT s).1 :: T1))).right))
    rw [l1, l2]
    refine (Same_runs r1 r2 (by omega)).mono ?_
    rintro v J3 T3 hle3 ⟨⟨f, rfl, hf⟩, rfl⟩
    have hft : f = true := hf.2 rfl
    subst hft
    exact ⟨rfl, rfl⟩
  have fin : ∀ {J : IMem}, J1.le J → Runs Tryz.prog 16 #[.pointer (some ⟨b1, 0, none⟩), .int .i64 now] J (qB b7 (openT s).1 :: T1) fun v I1 S1 => v = .bool (liveT s now) ∧ S1 = (qB b7 (openT s).1 :: T1) := fun {J} _ => Live_runs h1 hs7 now
  have live : ∃ x91, Cell J1 (qB b7 (openT s).1 :: T1) ((⟨b2, 0, none⟩ : Addr).add 2) (.bool x91) ∧ Runs Tryz.prog 16 #[.pointer (some ⟨b1, 0, none⟩), .int .i64 now] J1 (qB b7 (openT s).1 :: T1) fun v I1 S1 => ∃ x87, v = .bool x87 ∧ Keep J1 (qB b7 (openT s).1 :: T1) I1 S1 ∧
      bcase x91 (∃ x97, Cell J1 (qB b7 (openT s).1 :: T1) ((⟨b2, 0, none⟩ : Addr).add 4) (.int .i64 x97) ∧ bolterlaw11_model_agrees_b2 (fun v _ T => ∃ S', Sub S' T ∧ v = .bool true ∧ S' = T1) (x87 == (decide (now < x97))) I1 S1) (bolterlaw11_model_agrees_b2 (fun v _ T => ∃ S', Sub S' T ∧ v = .bool true ∧ S' = T1) (x87 == false) I1 S1) := by
    refine ⟨s.has, Cell.at_ (add_mk _ _ _) (Cell.among hB rfl), (fin (IMem.le.refl J1)).mono ?_⟩
    rintro v J2 T2 hle2 ⟨rfl, rfl⟩
    refine ⟨_, rfl, ⟨hle2, [], List.Perm.refl _⟩, ?_⟩
    unfold bolterlaw11_model_agrees_b2
    refine bcase_of (fun hh => ⟨s.over, Cell.at_ (add_mk _ _ _) (Cell.among hB rfl), T1, (Sub.refl T1).skip _, ?_, rfl⟩) (fun hh => ⟨T1, (Sub.refl T1).skip _, ?_, rfl⟩)
    · unfold liveT; rw [hh]; simp
    · unfold liveT; rw [hh]; simp
  unfold bolterlaw11_model_agrees_b1
  refine ⟨_, _, _, Cell.at_ (add_mk _ _ _) (Cell.among hA rfl), _, _, _, Cell.at_ (add_mk _ _ _) (Cell.among hB rfl), true, same, bcase_t rfl ⟨_, Cell.at_ (add_mk _ _ _) (Cell.among hA rfl), _, Cell.at_ (add_mk _ _ _) (Cell.among hB rfl), bcase_t (beq_self_eq_true _) ⟨_, Cell.at_ (add_mk _ _ _) (Cell.among hA rfl), _, Cell.at_ (add_mk _ _ _) (Cell.among hB rfl), bcase_t (beq_self_eq_true _) ⟨_, Cell.at_ (add_mk _ _ _) (Cell.among hA rfl), _, Cell.at_ (add_mk _ _ _) (Cell.among hB rfl), bcase_t (beq_self_eq_true _) ⟨_, Cell.at_ (add_mk _ _ _) (Cell.among hB rfl), ?_⟩⟩⟩⟩⟩
  have h2e : (openT s).2 = s.opn := by unfold openT; cases s.opn <;> rfl
  refine bcase_t (by rw [h2e]; exact beq_self_eq_true _) (bcase_not (bcase_of (fun ht => ?_) (fun hf => ?_)))
  · have hq : (openT s).1 = s.q := by unfold openT; rw [if_pos (h2e ▸ ht)]
    refine ⟨_, Cell.at0 rfl, _, Cell.at0 rfl, _, Cell.at0 rfl, _, Cell.at0 rfl, _, Cell.at0 rfl, _, Cell.at0 rfl, _, Cell.at0 rfl, _, Cell.at_ (add_mk _ _ _) (Cell.among hB rfl), _, Cell.at_ (add2 _ _ _ _) (Cell.among hB rfl), _, Cell.at_ (add2 _ _ _ _) (Cell.among hB rfl), _, Cell.at_ (add2 _ _ _ _) (Cell.among hB rfl), _, Cell.at_ (add2 _ _ _ _) (Cell.among hB rfl), _, Cell.at_ (add2 _ _ _ _) (Cell.among hB rfl), _, Cell.at_ (add2 _ _ _ _) (Cell.among hB rfl), ?_⟩
    exact bcase_t (by rw [hq]; simp only [beq_self_eq_true, strEq_self', Bool.and_self]) (bcase_t ht live)
  · have hq : (openT s).1 = rq0 := by unfold openT; rw [if_neg (by rw [← h2e, hf]; exact Bool.false_ne_true)]
    refine bcase_f hf ⟨_, Cell.at0 rfl, _, Cell.at0 rfl, _, Cell.at0 rfl, _, Cell.at0 rfl, _, Cell.at0 rfl, _, Cell.at0 rfl, _, Cell.at0 rfl, ?_⟩
    exact bcase_t (by rw [hq]; rfl) live
end Go.Proofs.YthlkeokfmedjhaaGreat
