import Derived.Test.YthlkeokfmedjhaaGreatProg
import Derived.Test.YthlkeokfmedjhaaGreatM1TransferScript
import Derived.Test.YthlkeokfmedjhaaGreatM2TransferScript
import Derived.Test.YthlkeokfmedjhaaGreatM3TransferScript
import Derived.Test.YthlkeokfmedjhaaGreatM4TransferScript
import Derived.Test.YthlkeokfmedjhaaGreatM5TransferScript
set_option linter.unusedVariables false
set_option maxRecDepth 8000
set_option maxHeartbeats 2000000
namespace Go.Proofs.YthlkeokfmedjhaaGreat
open Go.Px
/-! ### transfer_Of: function 9, bolter/transfer.Of -/
noncomputable def transfer_Of_code : Code := (Tryz.f9.body).getD .skip
def transfer_Of (R : Value → IMem → SH → Prop) (origin_0 : ByteArray) (I : IMem) (S : SH) : Prop :=
  ∀ b5 : Nat,
  R (.pointer (some ⟨b5, 0, none⟩)) I ((b5, .cells #[.string origin_0, .slice none 0 0, .bool false, .int .i64 0, .int .i64 0, .int .u16 0, .int .u16 0, .bool false, .string ⟨#[]⟩, .int .u16 0, .int .u32 0, .string ⟨#[]⟩, .bool false, .int .i64 0, .slice none 0 0] 52 (0, 0)) :: S)
theorem transfer_Of_fn (R : Value → IMem → SH → Prop) (origin_0 : ByteArray) (I : IMem) (S : SH) (h : transfer_Of R origin_0 I S) :
    Runs Tryz.prog 9 #[.string origin_0] I S R := by
  refine Runs.of_wp (args := [.string origin_0]) (c := transfer_Of_code) Tryz.func9 (by kernel_rfl) (by kernel_rfl) ?_
  exact Pre.sound _ _ _ _ _ (cast (by kernel_rfl) h)
/-! ### transfer_Transfer_Tick: function 10, (*bolter/transfer.Transfer).Tick -/
noncomputable def transfer_Transfer_Tick_code : Code := (Tryz.f10.body).getD .skip
def transfer_Transfer_Tick_b5 (R : Value → IMem → SH → Prop) (t_0 : Option Addr) (now_1 : Int) (id_2 : Int) (x6 : Addr) (I : IMem) (S : SH) : Prop :=
  ptrP t_0 fun x40 =>
  ∃ x42, Cell I S (x40.add 2) (.bool x42) ∧
  bcase (!x42)
    (Runs Tryz.prog 28 #[.pointer t_0, .int .i64 now_1, .int .u16 id_2, .int .u16 252] I S fun v I1 S1 => ∃ x47_0 x47_1 x47_2 x47_3 x47_4 x47_5 x47_6, v = .agg #[.int .u16 x47_0, .int .u16 x47_1, .bool x47_2, .string x47_3, .int .u16 x47_4, .int .u32 x47_5, .string x47_6] ∧
    StP S1 x6 [.int .u16 x47_0, .int .u16 x47_1, .bool x47_2, .string x47_3, .int .u16 x47_4, .int .u32 x47_5, .string x47_6] fun S1' =>
    ∃ r6_0, Cell I1 S1' x6 (.int .u16 r6_0) ∧
    ∃ r6_1, Cell I1 S1' (x6.add 1) (.int .u16 r6_1) ∧
    ∃ r6_2, Cell I1 S1' (x6.add 2) (.bool r6_2) ∧
    ∃ r6_3, Cell I1 S1' (x6.add 3) (.string r6_3) ∧
    ∃ r6_4, Cell I1 S1' (x6.add 4) (.int .u16 r6_4) ∧
    ∃ r6_5, Cell I1 S1' (x6.add 5) (.int .u32 r6_5) ∧
    ∃ r6_6, Cell I1 S1' (x6.add 6) (.string r6_6) ∧
    R (.tuple #[.agg #[.int .u16 r6_0, .int .u16 r6_1, .bool r6_2, .string r6_3, .int .u16 r6_4, .int .u32 r6_5, .string r6_6], .bool true]) I1 S1')
    (Runs Tryz.prog 28 #[.pointer t_0, .int .i64 now_1, .int .u16 id_2, .int .u16 6] I S fun v' I1' S1'' => ∃ x51_0 x51_1 x51_2 x51_3 x51_4 x51_5 x51_6, v' = .agg #[.int .u16 x51_0, .int .u16 x51_1, .bool x51_2, .string x51_3, .int .u16 x51_4, .int .u32 x51_5, .string x51_6] ∧
    StP S1'' x6 [.int .u16 x51_0, .int .u16 x51_1, .bool x51_2, .string x51_3, .int .u16 x51_4, .int .u32 x51_5, .string x51_6] fun S1_r3 =>
    ∃ r6_0', Cell I1' S1_r3 x6 (.int .u16 r6_0') ∧
    ∃ r6_1', Cell I1' S1_r3 (x6.add 1) (.int .u16 r6_1') ∧
    ∃ r6_2', Cell I1' S1_r3 (x6.add 2) (.bool r6_2') ∧
    ∃ r6_3', Cell I1' S1_r3 (x6.add 3) (.string r6_3') ∧
    ∃ r6_4', Cell I1' S1_r3 (x6.add 4) (.int .u16 r6_4') ∧
    ∃ r6_5', Cell I1' S1_r3 (x6.add 5) (.int .u32 r6_5') ∧
    ∃ r6_6', Cell I1' S1_r3 (x6.add 6) (.string r6_6') ∧
    R (.tuple #[.agg #[.int .u16 r6_0', .int .u16 r6_1', .bool r6_2', .string r6_3', .int .u16 r6_4', .int .u32 r6_5', .string r6_6'], .bool true]) I1' S1_r3)
def transfer_Transfer_Tick_b4 (R : Value → IMem → SH → Prop) (t_0 : Option Addr) (now_1 : Int) (id_2 : Int) (x6 : Addr) (x37 : Bool) (I : IMem) (S : SH) : Prop :=
  bcase x37
    (StP S x6 [.int .u16 0, .int .u16 0, .bool false, .string ⟨#[]⟩, .int .u16 0, .int .u32 0, .string ⟨#[]⟩] fun S1 =>
    ∃ r6_0, Cell I S1 x6 (.int .u16 r6_0) ∧
    ∃ r6_1, Cell I S1 (x6.add 1) (.int .u16 r6_1) ∧
    ∃ r6_2, Cell I S1 (x6.add 2) (.bool r6_2) ∧
    ∃ r6_3, Cell I S1 (x6.add 3) (.string r6_3) ∧
    ∃ r6_4, Cell I S1 (x6.add 4) (.int .u16 r6_4) ∧
    ∃ r6_5, Cell I S1 (x6.add 5) (.int .u32 r6_5) ∧
    ∃ r6_6, Cell I S1 (x6.add 6) (.string r6_6) ∧
    R (.tuple #[.agg #[.int .u16 r6_0, .int .u16 r6_1, .bool r6_2, .string r6_3, .int .u16 r6_4, .int .u32 r6_5, .string r6_6], .bool false]) I S1)
    (transfer_Transfer_Tick_b5 R t_0 now_1 id_2 x6 I S)
def transfer_Transfer_Tick_b3 (R : Value → IMem → SH → Prop) (t_0 : Option Addr) (now_1 : Int) (id_2 : Int) (x6 : Addr) (I : IMem) (S : SH) : Prop :=
  ptrP t_0 fun x27 =>
  ∃ x29, Cell I S (x27.add 12) (.bool x29) ∧
  bcase x29
    (transfer_Transfer_Tick_b4 R t_0 now_1 id_2 x6 true I S)
    (ptrP t_0 fun x33 =>
    ∃ x35, Cell I S (x33.add 3) (.int .i64 x35) ∧
    transfer_Transfer_Tick_b4 R t_0 now_1 id_2 x6 (decide (now_1 < x35)) I S)
def transfer_Transfer_Tick_b2 (R : Value → IMem → SH → Prop) (t_0 : Option Addr) (now_1 : Int) (id_2 : Int) (x6 : Addr) (x19 : Bool) (I : IMem) (S : SH) : Prop :=
  bcase x19
    (Runs Tryz.prog 27 #[.pointer t_0] I S fun v I1 S1 => ∃ x23_0 x23_1 x23_2 x23_3 x23_4 x23_5 x23_6, v = .agg #[.string x23_0, .string x23_1, .int .u32 x23_2, .int .u32 x23_3, .int .u32 x23_4, .int .u32 x23_5, .int .u32 x23_6] ∧
    Runs Tryz.prog 26 #[.pointer t_0, .int .i64 now_1, .int .u32 x23_4] I1 S1 fun v' I1' S1' => v' = .tuple #[] ∧
    transfer_Transfer_Tick_b3 R t_0 now_1 id_2 x6 I1' S1')
    (transfer_Transfer_Tick_b3 R t_0 now_1 id_2 x6 I S)
def transfer_Transfer_Tick_b1 (R : Value → IMem → SH → Prop) (t_0 : Option Addr) (now_1 : Int) (id_2 : Int) (x6 : Addr) (I : IMem) (S : SH) : Prop :=
  ptrP t_0 fun x9 =>
  ∃ x11, Cell I S (x9.add 12) (.bool x11) ∧
  bcase x11
    (ptrP t_0 fun x15 =>
    ∃ x17, Cell I S (x15.add 13) (.int .i64 x17) ∧
    transfer_Transfer_Tick_b2 R t_0 now_1 id_2 x6 (decide (now_1 ≥ x17)) I S)
    (transfer_Transfer_Tick_b2 R t_0 now_1 id_2 x6 false I S)
def transfer_Transfer_Tick (R : Value → IMem → SH → Prop) (t_0 : Option Addr) (now_1 : Int) (id_2 : Int) (I : IMem) (S : SH) : Prop :=
  ∀ b6 : Nat,
  transfer_Transfer_Tick_b1 R t_0 now_1 id_2 ⟨b6, 0, none⟩ I ((b6, .cells #[.int .u16 0, .int .u16 0, .bool false, .string ⟨#[]⟩, .int .u16 0, .int .u32 0, .string ⟨#[]⟩] 34 (0, 0)) :: S)
theorem transfer_Transfer_Tick_fn (R : Value → IMem → SH → Prop) (t_0 : Option Addr) (now_1 : Int) (id_2 : Int) (I : IMem) (S : SH) (h : transfer_Transfer_Tick R t_0 now_1 id_2 I S) :
    Runs Tryz.prog 10 #[.pointer t_0, .int .i64 now_1, .int .u16 id_2] I S R := by
  refine Runs.of_wp (args := [.pointer t_0, .int .i64 now_1, .int .u16 id_2]) (c := transfer_Transfer_Tick_code) Tryz.func10 (by kernel_rfl) (by kernel_rfl) ?_
  refine WP.cut 1 (fun l I S => asPtr (l 0) fun t_0 => asI .i64 (l 1) fun now_1 => asI .u16 (l 2) fun id_2 => asAdr (l 6) fun x6 => transfer_Transfer_Tick_b1 R t_0 now_1 id_2 x6 I S) (cast (by kernel_rfl) h) ?_
  clear h
  intro l I S _ h
  obtain ⟨t_0, e0, h⟩ := asPtr_e h
  obtain ⟨now_1, e1, h⟩ := asI_e h
  obtain ⟨id_2, e2, h⟩ := asI_e h
  obtain ⟨x6, e6, h⟩ := asAdr_e h
  rw [upd_eta e0, upd_eta e1, upd_eta e2, upd_eta e6]
  refine WP.seqY (by kernel_rfl) (fun l I S => asPtr (l 0) fun t_0 => asI .i64 (l 1) fun now_1 => asI .u16 (l 2) fun id_2 => asAdr (l 6) fun x6 => transfer_Transfer_Tick_b3 R t_0 now_1 id_2 x6 I S) ?_ ?_
  ·
    refine WP.cut 1 (fun l I S => asPtr (l 0) fun t_0 => asI .i64 (l 1) fun now_1 => asI .u16 (l 2) fun id_2 => asAdr (l 6) fun x6 => asB (l 19) fun x19 => transfer_Transfer_Tick_b2 R t_0 now_1 id_2 x6 x19 I S) (cast (by kernel_rfl) h) ?_
    clear h
    intro l I S _ h
    obtain ⟨t_0, e0, h⟩ := asPtr_e h
    obtain ⟨now_1, e1, h⟩ := asI_e h
    obtain ⟨id_2, e2, h⟩ := asI_e h
    obtain ⟨x6, e6, h⟩ := asAdr_e h
    obtain ⟨x19, e19, h⟩ := asB_e h
    rw [upd_eta e0, upd_eta e1, upd_eta e2, upd_eta e6, upd_eta e19]
    exact Pre.sound _ _ _ _ _ (cast (by kernel_rfl) h)
  · clear h
    intro l I S _ h
    obtain ⟨t_0, e0, h⟩ := asPtr_e h
    obtain ⟨now_1, e1, h⟩ := asI_e h
    obtain ⟨id_2, e2, h⟩ := asI_e h
    obtain ⟨x6, e6, h⟩ := asAdr_e h
    rw [upd_eta e0, upd_eta e1, upd_eta e2, upd_eta e6]
    refine WP.seqY (by kernel_rfl) (fun l I S => asPtr (l 0) fun t_0 => asI .i64 (l 1) fun now_1 => asI .u16 (l 2) fun id_2 => asAdr (l 6) fun x6 => transfer_Transfer_Tick_b5 R t_0 now_1 id_2 x6 I S) ?_ ?_
    ·
      refine WP.cut 1 (fun l I S => asPtr (l 0) fun t_0 => asI .i64 (l 1) fun now_1 => asI .u16 (l 2) fun id_2 => asAdr (l 6) fun x6 => asB (l 37) fun x37 => transfer_Transfer_Tick_b4 R t_0 now_1 id_2 x6 x37 I S) (cast (by kernel_rfl) h) ?_
      clear h
      intro l I S _ h
      obtain ⟨t_0, e0, h⟩ := asPtr_e h
      obtain ⟨now_1, e1, h⟩ := asI_e h
      obtain ⟨id_2, e2, h⟩ := asI_e h
      obtain ⟨x6, e6, h⟩ := asAdr_e h
      obtain ⟨x37, e37, h⟩ := asB_e h
      rw [upd_eta e0, upd_eta e1, upd_eta e2, upd_eta e6, upd_eta e37]
      exact Pre.sound _ _ _ _ _ (cast (by kernel_rfl) h)
    · clear h
      intro l I S _ h
      obtain ⟨t_0, e0, h⟩ := asPtr_e h
      obtain ⟨now_1, e1, h⟩ := asI_e h
      obtain ⟨id_2, e2, h⟩ := asI_e h
      obtain ⟨x6, e6, h⟩ := asAdr_e h
      rw [upd_eta e0, upd_eta e1, upd_eta e2, upd_eta e6]
      exact Pre.sound _ _ _ _ _ (cast (by kernel_rfl) h)
/-! ### transfer_Transfer_Take: function 13, (*bolter/transfer.Transfer).Take -/
noncomputable def transfer_Transfer_Take_code : Code := (Tryz.f13.body).getD .skip
def transfer_Transfer_Take_b6 (R : Value → IMem → SH → Prop) (t_0 : Option Addr) (now_1 : Int) (id_3 : Int) (x9 : Addr) (I : IMem) (S : SH) : Prop :=
  ptrP t_0 fun x101 =>
  StP S (x101.add 13) [.int .i64 (IntKind.wrap .i64 (now_1 + (4 : Int)))] fun S1 =>
  ptrP t_0 fun x105 =>
  ∃ x107 x107n x107c, Cell I S1 (x105.add 14) (.slice x107 x107n x107c) ∧
  bcase (decide ((x107n : Int) > (1024 : Int)))
    (Runs Tryz.prog 30 #[.pointer t_0, .int .i64 now_1, .int .u16 id_3] I S1 fun v I1 S1' => ∃ x113_0 x113_1_0 x113_1_1 x113_1_2 x113_1_3 x113_1_4 x113_1_5 x113_1_6 x113_2, v = .tuple #[.bool x113_0, .agg #[.int .u16 x113_1_0, .int .u16 x113_1_1, .bool x113_1_2, .string x113_1_3, .int .u16 x113_1_4, .int .u32 x113_1_5, .string x113_1_6], .bool x113_2] ∧
    StP S1' x9 [.int .u16 x113_1_0, .int .u16 x113_1_1, .bool x113_1_2, .string x113_1_3, .int .u16 x113_1_4, .int .u32 x113_1_5, .string x113_1_6] fun S1'' =>
    ∃ r9_0, Cell I1 S1'' x9 (.int .u16 r9_0) ∧
    ∃ r9_1, Cell I1 S1'' (x9.add 1) (.int .u16 r9_1) ∧
    ∃ r9_2, Cell I1 S1'' (x9.add 2) (.bool r9_2) ∧
    ∃ r9_3, Cell I1 S1'' (x9.add 3) (.string r9_3) ∧
    ∃ r9_4, Cell I1 S1'' (x9.add 4) (.int .u16 r9_4) ∧
    ∃ r9_5, Cell I1 S1'' (x9.add 5) (.int .u32 r9_5) ∧
    ∃ r9_6, Cell I1 S1'' (x9.add 6) (.string r9_6) ∧
    R (.tuple #[.bool x113_0, .agg #[.int .u16 r9_0, .int .u16 r9_1, .bool r9_2, .string r9_3, .int .u16 r9_4, .int .u32 r9_5, .string r9_6], .bool x113_2]) I1 S1'')
    (ptrP t_0 fun x119 =>
    ∃ x121 x121n x121c, Cell I S1 (x119.add 14) (.slice x121 x121n x121c) ∧
    Runs Tryz.prog 32 #[.slice x121 x121n x121c] I S1 fun v' I1' S1_r3 => ∃ x122, v' = .bool x122 ∧
    bcase (!x122)
      (StP S1_r3 x9 [.int .u16 0, .int .u16 0, .bool false, .string ⟨#[]⟩, .int .u16 0, .int .u32 0, .string ⟨#[]⟩] fun S1_r4 =>
      ∃ r9_0', Cell I1' S1_r4 x9 (.int .u16 r9_0') ∧
      ∃ r9_1', Cell I1' S1_r4 (x9.add 1) (.int .u16 r9_1') ∧
      ∃ r9_2', Cell I1' S1_r4 (x9.add 2) (.bool r9_2') ∧
      ∃ r9_3', Cell I1' S1_r4 (x9.add 3) (.string r9_3') ∧
      ∃ r9_4', Cell I1' S1_r4 (x9.add 4) (.int .u16 r9_4') ∧
      ∃ r9_5', Cell I1' S1_r4 (x9.add 5) (.int .u32 r9_5') ∧
      ∃ r9_6', Cell I1' S1_r4 (x9.add 6) (.string r9_6') ∧
      R (.tuple #[.bool false, .agg #[.int .u16 r9_0', .int .u16 r9_1', .bool r9_2', .string r9_3', .int .u16 r9_4', .int .u32 r9_5', .string r9_6'], .bool false]) I1' S1_r4)
      (Runs Tryz.prog 33 #[.pointer t_0] I1' S1_r3 fun v'' I1'' S1_r5 => ∃ x127_0 x127_0n x127_0c x127_1, v'' = .tuple #[.slice x127_0 x127_0n x127_0c, x127_1] ∧
      ∃ nl, isNilI x127_1 = some nl ∧
      bcase (!nl)
        (Runs Tryz.prog 30 #[.pointer t_0, .int .i64 now_1, .int .u16 id_3] I1'' S1_r5 fun v_r3 I1_r3 S1_r6 => ∃ x135_0 x135_1_0 x135_1_1 x135_1_2 x135_1_3 x135_1_4 x135_1_5 x135_1_6 x135_2, v_r3 = .tuple #[.bool x135_0, .agg #[.int .u16 x135_1_0, .int .u16 x135_1_1, .bool x135_1_2, .string x135_1_3, .int .u16 x135_1_4, .int .u32 x135_1_5, .string x135_1_6], .bool x135_2] ∧
        StP S1_r6 x9 [.int .u16 x135_1_0, .int .u16 x135_1_1, .bool x135_1_2, .string x135_1_3, .int .u16 x135_1_4, .int .u32 x135_1_5, .string x135_1_6] fun S1_r7 =>
        ∃ r9_0'', Cell I1_r3 S1_r7 x9 (.int .u16 r9_0'') ∧
        ∃ r9_1'', Cell I1_r3 S1_r7 (x9.add 1) (.int .u16 r9_1'') ∧
        ∃ r9_2'', Cell I1_r3 S1_r7 (x9.add 2) (.bool r9_2'') ∧
        ∃ r9_3'', Cell I1_r3 S1_r7 (x9.add 3) (.string r9_3'') ∧
        ∃ r9_4'', Cell I1_r3 S1_r7 (x9.add 4) (.int .u16 r9_4'') ∧
        ∃ r9_5'', Cell I1_r3 S1_r7 (x9.add 5) (.int .u32 r9_5'') ∧
        ∃ r9_6'', Cell I1_r3 S1_r7 (x9.add 6) (.string r9_6'') ∧
        R (.tuple #[.bool x135_0, .agg #[.int .u16 r9_0'', .int .u16 r9_1'', .bool r9_2'', .string r9_3'', .int .u16 r9_4'', .int .u32 r9_5'', .string r9_6''], .bool x135_2]) I1_r3 S1_r7)
        (ptrP t_0 fun x141 =>
        ∃ x143 x143n x143c, Cell I1'' S1_r5 (x141.add 1) (.slice x143 x143n x143c) ∧
        Runs Tryz.prog 34 #[.slice x143 x143n x143c, .slice x127_0 x127_0n x127_0c] I1'' S1_r5 fun v_r4 I1_r4 S1_r8 => ∃ x145_0 x145_0n x145_0c x145_1 x145_1n x145_1c, v_r4 = .tuple #[.slice x145_0 x145_0n x145_0c, .slice x145_1 x145_1n x145_1c] ∧
        ptrP t_0 fun x151 =>
        StP S1_r8 (x151.add 1) [.slice x127_0 x127_0n x127_0c] fun S1_r9 =>
        ptrP t_0 fun x153 =>
        StP S1_r9 (x153.add 2) [.bool true] fun S1_r10 =>
        Runs Tryz.prog 27 #[.pointer t_0] I1_r4 S1_r10 fun v_r5 I1_r5 S1_r11 => ∃ x158_0 x158_1 x158_2 x158_3 x158_4 x158_5 x158_6, v_r5 = .agg #[.string x158_0, .string x158_1, .int .u32 x158_2, .int .u32 x158_3, .int .u32 x158_4, .int .u32 x158_5, .int .u32 x158_6] ∧
        ptrP t_0 fun x162 =>
        StP S1_r11 (x162.add 4) [.int .i64 (IntKind.wrap .i64 (now_1 + (IntKind.wrap .i64 x158_5)))] fun S1_r12 =>
        Runs Tryz.prog 27 #[.pointer t_0] I1_r5 S1_r12 fun v_r6 I1_r6 S1_r13 => ∃ x167_0 x167_1 x167_2 x167_3 x167_4 x167_5 x167_6, v_r6 = .agg #[.string x167_0, .string x167_1, .int .u32 x167_2, .int .u32 x167_3, .int .u32 x167_4, .int .u32 x167_5, .int .u32 x167_6] ∧
        Runs Tryz.prog 26 #[.pointer t_0, .int .i64 now_1, .int .u32 x167_3] I1_r6 S1_r13 fun v_r7 I1_r7 S1_r14 => v_r7 = .tuple #[] ∧
        StP S1_r14 x9 [.int .u16 0, .int .u16 0, .bool false, .string ⟨#[]⟩, .int .u16 0, .int .u32 0, .string ⟨#[]⟩] fun S1_r15 =>
        ∃ r9_0_r3, Cell I1_r7 S1_r15 x9 (.int .u16 r9_0_r3) ∧
        ∃ r9_1_r3, Cell I1_r7 S1_r15 (x9.add 1) (.int .u16 r9_1_r3) ∧
        ∃ r9_2_r3, Cell I1_r7 S1_r15 (x9.add 2) (.bool r9_2_r3) ∧
        ∃ r9_3_r3, Cell I1_r7 S1_r15 (x9.add 3) (.string r9_3_r3) ∧
        ∃ r9_4_r3, Cell I1_r7 S1_r15 (x9.add 4) (.int .u16 r9_4_r3) ∧
        ∃ r9_5_r3, Cell I1_r7 S1_r15 (x9.add 5) (.int .u32 r9_5_r3) ∧
        ∃ r9_6_r3, Cell I1_r7 S1_r15 (x9.add 6) (.string r9_6_r3) ∧
        R (.tuple #[.bool (decide ((IntKind.wrap .i64 ((x145_0n : Int) + (x145_1n : Int))) > (0 : Int))), .agg #[.int .u16 r9_0_r3, .int .u16 r9_1_r3, .bool r9_2_r3, .string r9_3_r3, .int .u16 r9_4_r3, .int .u32 r9_5_r3, .string r9_6_r3], .bool false]) I1_r7 S1_r15)))
def transfer_Transfer_Take_b5 (R : Value → IMem → SH → Prop) (t_0 : Option Addr) (now_1 : Int) (id_3 : Int) (m_6 : Addr) (x9 : Addr) (I : IMem) (S : SH) : Prop :=
  ptrP t_0 fun x90 =>
  ∃ x92 x92n x92c, Cell I S (x90.add 14) (.slice x92 x92n x92c) ∧
  ∃ x94 x94n x94c, Cell I S (m_6.add 10) (.slice x94 x94n x94c) ∧
  AppG 32 4 40 [.string ⟨#[]⟩, .int .u16 0, .int .u32 0, .string ⟨#[]⟩] (some (.slice 32)) I S (.slice x92 x92n x92c) (.slice x94 x94n x94c) fun x95 x95n x95c S1 =>
  ptrP t_0 fun x96 =>
  StP S1 (x96.add 14) [.slice x95 x95n x95c] fun S1' =>
  transfer_Transfer_Take_b6 R t_0 now_1 id_3 x9 I S1'
def transfer_Transfer_Take_b4 (R : Value → IMem → SH → Prop) (t_0 : Option Addr) (now_1 : Int) (id_3 : Int) (m_6 : Addr) (x9 : Addr) (x56 : Bool) (I : IMem) (S : SH) : Prop :=
  bcase x56
    (Runs Tryz.prog 30 #[.pointer t_0, .int .i64 now_1, .int .u16 id_3] I S fun v I1 S1 => ∃ x69_0 x69_1_0 x69_1_1 x69_1_2 x69_1_3 x69_1_4 x69_1_5 x69_1_6 x69_2, v = .tuple #[.bool x69_0, .agg #[.int .u16 x69_1_0, .int .u16 x69_1_1, .bool x69_1_2, .string x69_1_3, .int .u16 x69_1_4, .int .u32 x69_1_5, .string x69_1_6], .bool x69_2] ∧
    StP S1 x9 [.int .u16 x69_1_0, .int .u16 x69_1_1, .bool x69_1_2, .string x69_1_3, .int .u16 x69_1_4, .int .u32 x69_1_5, .string x69_1_6] fun S1' =>
    ∃ r9_0, Cell I1 S1' x9 (.int .u16 r9_0) ∧
    ∃ r9_1, Cell I1 S1' (x9.add 1) (.int .u16 r9_1) ∧
    ∃ r9_2, Cell I1 S1' (x9.add 2) (.bool r9_2) ∧
    ∃ r9_3, Cell I1 S1' (x9.add 3) (.string r9_3) ∧
    ∃ r9_4, Cell I1 S1' (x9.add 4) (.int .u16 r9_4) ∧
    ∃ r9_5, Cell I1 S1' (x9.add 5) (.int .u32 r9_5) ∧
    ∃ r9_6, Cell I1 S1' (x9.add 6) (.string r9_6) ∧
    R (.tuple #[.bool x69_0, .agg #[.int .u16 r9_0, .int .u16 r9_1, .bool r9_2, .string r9_3, .int .u16 r9_4, .int .u32 r9_5, .string r9_6], .bool x69_2]) I1 S1')
    (ptrP t_0 fun x75 =>
    ∃ x78, Cell I S ((x75.add 5).add 1) (.int .u16 x78) ∧
    bcase (x78 == (6 : Int))
      (∃ x82_0, Cell I S m_6 (.int .u16 x82_0) ∧
      ∃ x82_1, Cell I S (m_6.add 1) (.bool x82_1) ∧
      ∃ x82_2, Cell I S (m_6.add 2) (.int .i64 x82_2) ∧
      ∃ x82_3, Cell I S (m_6.add 3) (.bool x82_3) ∧
      ∃ x82_4, Cell I S (m_6.add 4) (.bool x82_4) ∧
      ∃ x82_5, Cell I S (m_6.add 5) (.bool x82_5) ∧
      ∃ x82_6, Cell I S (m_6.add 6) (.bool x82_6) ∧
      ∃ x82_7, Cell I S (m_6.add 7) (.int .i64 x82_7) ∧
      ∃ x82_8, Cell I S (m_6.add 8) (.string x82_8) ∧
      ∃ x82_9, Cell I S (m_6.add 9) (.int .u16 x82_9) ∧
      ∃ x82_10 x82_10n x82_10c, Cell I S (m_6.add 10) (.slice x82_10 x82_10n x82_10c) ∧
      ∃ x82_11 x82_11n x82_11c, Cell I S (m_6.add 11) (.slice x82_11 x82_11n x82_11c) ∧
      ∃ x82_12 x82_12n x82_12c, Cell I S (m_6.add 12) (.slice x82_12 x82_12n x82_12c) ∧
      ∃ x82_13, Cell I S (m_6.add 13) (.int .i64 x82_13) ∧
      Runs Tryz.prog 31 #[.pointer t_0, .int .i64 now_1, .agg #[.int .u16 x82_0, .bool x82_1, .int .i64 x82_2, .bool x82_3, .bool x82_4, .bool x82_5, .bool x82_6, .int .i64 x82_7, .string x82_8, .int .u16 x82_9, .slice x82_10 x82_10n x82_10c, .slice x82_11 x82_11n x82_11c, .slice x82_12 x82_12n x82_12c, .int .i64 x82_13], .int .u16 id_3] I S fun v' I1' S1'' => ∃ x84_0 x84_1_0 x84_1_1 x84_1_2 x84_1_3 x84_1_4 x84_1_5 x84_1_6 x84_2, v' = .tuple #[.bool x84_0, .agg #[.int .u16 x84_1_0, .int .u16 x84_1_1, .bool x84_1_2, .string x84_1_3, .int .u16 x84_1_4, .int .u32 x84_1_5, .string x84_1_6], .bool x84_2] ∧
      StP S1'' x9 [.int .u16 x84_1_0, .int .u16 x84_1_1, .bool x84_1_2, .string x84_1_3, .int .u16 x84_1_4, .int .u32 x84_1_5, .string x84_1_6] fun S1_r3 =>
      ∃ r9_0', Cell I1' S1_r3 x9 (.int .u16 r9_0') ∧
      ∃ r9_1', Cell I1' S1_r3 (x9.add 1) (.int .u16 r9_1') ∧
      ∃ r9_2', Cell I1' S1_r3 (x9.add 2) (.bool r9_2') ∧
      ∃ r9_3', Cell I1' S1_r3 (x9.add 3) (.string r9_3') ∧
      ∃ r9_4', Cell I1' S1_r3 (x9.add 4) (.int .u16 r9_4') ∧
      ∃ r9_5', Cell I1' S1_r3 (x9.add 5) (.int .u32 r9_5') ∧
      ∃ r9_6', Cell I1' S1_r3 (x9.add 6) (.string r9_6') ∧
      R (.tuple #[.bool x84_0, .agg #[.int .u16 r9_0', .int .u16 r9_1', .bool r9_2', .string r9_3', .int .u16 r9_4', .int .u32 r9_5', .string r9_6'], .bool x84_2]) I1' S1_r3)
      (transfer_Transfer_Take_b5 R t_0 now_1 id_3 m_6 x9 I S))
def transfer_Transfer_Take_b3 (R : Value → IMem → SH → Prop) (t_0 : Option Addr) (now_1 : Int) (id_3 : Int) (m_6 : Addr) (x9 : Addr) (x45 : Bool) (I : IMem) (S : SH) : Prop :=
  bcase x45
    (StP S x9 [.int .u16 0, .int .u16 0, .bool false, .string ⟨#[]⟩, .int .u16 0, .int .u32 0, .string ⟨#[]⟩] fun S1 =>
    ∃ r9_0, Cell I S1 x9 (.int .u16 r9_0) ∧
    ∃ r9_1, Cell I S1 (x9.add 1) (.int .u16 r9_1) ∧
    ∃ r9_2, Cell I S1 (x9.add 2) (.bool r9_2) ∧
    ∃ r9_3, Cell I S1 (x9.add 3) (.string r9_3) ∧
    ∃ r9_4, Cell I S1 (x9.add 4) (.int .u16 r9_4) ∧
    ∃ r9_5, Cell I S1 (x9.add 5) (.int .u32 r9_5) ∧
    ∃ r9_6, Cell I S1 (x9.add 6) (.string r9_6) ∧
    R (.tuple #[.bool false, .agg #[.int .u16 r9_0, .int .u16 r9_1, .bool r9_2, .string r9_3, .int .u16 r9_4, .int .u32 r9_5, .string r9_6], .bool false]) I S1)
    (∃ x59, Cell I S (m_6.add 7) (.int .i64 x59) ∧
    bcase (x59 != (0 : Int))
      (transfer_Transfer_Take_b4 R t_0 now_1 id_3 m_6 x9 true I S)
      (∃ x64, Cell I S (m_6.add 4) (.bool x64) ∧
      transfer_Transfer_Take_b4 R t_0 now_1 id_3 m_6 x9 x64 I S))
def transfer_Transfer_Take_b2 (R : Value → IMem → SH → Prop) (t_0 : Option Addr) (now_1 : Int) (id_3 : Int) (m_6 : Addr) (x9 : Addr) (fits_11 : Bool) (I : IMem) (S : SH) : Prop :=
  ptrP t_0 fun x47 =>
  ∃ x49, Cell I S (x47.add 12) (.bool x49) ∧
  bcase (!x49)
    (transfer_Transfer_Take_b3 R t_0 now_1 id_3 m_6 x9 true I S)
    (transfer_Transfer_Take_b3 R t_0 now_1 id_3 m_6 x9 (!fits_11) I S)
def transfer_Transfer_Take_b1 (R : Value → IMem → SH → Prop) (t_0 : Option Addr) (now_1 : Int) (id_3 : Int) (m_6 : Addr) (x9 : Addr) (I : IMem) (S : SH) : Prop :=
  ∃ x18, Cell I S m_6 (.int .u16 x18) ∧
  ptrP t_0 fun x20 =>
  ∃ x23, Cell I S (x20.add 5) (.int .u16 x23) ∧
  bcase (x18 == x23)
    (∃ x28, Cell I S (m_6.add 1) (.bool x28) ∧
    bcase x28
      (∃ x32_0, Cell I S (m_6.add 8) (.string x32_0) ∧
      ∃ x32_1, Cell I S ((m_6.add 8).add 1) (.int .u16 x32_1) ∧
      ptrP t_0 fun x34 =>
      ∃ x36, Cell I S x34 (.string x36) ∧
      ptrP t_0 fun x38 =>
      ∃ x41, Cell I S ((x38.add 5).add 1) (.int .u16 x41) ∧
      transfer_Transfer_Take_b2 R t_0 now_1 id_3 m_6 x9 (((x32_0 : ByteArray) == (x36 : ByteArray)) && (((x32_1 : Int) == (x41 : Int)) && true)) I S)
      (transfer_Transfer_Take_b2 R t_0 now_1 id_3 m_6 x9 false I S))
    (transfer_Transfer_Take_b2 R t_0 now_1 id_3 m_6 x9 false I S)
def transfer_Transfer_Take (R : Value → IMem → SH → Prop) (t_0 : Option Addr) (now_1 : Int) (m_2_0 : Int) (m_2_1 : Bool) (m_2_2 : Int) (m_2_3 : Bool) (m_2_4 : Bool) (m_2_5 : Bool) (m_2_6 : Bool) (m_2_7 : Int) (m_2_8 : ByteArray) (m_2_9 : Int) (m_2_10 : Option Addr) (m_2_10n : Nat) (m_2_10c : Nat) (m_2_11 : Option Addr) (m_2_11n : Nat) (m_2_11c : Nat) (m_2_12 : Option Addr) (m_2_12n : Nat) (m_2_12c : Nat) (m_2_13 : Int) (id_3 : Int) (I : IMem) (S : SH) : Prop :=
  ∀ b6 : Nat,
  ∀ b9 : Nat,
  transfer_Transfer_Take_b1 R t_0 now_1 id_3 ⟨b6, 0, none⟩ ⟨b9, 0, none⟩ I ((b9, .cells #[.int .u16 0, .int .u16 0, .bool false, .string ⟨#[]⟩, .int .u16 0, .int .u32 0, .string ⟨#[]⟩] 34 (0, 0)) :: ((b6, .cells #[.int .u16 m_2_0, .bool m_2_1, .int .i64 m_2_2, .bool m_2_3, .bool m_2_4, .bool m_2_5, .bool m_2_6, .int .i64 m_2_7, .string m_2_8, .int .u16 m_2_9, .slice m_2_10 m_2_10n m_2_10c, .slice m_2_11 m_2_11n m_2_11c, .slice m_2_12 m_2_12n m_2_12c, .int .i64 m_2_13] 44 (0, 0)) :: S))
theorem transfer_Transfer_Take_fn (R : Value → IMem → SH → Prop) (t_0 : Option Addr) (now_1 : Int) (m_2_0 : Int) (m_2_1 : Bool) (m_2_2 : Int) (m_2_3 : Bool) (m_2_4 : Bool) (m_2_5 : Bool) (m_2_6 : Bool) (m_2_7 : Int) (m_2_8 : ByteArray) (m_2_9 : Int) (m_2_10 : Option Addr) (m_2_10n : Nat) (m_2_10c : Nat) (m_2_11 : Option Addr) (m_2_11n : Nat) (m_2_11c : Nat) (m_2_12 : Option Addr) (m_2_12n : Nat) (m_2_12c : Nat) (m_2_13 : Int) (id_3 : Int) (I : IMem) (S : SH) (h : transfer_Transfer_Take R t_0 now_1 m_2_0 m_2_1 m_2_2 m_2_3 m_2_4 m_2_5 m_2_6 m_2_7 m_2_8 m_2_9 m_2_10 m_2_10n m_2_10c m_2_11 m_2_11n m_2_11c m_2_12 m_2_12n m_2_12c m_2_13 id_3 I S) :
    Runs Tryz.prog 13 #[.pointer t_0, .int .i64 now_1, .agg #[.int .u16 m_2_0, .bool m_2_1, .int .i64 m_2_2, .bool m_2_3, .bool m_2_4, .bool m_2_5, .bool m_2_6, .int .i64 m_2_7, .string m_2_8, .int .u16 m_2_9, .slice m_2_10 m_2_10n m_2_10c, .slice m_2_11 m_2_11n m_2_11c, .slice m_2_12 m_2_12n m_2_12c, .int .i64 m_2_13], .int .u16 id_3] I S R := by
  refine Runs.of_wp (args := [.pointer t_0, .int .i64 now_1, .agg #[.int .u16 m_2_0, .bool m_2_1, .int .i64 m_2_2, .bool m_2_3, .bool m_2_4, .bool m_2_5, .bool m_2_6, .int .i64 m_2_7, .string m_2_8, .int .u16 m_2_9, .slice m_2_10 m_2_10n m_2_10c, .slice m_2_11 m_2_11n m_2_11c, .slice m_2_12 m_2_12n m_2_12c, .int .i64 m_2_13], .int .u16 id_3]) (c := transfer_Transfer_Take_code) Tryz.func13 (by kernel_rfl) (by kernel_rfl) ?_
  refine WP.cut 1 (fun l I S => asPtr (l 0) fun t_0 => asI .i64 (l 1) fun now_1 => asI .u16 (l 3) fun id_3 => asAdr (l 6) fun m_6 => asAdr (l 9) fun x9 => transfer_Transfer_Take_b1 R t_0 now_1 id_3 m_6 x9 I S) (cast (by kernel_rfl) h) ?_
  clear h
  intro l I S _ h
  obtain ⟨t_0, e0, h⟩ := asPtr_e h
  obtain ⟨now_1, e1, h⟩ := asI_e h
  obtain ⟨id_3, e3, h⟩ := asI_e h
  obtain ⟨m_6, e6, h⟩ := asAdr_e h
  obtain ⟨x9, e9, h⟩ := asAdr_e h
  rw [upd_eta e0, upd_eta e1, upd_eta e3, upd_eta e6, upd_eta e9]
  refine WP.seqY (by kernel_rfl) (fun l I S => asPtr (l 0) fun t_0 => asI .i64 (l 1) fun now_1 => asI .u16 (l 3) fun id_3 => asAdr (l 6) fun m_6 => asAdr (l 9) fun x9 => asB (l 11) fun fits_11 => transfer_Transfer_Take_b2 R t_0 now_1 id_3 m_6 x9 fits_11 I S) ?_ ?_
  ·
    exact WP.quiet' (by kernel_rfl) (by kernel_rfl) (by kernel_rfl) (cast (by kernel_rfl) h)
  · clear h
    intro l I S _ h
    obtain ⟨t_0, e0, h⟩ := asPtr_e h
    obtain ⟨now_1, e1, h⟩ := asI_e h
    obtain ⟨id_3, e3, h⟩ := asI_e h
    obtain ⟨m_6, e6, h⟩ := asAdr_e h
    obtain ⟨x9, e9, h⟩ := asAdr_e h
    obtain ⟨fits_11, e11, h⟩ := asB_e h
    rw [upd_eta e0, upd_eta e1, upd_eta e3, upd_eta e6, upd_eta e9, upd_eta e11]
    refine WP.seqY (by kernel_rfl) (fun l I S => asPtr (l 0) fun t_0 => asI .i64 (l 1) fun now_1 => asI .u16 (l 3) fun id_3 => asAdr (l 6) fun m_6 => asAdr (l 9) fun x9 => transfer_Transfer_Take_b5 R t_0 now_1 id_3 m_6 x9 I S) ?_ ?_
    ·
      refine WP.block' (by kernel_rfl) ?_
      refine WP.cut 1 (fun l I S => asPtr (l 0) fun t_0 => asI .i64 (l 1) fun now_1 => asI .u16 (l 3) fun id_3 => asAdr (l 6) fun m_6 => asAdr (l 9) fun x9 => asB (l 45) fun x45 => transfer_Transfer_Take_b3 R t_0 now_1 id_3 m_6 x9 x45 I S) (cast (by kernel_rfl) h) ?_
      clear h
      intro l I S _ h
      obtain ⟨t_0, e0, h⟩ := asPtr_e h
      obtain ⟨now_1, e1, h⟩ := asI_e h
      obtain ⟨id_3, e3, h⟩ := asI_e h
      obtain ⟨m_6, e6, h⟩ := asAdr_e h
      obtain ⟨x9, e9, h⟩ := asAdr_e h
      obtain ⟨x45, e45, h⟩ := asB_e h
      rw [upd_eta e0, upd_eta e1, upd_eta e3, upd_eta e6, upd_eta e9, upd_eta e45]
      refine WP.cond' (by kernel_rfl) (by kernel_rfl) h ?_ ?_
      · clear h
        intro h
        exact Pre.sound _ _ _ _ _ (cast (by kernel_rfl) h)
      · clear h
        intro h
        refine WP.cut 1 (fun l I S => asPtr (l 0) fun t_0 => asI .i64 (l 1) fun now_1 => asI .u16 (l 3) fun id_3 => asAdr (l 6) fun m_6 => asAdr (l 9) fun x9 => asB (l 56) fun x56 => transfer_Transfer_Take_b4 R t_0 now_1 id_3 m_6 x9 x56 I S) (cast (by kernel_rfl) h) ?_
        clear h
        intro l I S _ h
        obtain ⟨t_0, e0, h⟩ := asPtr_e h
        obtain ⟨now_1, e1, h⟩ := asI_e h
        obtain ⟨id_3, e3, h⟩ := asI_e h
        obtain ⟨m_6, e6, h⟩ := asAdr_e h
        obtain ⟨x9, e9, h⟩ := asAdr_e h
        obtain ⟨x56, e56, h⟩ := asB_e h
        rw [upd_eta e0, upd_eta e1, upd_eta e3, upd_eta e6, upd_eta e9, upd_eta e56]
        exact Pre.sound _ _ _ _ _ (cast (by kernel_rfl) h)
    · clear h
      intro l I S _ h
      obtain ⟨t_0, e0, h⟩ := asPtr_e h
      obtain ⟨now_1, e1, h⟩ := asI_e h
      obtain ⟨id_3, e3, h⟩ := asI_e h
      obtain ⟨m_6, e6, h⟩ := asAdr_e h
      obtain ⟨x9, e9, h⟩ := asAdr_e h
      rw [upd_eta e0, upd_eta e1, upd_eta e3, upd_eta e6, upd_eta e9]
      refine WP.seqY (by kernel_rfl) (fun l I S => asPtr (l 0) fun t_0 => asI .i64 (l 1) fun now_1 => asI .u16 (l 3) fun id_3 => asAdr (l 9) fun x9 => transfer_Transfer_Take_b6 R t_0 now_1 id_3 x9 I S) ?_ ?_
      ·
        exact WP.draw' (.take 0 (.take 1 (.take 2 (.take 3 (.take 4 (.take 5 (.take 6 (.step 7 (.take 8 (.take 9 (.step 10 .done))))))))))) [7, 10] (by kernel_rfl) (by kernel_rfl) (by kernel_rfl) (by kernel_rfl) (by kernel_rfl) (cast (by kernel_rfl) h)
      · clear h
        intro l I S _ h
        obtain ⟨t_0, e0, h⟩ := asPtr_e h
        obtain ⟨now_1, e1, h⟩ := asI_e h
        obtain ⟨id_3, e3, h⟩ := asI_e h
        obtain ⟨x9, e9, h⟩ := asAdr_e h
        rw [upd_eta e0, upd_eta e1, upd_eta e3, upd_eta e9]
        exact Pre.sound _ _ _ _ _ (cast (by kernel_rfl) h)
/-! ### transfer_Transfer_Live: function 16, (*bolter/transfer.Transfer).Live -/
noncomputable def transfer_Transfer_Live_code : Code := (Tryz.f16.body).getD .skip
def transfer_Transfer_Live_b1 (R : Value → IMem → SH → Prop) (x4 : Bool) (I : IMem) (S : SH) : Prop :=
  R (.bool x4) I S
def transfer_Transfer_Live (R : Value → IMem → SH → Prop) (t_0 : Option Addr) (now_1 : Int) (I : IMem) (S : SH) : Prop :=
  ptrP t_0 fun x6 =>
  ∃ x8, Cell I S (x6.add 2) (.bool x8) ∧
  bcase x8
    (ptrP t_0 fun x12 =>
    ∃ x14, Cell I S (x12.add 4) (.int .i64 x14) ∧
    transfer_Transfer_Live_b1 R (decide (now_1 < x14)) I S)
    (transfer_Transfer_Live_b1 R false I S)
theorem transfer_Transfer_Live_fn (R : Value → IMem → SH → Prop) (t_0 : Option Addr) (now_1 : Int) (I : IMem) (S : SH) (h : transfer_Transfer_Live R t_0 now_1 I S) :
    Runs Tryz.prog 16 #[.pointer t_0, .int .i64 now_1] I S R := by
  refine Runs.of_wp (args := [.pointer t_0, .int .i64 now_1]) (c := transfer_Transfer_Live_code) Tryz.func16 (by kernel_rfl) (by kernel_rfl) ?_
  refine WP.cut 2 (fun l I S => asB (l 4) fun x4 => transfer_Transfer_Live_b1 R x4 I S) (cast (by kernel_rfl) h) ?_
  clear h
  intro l I S _ h
  obtain ⟨x4, e4, h⟩ := asB_e h
  rw [upd_eta e4]
  exact Pre.sound _ _ _ _ _ (cast (by kernel_rfl) h)
/-! ### transfer_Transfer_Open: function 17, (*bolter/transfer.Transfer).Open -/
noncomputable def transfer_Transfer_Open_code : Code := (Tryz.f17.body).getD .skip
def transfer_Transfer_Open (R : Value → IMem → SH → Prop) (t_0 : Option Addr) (I : IMem) (S : SH) : Prop :=
  ∀ b2 : Nat,
  ptrP t_0 fun x5 =>
  ∃ x7, Cell I ((b2, .cells #[.int .u16 0, .int .u16 0, .bool false, .string ⟨#[]⟩, .int .u16 0, .int .u32 0, .string ⟨#[]⟩] 34 (0, 0)) :: S) (x5.add 12) (.bool x7) ∧
  bcase (!x7)
    (StP ((b2, .cells #[.int .u16 0, .int .u16 0, .bool false, .string ⟨#[]⟩, .int .u16 0, .int .u32 0, .string ⟨#[]⟩] 34 (0, 0)) :: S) ⟨b2, 0, none⟩ [.int .u16 0, .int .u16 0, .bool false, .string ⟨#[]⟩, .int .u16 0, .int .u32 0, .string ⟨#[]⟩] fun S1 =>
    ∃ r2_0, Cell I S1 ⟨b2, 0, none⟩ (.int .u16 r2_0) ∧
    ∃ r2_1, Cell I S1 ⟨b2, 1, none⟩ (.int .u16 r2_1) ∧
    ∃ r2_2, Cell I S1 ⟨b2, 2, none⟩ (.bool r2_2) ∧
    ∃ r2_3, Cell I S1 ⟨b2, 3, none⟩ (.string r2_3) ∧
    ∃ r2_4, Cell I S1 ⟨b2, 4, none⟩ (.int .u16 r2_4) ∧
    ∃ r2_5, Cell I S1 ⟨b2, 5, none⟩ (.int .u32 r2_5) ∧
    ∃ r2_6, Cell I S1 ⟨b2, 6, none⟩ (.string r2_6) ∧
    R (.tuple #[.agg #[.int .u16 r2_0, .int .u16 r2_1, .bool r2_2, .string r2_3, .int .u16 r2_4, .int .u32 r2_5, .string r2_6], .bool false]) I S1)
    (ptrP t_0 fun x11 =>
    ∃ x13_0, Cell I ((b2, .cells #[.int .u16 0, .int .u16 0, .bool false, .string ⟨#[]⟩, .int .u16 0, .int .u32 0, .string ⟨#[]⟩] 34 (0, 0)) :: S) (x11.add 5) (.int .u16 x13_0) ∧
    ∃ x13_1, Cell I ((b2, .cells #[.int .u16 0, .int .u16 0, .bool false, .string ⟨#[]⟩, .int .u16 0, .int .u32 0, .string ⟨#[]⟩] 34 (0, 0)) :: S) ((x11.add 5).add 1) (.int .u16 x13_1) ∧
    ∃ x13_2, Cell I ((b2, .cells #[.int .u16 0, .int .u16 0, .bool false, .string ⟨#[]⟩, .int .u16 0, .int .u32 0, .string ⟨#[]⟩] 34 (0, 0)) :: S) ((x11.add 5).add 2) (.bool x13_2) ∧
    ∃ x13_3, Cell I ((b2, .cells #[.int .u16 0, .int .u16 0, .bool false, .string ⟨#[]⟩, .int .u16 0, .int .u32 0, .string ⟨#[]⟩] 34 (0, 0)) :: S) ((x11.add 5).add 3) (.string x13_3) ∧
    ∃ x13_4, Cell I ((b2, .cells #[.int .u16 0, .int .u16 0, .bool false, .string ⟨#[]⟩, .int .u16 0, .int .u32 0, .string ⟨#[]⟩] 34 (0, 0)) :: S) ((x11.add 5).add 4) (.int .u16 x13_4) ∧
    ∃ x13_5, Cell I ((b2, .cells #[.int .u16 0, .int .u16 0, .bool false, .string ⟨#[]⟩, .int .u16 0, .int .u32 0, .string ⟨#[]⟩] 34 (0, 0)) :: S) ((x11.add 5).add 5) (.int .u32 x13_5) ∧
    ∃ x13_6, Cell I ((b2, .cells #[.int .u16 0, .int .u16 0, .bool false, .string ⟨#[]⟩, .int .u16 0, .int .u32 0, .string ⟨#[]⟩] 34 (0, 0)) :: S) ((x11.add 5).add 6) (.string x13_6) ∧
    StP ((b2, .cells #[.int .u16 0, .int .u16 0, .bool false, .string ⟨#[]⟩, .int .u16 0, .int .u32 0, .string ⟨#[]⟩] 34 (0, 0)) :: S) ⟨b2, 0, none⟩ [.int .u16 x13_0, .int .u16 x13_1, .bool x13_2, .string x13_3, .int .u16 x13_4, .int .u32 x13_5, .string x13_6] fun S1' =>
    ∃ r2_0', Cell I S1' ⟨b2, 0, none⟩ (.int .u16 r2_0') ∧
    ∃ r2_1', Cell I S1' ⟨b2, 1, none⟩ (.int .u16 r2_1') ∧
    ∃ r2_2', Cell I S1' ⟨b2, 2, none⟩ (.bool r2_2') ∧
    ∃ r2_3', Cell I S1' ⟨b2, 3, none⟩ (.string r2_3') ∧
    ∃ r2_4', Cell I S1' ⟨b2, 4, none⟩ (.int .u16 r2_4') ∧
    ∃ r2_5', Cell I S1' ⟨b2, 5, none⟩ (.int .u32 r2_5') ∧
    ∃ r2_6', Cell I S1' ⟨b2, 6, none⟩ (.string r2_6') ∧
    R (.tuple #[.agg #[.int .u16 r2_0', .int .u16 r2_1', .bool r2_2', .string r2_3', .int .u16 r2_4', .int .u32 r2_5', .string r2_6'], .bool true]) I S1')
theorem transfer_Transfer_Open_fn (R : Value → IMem → SH → Prop) (t_0 : Option Addr) (I : IMem) (S : SH) (h : transfer_Transfer_Open R t_0 I S) :
    Runs Tryz.prog 17 #[.pointer t_0] I S R := by
  refine Runs.of_wp (args := [.pointer t_0]) (c := transfer_Transfer_Open_code) Tryz.func17 (by kernel_rfl) (by kernel_rfl) ?_
  exact Pre.sound _ _ _ _ _ (cast (by kernel_rfl) h)
/-! ### transfer_Transfer_Notify: function 22, (*bolter/transfer.Transfer).Notify -/
noncomputable def transfer_Transfer_Notify_code : Code := (Tryz.f22.body).getD .skip
def transfer_Transfer_Notify_b3 (R : Value → IMem → SH → Prop) (t_0 : Option Addr) (now_1 : Int) (I : IMem) (S : SH) : Prop :=
  ptrP t_0 fun x21 =>
  ∃ x23, Cell I S (x21.add 3) (.int .i64 x23) ∧
  ptrP t_0 fun x26 =>
  StP S (x26.add 3) [.int .i64 (if now_1 < x23 then now_1 else x23)] fun S1 =>
  R (.bool true) I S1
def transfer_Transfer_Notify_b2 (R : Value → IMem → SH → Prop) (t_0 : Option Addr) (now_1 : Int) (x18 : Bool) (I : IMem) (S : SH) : Prop :=
  bcase x18
    (R (.bool false) I S)
    (transfer_Transfer_Notify_b3 R t_0 now_1 I S)
def transfer_Transfer_Notify_b1 (R : Value → IMem → SH → Prop) (t_0 : Option Addr) (now_1 : Int) (to_2 : Int) (I : IMem) (S : SH) : Prop :=
  ptrP t_0 fun x8 =>
  ∃ x10, Cell I S (x8.add 2) (.bool x10) ∧
  bcase x10
    (Runs Tryz.prog 27 #[.pointer t_0] I S fun v I1 S1 => ∃ x14_0 x14_1 x14_2 x14_3 x14_4 x14_5 x14_6, v = .agg #[.string x14_0, .string x14_1, .int .u32 x14_2, .int .u32 x14_3, .int .u32 x14_4, .int .u32 x14_5, .int .u32 x14_6] ∧
    Runs Tryz.prog 20 #[.int .u32 to_2, .int .u32 x14_2] I1 S1 fun v' I1' S1' => ∃ x16, v' = .bool x16 ∧
    transfer_Transfer_Notify_b2 R t_0 now_1 (!x16) I1' S1')
    (transfer_Transfer_Notify_b2 R t_0 now_1 false I S)
def transfer_Transfer_Notify (R : Value → IMem → SH → Prop) (t_0 : Option Addr) (now_1 : Int) (to_2 : Int) (I : IMem) (S : SH) : Prop :=
  transfer_Transfer_Notify_b1 R t_0 now_1 to_2 I S
theorem transfer_Transfer_Notify_fn (R : Value → IMem → SH → Prop) (t_0 : Option Addr) (now_1 : Int) (to_2 : Int) (I : IMem) (S : SH) (h : transfer_Transfer_Notify R t_0 now_1 to_2 I S) :
    Runs Tryz.prog 22 #[.pointer t_0, .int .i64 now_1, .int .u32 to_2] I S R := by
  refine Runs.of_wp (args := [.pointer t_0, .int .i64 now_1, .int .u32 to_2]) (c := transfer_Transfer_Notify_code) Tryz.func22 (by kernel_rfl) (by kernel_rfl) ?_
  refine WP.cut 1 (fun l I S => asPtr (l 0) fun t_0 => asI .i64 (l 1) fun now_1 => asI .u32 (l 2) fun to_2 => transfer_Transfer_Notify_b1 R t_0 now_1 to_2 I S) (cast (by kernel_rfl) h) ?_
  clear h
  intro l I S _ h
  obtain ⟨t_0, e0, h⟩ := asPtr_e h
  obtain ⟨now_1, e1, h⟩ := asI_e h
  obtain ⟨to_2, e2, h⟩ := asI_e h
  rw [upd_eta e0, upd_eta e1, upd_eta e2]
  refine WP.seqY (by kernel_rfl) (fun l I S => asPtr (l 0) fun t_0 => asI .i64 (l 1) fun now_1 => transfer_Transfer_Notify_b3 R t_0 now_1 I S) ?_ ?_
  ·
    refine WP.cut 1 (fun l I S => asPtr (l 0) fun t_0 => asI .i64 (l 1) fun now_1 => asB (l 18) fun x18 => transfer_Transfer_Notify_b2 R t_0 now_1 x18 I S) (cast (by kernel_rfl) h) ?_
    clear h
    intro l I S _ h
    obtain ⟨t_0, e0, h⟩ := asPtr_e h
    obtain ⟨now_1, e1, h⟩ := asI_e h
    obtain ⟨x18, e18, h⟩ := asB_e h
    rw [upd_eta e0, upd_eta e1, upd_eta e18]
    exact Pre.sound _ _ _ _ _ (cast (by kernel_rfl) h)
  · clear h
    intro l I S _ h
    obtain ⟨t_0, e0, h⟩ := asPtr_e h
    obtain ⟨now_1, e1, h⟩ := asI_e h
    rw [upd_eta e0, upd_eta e1]
    exact Pre.sound _ _ _ _ _ (cast (by kernel_rfl) h)
/-! ### transfer_Transfer_close: function 26, (*bolter/transfer.Transfer).close -/
noncomputable def transfer_Transfer_close_code : Code := (Tryz.f26.body).getD .skip
def transfer_Transfer_close (R : Value → IMem → SH → Prop) (t_0 : Option Addr) (now_1 : Int) (later_2 : Int) (I : IMem) (S : SH) : Prop :=
  ptrP t_0 fun x8 =>
  StP S (x8.add 12) [.bool false] fun S1 =>
  ptrP t_0 fun x10 =>
  StP S1 (x10.add 14) [.slice none 0 0] fun S1' =>
  ptrP t_0 fun x18 =>
  StP S1' (x18.add 3) [.int .i64 (IntKind.wrap .i64 (now_1 + (if (IntKind.wrap .i64 later_2) > (1 : Int) then (IntKind.wrap .i64 later_2) else (1 : Int))))] fun S1'' =>
  R (.tuple #[]) I S1''
theorem transfer_Transfer_close_fn (R : Value → IMem → SH → Prop) (t_0 : Option Addr) (now_1 : Int) (later_2 : Int) (I : IMem) (S : SH) (h : transfer_Transfer_close R t_0 now_1 later_2 I S) :
    Runs Tryz.prog 26 #[.pointer t_0, .int .i64 now_1, .int .u32 later_2] I S R := by
  refine Runs.of_wp (args := [.pointer t_0, .int .i64 now_1, .int .u32 later_2]) (c := transfer_Transfer_close_code) Tryz.func26 (by kernel_rfl) (by kernel_rfl) ?_
  exact Pre.sound _ _ _ _ _ (cast (by kernel_rfl) h)
/-! ### transfer_Transfer_times: function 27, (*bolter/transfer.Transfer).times -/
noncomputable def transfer_Transfer_times_code : Code := (Tryz.f27.body).getD .skip
def transfer_Transfer_times (R : Value → IMem → SH → Prop) (t_0 : Option Addr) (I : IMem) (S : SH) : Prop :=
  ∀ b2 : Nat,
  ptrP t_0 fun x9 =>
  ∃ x11 x11n x11c, Cell I ((b2, .cells #[.string ⟨#[]⟩, .string ⟨#[]⟩, .int .u32 0, .int .u32 0, .int .u32 0, .int .u32 0, .int .u32 0] 67 (0, 0)) :: S) (x9.add 1) (.slice x11 x11n x11c) ∧
  Runs Tryz.prog 40 #[.slice x11 x11n x11c] I ((b2, .cells #[.string ⟨#[]⟩, .string ⟨#[]⟩, .int .u32 0, .int .u32 0, .int .u32 0, .int .u32 0, .int .u32 0] 67 (0, 0)) :: S) fun v I1 S1 => ∃ x12_0_0 x12_0_1 x12_0_2 x12_0_3 x12_1, v = .tuple #[.agg #[.string x12_0_0, .int .u16 x12_0_1, .int .u32 x12_0_2, .string x12_0_3], .bool x12_1] ∧
  ∀ b3 : Nat,
  StP ((b3, .cells #[.string ⟨#[]⟩, .int .u16 0, .int .u32 0, .string ⟨#[]⟩] 32 (0, 0)) :: S1) ⟨b3, 0, none⟩ [.string x12_0_0, .int .u16 x12_0_1, .int .u32 x12_0_2, .string x12_0_3] fun S1' =>
  ∃ x16_0, Cell I1 S1' ⟨b3, 0, none⟩ (.string x16_0) ∧
  ∃ x16_1, Cell I1 S1' ⟨b3, 1, none⟩ (.int .u16 x16_1) ∧
  ∃ x16_2, Cell I1 S1' ⟨b3, 2, none⟩ (.int .u32 x16_2) ∧
  ∃ x16_3, Cell I1 S1' ⟨b3, 3, none⟩ (.string x16_3) ∧
  Runs Tryz.prog 39 #[.agg #[.string x16_0, .int .u16 x16_1, .int .u32 x16_2, .string x16_3]] I1 S1' fun v' I1' S1'' => ∃ x17_0_0 x17_0_1 x17_0_2 x17_0_3 x17_0_4 x17_0_5 x17_0_6 x17_1, v' = .tuple #[.agg #[.string x17_0_0, .string x17_0_1, .int .u32 x17_0_2, .int .u32 x17_0_3, .int .u32 x17_0_4, .int .u32 x17_0_5, .int .u32 x17_0_6], .bool x17_1] ∧
  ∀ b5 : Nat,
  StP ((b5, .cells #[.string ⟨#[]⟩, .string ⟨#[]⟩, .int .u32 0, .int .u32 0, .int .u32 0, .int .u32 0, .int .u32 0] 67 (0, 0)) :: S1'') ⟨b5, 0, none⟩ [.string x17_0_0, .string x17_0_1, .int .u32 x17_0_2, .int .u32 x17_0_3, .int .u32 x17_0_4, .int .u32 x17_0_5, .int .u32 x17_0_6] fun S1_r3 =>
  bcase (!x17_1)
    (StP S1_r3 ⟨b2, 0, none⟩ [.string ⟨#[]⟩, .string ⟨#[]⟩, .int .u32 0, .int .u32 5, .int .u32 5, .int .u32 0, .int .u32 0] fun S1_r4 =>
    ∃ r2_0, Cell I1' S1_r4 ⟨b2, 0, none⟩ (.string r2_0) ∧
    ∃ r2_1, Cell I1' S1_r4 ⟨b2, 1, none⟩ (.string r2_1) ∧
    ∃ r2_2, Cell I1' S1_r4 ⟨b2, 2, none⟩ (.int .u32 r2_2) ∧
    ∃ r2_3, Cell I1' S1_r4 ⟨b2, 3, none⟩ (.int .u32 r2_3) ∧
    ∃ r2_4, Cell I1' S1_r4 ⟨b2, 4, none⟩ (.int .u32 r2_4) ∧
    ∃ r2_5, Cell I1' S1_r4 ⟨b2, 5, none⟩ (.int .u32 r2_5) ∧
    ∃ r2_6, Cell I1' S1_r4 ⟨b2, 6, none⟩ (.int .u32 r2_6) ∧
    R (.agg #[.string r2_0, .string r2_1, .int .u32 r2_2, .int .u32 r2_3, .int .u32 r2_4, .int .u32 r2_5, .int .u32 r2_6]) I1' S1_r4)
    (∃ x23_0, Cell I1' S1_r3 ⟨b5, 0, none⟩ (.string x23_0) ∧
    ∃ x23_1, Cell I1' S1_r3 ⟨b5, 1, none⟩ (.string x23_1) ∧
    ∃ x23_2, Cell I1' S1_r3 ⟨b5, 2, none⟩ (.int .u32 x23_2) ∧
    ∃ x23_3, Cell I1' S1_r3 ⟨b5, 3, none⟩ (.int .u32 x23_3) ∧
    ∃ x23_4, Cell I1' S1_r3 ⟨b5, 4, none⟩ (.int .u32 x23_4) ∧
    ∃ x23_5, Cell I1' S1_r3 ⟨b5, 5, none⟩ (.int .u32 x23_5) ∧
    ∃ x23_6, Cell I1' S1_r3 ⟨b5, 6, none⟩ (.int .u32 x23_6) ∧
    StP S1_r3 ⟨b2, 0, none⟩ [.string x23_0, .string x23_1, .int .u32 x23_2, .int .u32 x23_3, .int .u32 x23_4, .int .u32 x23_5, .int .u32 x23_6] fun S1_r5 =>
    ∃ r2_0', Cell I1' S1_r5 ⟨b2, 0, none⟩ (.string r2_0') ∧
    ∃ r2_1', Cell I1' S1_r5 ⟨b2, 1, none⟩ (.string r2_1') ∧
    ∃ r2_2', Cell I1' S1_r5 ⟨b2, 2, none⟩ (.int .u32 r2_2') ∧
    ∃ r2_3', Cell I1' S1_r5 ⟨b2, 3, none⟩ (.int .u32 r2_3') ∧
    ∃ r2_4', Cell I1' S1_r5 ⟨b2, 4, none⟩ (.int .u32 r2_4') ∧
    ∃ r2_5', Cell I1' S1_r5 ⟨b2, 5, none⟩ (.int .u32 r2_5') ∧
    ∃ r2_6', Cell I1' S1_r5 ⟨b2, 6, none⟩ (.int .u32 r2_6') ∧
    R (.agg #[.string r2_0', .string r2_1', .int .u32 r2_2', .int .u32 r2_3', .int .u32 r2_4', .int .u32 r2_5', .int .u32 r2_6']) I1' S1_r5)
theorem transfer_Transfer_times_fn (R : Value → IMem → SH → Prop) (t_0 : Option Addr) (I : IMem) (S : SH) (h : transfer_Transfer_times R t_0 I S) :
    Runs Tryz.prog 27 #[.pointer t_0] I S R := by
  refine Runs.of_wp (args := [.pointer t_0]) (c := transfer_Transfer_times_code) Tryz.func27 (by kernel_rfl) (by kernel_rfl) ?_
  exact Pre.sound _ _ _ _ _ (cast (by kernel_rfl) h)
/-! ### transfer_Transfer_ask: function 28, (*bolter/transfer.Transfer).ask -/
noncomputable def transfer_Transfer_ask_code : Code := (Tryz.f28.body).getD .skip
def transfer_Transfer_ask_b3 (R : Value → IMem → SH → Prop) (t_0 : Option Addr) (now_1 : Int) (x8 : Addr) (I : IMem) (S : SH) : Prop :=
  ptrP t_0 fun x44 =>
  StP S (x44.add 12) [.bool true] fun S1 =>
  ptrP t_0 fun x46 =>
  StP S1 (x46.add 13) [.int .i64 (IntKind.wrap .i64 (now_1 + (4 : Int)))] fun S1' =>
  ptrP t_0 fun x48 =>
  StP S1' (x48.add 14) [.slice none 0 0] fun S1'' =>
  ptrP t_0 fun x51 =>
  ∃ x53_0, Cell I S1'' (x51.add 5) (.int .u16 x53_0) ∧
  ∃ x53_1, Cell I S1'' ((x51.add 5).add 1) (.int .u16 x53_1) ∧
  ∃ x53_2, Cell I S1'' ((x51.add 5).add 2) (.bool x53_2) ∧
  ∃ x53_3, Cell I S1'' ((x51.add 5).add 3) (.string x53_3) ∧
  ∃ x53_4, Cell I S1'' ((x51.add 5).add 4) (.int .u16 x53_4) ∧
  ∃ x53_5, Cell I S1'' ((x51.add 5).add 5) (.int .u32 x53_5) ∧
  ∃ x53_6, Cell I S1'' ((x51.add 5).add 6) (.string x53_6) ∧
  StP S1'' x8 [.int .u16 x53_0, .int .u16 x53_1, .bool x53_2, .string x53_3, .int .u16 x53_4, .int .u32 x53_5, .string x53_6] fun S1_r3 =>
  ∃ r8_0, Cell I S1_r3 x8 (.int .u16 r8_0) ∧
  ∃ r8_1, Cell I S1_r3 (x8.add 1) (.int .u16 r8_1) ∧
  ∃ r8_2, Cell I S1_r3 (x8.add 2) (.bool r8_2) ∧
  ∃ r8_3, Cell I S1_r3 (x8.add 3) (.string r8_3) ∧
  ∃ r8_4, Cell I S1_r3 (x8.add 4) (.int .u16 r8_4) ∧
  ∃ r8_5, Cell I S1_r3 (x8.add 5) (.int .u32 r8_5) ∧
  ∃ r8_6, Cell I S1_r3 (x8.add 6) (.string r8_6) ∧
  R (.agg #[.int .u16 r8_0, .int .u16 r8_1, .bool r8_2, .string r8_3, .int .u16 r8_4, .int .u32 r8_5, .string r8_6]) I S1_r3
def transfer_Transfer_ask_b2 (R : Value → IMem → SH → Prop) (t_0 : Option Addr) (now_1 : Int) (x8 : Addr) (r_9 : Addr) (x29 : Bool) (I : IMem) (S : SH) : Prop :=
  bcase x29
    (∃ F1 : SH, Keep I F1 I S ∧
    ∃ x32_0, Cell I F1 r_9 (.string x32_0) ∧
    ∃ x32_1, Cell I F1 (r_9.add 1) (.int .u16 x32_1) ∧
    ∃ x32_2, Cell I F1 (r_9.add 2) (.int .u32 x32_2) ∧
    ∃ x32_3, Cell I F1 (r_9.add 3) (.string x32_3) ∧
    ptrP t_0 fun x33 =>
    StP S ((x33.add 5).add 2) [.bool true] fun S1 =>
    Keep I F1 I S1 ∧
    ptrP t_0 fun x36 =>
    StP S1 ((x36.add 5).add 3) [.string x32_0, .int .u16 x32_1, .int .u32 x32_2, .string x32_3] fun S1' =>
    transfer_Transfer_ask_b3 R t_0 now_1 x8 I S1')
    (transfer_Transfer_ask_b3 R t_0 now_1 x8 I S)
def transfer_Transfer_ask_b1 (R : Value → IMem → SH → Prop) (t_0 : Option Addr) (now_1 : Int) (kind_3 : Int) (x8 : Addr) (I : IMem) (S : SH) : Prop :=
  ptrP t_0 fun x19 =>
  ∃ x21 x21n x21c, Cell I S (x19.add 1) (.slice x21 x21n x21c) ∧
  Runs Tryz.prog 40 #[.slice x21 x21n x21c] I S fun v I1 S1 => ∃ x22_0_0 x22_0_1 x22_0_2 x22_0_3 x22_1, v = .tuple #[.agg #[.string x22_0_0, .int .u16 x22_0_1, .int .u32 x22_0_2, .string x22_0_3], .bool x22_1] ∧
  ∀ b9 : Nat,
  StP ((b9, .cells #[.string ⟨#[]⟩, .int .u16 0, .int .u32 0, .string ⟨#[]⟩] 32 (0, 0)) :: S1) ⟨b9, 0, none⟩ [.string x22_0_0, .int .u16 x22_0_1, .int .u32 x22_0_2, .string x22_0_3] fun S1' =>
  bcase x22_1
    (transfer_Transfer_ask_b2 R t_0 now_1 x8 ⟨b9, 0, none⟩ (kind_3 == (251 : Int)) I1 S1')
    (transfer_Transfer_ask_b2 R t_0 now_1 x8 ⟨b9, 0, none⟩ false I1 S1')
def transfer_Transfer_ask (R : Value → IMem → SH → Prop) (t_0 : Option Addr) (now_1 : Int) (id_2 : Int) (kind_3 : Int) (I : IMem) (S : SH) : Prop :=
  ∀ b8 : Nat,
  ptrP t_0 fun x15 =>
  StP ((b8, .cells #[.int .u16 0, .int .u16 0, .bool false, .string ⟨#[]⟩, .int .u16 0, .int .u32 0, .string ⟨#[]⟩] 34 (0, 0)) :: S) (x15.add 5) [.int .u16 id_2, .int .u16 kind_3, .bool false, .string ⟨#[]⟩, .int .u16 0, .int .u32 0, .string ⟨#[]⟩] fun S1 =>
  transfer_Transfer_ask_b1 R t_0 now_1 kind_3 ⟨b8, 0, none⟩ I S1
theorem transfer_Transfer_ask_fn (R : Value → IMem → SH → Prop) (t_0 : Option Addr) (now_1 : Int) (id_2 : Int) (kind_3 : Int) (I : IMem) (S : SH) (h : transfer_Transfer_ask R t_0 now_1 id_2 kind_3 I S) :
    Runs Tryz.prog 28 #[.pointer t_0, .int .i64 now_1, .int .u16 id_2, .int .u16 kind_3] I S R := by
  refine Runs.of_wp (args := [.pointer t_0, .int .i64 now_1, .int .u16 id_2, .int .u16 kind_3]) (c := transfer_Transfer_ask_code) Tryz.func28 (by kernel_rfl) (by kernel_rfl) ?_
  refine WP.cut 2 (fun l I S => asPtr (l 0) fun t_0 => asI .i64 (l 1) fun now_1 => asI .u16 (l 3) fun kind_3 => asAdr (l 8) fun x8 => transfer_Transfer_ask_b1 R t_0 now_1 kind_3 x8 I S) (cast (by kernel_rfl) h) ?_
  clear h
  intro l I S _ h
  obtain ⟨t_0, e0, h⟩ := asPtr_e h
  obtain ⟨now_1, e1, h⟩ := asI_e h
  obtain ⟨kind_3, e3, h⟩ := asI_e h
  obtain ⟨x8, e8, h⟩ := asAdr_e h
  rw [upd_eta e0, upd_eta e1, upd_eta e3, upd_eta e8]
  refine WP.seqY (by kernel_rfl) (fun l I S => asPtr (l 0) fun t_0 => asI .i64 (l 1) fun now_1 => asAdr (l 8) fun x8 => transfer_Transfer_ask_b3 R t_0 now_1 x8 I S) ?_ ?_
  ·
    refine WP.cut 2 (fun l I S => asPtr (l 0) fun t_0 => asI .i64 (l 1) fun now_1 => asAdr (l 8) fun x8 => asAdr (l 9) fun r_9 => asB (l 29) fun x29 => transfer_Transfer_ask_b2 R t_0 now_1 x8 r_9 x29 I S) (cast (by kernel_rfl) h) ?_
    clear h
    intro l I S _ h
    obtain ⟨t_0, e0, h⟩ := asPtr_e h
    obtain ⟨now_1, e1, h⟩ := asI_e h
    obtain ⟨x8, e8, h⟩ := asAdr_e h
    obtain ⟨r_9, e9, h⟩ := asAdr_e h
    obtain ⟨x29, e29, h⟩ := asB_e h
    rw [upd_eta e0, upd_eta e1, upd_eta e8, upd_eta e9, upd_eta e29]
    refine WP.cond' (by kernel_rfl) (by kernel_rfl) h ?_ ?_
    · clear h
      intro h
      exact WP.drawF (.take 0 (.take 1 (.take 2 (.take 3 (.take 4 (.take 5 (.step 6 (.take 7 (.take 8 (.take 9 (.step 10 .done))))))))))) [6, 10] (by kernel_rfl) (by kernel_rfl) (by kernel_rfl) (by kernel_rfl) (by kernel_rfl) (cast (by kernel_rfl) h)
    · clear h
      intro h
      exact Pre.sound _ _ _ _ _ (cast (by kernel_rfl) h)
  · clear h
    intro l I S _ h
    obtain ⟨t_0, e0, h⟩ := asPtr_e h
    obtain ⟨now_1, e1, h⟩ := asI_e h
    obtain ⟨x8, e8, h⟩ := asAdr_e h
    rw [upd_eta e0, upd_eta e1, upd_eta e8]
    exact Pre.sound _ _ _ _ _ (cast (by kernel_rfl) h)
/-! ### transfer_Transfer_failed: function 30, (*bolter/transfer.Transfer).failed -/
noncomputable def transfer_Transfer_failed_code : Code := (Tryz.f30.body).getD .skip
def transfer_Transfer_failed (R : Value → IMem → SH → Prop) (t_0 : Option Addr) (now_1 : Int) (id_2 : Int) (I : IMem) (S : SH) : Prop :=
  ∀ b7 : Nat,
  ptrP t_0 fun x10 =>
  ∃ x13, Cell I ((b7, .cells #[.int .u16 0, .int .u16 0, .bool false, .string ⟨#[]⟩, .int .u16 0, .int .u32 0, .string ⟨#[]⟩] 34 (0, 0)) :: S) ((x10.add 5).add 1) (.int .u16 x13) ∧
  bcase (x13 == (251 : Int))
    (Runs Tryz.prog 28 #[.pointer t_0, .int .i64 now_1, .int .u16 id_2, .int .u16 252] I ((b7, .cells #[.int .u16 0, .int .u16 0, .bool false, .string ⟨#[]⟩, .int .u16 0, .int .u32 0, .string ⟨#[]⟩] 34 (0, 0)) :: S) fun v I1 S1 => ∃ x18_0 x18_1 x18_2 x18_3 x18_4 x18_5 x18_6, v = .agg #[.int .u16 x18_0, .int .u16 x18_1, .bool x18_2, .string x18_3, .int .u16 x18_4, .int .u32 x18_5, .string x18_6] ∧
    StP S1 ⟨b7, 0, none⟩ [.int .u16 x18_0, .int .u16 x18_1, .bool x18_2, .string x18_3, .int .u16 x18_4, .int .u32 x18_5, .string x18_6] fun S1' =>
    ∃ r7_0, Cell I1 S1' ⟨b7, 0, none⟩ (.int .u16 r7_0) ∧
    ∃ r7_1, Cell I1 S1' ⟨b7, 1, none⟩ (.int .u16 r7_1) ∧
    ∃ r7_2, Cell I1 S1' ⟨b7, 2, none⟩ (.bool r7_2) ∧
    ∃ r7_3, Cell I1 S1' ⟨b7, 3, none⟩ (.string r7_3) ∧
    ∃ r7_4, Cell I1 S1' ⟨b7, 4, none⟩ (.int .u16 r7_4) ∧
    ∃ r7_5, Cell I1 S1' ⟨b7, 5, none⟩ (.int .u32 r7_5) ∧
    ∃ r7_6, Cell I1 S1' ⟨b7, 6, none⟩ (.string r7_6) ∧
    R (.tuple #[.bool false, .agg #[.int .u16 r7_0, .int .u16 r7_1, .bool r7_2, .string r7_3, .int .u16 r7_4, .int .u32 r7_5, .string r7_6], .bool true]) I1 S1')
    (Runs Tryz.prog 27 #[.pointer t_0] I ((b7, .cells #[.int .u16 0, .int .u16 0, .bool false, .string ⟨#[]⟩, .int .u16 0, .int .u32 0, .string ⟨#[]⟩] 34 (0, 0)) :: S) fun v' I1' S1'' => ∃ x22_0 x22_1 x22_2 x22_3 x22_4 x22_5 x22_6, v' = .agg #[.string x22_0, .string x22_1, .int .u32 x22_2, .int .u32 x22_3, .int .u32 x22_4, .int .u32 x22_5, .int .u32 x22_6] ∧
    Runs Tryz.prog 26 #[.pointer t_0, .int .i64 now_1, .int .u32 x22_4] I1' S1'' fun v'' I1'' S1_r3 => v'' = .tuple #[] ∧
    StP S1_r3 ⟨b7, 0, none⟩ [.int .u16 0, .int .u16 0, .bool false, .string ⟨#[]⟩, .int .u16 0, .int .u32 0, .string ⟨#[]⟩] fun S1_r4 =>
    ∃ r7_0', Cell I1'' S1_r4 ⟨b7, 0, none⟩ (.int .u16 r7_0') ∧
    ∃ r7_1', Cell I1'' S1_r4 ⟨b7, 1, none⟩ (.int .u16 r7_1') ∧
    ∃ r7_2', Cell I1'' S1_r4 ⟨b7, 2, none⟩ (.bool r7_2') ∧
    ∃ r7_3', Cell I1'' S1_r4 ⟨b7, 3, none⟩ (.string r7_3') ∧
    ∃ r7_4', Cell I1'' S1_r4 ⟨b7, 4, none⟩ (.int .u16 r7_4') ∧
    ∃ r7_5', Cell I1'' S1_r4 ⟨b7, 5, none⟩ (.int .u32 r7_5') ∧
    ∃ r7_6', Cell I1'' S1_r4 ⟨b7, 6, none⟩ (.string r7_6') ∧
    R (.tuple #[.bool false, .agg #[.int .u16 r7_0', .int .u16 r7_1', .bool r7_2', .string r7_3', .int .u16 r7_4', .int .u32 r7_5', .string r7_6'], .bool false]) I1'' S1_r4)
theorem transfer_Transfer_failed_fn (R : Value → IMem → SH → Prop) (t_0 : Option Addr) (now_1 : Int) (id_2 : Int) (I : IMem) (S : SH) (h : transfer_Transfer_failed R t_0 now_1 id_2 I S) :
    Runs Tryz.prog 30 #[.pointer t_0, .int .i64 now_1, .int .u16 id_2] I S R := by
  refine Runs.of_wp (args := [.pointer t_0, .int .i64 now_1, .int .u16 id_2]) (c := transfer_Transfer_failed_code) Tryz.func30 (by kernel_rfl) (by kernel_rfl) ?_
  exact Pre.sound _ _ _ _ _ (cast (by kernel_rfl) h)
/-! ### transfer_Transfer_told: function 31, (*bolter/transfer.Transfer).told -/
noncomputable def transfer_Transfer_told_code : Code := (Tryz.f31.body).getD .skip
def transfer_Transfer_told_b7 (R : Value → IMem → SH → Prop) (t_0 : Option Addr) (now_1 : Int) (x9 : Addr) (I : IMem) (S : SH) : Prop :=
  Runs Tryz.prog 27 #[.pointer t_0] I S fun v I1 S1 => ∃ x68_0 x68_1 x68_2 x68_3 x68_4 x68_5 x68_6, v = .agg #[.string x68_0, .string x68_1, .int .u32 x68_2, .int .u32 x68_3, .int .u32 x68_4, .int .u32 x68_5, .int .u32 x68_6] ∧
  ptrP t_0 fun x72 =>
  StP S1 (x72.add 4) [.int .i64 (IntKind.wrap .i64 (now_1 + (IntKind.wrap .i64 x68_5)))] fun S1' =>
  Runs Tryz.prog 27 #[.pointer t_0] I1 S1' fun v' I1' S1'' => ∃ x77_0 x77_1 x77_2 x77_3 x77_4 x77_5 x77_6, v' = .agg #[.string x77_0, .string x77_1, .int .u32 x77_2, .int .u32 x77_3, .int .u32 x77_4, .int .u32 x77_5, .int .u32 x77_6] ∧
  Runs Tryz.prog 26 #[.pointer t_0, .int .i64 now_1, .int .u32 x77_3] I1' S1'' fun v'' I1'' S1_r3 => v'' = .tuple #[] ∧
  StP S1_r3 x9 [.int .u16 0, .int .u16 0, .bool false, .string ⟨#[]⟩, .int .u16 0, .int .u32 0, .string ⟨#[]⟩] fun S1_r4 =>
  ∃ r9_0, Cell I1'' S1_r4 x9 (.int .u16 r9_0) ∧
  ∃ r9_1, Cell I1'' S1_r4 (x9.add 1) (.int .u16 r9_1) ∧
  ∃ r9_2, Cell I1'' S1_r4 (x9.add 2) (.bool r9_2) ∧
  ∃ r9_3, Cell I1'' S1_r4 (x9.add 3) (.string r9_3) ∧
  ∃ r9_4, Cell I1'' S1_r4 (x9.add 4) (.int .u16 r9_4) ∧
  ∃ r9_5, Cell I1'' S1_r4 (x9.add 5) (.int .u32 r9_5) ∧
  ∃ r9_6, Cell I1'' S1_r4 (x9.add 6) (.string r9_6) ∧
  R (.tuple #[.bool false, .agg #[.int .u16 r9_0, .int .u16 r9_1, .bool r9_2, .string r9_3, .int .u16 r9_4, .int .u32 r9_5, .string r9_6], .bool false]) I1'' S1_r4
def transfer_Transfer_told_b6 (R : Value → IMem → SH → Prop) (t_0 : Option Addr) (now_1 : Int) (id_3 : Int) (x9 : Addr) (x54 : Bool) (I : IMem) (S : SH) : Prop :=
  bcase x54
    (Runs Tryz.prog 28 #[.pointer t_0, .int .i64 now_1, .int .u16 id_3, .int .u16 251] I S fun v I1 S1 => ∃ x64_0 x64_1 x64_2 x64_3 x64_4 x64_5 x64_6, v = .agg #[.int .u16 x64_0, .int .u16 x64_1, .bool x64_2, .string x64_3, .int .u16 x64_4, .int .u32 x64_5, .string x64_6] ∧
    StP S1 x9 [.int .u16 x64_0, .int .u16 x64_1, .bool x64_2, .string x64_3, .int .u16 x64_4, .int .u32 x64_5, .string x64_6] fun S1' =>
    ∃ r9_0, Cell I1 S1' x9 (.int .u16 r9_0) ∧
    ∃ r9_1, Cell I1 S1' (x9.add 1) (.int .u16 r9_1) ∧
    ∃ r9_2, Cell I1 S1' (x9.add 2) (.bool r9_2) ∧
    ∃ r9_3, Cell I1 S1' (x9.add 3) (.string r9_3) ∧
    ∃ r9_4, Cell I1 S1' (x9.add 4) (.int .u16 r9_4) ∧
    ∃ r9_5, Cell I1 S1' (x9.add 5) (.int .u32 r9_5) ∧
    ∃ r9_6, Cell I1 S1' (x9.add 6) (.string r9_6) ∧
    R (.tuple #[.bool false, .agg #[.int .u16 r9_0, .int .u16 r9_1, .bool r9_2, .string r9_3, .int .u16 r9_4, .int .u32 r9_5, .string r9_6], .bool true]) I1 S1')
    (transfer_Transfer_told_b7 R t_0 now_1 x9 I S)
def transfer_Transfer_told_b5 (R : Value → IMem → SH → Prop) (t_0 : Option Addr) (now_1 : Int) (id_3 : Int) (x9 : Addr) (s_11 : Addr) (x44 : Bool) (I : IMem) (S : SH) : Prop :=
  bcase x44
    (Runs Tryz.prog 30 #[.pointer t_0, .int .i64 now_1, .int .u16 id_3] I S fun v I1 S1 => ∃ x50_0 x50_1_0 x50_1_1 x50_1_2 x50_1_3 x50_1_4 x50_1_5 x50_1_6 x50_2, v = .tuple #[.bool x50_0, .agg #[.int .u16 x50_1_0, .int .u16 x50_1_1, .bool x50_1_2, .string x50_1_3, .int .u16 x50_1_4, .int .u32 x50_1_5, .string x50_1_6], .bool x50_2] ∧
    StP S1 x9 [.int .u16 x50_1_0, .int .u16 x50_1_1, .bool x50_1_2, .string x50_1_3, .int .u16 x50_1_4, .int .u32 x50_1_5, .string x50_1_6] fun S1' =>
    ∃ r9_0, Cell I1 S1' x9 (.int .u16 r9_0) ∧
    ∃ r9_1, Cell I1 S1' (x9.add 1) (.int .u16 r9_1) ∧
    ∃ r9_2, Cell I1 S1' (x9.add 2) (.bool r9_2) ∧
    ∃ r9_3, Cell I1 S1' (x9.add 3) (.string r9_3) ∧
    ∃ r9_4, Cell I1 S1' (x9.add 4) (.int .u16 r9_4) ∧
    ∃ r9_5, Cell I1 S1' (x9.add 5) (.int .u32 r9_5) ∧
    ∃ r9_6, Cell I1 S1' (x9.add 6) (.string r9_6) ∧
    R (.tuple #[.bool x50_0, .agg #[.int .u16 r9_0, .int .u16 r9_1, .bool r9_2, .string r9_3, .int .u16 r9_4, .int .u32 r9_5, .string r9_6], .bool x50_2]) I1 S1')
    (∃ x56, Cell I S (s_11.add 2) (.int .u32 x56) ∧
    Runs Tryz.prog 27 #[.pointer t_0] I S fun v' I1' S1'' => ∃ x58_0 x58_1 x58_2 x58_3 x58_4 x58_5 x58_6, v' = .agg #[.string x58_0, .string x58_1, .int .u32 x58_2, .int .u32 x58_3, .int .u32 x58_4, .int .u32 x58_5, .int .u32 x58_6] ∧
    Keep I S I1' S1'' ∧
    Runs Tryz.prog 20 #[.int .u32 x56, .int .u32 x58_2] I1' S1'' fun v'' I1'' S1_r3 => ∃ x60, v'' = .bool x60 ∧
    transfer_Transfer_told_b6 R t_0 now_1 id_3 x9 x60 I1'' S1_r3)
def transfer_Transfer_told_b4 (R : Value → IMem → SH → Prop) (t_0 : Option Addr) (now_1 : Int) (id_3 : Int) (x9 : Addr) (s_11 : Addr) (ok_12 : Bool) (I : IMem) (S : SH) : Prop :=
  transfer_Transfer_told_b5 R t_0 now_1 id_3 x9 s_11 (!ok_12) I S
def transfer_Transfer_told_b3 (R : Value → IMem → SH → Prop) (t_0 : Option Addr) (now_1 : Int) (id_3 : Int) (m_6 : Addr) (x9 : Addr) (I : IMem) (S : SH) : Prop :=
  ∃ x38 x38n x38c, Cell I S (m_6.add 10) (.slice x38 x38n x38c) ∧
  ptrP x38 fun x39 => (0 : Int) ≤ (0 : Int) ∧ (0 : Int) < (x38n : Int) ∧
  ∃ x40_0, Cell I S (x39.add ((0 : Int).toNat * 4)) (.string x40_0) ∧
  ∃ x40_1, Cell I S ((x39.add ((0 : Int).toNat * 4)).add 1) (.int .u16 x40_1) ∧
  ∃ x40_2, Cell I S ((x39.add ((0 : Int).toNat * 4)).add 2) (.int .u32 x40_2) ∧
  ∃ x40_3, Cell I S ((x39.add ((0 : Int).toNat * 4)).add 3) (.string x40_3) ∧
  Runs Tryz.prog 39 #[.agg #[.string x40_0, .int .u16 x40_1, .int .u32 x40_2, .string x40_3]] I S fun v I1 S1 => ∃ x41_0_0 x41_0_1 x41_0_2 x41_0_3 x41_0_4 x41_0_5 x41_0_6 x41_1, v = .tuple #[.agg #[.string x41_0_0, .string x41_0_1, .int .u32 x41_0_2, .int .u32 x41_0_3, .int .u32 x41_0_4, .int .u32 x41_0_5, .int .u32 x41_0_6], .bool x41_1] ∧
  ∀ b11 : Nat,
  StP ((b11, .cells #[.string ⟨#[]⟩, .string ⟨#[]⟩, .int .u32 0, .int .u32 0, .int .u32 0, .int .u32 0, .int .u32 0] 67 (0, 0)) :: S1) ⟨b11, 0, none⟩ [.string x41_0_0, .string x41_0_1, .int .u32 x41_0_2, .int .u32 x41_0_3, .int .u32 x41_0_4, .int .u32 x41_0_5, .int .u32 x41_0_6] fun S1' =>
  transfer_Transfer_told_b4 R t_0 now_1 id_3 x9 ⟨b11, 0, none⟩ x41_1 I1 S1'
def transfer_Transfer_told_b2 (R : Value → IMem → SH → Prop) (t_0 : Option Addr) (now_1 : Int) (id_3 : Int) (m_6 : Addr) (x9 : Addr) (x28 : Bool) (I : IMem) (S : SH) : Prop :=
  bcase x28
    (Runs Tryz.prog 30 #[.pointer t_0, .int .i64 now_1, .int .u16 id_3] I S fun v I1 S1 => ∃ x32_0 x32_1_0 x32_1_1 x32_1_2 x32_1_3 x32_1_4 x32_1_5 x32_1_6 x32_2, v = .tuple #[.bool x32_0, .agg #[.int .u16 x32_1_0, .int .u16 x32_1_1, .bool x32_1_2, .string x32_1_3, .int .u16 x32_1_4, .int .u32 x32_1_5, .string x32_1_6], .bool x32_2] ∧
    StP S1 x9 [.int .u16 x32_1_0, .int .u16 x32_1_1, .bool x32_1_2, .string x32_1_3, .int .u16 x32_1_4, .int .u32 x32_1_5, .string x32_1_6] fun S1' =>
    ∃ r9_0, Cell I1 S1' x9 (.int .u16 r9_0) ∧
    ∃ r9_1, Cell I1 S1' (x9.add 1) (.int .u16 r9_1) ∧
    ∃ r9_2, Cell I1 S1' (x9.add 2) (.bool r9_2) ∧
    ∃ r9_3, Cell I1 S1' (x9.add 3) (.string r9_3) ∧
    ∃ r9_4, Cell I1 S1' (x9.add 4) (.int .u16 r9_4) ∧
    ∃ r9_5, Cell I1 S1' (x9.add 5) (.int .u32 r9_5) ∧
    ∃ r9_6, Cell I1 S1' (x9.add 6) (.string r9_6) ∧
    R (.tuple #[.bool x32_0, .agg #[.int .u16 r9_0, .int .u16 r9_1, .bool r9_2, .string r9_3, .int .u16 r9_4, .int .u32 r9_5, .string r9_6], .bool x32_2]) I1 S1')
    (transfer_Transfer_told_b3 R t_0 now_1 id_3 m_6 x9 I S)
def transfer_Transfer_told_b1 (R : Value → IMem → SH → Prop) (t_0 : Option Addr) (now_1 : Int) (id_3 : Int) (m_6 : Addr) (x9 : Addr) (I : IMem) (S : SH) : Prop :=
  ∃ x14 x14n x14c, Cell I S (m_6.add 10) (.slice x14 x14n x14c) ∧
  bcase ((x14n : Int) != (1 : Int))
    (transfer_Transfer_told_b2 R t_0 now_1 id_3 m_6 x9 true I S)
    (∃ x19 x19n x19c, Cell I S (m_6.add 10) (.slice x19 x19n x19c) ∧
    ptrP x19 fun x20 => (0 : Int) ≤ (0 : Int) ∧ (0 : Int) < (x19n : Int) ∧
    ∃ x22, Cell I S (x20.add ((0 : Int).toNat * 4)) (.string x22) ∧
    ptrP t_0 fun x24 =>
    ∃ x26, Cell I S x24 (.string x26) ∧
    transfer_Transfer_told_b2 R t_0 now_1 id_3 m_6 x9 (!(x22.toList == x26.toList)) I S)
def transfer_Transfer_told (R : Value → IMem → SH → Prop) (t_0 : Option Addr) (now_1 : Int) (m_2_0 : Int) (m_2_1 : Bool) (m_2_2 : Int) (m_2_3 : Bool) (m_2_4 : Bool) (m_2_5 : Bool) (m_2_6 : Bool) (m_2_7 : Int) (m_2_8 : ByteArray) (m_2_9 : Int) (m_2_10 : Option Addr) (m_2_10n : Nat) (m_2_10c : Nat) (m_2_11 : Option Addr) (m_2_11n : Nat) (m_2_11c : Nat) (m_2_12 : Option Addr) (m_2_12n : Nat) (m_2_12c : Nat) (m_2_13 : Int) (id_3 : Int) (I : IMem) (S : SH) : Prop :=
  ∀ b6 : Nat,
  ∀ b9 : Nat,
  transfer_Transfer_told_b1 R t_0 now_1 id_3 ⟨b6, 0, none⟩ ⟨b9, 0, none⟩ I ((b9, .cells #[.int .u16 0, .int .u16 0, .bool false, .string ⟨#[]⟩, .int .u16 0, .int .u32 0, .string ⟨#[]⟩] 34 (0, 0)) :: ((b6, .cells #[.int .u16 m_2_0, .bool m_2_1, .int .i64 m_2_2, .bool m_2_3, .bool m_2_4, .bool m_2_5, .bool m_2_6, .int .i64 m_2_7, .string m_2_8, .int .u16 m_2_9, .slice m_2_10 m_2_10n m_2_10c, .slice m_2_11 m_2_11n m_2_11c, .slice m_2_12 m_2_12n m_2_12c, .int .i64 m_2_13] 44 (0, 0)) :: S))
theorem transfer_Transfer_told_fn (R : Value → IMem → SH → Prop) (t_0 : Option Addr) (now_1 : Int) (m_2_0 : Int) (m_2_1 : Bool) (m_2_2 : Int) (m_2_3 : Bool) (m_2_4 : Bool) (m_2_5 : Bool) (m_2_6 : Bool) (m_2_7 : Int) (m_2_8 : ByteArray) (m_2_9 : Int) (m_2_10 : Option Addr) (m_2_10n : Nat) (m_2_10c : Nat) (m_2_11 : Option Addr) (m_2_11n : Nat) (m_2_11c : Nat) (m_2_12 : Option Addr) (m_2_12n : Nat) (m_2_12c : Nat) (m_2_13 : Int) (id_3 : Int) (I : IMem) (S : SH) (h : transfer_Transfer_told R t_0 now_1 m_2_0 m_2_1 m_2_2 m_2_3 m_2_4 m_2_5 m_2_6 m_2_7 m_2_8 m_2_9 m_2_10 m_2_10n m_2_10c m_2_11 m_2_11n m_2_11c m_2_12 m_2_12n m_2_12c m_2_13 id_3 I S) :
    Runs Tryz.prog 31 #[.pointer t_0, .int .i64 now_1, .agg #[.int .u16 m_2_0, .bool m_2_1, .int .i64 m_2_2, .bool m_2_3, .bool m_2_4, .bool m_2_5, .bool m_2_6, .int .i64 m_2_7, .string m_2_8, .int .u16 m_2_9, .slice m_2_10 m_2_10n m_2_10c, .slice m_2_11 m_2_11n m_2_11c, .slice m_2_12 m_2_12n m_2_12c, .int .i64 m_2_13], .int .u16 id_3] I S R := by
  refine Runs.of_wp (args := [.pointer t_0, .int .i64 now_1, .agg #[.int .u16 m_2_0, .bool m_2_1, .int .i64 m_2_2, .bool m_2_3, .bool m_2_4, .bool m_2_5, .bool m_2_6, .int .i64 m_2_7, .string m_2_8, .int .u16 m_2_9, .slice m_2_10 m_2_10n m_2_10c, .slice m_2_11 m_2_11n m_2_11c, .slice m_2_12 m_2_12n m_2_12c, .int .i64 m_2_13], .int .u16 id_3]) (c := transfer_Transfer_told_code) Tryz.func31 (by kernel_rfl) (by kernel_rfl) ?_
  refine WP.cut 1 (fun l I S => asPtr (l 0) fun t_0 => asI .i64 (l 1) fun now_1 => asI .u16 (l 3) fun id_3 => asAdr (l 6) fun m_6 => asAdr (l 9) fun x9 => transfer_Transfer_told_b1 R t_0 now_1 id_3 m_6 x9 I S) (cast (by kernel_rfl) h) ?_
  clear h
  intro l I S _ h
  obtain ⟨t_0, e0, h⟩ := asPtr_e h
  obtain ⟨now_1, e1, h⟩ := asI_e h
  obtain ⟨id_3, e3, h⟩ := asI_e h
  obtain ⟨m_6, e6, h⟩ := asAdr_e h
  obtain ⟨x9, e9, h⟩ := asAdr_e h
  rw [upd_eta e0, upd_eta e1, upd_eta e3, upd_eta e6, upd_eta e9]
  refine WP.seqY (by kernel_rfl) (fun l I S => asPtr (l 0) fun t_0 => asI .i64 (l 1) fun now_1 => asI .u16 (l 3) fun id_3 => asAdr (l 6) fun m_6 => asAdr (l 9) fun x9 => transfer_Transfer_told_b3 R t_0 now_1 id_3 m_6 x9 I S) ?_ ?_
  ·
    refine WP.seqY (by kernel_rfl) (fun l I S => asPtr (l 0) fun t_0 => asI .i64 (l 1) fun now_1 => asI .u16 (l 3) fun id_3 => asAdr (l 6) fun m_6 => asAdr (l 9) fun x9 => asB (l 28) fun x28 => transfer_Transfer_told_b2 R t_0 now_1 id_3 m_6 x9 x28 I S) ?_ ?_
    ·
      exact WP.quiet' (by kernel_rfl) (by kernel_rfl) (by kernel_rfl) (cast (by kernel_rfl) h)
    · clear h
      intro l I S _ h
      obtain ⟨t_0, e0, h⟩ := asPtr_e h
      obtain ⟨now_1, e1, h⟩ := asI_e h
      obtain ⟨id_3, e3, h⟩ := asI_e h
      obtain ⟨m_6, e6, h⟩ := asAdr_e h
      obtain ⟨x9, e9, h⟩ := asAdr_e h
      obtain ⟨x28, e28, h⟩ := asB_e h
      rw [upd_eta e0, upd_eta e1, upd_eta e3, upd_eta e6, upd_eta e9, upd_eta e28]
      exact Pre.sound _ _ _ _ _ (cast (by kernel_rfl) h)
  · clear h
    intro l I S _ h
    obtain ⟨t_0, e0, h⟩ := asPtr_e h
    obtain ⟨now_1, e1, h⟩ := asI_e h
    obtain ⟨id_3, e3, h⟩ := asI_e h
    obtain ⟨m_6, e6, h⟩ := asAdr_e h
    obtain ⟨x9, e9, h⟩ := asAdr_e h
    rw [upd_eta e0, upd_eta e1, upd_eta e3, upd_eta e6, upd_eta e9]
    refine WP.cut 1 (fun l I S => asPtr (l 0) fun t_0 => asI .i64 (l 1) fun now_1 => asI .u16 (l 3) fun id_3 => asAdr (l 9) fun x9 => asAdr (l 11) fun s_11 => asB (l 12) fun ok_12 => transfer_Transfer_told_b4 R t_0 now_1 id_3 x9 s_11 ok_12 I S) (cast (by kernel_rfl) h) ?_
    clear h
    intro l I S _ h
    obtain ⟨t_0, e0, h⟩ := asPtr_e h
    obtain ⟨now_1, e1, h⟩ := asI_e h
    obtain ⟨id_3, e3, h⟩ := asI_e h
    obtain ⟨x9, e9, h⟩ := asAdr_e h
    obtain ⟨s_11, e11, h⟩ := asAdr_e h
    obtain ⟨ok_12, e12, h⟩ := asB_e h
    rw [upd_eta e0, upd_eta e1, upd_eta e3, upd_eta e9, upd_eta e11, upd_eta e12]
    refine WP.seqY (by kernel_rfl) (fun l I S => asPtr (l 0) fun t_0 => asI .i64 (l 1) fun now_1 => asAdr (l 9) fun x9 => transfer_Transfer_told_b7 R t_0 now_1 x9 I S) ?_ ?_
    ·
      refine WP.block' (by kernel_rfl) ?_
      refine WP.cut 1 (fun l I S => asPtr (l 0) fun t_0 => asI .i64 (l 1) fun now_1 => asI .u16 (l 3) fun id_3 => asAdr (l 9) fun x9 => asAdr (l 11) fun s_11 => asB (l 44) fun x44 => transfer_Transfer_told_b5 R t_0 now_1 id_3 x9 s_11 x44 I S) (cast (by kernel_rfl) h) ?_
      clear h
      intro l I S _ h
      obtain ⟨t_0, e0, h⟩ := asPtr_e h
      obtain ⟨now_1, e1, h⟩ := asI_e h
      obtain ⟨id_3, e3, h⟩ := asI_e h
      obtain ⟨x9, e9, h⟩ := asAdr_e h
      obtain ⟨s_11, e11, h⟩ := asAdr_e h
      obtain ⟨x44, e44, h⟩ := asB_e h
      rw [upd_eta e0, upd_eta e1, upd_eta e3, upd_eta e9, upd_eta e11, upd_eta e44]
      refine WP.cond' (by kernel_rfl) (by kernel_rfl) h ?_ ?_
      · clear h
        intro h
        exact Pre.sound _ _ _ _ _ (cast (by kernel_rfl) h)
      · clear h
        intro h
        refine WP.seqY (by kernel_rfl) (fun l I S => asPtr (l 0) fun t_0 => asI .i64 (l 1) fun now_1 => asI .u16 (l 3) fun id_3 => asAdr (l 9) fun x9 => asB (l 54) fun x54 => transfer_Transfer_told_b6 R t_0 now_1 id_3 x9 x54 I S) ?_ ?_
        ·
          exact WP.draw' (.take 0 (.take 1 (.take 2 (.step 3 (.take 4 (.step 5 (.take 6 .done))))))) [3, 5] (by kernel_rfl) (by kernel_rfl) (by kernel_rfl) (by kernel_rfl) (by kernel_rfl) (cast (by kernel_rfl) h)
        · clear h
          intro l I S _ h
          obtain ⟨t_0, e0, h⟩ := asPtr_e h
          obtain ⟨now_1, e1, h⟩ := asI_e h
          obtain ⟨id_3, e3, h⟩ := asI_e h
          obtain ⟨x9, e9, h⟩ := asAdr_e h
          obtain ⟨x54, e54, h⟩ := asB_e h
          rw [upd_eta e0, upd_eta e1, upd_eta e3, upd_eta e9, upd_eta e54]
          exact Pre.sound _ _ _ _ _ (cast (by kernel_rfl) h)
    · clear h
      intro l I S _ h
      obtain ⟨t_0, e0, h⟩ := asPtr_e h
      obtain ⟨now_1, e1, h⟩ := asI_e h
      obtain ⟨x9, e9, h⟩ := asAdr_e h
      rw [upd_eta e0, upd_eta e1, upd_eta e9]
      exact Pre.sound _ _ _ _ _ (cast (by kernel_rfl) h)
/-! ### transfer_Transfer_made: function 33, (*bolter/transfer.Transfer).made -/
noncomputable def transfer_Transfer_made_code : Code := (Tryz.f33.body).getD .skip
def transfer_Transfer_made_b3 (R : Value → IMem → SH → Prop) (t_0 : Option Addr) (all_4 : Option Addr) (all_4n : Nat) (all_4c : Nat) (e_5 : Value) (I : IMem) (S : SH) : Prop :=
  ∃ nl, isNilI e_5 = some nl ∧
  bcase (!nl)
    (R (.tuple #[.slice none 0 0, e_5]) I S)
    (ptrP t_0 fun x30 =>
    ∃ x32, Cell I S x30 (.string x32) ∧
    Runs Tryz.prog 47 #[.string x32, .slice all_4 all_4n all_4c] I S fun v I1 S1 => ∃ x34_0 x34_0n x34_0c x34_1, v = .tuple #[.slice x34_0 x34_0n x34_0c, x34_1] ∧
    R (.tuple #[.slice x34_0 x34_0n x34_0c, x34_1]) I1 S1)
def transfer_Transfer_made_b9 (R : Value → IMem → SH → Prop) (x2 : Option Addr) (x2n : Nat) (x2c : Nat) (x3 : Value) (I : IMem) (S : SH) : Prop :=
  R (.tuple #[.slice x2 x2n x2c, x3]) I S
def transfer_Transfer_made_b11 (R : Value → IMem → SH → Prop) (x2 : Option Addr) (x2n : Nat) (x2c : Nat) (x3 : Value) (I : IMem) (S : SH) : Prop :=
  R (.tuple #[.slice x2 x2n x2c, x3]) I S
def transfer_Transfer_made_b10 (R : Value → IMem → SH → Prop) (t_0 : Option Addr) (r_6 : Addr) (I : IMem) (S : SH) : Prop :=
  ptrP t_0 fun x82 =>
  ∃ x84, Cell I S x82 (.string x84) ∧
  ∃ x86 x86n x86c, Cell I S (r_6.add 1) (.slice x86 x86n x86c) ∧
  Runs Tryz.prog 47 #[.string x84, .slice x86 x86n x86c] I S fun v I1 S1 => ∃ x87_0 x87_0n x87_0c x87_1, v = .tuple #[.slice x87_0 x87_0n x87_0c, x87_1] ∧
  transfer_Transfer_made_b11 R x87_0 x87_0n x87_0c x87_1 I1 S1
def transfer_Transfer_made_b8 (R : Value → IMem → SH → Prop) (t_0 : Option Addr) (r_6 : Addr) (x63 : Bool) (I : IMem) (S : SH) : Prop :=
  bcase x63
    (ptrP t_0 fun x69 =>
    ∃ x71, Cell I S x69 (.string x71) ∧
    ptrP t_0 fun x73 =>
    ∃ x75 x75n x75c, Cell I S (x73.add 1) (.slice x75 x75n x75c) ∧
    ∃ x77 x77n x77c, Cell I S (r_6.add 2) (.slice x77 x77n x77c) ∧
    Runs Tryz.prog 49 #[.string x71, .slice x75 x75n x75c, .slice x77 x77n x77c] I S fun v I1 S1 => ∃ x78_0 x78_0n x78_0c x78_1, v = .tuple #[.slice x78_0 x78_0n x78_0c, x78_1] ∧
    transfer_Transfer_made_b9 R x78_0 x78_0n x78_0c x78_1 I1 S1)
    (transfer_Transfer_made_b10 R t_0 r_6 I S)
def transfer_Transfer_made_b7 (R : Value → IMem → SH → Prop) (t_0 : Option Addr) (r_6 : Addr) (x56 : Bool) (I : IMem) (S : SH) : Prop :=
  bcase x56
    (ptrP t_0 fun x60 =>
    ∃ x62 x62n x62c, Cell I S (x60.add 1) (.slice x62 x62n x62c) ∧
    R (.tuple #[.slice x62 x62n x62c, .nilIface]) I S)
    (∃ x65 x65n x65c, Cell I S (r_6.add 2) (.slice x65 x65n x65c) ∧
    transfer_Transfer_made_b8 R t_0 r_6 (decide ((x65n : Int) > (0 : Int))) I S)
def transfer_Transfer_made_b6 (R : Value → IMem → SH → Prop) (t_0 : Option Addr) (r_6 : Addr) (e_7 : Value) (x52 : Bool) (I : IMem) (S : SH) : Prop :=
  bcase x52
    (R (.tuple #[.slice none 0 0, e_7]) I S)
    (∃ x58, Cell I S r_6 (.bool x58) ∧
    transfer_Transfer_made_b7 R t_0 r_6 x58 I S)
def transfer_Transfer_made_b5 (R : Value → IMem → SH → Prop) (t_0 : Option Addr) (r_6 : Addr) (e_7 : Value) (I : IMem) (S : SH) : Prop :=
  ∃ nl, isNilI e_7 = some nl ∧
  transfer_Transfer_made_b6 R t_0 r_6 e_7 (!nl) I S
def transfer_Transfer_made_b4 (R : Value → IMem → SH → Prop) (t_0 : Option Addr) (I : IMem) (S : SH) : Prop :=
  ptrP t_0 fun x39 =>
  ∃ x41, Cell I S x39 (.string x41) ∧
  ptrP t_0 fun x46 =>
  ∃ x48 x48n x48c, Cell I S (x46.add 14) (.slice x48 x48n x48c) ∧
  (Runs Tryz.prog 27 #[.pointer t_0] I S fun v I1 S1 => ∃ x43_0 x43_1 x43_2 x43_3 x43_4 x43_5 x43_6, v = .agg #[.string x43_0, .string x43_1, .int .u32 x43_2, .int .u32 x43_3, .int .u32 x43_4, .int .u32 x43_5, .int .u32 x43_6] ∧
  Keep I S I1 S1 ∧
  (Runs Tryz.prog 48 #[.string x41, .int .u32 x43_2, .slice x48 x48n x48c] I1 S1 fun v' I1' S1' => ∃ x49_0_0 x49_0_1 x49_0_1n x49_0_1c x49_0_2 x49_0_2n x49_0_2c x49_1, v' = .tuple #[.agg #[.bool x49_0_0, .slice x49_0_1 x49_0_1n x49_0_1c, .slice x49_0_2 x49_0_2n x49_0_2c], x49_1] ∧
  ∀ b6 : Nat,
  Keep I S I1' ((b6, .cells #[.bool false, .slice none 0 0, .slice none 0 0] 100 (0, 0)) :: S1') ∧
  StP ((b6, .cells #[.bool false, .slice none 0 0, .slice none 0 0] 100 (0, 0)) :: S1') ⟨b6, 0, none⟩ [.bool x49_0_0, .slice x49_0_1 x49_0_1n x49_0_1c, .slice x49_0_2 x49_0_2n x49_0_2c] fun S1'' =>
  transfer_Transfer_made_b5 R t_0 ⟨b6, 0, none⟩ x49_1 I1' S1'') ∧
  (∀ b6' : Nat,
  Keep I S I1 ((b6', .cells #[.bool false, .slice none 0 0, .slice none 0 0] 100 (0, 0)) :: S1) ∧
  Runs Tryz.prog 48 #[.string x41, .int .u32 x43_2, .slice x48 x48n x48c] I1 ((b6', .cells #[.bool false, .slice none 0 0, .slice none 0 0] 100 (0, 0)) :: S1) fun v'' I1'' S1_r3 => ∃ x49_0_0' x49_0_1' x49_0_1'n x49_0_1'c x49_0_2' x49_0_2'n x49_0_2'c x49_1', v'' = .tuple #[.agg #[.bool x49_0_0', .slice x49_0_1' x49_0_1'n x49_0_1'c, .slice x49_0_2' x49_0_2'n x49_0_2'c], x49_1'] ∧
  StP S1_r3 ⟨b6', 0, none⟩ [.bool x49_0_0', .slice x49_0_1' x49_0_1'n x49_0_1'c, .slice x49_0_2' x49_0_2'n x49_0_2'c] fun S1_r4 =>
  transfer_Transfer_made_b5 R t_0 ⟨b6', 0, none⟩ x49_1' I1'' S1_r4)) ∧
  (∀ b6'' : Nat,
  Keep I S I ((b6'', .cells #[.bool false, .slice none 0 0, .slice none 0 0] 100 (0, 0)) :: S) ∧
  Runs Tryz.prog 27 #[.pointer t_0] I ((b6'', .cells #[.bool false, .slice none 0 0, .slice none 0 0] 100 (0, 0)) :: S) fun v_r3 I1_r3 S1_r5 => ∃ x43_0' x43_1' x43_2' x43_3' x43_4' x43_5' x43_6', v_r3 = .agg #[.string x43_0', .string x43_1', .int .u32 x43_2', .int .u32 x43_3', .int .u32 x43_4', .int .u32 x43_5', .int .u32 x43_6'] ∧
  Keep I S I1_r3 S1_r5 ∧
  Runs Tryz.prog 48 #[.string x41, .int .u32 x43_2', .slice x48 x48n x48c] I1_r3 S1_r5 fun v_r4 I1_r4 S1_r6 => ∃ x49_0_0'' x49_0_1'' x49_0_1''n x49_0_1''c x49_0_2'' x49_0_2''n x49_0_2''c x49_1'', v_r4 = .tuple #[.agg #[.bool x49_0_0'', .slice x49_0_1'' x49_0_1''n x49_0_1''c, .slice x49_0_2'' x49_0_2''n x49_0_2''c], x49_1''] ∧
  StP S1_r6 ⟨b6'', 0, none⟩ [.bool x49_0_0'', .slice x49_0_1'' x49_0_1''n x49_0_1''c, .slice x49_0_2'' x49_0_2''n x49_0_2''c] fun S1_r7 =>
  transfer_Transfer_made_b5 R t_0 ⟨b6'', 0, none⟩ x49_1'' I1_r4 S1_r7)
def transfer_Transfer_made_b2 (R : Value → IMem → SH → Prop) (t_0 : Option Addr) (x13 : Bool) (I : IMem) (S : SH) : Prop :=
  bcase x13
    (ptrP t_0 fun x16 =>
    ∃ x18, Cell I S x16 (.string x18) ∧
    ptrP t_0 fun x20 =>
    ∃ x22 x22n x22c, Cell I S (x20.add 14) (.slice x22 x22n x22c) ∧
    Runs Tryz.prog 46 #[.string x18, .slice x22 x22n x22c] I S fun v I1 S1 => ∃ x23_0 x23_0n x23_0c x23_1, v = .tuple #[.slice x23_0 x23_0n x23_0c, x23_1] ∧
    transfer_Transfer_made_b3 R t_0 x23_0 x23_0n x23_0c x23_1 I1 S1)
    (transfer_Transfer_made_b4 R t_0 I S)
def transfer_Transfer_made_b1 (R : Value → IMem → SH → Prop) (t_0 : Option Addr) (I : IMem) (S : SH) : Prop :=
  ptrP t_0 fun x9 =>
  ∃ x12, Cell I S ((x9.add 5).add 1) (.int .u16 x12) ∧
  transfer_Transfer_made_b2 R t_0 (x12 == (252 : Int)) I S
def transfer_Transfer_made (R : Value → IMem → SH → Prop) (t_0 : Option Addr) (I : IMem) (S : SH) : Prop :=
  transfer_Transfer_made_b1 R t_0 I S
theorem transfer_Transfer_made_fn (R : Value → IMem → SH → Prop) (t_0 : Option Addr) (I : IMem) (S : SH) (h : transfer_Transfer_made R t_0 I S) :
    Runs Tryz.prog 33 #[.pointer t_0] I S R := by
  refine Runs.of_wp (args := [.pointer t_0]) (c := transfer_Transfer_made_code) Tryz.func33 (by kernel_rfl) (by kernel_rfl) ?_
  refine WP.cut 1 (fun l I S => asPtr (l 0) fun t_0 => transfer_Transfer_made_b1 R t_0 I S) (cast (by kernel_rfl) h) ?_
  clear h
  intro l I S _ h
  obtain ⟨t_0, e0, h⟩ := asPtr_e h
  rw [upd_eta e0]
  refine WP.seqY (by kernel_rfl) (fun l I S => asPtr (l 0) fun t_0 => transfer_Transfer_made_b4 R t_0 I S) ?_ ?_
  ·
    refine WP.cut 1 (fun l I S => asPtr (l 0) fun t_0 => asB (l 13) fun x13 => transfer_Transfer_made_b2 R t_0 x13 I S) (cast (by kernel_rfl) h) ?_
    clear h
    intro l I S _ h
    obtain ⟨t_0, e0, h⟩ := asPtr_e h
    obtain ⟨x13, e13, h⟩ := asB_e h
    rw [upd_eta e0, upd_eta e13]
    refine WP.cond' (by kernel_rfl) (by kernel_rfl) h ?_ ?_
    · clear h
      intro h
      refine WP.seqY (by kernel_rfl) (fun l I S => asPtr (l 0) fun t_0 => asSl (l 4) fun all_4 all_4n all_4c => asV (l 5) fun e_5 => transfer_Transfer_made_b3 R t_0 all_4 all_4n all_4c e_5 I S) ?_ ?_
      ·
        exact WP.draw' (.take 0 (.take 1 (.take 2 (.take 3 (.take 4 (.take 5 (.take 6 (.take 7 (.step 8 (.take 9 (.take 10 (.take 11 (.take 12 (.take 13 .done)))))))))))))) [8] (by kernel_rfl) (by kernel_rfl) (by kernel_rfl) (by kernel_rfl) (by kernel_rfl) (cast (by kernel_rfl) h)
      · clear h
        intro l I S _ h
        obtain ⟨t_0, e0, h⟩ := asPtr_e h
        obtain ⟨all_4, all_4n, all_4c, e4, h⟩ := asSl_e h
        obtain ⟨e_5, e5, h⟩ := asV_e h
        rw [upd_eta e0, upd_eta e4, upd_eta e5]
        exact Pre.sound _ _ _ _ _ (cast (by kernel_rfl) h)
    · clear h
      intro h
      exact Pre.sound _ _ _ _ _ (cast (by kernel_rfl) h)
  · clear h
    intro l I S _ h
    obtain ⟨t_0, e0, h⟩ := asPtr_e h
    rw [upd_eta e0]
    refine WP.seqY (by kernel_rfl) (fun l I S => asPtr (l 0) fun t_0 => asAdr (l 6) fun r_6 => asV (l 7) fun e_7 => transfer_Transfer_made_b5 R t_0 r_6 e_7 I S) ?_ ?_
    ·
      exact WP.draw' (.take 0 (.take 1 (.take 2 (.take 3 (.take 4 (.take 7 (.take 8 (.take 9 (.take 10 (.fork 5 (.take 6 (.fork 11 (.take 12 (.take 13 (.take 14 (.step 15 (.step 16 (.take 17 .done)))))) 15 (.step 11 (.take 12 (.take 13 (.take 14 (.step 16 (.take 17 .done)))))))) 15 (.step 5 (.take 6 (.step 11 (.take 12 (.take 13 (.take 14 (.step 16 (.take 17 .done)))))))))))))))))) [5, 11, 15, 16] (by kernel_rfl) (by kernel_rfl) (by kernel_rfl) (by kernel_rfl) (by kernel_rfl) (cast (by kernel_rfl) h)
    · clear h
      intro l I S _ h
      obtain ⟨t_0, e0, h⟩ := asPtr_e h
      obtain ⟨r_6, e6, h⟩ := asAdr_e h
      obtain ⟨e_7, e7, h⟩ := asV_e h
      rw [upd_eta e0, upd_eta e6, upd_eta e7]
      refine WP.seqY (by kernel_rfl) (fun l I S => asPtr (l 0) fun t_0 => asAdr (l 6) fun r_6 => transfer_Transfer_made_b10 R t_0 r_6 I S) ?_ ?_
      ·
        refine WP.block' (by kernel_rfl) ?_
        refine WP.cut 1 (fun l I S => asPtr (l 0) fun t_0 => asAdr (l 6) fun r_6 => asV (l 7) fun e_7 => asB (l 52) fun x52 => transfer_Transfer_made_b6 R t_0 r_6 e_7 x52 I S) (cast (by kernel_rfl) h) ?_
        clear h
        intro l I S _ h
        obtain ⟨t_0, e0, h⟩ := asPtr_e h
        obtain ⟨r_6, e6, h⟩ := asAdr_e h
        obtain ⟨e_7, e7, h⟩ := asV_e h
        obtain ⟨x52, e52, h⟩ := asB_e h
        rw [upd_eta e0, upd_eta e6, upd_eta e7, upd_eta e52]
        refine WP.cond' (by kernel_rfl) (by kernel_rfl) h ?_ ?_
        · clear h
          intro h
          exact Pre.sound _ _ _ _ _ (cast (by kernel_rfl) h)
        · clear h
          intro h
          refine WP.cut 1 (fun l I S => asPtr (l 0) fun t_0 => asAdr (l 6) fun r_6 => asB (l 56) fun x56 => transfer_Transfer_made_b7 R t_0 r_6 x56 I S) (cast (by kernel_rfl) h) ?_
          clear h
          intro l I S _ h
          obtain ⟨t_0, e0, h⟩ := asPtr_e h
          obtain ⟨r_6, e6, h⟩ := asAdr_e h
          obtain ⟨x56, e56, h⟩ := asB_e h
          rw [upd_eta e0, upd_eta e6, upd_eta e56]
          refine WP.cond' (by kernel_rfl) (by kernel_rfl) h ?_ ?_
          · clear h
            intro h
            exact Pre.sound _ _ _ _ _ (cast (by kernel_rfl) h)
          · clear h
            intro h
            refine WP.cut 1 (fun l I S => asPtr (l 0) fun t_0 => asAdr (l 6) fun r_6 => asB (l 63) fun x63 => transfer_Transfer_made_b8 R t_0 r_6 x63 I S) (cast (by kernel_rfl) h) ?_
            clear h
            intro l I S _ h
            obtain ⟨t_0, e0, h⟩ := asPtr_e h
            obtain ⟨r_6, e6, h⟩ := asAdr_e h
            obtain ⟨x63, e63, h⟩ := asB_e h
            rw [upd_eta e0, upd_eta e6, upd_eta e63]
            refine WP.cond' (by kernel_rfl) (by kernel_rfl) h ?_ ?_
            · clear h
              intro h
              refine WP.seqY (by kernel_rfl) (fun l I S => asSl (l 2) fun x2 x2n x2c => asV (l 3) fun x3 => transfer_Transfer_made_b9 R x2 x2n x2c x3 I S) ?_ ?_
              ·
                exact WP.draw' (.take 0 (.take 1 (.take 2 (.take 3 (.take 4 (.take 5 (.take 6 (.take 7 (.take 8 (.take 9 (.step 10 (.take 11 (.take 12 (.take 13 (.take 14 .done))))))))))))))) [10] (by kernel_rfl) (by kernel_rfl) (by kernel_rfl) (by kernel_rfl) (by kernel_rfl) (cast (by kernel_rfl) h)
              · clear h
                intro l I S _ h
                obtain ⟨x2, x2n, x2c, e2, h⟩ := asSl_e h
                obtain ⟨x3, e3, h⟩ := asV_e h
                rw [upd_eta e2, upd_eta e3]
                exact Pre.sound _ _ _ _ _ (cast (by kernel_rfl) h)
            · clear h
              intro h
              exact Pre.sound _ _ _ _ _ (cast (by kernel_rfl) h)
      · clear h
        intro l I S _ h
        obtain ⟨t_0, e0, h⟩ := asPtr_e h
        obtain ⟨r_6, e6, h⟩ := asAdr_e h
        rw [upd_eta e0, upd_eta e6]
        refine WP.seqY (by kernel_rfl) (fun l I S => asSl (l 2) fun x2 x2n x2c => asV (l 3) fun x3 => transfer_Transfer_made_b11 R x2 x2n x2c x3 I S) ?_ ?_
        ·
          exact WP.draw' (.take 0 (.take 1 (.take 2 (.take 3 (.take 4 (.take 5 (.step 6 (.take 7 (.take 8 (.take 9 (.take 10 .done))))))))))) [6] (by kernel_rfl) (by kernel_rfl) (by kernel_rfl) (by kernel_rfl) (by kernel_rfl) (cast (by kernel_rfl) h)
        · clear h
          intro l I S _ h
          obtain ⟨x2, x2n, x2c, e2, h⟩ := asSl_e h
          obtain ⟨x3, e3, h⟩ := asV_e h
          rw [upd_eta e2, upd_eta e3]
          exact Pre.sound _ _ _ _ _ (cast (by kernel_rfl) h)
end Go.Proofs.YthlkeokfmedjhaaGreat
/- A transfer's state, in memory and as data: its times, what it asks, how it closes. -/
namespace Go.Px
theorem add2 (b o k j : Nat) : ((⟨b, o, none⟩ : Addr).add k).add j = ⟨b, o + k + j, none⟩ := by rw [add_mk, add_mk]
end Go.Px
namespace Go.Proofs.YthlkeokfmedjhaaGreat
open Go.Px
set_option linter.unusedVariables false
set_option linter.unusedSimpArgs false

abbrev Rq := Int × Int × Bool × Rc
abbrev rq0 : Rq := (0, 0, false, zR0)
abbrev encQ (q : Rq) : List Value := [.int .u16 q.1, .int .u16 q.2.1, .bool q.2.2.1, .string q.2.2.2.1, .int .u16 q.2.2.2.2.1, .int .u32 q.2.2.2.2.2.1, .string q.2.2.2.2.2.2]
abbrev vQ (q : Rq) : Value := .agg #[.int .u16 q.1, .int .u16 q.2.1, .bool q.2.2.1, .string q.2.2.2.1, .int .u16 q.2.2.2.2.1, .int .u32 q.2.2.2.2.2.1, .string q.2.2.2.2.2.2]
structure Tr where
  org : ByteArray
  zone : List Rc
  has : Bool
  next : Int
  over : Int
  q : Rq
  opn : Bool
  til : Int
  got : List Rc
abbrev encT (s : Tr) (z g : Sl) : List Value := [.string s.org, .slice z.1 z.2.1 z.2.2, .bool s.has, .int .i64 s.next, .int .i64 s.over, .int .u16 s.q.1, .int .u16 s.q.2.1, .bool s.q.2.2.1, .string s.q.2.2.2.1, .int .u16 s.q.2.2.2.2.1, .int .u32 s.q.2.2.2.2.2.1, .string s.q.2.2.2.2.2.2, .bool s.opn, .int .i64 s.til, .slice g.1 g.2.1 g.2.2]
abbrev tB (e : TypeId) (b : Nat) (s : Tr) (z g : Sl) : Nat × Obj := (b, .cells (encT s z g).toArray e (0, 0))
/-- a transfer lies there -/
def TrAt (e : TypeId) (b : Nat) (s : Tr) (own : SH) : Prop := ∃ z g ownz owng, own = tB e b s z g :: (ownz ++ owng) ∧ OwnZ (.slice z.1 z.2.1 z.2.2) s.zone ownz ∧ OwnZ (.slice g.1 g.2.1 g.2.2) s.got owng
structure TOK (s : Tr) : Prop where
  ss : SS s.zone
  right : s.zone = [] ∨ RightP s.zone s.org
  small : ∀ r ∈ s.zone, SmallR r
  gl : s.got.length ≤ 1024
  gsm : ∀ r ∈ s.got, SmallR r
theorem TOK.len {s : Tr} (h : TOK s) : s.zone.length ≤ 256 := by
  rcases h.right with h | h
  · rw [h]; decide
  · exact h.many
theorem small_size {xs : List Rc} (h : ∀ r ∈ xs, SmallR r) : SizeOK xs := fun r hr => by have := (h r hr).dt; omega
abbrev sdft : Sv := (⟨#[]⟩, ⟨#[]⟩, 0, 5, 5, 0, 0)
def soaZ (zs : List Rc) : Rc := (zs.find? isSoa).getD zR0
def timesT (zs : List Rc) : Sv := if soaB (soaZ zs) = true then soaO (soaZ zs) else sdft
theorem soaZ_size {zs : List Rc} (h : SizeOK zs) : (soaZ zs).2.2.2.size ≤ 4611686018427387904 := by
  unfold soaZ
  cases hf : zs.find? isSoa with
  | none => show (0 : Nat) ≤ _; omega
  | some r => exact h r (List.mem_of_find?_eq_some hf)
theorem times_runs {e : TypeId} {b : Nat} {s : Tr} {own F S : SH} {I : IMem} (h : TrAt e b s own) (hs : Sub (own ++ F) S) (hl : s.zone.length ≤ 100000) (hsm : SizeOK s.zone) :
    Runs Tryz.prog 27 #[.pointer (some ⟨b, 0, none⟩)] I S fun v _ T => v = vS (timesT s.zone) ∧ T = S := by
  obtain ⟨z, g, ownz, owng, rfl, hz, hg⟩ := h
  have hzl := hz.len
  refine Runs.drop (transfer_Transfer_times_fn _ _ _ _ ?_)
  unfold transfer_Transfer_times
  intro b2
  have hzr : RowIn I ((b2, Obj.cells (encS s0).toArray 67 (0, 0)) :: S) z.1 s.zone.length 4 encR s.zone := hzl ▸ ((hz.row encR_len).sub ((hs.left.drop.left).skip _))
  refine ⟨_, _, _, Cell.at_ (add_mk _ _ _) (Cell.among (hs.skip _) rfl), ?_⟩
  rw [hzl]
  refine (Soa_runs hzr (by omega)).mono ?_
  rintro v J T hle ⟨rfl, rfl⟩
  refine ⟨_, _, _, _, _, rfl, fun b3 => StP.rec (x := soaZ s.zone) ⟨_, Cell.at0 rfl, _, Cell.at0 rfl, _, Cell.at0 rfl, _, Cell.at0 rfl, (Of_runs (soaZ s.zone) (soaZ_size hsm) _ _).mono ?_⟩⟩
  rintro v J2 T2 hle2 ⟨rfl, rfl⟩
  refine ⟨_, _, _, _, _, _, _, _, rfl, fun b5 => StP.all (vs := encS (soaO (soaZ s.zone))) rfl rfl ?_⟩
  refine bcase_not (bcase_of (fun h1 => ?_) (fun h1 => ?_))
  · refine ⟨_, Cell.at0 rfl, _, Cell.at0 rfl, _, Cell.at0 rfl, _, Cell.at0 rfl, _, Cell.at0 rfl, _, Cell.at0 rfl, _, Cell.at0 rfl, StP.tl (StP.tl (StP.all (vs := encS (soaO (soaZ s.zone))) rfl rfl ?_))⟩
    refine ⟨_, Cell.tl (Cell.tl (Cell.at0 rfl)), _, Cell.tl (Cell.tl (Cell.at0 rfl)), _, Cell.tl (Cell.tl (Cell.at0 rfl)), _, Cell.tl (Cell.tl (Cell.at0 rfl)), _, Cell.tl (Cell.tl (Cell.at0 rfl)), _, Cell.tl (Cell.tl (Cell.at0 rfl)), _, Cell.tl (Cell.tl (Cell.at0 rfl)), S, (((Sub.refl S).skip _).skip _).skip _, ?_, rfl⟩
    rw [timesT, if_pos h1]
  · refine StP.tl (StP.tl (StP.all (vs := encS sdft) rfl rfl ?_))
    refine ⟨_, Cell.tl (Cell.tl (Cell.at0 rfl)), _, Cell.tl (Cell.tl (Cell.at0 rfl)), _, Cell.tl (Cell.tl (Cell.at0 rfl)), _, Cell.tl (Cell.tl (Cell.at0 rfl)), _, Cell.tl (Cell.tl (Cell.at0 rfl)), _, Cell.tl (Cell.tl (Cell.at0 rfl)), _, Cell.tl (Cell.tl (Cell.at0 rfl)), S, (((Sub.refl S).skip _).skip _).skip _, ?_, rfl⟩
    rw [timesT, if_neg (by rw [h1]; exact Bool.false_ne_true)]
def closeT (s : Tr) (now later : Int) : Tr := { s with opn := false, got := [], next := IntKind.wrap .i64 (now + (if IntKind.wrap .i64 later > 1 then IntKind.wrap .i64 later else 1)) }
theorem close_runs {e : TypeId} {b : Nat} {s : Tr} {own F S : SH} {I : IMem} (h : TrAt e b s own) (hs : Sub (own ++ F) S) (now later : Int) :
    Runs Tryz.prog 26 #[.pointer (some ⟨b, 0, none⟩), .int .i64 now, .int .u32 later] I S fun v _ T => v = .tuple #[] ∧ ∃ own', TrAt e b (closeT s now later) own' ∧ Sub (own' ++ F) T := by
  obtain ⟨z, g, ownz, owng, rfl, hz, hg⟩ := h
  refine transfer_Transfer_close_fn _ _ _ _ _ _ ?_
  unfold transfer_Transfer_close
  refine StP.at_ (add_mk _ _ _) (StP.among (L' := encT { s with opn := false } z g) hs (Nat.le_of_ble_eq_true rfl) rfl rfl ?_)
  intro T1 hT1
  refine StP.at_ (add_mk _ _ _) (StP.among (L' := encT { s with opn := false, got := [] } z (none, 0, 0)) hT1 (Nat.le_of_ble_eq_true rfl) rfl rfl ?_)
  intro T2 hT2
  refine StP.at_ (add_mk _ _ _) (StP.among (L' := encT (closeT s now later) z (none, 0, 0)) hT2 (Nat.le_of_ble_eq_true rfl) rfl rfl ?_)
  intro T3 hT3
  exact ⟨rfl, _, ⟨z, (none, 0, 0), ownz, [], rfl, hz, OwnR.nil⟩, hT3.re (by intro a; simp only [tB, List.append_eq, cnt_cons, cnt_app, cnt_nil]; omega)⟩
def askQ (zs : List Rc) (id kind : Int) : Rq := if kind = 251 ∧ (zs.find? isSoa).isSome = true then (id, kind, true, soaZ zs) else (id, kind, false, zR0)
def askT (s : Tr) (now id kind : Int) : Tr := { s with q := askQ s.zone id kind, opn := true, til := IntKind.wrap .i64 (now + 4), got := [] }
theorem ask_end {e : TypeId} {b : Nat} {s : Tr} {z g : Sl} {ownz owng F S : SH} {I : IMem} {now b8 : Int} {b9 : Nat} {u : Rq} (hz : OwnZ (.slice z.1 z.2.1 z.2.2) s.zone ownz) (hs : Sub (tB e b s z g :: ((b9, .cells (encQ u).toArray 34 (0, 0)) :: (ownz ++ (owng ++ F)))) S) :
    transfer_Transfer_ask_b3 (fun v _ T => v = vQ s.q ∧ ∃ own', TrAt e b { s with opn := true, til := IntKind.wrap .i64 (now + 4), got := [] } own' ∧ Sub (own' ++ F) T) (some ⟨b, 0, none⟩) now ⟨b9, 0, none⟩ I S := by
  unfold transfer_Transfer_ask_b3
  refine StP.at_ (add_mk _ _ _) (StP.among (L' := encT { s with opn := true } z g) hs (Nat.le_of_ble_eq_true rfl) rfl rfl ?_)
  intro T1 hT1
  refine StP.at_ (add_mk _ _ _) (StP.among (L' := encT { s with opn := true, til := IntKind.wrap .i64 (now + 4) } z g) hT1 (Nat.le_of_ble_eq_true rfl) rfl rfl ?_)
  intro T2 hT2
  refine StP.at_ (add_mk _ _ _) (StP.among (L' := encT { s with opn := true, til := IntKind.wrap .i64 (now + 4), got := [] } z (none, 0, 0)) hT2 (Nat.le_of_ble_eq_true rfl) rfl rfl ?_)
  intro T3 hT3
  refine ⟨_, Cell.at_ (add_mk _ _ _) (Cell.among hT3 rfl), _, Cell.at_ (add2 _ _ _ _) (Cell.among hT3 rfl), _, Cell.at_ (add2 _ _ _ _) (Cell.among hT3 rfl), _, Cell.at_ (add2 _ _ _ _) (Cell.among hT3 rfl), _, Cell.at_ (add2 _ _ _ _) (Cell.among hT3 rfl), _, Cell.at_ (add2 _ _ _ _) (Cell.among hT3 rfl), _, Cell.at_ (add2 _ _ _ _) (Cell.among hT3 rfl), ?_⟩
  refine StP.among (e := 34) (L := encQ u) (L' := encQ s.q) (F := tB e b { s with opn := true, til := IntKind.wrap .i64 (now + 4), got := [] } z (none, 0, 0) :: (ownz ++ (owng ++ F))) (hT3.re (by intro a; simp only [tB, List.append_eq, cnt_cons, cnt_app, cnt_nil]; omega)) (Nat.le_of_ble_eq_true rfl) rfl rfl ?_
  intro T4 hT4
  refine ⟨_, Cell.among hT4 rfl, _, Cell.at_ (add_mk _ _ _) (Cell.among hT4 rfl), _, Cell.at_ (add_mk _ _ _) (Cell.among hT4 rfl), _, Cell.at_ (add_mk _ _ _) (Cell.among hT4 rfl), _, Cell.at_ (add_mk _ _ _) (Cell.among hT4 rfl), _, Cell.at_ (add_mk _ _ _) (Cell.among hT4 rfl), _, Cell.at_ (add_mk _ _ _) (Cell.among hT4 rfl), rfl, _, ⟨z, (none, 0, 0), ownz, [], rfl, hz, OwnR.nil⟩, hT4.drop.re (by intro a; simp only [tB, List.append_eq, cnt_cons, cnt_app, cnt_nil]; omega)⟩
end Go.Proofs.YthlkeokfmedjhaaGreat
/- A transfer asks, fails, is told; its tick, a word of the master. -/
namespace Go.Proofs.YthlkeokfmedjhaaGreat
open Go.Px
set_option linter.unusedVariables false
set_option linter.unusedSimpArgs false

abbrev qB (b : Nat) (u : Rq) : Nat × Obj := (b, .cells (encQ u).toArray 34 (0, 0))
theorem put_q {R' : Int → Int → Bool → ByteArray → Int → Int → ByteArray → SH → Prop} {b : Nat} {u q : Rq} {F S : SH} {I : IMem} (hs : Sub (qB b u :: F) S) (h : ∀ T, Sub F T → R' q.1 q.2.1 q.2.2.1 q.2.2.2.1 q.2.2.2.2.1 q.2.2.2.2.2.1 q.2.2.2.2.2.2 T) :
    StP S ⟨b, 0, none⟩ [.int .u16 q.1, .int .u16 q.2.1, .bool q.2.2.1, .string q.2.2.2.1, .int .u16 q.2.2.2.2.1, .int .u32 q.2.2.2.2.2.1, .string q.2.2.2.2.2.2] fun S1 =>
      ∃ r0, Cell I S1 ⟨b, 0, none⟩ (.int .u16 r0) ∧ ∃ r1, Cell I S1 ((⟨b, 0, none⟩ : Addr).add 1) (.int .u16 r1) ∧ ∃ r2, Cell I S1 ((⟨b, 0, none⟩ : Addr).add 2) (.bool r2) ∧ ∃ r3, Cell I S1 ((⟨b, 0, none⟩ : Addr).add 3) (.string r3) ∧
      ∃ r4, Cell I S1 ((⟨b, 0, none⟩ : Addr).add 4) (.int .u16 r4) ∧ ∃ r5, Cell I S1 ((⟨b, 0, none⟩ : Addr).add 5) (.int .u32 r5) ∧ ∃ r6, Cell I S1 ((⟨b, 0, none⟩ : Addr).add 6) (.string r6) ∧ R' r0 r1 r2 r3 r4 r5 r6 S1 := by
  refine StP.among (L' := encQ q) hs (Nat.le_of_ble_eq_true rfl) rfl rfl ?_
  intro T hT
  exact ⟨_, Cell.among hT rfl, _, Cell.at_ (add_mk _ _ _) (Cell.among hT rfl), _, Cell.at_ (add_mk _ _ _) (Cell.among hT rfl), _, Cell.at_ (add_mk _ _ _) (Cell.among hT rfl), _, Cell.at_ (add_mk _ _ _) (Cell.among hT rfl), _, Cell.at_ (add_mk _ _ _) (Cell.among hT rfl), _, Cell.at_ (add_mk _ _ _) (Cell.among hT rfl), h T hT.drop⟩
theorem ask_runs {e : TypeId} {b : Nat} {s : Tr} {own F S : SH} {I : IMem} (h : TrAt e b s own) (hs : Sub (own ++ F) S) (now id kind : Int) (hl : s.zone.length ≤ 100000) :
    Runs Tryz.prog 28 #[.pointer (some ⟨b, 0, none⟩), .int .i64 now, .int .u16 id, .int .u16 kind] I S fun v _ T => v = vQ (askQ s.zone id kind) ∧ ∃ own', TrAt e b (askT s now id kind) own' ∧ Sub (own' ++ F) T := by
  obtain ⟨z, g, ownz, owng, rfl, hz, hg⟩ := h
  have hzl := hz.len
  refine transfer_Transfer_ask_fn _ _ _ _ _ _ _ ?_
  unfold transfer_Transfer_ask
  intro b8
  refine StP.at_ (add_mk _ _ _) (StP.among (e := e) (L := encT s z g) (L' := encT { s with q := (id, kind, false, zR0) } z g) (F := qB b8 rq0 :: (ownz ++ (owng ++ F))) ((hs.cons (qB b8 rq0)).re (by intro a; simp only [tB, qB, List.append_eq, cnt_cons, cnt_app, cnt_nil]; omega)) (Nat.le_of_ble_eq_true rfl) rfl rfl ?_)
  intro T1 hT1
  unfold transfer_Transfer_ask_b1
  have hzr : RowIn I T1 z.1 s.zone.length 4 encR s.zone := hzl ▸ ((hz.row encR_len).sub hT1.drop.drop.left)
  refine ⟨_, _, _, Cell.at_ (add_mk _ _ _) (Cell.among hT1 rfl), ?_⟩
  rw [show z.2.1 = s.zone.length from hzl]
  refine (Soa_runs hzr (by omega)).mono ?_
  rintro v J T hle ⟨rfl, rfl⟩
  refine ⟨_, _, _, _, _, rfl, fun b9 => StP.rec (x := soaZ s.zone) ?_⟩
  have hsub : Go.Px.Sub (tB e b { s with q := (id, kind, false, zR0) } z g :: (qB b8 rq0 :: (ownz ++ (owng ++ F)))) ((b9, Obj.cells (encR (soaZ s.zone)).toArray 32 (0, 0)) :: T) := Sub.skip hT1 _
  have plain : askQ s.zone id kind = (id, kind, false, zR0) → ∀ {T' : SH}, Sub (tB e b { s with q := (id, kind, false, zR0) } z g :: (qB b8 rq0 :: (ownz ++ (owng ++ F)))) T' → transfer_Transfer_ask_b3 (fun v _ T => v = vQ (askQ s.zone id kind) ∧ ∃ own', TrAt e b (askT s now id kind) own' ∧ Sub (own' ++ F) T) (some ⟨b, 0, none⟩) now ⟨b8, 0, none⟩ J T' := by
    intro hq T' hT'
    have := ask_end (I := J) (b8 := 0) (now := now) (s := { s with q := (id, kind, false, zR0) }) hz hT'
    rw [askT, hq]
    exact this
  unfold transfer_Transfer_ask_b2
  cases hsome : (s.zone.find? isSoa).isSome with
  | false =>
    exact bcase_f rfl (bcase_f rfl (plain (by rw [askQ, hsome]; simp) hsub))
  | true =>
    refine bcase_t rfl (bcase_beq (fun hk => ?_) (fun hk => plain (by rw [askQ, if_neg (fun h => hk h.1)]) hsub))
    have hq : askQ s.zone id kind = (id, kind, true, soaZ s.zone) := by rw [askQ, if_pos ⟨hk, hsome⟩]
    refine ⟨[(b9, Obj.cells (encR (soaZ s.zone)).toArray 32 (0, 0))], ⟨IMem.le.refl J, T, List.perm_append_comm (l₁ := [_]) (l₂ := T)⟩, _, Cell.at0 rfl, _, Cell.at0 rfl, _, Cell.at0 rfl, _, Cell.at0 rfl, ?_⟩
    refine StP.at_ (add2 _ _ _ _) (StP.among (e := e) (L := encT { s with q := (id, kind, false, zR0) } z g) (L' := encT { s with q := (id, kind, true, zR0) } z g) (F := (b9, Obj.cells (encR (soaZ s.zone)).toArray 32 (0, 0)) :: (qB b8 rq0 :: (ownz ++ (owng ++ F)))) ((hT1.cons (b9, Obj.cells (encR (soaZ s.zone)).toArray 32 (0, 0))).re (by intro a; simp only [tB, qB, List.append_eq, cnt_cons, cnt_app, cnt_nil]; omega)) (Nat.le_of_ble_eq_true rfl) rfl rfl ?_)
    intro T2 hT2
    refine ⟨Sub.keep (IMem.le.refl J) (hT2.re (by intro a; simp only [cnt_cons, cnt_nil]; omega)), ?_⟩
    refine StP.at_ (add2 _ _ _ _) (StP.among (L' := encT { s with q := (id, kind, true, soaZ s.zone) } z g) hT2 (Nat.le_of_ble_eq_true rfl) rfl rfl ?_)
    intro T3 hT3
    have := ask_end (e := e) (b := b) (z := z) (g := g) (ownz := ownz) (I := J) (b8 := 0) (b9 := b8) (u := rq0) (now := now) (owng := owng) (F := F) (S := T3) (s := { s with q := (id, kind, true, soaZ s.zone) }) hz (hT3.re (by intro a; simp only [tB, qB, List.append_eq, cnt_cons, cnt_app, cnt_nil]; omega))
    rw [askT, hq]
    exact this
abbrev Ret := Bool × Rq × Bool
abbrev vR3 (r : Ret) : Value := .tuple #[.bool r.1, vQ r.2.1, .bool r.2.2]
def failedT (s : Tr) (now id : Int) : Tr × Ret := if s.q.2.1 = 251 then (askT s now id 252, (false, askQ s.zone id 252, true)) else (closeT s now (timesT s.zone).2.2.2.2.1, (false, rq0, false))
theorem TrAt.frame {e : TypeId} {b : Nat} {s : Tr} {own F S : SH} {x : Nat × Obj} (hs : Sub (own ++ F) S) : Sub (own ++ (x :: F)) (x :: S) := (hs.cons x).re (by intro a; simp only [qB, cnt_cons, cnt_app]; omega)
theorem TrAt.back {own F S : SH} {x : Nat × Obj} (hs : Sub (own ++ (x :: F)) S) : Sub (x :: (own ++ F)) S := hs.re (by intro a; simp only [qB, cnt_cons, cnt_app]; omega)
theorem failed_runs {e : TypeId} {b : Nat} {s : Tr} {own F S : SH} {I : IMem} (h : TrAt e b s own) (hs : Sub (own ++ F) S) (now id : Int) (hl : s.zone.length ≤ 100000) (hsm : SizeOK s.zone) :
    Runs Tryz.prog 30 #[.pointer (some ⟨b, 0, none⟩), .int .i64 now, .int .u16 id] I S fun v _ T => v = vR3 (failedT s now id).2 ∧ ∃ own', TrAt e b (failedT s now id).1 own' ∧ Sub (own' ++ F) T := by
  refine transfer_Transfer_failed_fn _ _ _ _ _ _ ?_
  unfold transfer_Transfer_failed
  intro b7
  have hs7 : Sub (own ++ (qB b7 rq0 :: F)) (qB b7 rq0 :: S) := TrAt.frame (e := e) (b := b) (s := s) hs
  have h' := h
  obtain ⟨z, g, ownz, owng, rfl, hz, hg⟩ := h'
  refine ⟨_, Cell.at_ (add2 _ _ _ _) (Cell.among hs7 rfl), bcase_beq (fun hq => ?_) (fun hq => ?_)⟩
  · rw [failedT, if_pos hq]
    refine (ask_runs h hs7 now id 252 hl).mono ?_
    rintro v J T hle ⟨rfl, own', ha, hs'⟩
    refine ⟨_, _, _, _, _, _, _, rfl, put_q (TrAt.back hs') fun T2 hT2 => ⟨rfl, own', ha, hT2⟩⟩
  · rw [failedT, if_neg hq]
    refine (times_runs h hs7 hl hsm).mono ?_
    rintro v J T hle ⟨rfl, rfl⟩
    refine ⟨_, _, _, _, _, _, _, rfl, (close_runs h hs7 now _).mono ?_⟩
    rintro v J2 T2 hle2 ⟨rfl, own', ha, hs'⟩
    exact ⟨rfl, put_q (q := rq0) (TrAt.back hs') fun T3 hT3 => ⟨rfl, own', ha, hT3⟩⟩
def tickT (s : Tr) (now id : Int) : Tr × (Rq × Bool) :=
  let s1 := if s.opn = true ∧ now ≥ s.til then closeT s now (timesT s.zone).2.2.2.2.1 else s
  if s1.opn = true ∨ now < s1.next then (s1, (rq0, false)) else
  if s1.has = true then (askT s1 now id 6, (askQ s1.zone id 6, true)) else (askT s1 now id 252, (askQ s1.zone id 252, true))
theorem tick_end {e : TypeId} {b b6 : Nat} {s : Tr} {own F S : SH} {I : IMem} (h : TrAt e b s own) (hs : Sub (own ++ (qB b6 rq0 :: F)) S) (now id : Int) (hl : s.zone.length ≤ 100000) {r : Tr × (Rq × Bool)}
    (hr : r = if s.opn = true ∨ now < s.next then (s, (rq0, false)) else if s.has = true then (askT s now id 6, (askQ s.zone id 6, true)) else (askT s now id 252, (askQ s.zone id 252, true))) :
    transfer_Transfer_Tick_b3 (fun v _ T => v = .tuple #[vQ r.2.1, .bool r.2.2] ∧ ∃ own', TrAt e b r.1 own' ∧ Sub (own' ++ F) T) (some ⟨b, 0, none⟩) now id ⟨b6, 0, none⟩ I S := by
  have h' := h
  obtain ⟨z, g, ownz, owng, rfl, hz, hg⟩ := h'
  unfold transfer_Transfer_Tick_b3 transfer_Transfer_Tick_b4 transfer_Transfer_Tick_b5
  have no : r = (s, (rq0, false)) → ∀ J, StP S ⟨b6, 0, none⟩ [.int .u16 0, .int .u16 0, .bool false, .string ⟨#[]⟩, .int .u16 0, .int .u32 0, .string ⟨#[]⟩] fun S1 =>
      ∃ r0, Cell J S1 ⟨b6, 0, none⟩ (.int .u16 r0) ∧ ∃ r1, Cell J S1 ((⟨b6, 0, none⟩ : Addr).add 1) (.int .u16 r1) ∧ ∃ r2, Cell J S1 ((⟨b6, 0, none⟩ : Addr).add 2) (.bool r2) ∧ ∃ r3, Cell J S1 ((⟨b6, 0, none⟩ : Addr).add 3) (.string r3) ∧
      ∃ r4, Cell J S1 ((⟨b6, 0, none⟩ : Addr).add 4) (.int .u16 r4) ∧ ∃ r5, Cell J S1 ((⟨b6, 0, none⟩ : Addr).add 5) (.int .u32 r5) ∧ ∃ r6, Cell J S1 ((⟨b6, 0, none⟩ : Addr).add 6) (.string r6) ∧
      (Value.tuple #[.agg #[.int .u16 r0, .int .u16 r1, .bool r2, .string r3, .int .u16 r4, .int .u32 r5, .string r6], .bool false] = .tuple #[vQ r.2.1, .bool r.2.2] ∧ ∃ own', TrAt e b r.1 own' ∧ Sub (own' ++ F) S1) := by
    intro hr2 J
    rw [hr2]
    exact put_q (q := rq0) (TrAt.back hs) fun T hT => ⟨rfl, _, h, hT⟩
  refine ⟨_, Cell.at_ (add_mk _ _ _) (Cell.among hs rfl), bcase_of (fun h1 => bcase_t rfl (no (by rw [hr, if_pos (.inl h1)]) I)) (fun h1 => ?_)⟩
  refine ⟨_, Cell.at_ (add_mk _ _ _) (Cell.among hs rfl), bcase_dec (fun h2 => no (by rw [hr, if_pos (.inr h2)]) I) (fun h2 => ?_)⟩
  rw [if_neg (by rw [h1]; rintro (h | h); exact Bool.false_ne_true h; exact h2 h)] at hr
  refine ⟨_, Cell.at_ (add_mk _ _ _) (Cell.among hs rfl), bcase_not (bcase_of (fun h3 => ?_) (fun h3 => ?_))⟩
  · rw [if_pos h3] at hr
    subst hr
    refine (ask_runs h hs now id 6 hl).mono ?_
    rintro v J T hle ⟨rfl, own', ha, hs'⟩
    exact ⟨_, _, _, _, _, _, _, rfl, put_q (TrAt.back hs') fun T2 hT2 => ⟨rfl, own', ha, hT2⟩⟩
  · rw [if_neg (by rw [h3]; exact Bool.false_ne_true)] at hr
    subst hr
    refine (ask_runs h hs now id 252 hl).mono ?_
    rintro v J T hle ⟨rfl, own', ha, hs'⟩
    exact ⟨_, _, _, _, _, _, _, rfl, put_q (TrAt.back hs') fun T2 hT2 => ⟨rfl, own', ha, hT2⟩⟩
theorem Tick_runs {e : TypeId} {b : Nat} {s : Tr} {own F S : SH} {I : IMem} (h : TrAt e b s own) (hs : Sub (own ++ F) S) (now id : Int) (hl : s.zone.length ≤ 100000) (hsm : SizeOK s.zone) :
    Runs Tryz.prog 10 #[.pointer (some ⟨b, 0, none⟩), .int .i64 now, .int .u16 id] I S fun v _ T => v = .tuple #[vQ (tickT s now id).2.1, .bool (tickT s now id).2.2] ∧ ∃ own', TrAt e b (tickT s now id).1 own' ∧ Sub (own' ++ F) T := by
  refine transfer_Transfer_Tick_fn _ _ _ _ _ _ ?_
  unfold transfer_Transfer_Tick transfer_Transfer_Tick_b1 transfer_Transfer_Tick_b2
  intro b6
  have hs6 : Sub (own ++ (qB b6 rq0 :: F)) (qB b6 rq0 :: S) := TrAt.frame (e := e) (b := b) (s := s) hs
  have h' := h
  obtain ⟨z, g, ownz, owng, rfl, hz, hg⟩ := h'
  have stay : ¬ (s.opn = true ∧ now ≥ s.til) → transfer_Transfer_Tick_b3 (fun v _ T => v = .tuple #[vQ (tickT s now id).2.1, .bool (tickT s now id).2.2] ∧ ∃ own', TrAt e b (tickT s now id).1 own' ∧ Sub (own' ++ F) T) (some ⟨b, 0, none⟩) now id ⟨b6, 0, none⟩ I (qB b6 rq0 :: S) := fun hn =>
    tick_end h hs6 now id hl (by unfold tickT; rw [if_neg hn])
  refine ⟨_, Cell.at_ (add_mk _ _ _) (Cell.among hs6 rfl), bcase_of (fun h1 => ?_) (fun h1 => bcase_f rfl (stay (by rw [h1]; exact fun h => Bool.false_ne_true h.1)))⟩
  refine ⟨_, Cell.at_ (add_mk _ _ _) (Cell.among hs6 rfl), bcase_dec (fun h2 => ?_) (fun h2 => stay fun h => h2 h.2)⟩
  refine (times_runs h hs6 hl hsm).mono ?_
  rintro v J T hle ⟨rfl, rfl⟩
  refine ⟨_, _, _, _, _, _, _, rfl, (close_runs h hs6 now _).mono ?_⟩
  rintro v J2 T2 hle2 ⟨rfl, own', ha, hs'⟩
  exact ⟨rfl, tick_end ha hs' now id hl (by have hc : s.opn = true ∧ now ≥ s.til := ⟨h1, h2⟩; unfold tickT; rw [if_pos hc])⟩
def notifyT (s : Tr) (now n : Int) : Tr × Bool := if s.has = true ∧ laterF n (timesT s.zone).2.2.1 = false then (s, false) else ({ s with next := if now < s.next then now else s.next }, true)
theorem Notify_runs {e : TypeId} {b : Nat} {s : Tr} {own F S : SH} {I : IMem} (h : TrAt e b s own) (hs : Sub (own ++ F) S) (now n : Int) (hl : s.zone.length ≤ 100000) (hsm : SizeOK s.zone) :
    Runs Tryz.prog 22 #[.pointer (some ⟨b, 0, none⟩), .int .i64 now, .int .u32 n] I S fun v _ T => v = .bool (notifyT s now n).2 ∧ ∃ own', TrAt e b (notifyT s now n).1 own' ∧ Sub (own' ++ F) T := by
  refine transfer_Transfer_Notify_fn _ _ _ _ _ _ ?_
  unfold transfer_Transfer_Notify transfer_Transfer_Notify_b1 transfer_Transfer_Notify_b2
  have h' := h
  obtain ⟨z, g, ownz, owng, rfl, hz, hg⟩ := h'
  have go : ¬ (s.has = true ∧ laterF n (timesT s.zone).2.2.1 = false) → ∀ {J : IMem}, transfer_Transfer_Notify_b3 (fun v _ T => v = .bool (notifyT s now n).2 ∧ ∃ own', TrAt e b (notifyT s now n).1 own' ∧ Sub (own' ++ F) T) (some ⟨b, 0, none⟩) now J S := by
    intro hn J
    unfold transfer_Transfer_Notify_b3
    rw [notifyT, if_neg hn]
    refine ⟨_, Cell.at_ (add_mk _ _ _) (Cell.among hs rfl), StP.at_ (add_mk _ _ _) (StP.among (L' := encT { s with next := if now < s.next then now else s.next } z g) hs (Nat.le_of_ble_eq_true rfl) rfl rfl ?_)⟩
    intro T hT
    exact ⟨rfl, _, ⟨z, g, ownz, owng, rfl, hz, hg⟩, hT⟩
  refine ⟨_, Cell.at_ (add_mk _ _ _) (Cell.among hs rfl), bcase_of (fun h1 => ?_) (fun h1 => bcase_f rfl (go (by rw [h1]; exact fun h => Bool.false_ne_true h.1)))⟩
  refine (times_runs h hs hl hsm).mono ?_
  rintro v J T hle ⟨rfl, rfl⟩
  refine ⟨_, _, _, _, _, _, _, rfl, (Later_runs _ _ _ _).mono ?_⟩
  rintro v J2 T2 hle2 ⟨rfl, rfl⟩
  refine ⟨_, rfl, bcase_not (bcase_of (fun h2 => go (by rw [h2]; exact fun h => by cases h.2)) (fun h2 => ?_))⟩
  rw [notifyT, if_pos ⟨h1, h2⟩]
  exact ⟨rfl, _, h, hs⟩
def openT (s : Tr) : Rq × Bool := if s.opn = true then (s.q, true) else (rq0, false)
theorem Open_runs {e : TypeId} {b : Nat} {s : Tr} {own F S : SH} {I : IMem} (h : TrAt e b s own) (hs : Sub (own ++ F) S) :
    Runs Tryz.prog 17 #[.pointer (some ⟨b, 0, none⟩)] I S fun v _ T => v = .tuple #[vQ (openT s).1, .bool (openT s).2] ∧ T = S := by
  refine Runs.drop (transfer_Transfer_Open_fn _ _ _ _ ?_)
  unfold transfer_Transfer_Open
  intro b2
  obtain ⟨z, g, ownz, owng, rfl, hz, hg⟩ := h
  refine ⟨_, Cell.at_ (add_mk _ _ _) (Cell.among (hs.skip _) rfl), bcase_not (bcase_of (fun h1 => ?_) (fun h1 => ?_))⟩
  · rw [openT, if_pos h1]
    refine ⟨_, Cell.at_ (add_mk _ _ _) (Cell.among (hs.skip _) rfl), _, Cell.at_ (add2 _ _ _ _) (Cell.among (hs.skip _) rfl), _, Cell.at_ (add2 _ _ _ _) (Cell.among (hs.skip _) rfl), _, Cell.at_ (add2 _ _ _ _) (Cell.among (hs.skip _) rfl), _, Cell.at_ (add2 _ _ _ _) (Cell.among (hs.skip _) rfl), _, Cell.at_ (add2 _ _ _ _) (Cell.among (hs.skip _) rfl), _, Cell.at_ (add2 _ _ _ _) (Cell.among (hs.skip _) rfl), ?_⟩
    exact put_q (u := rq0) (q := s.q) (F := S) (Sub.refl _) fun T hT => ⟨S, hT, rfl, rfl⟩
  · rw [openT, if_neg (by rw [h1]; exact Bool.false_ne_true)]
    exact put_q (u := rq0) (q := rq0) (F := S) (Sub.refl _) fun T hT => ⟨S, hT, rfl, rfl⟩
def liveT (s : Tr) (now : Int) : Bool := s.has && decide (now < s.over)
theorem Live_runs {e : TypeId} {b : Nat} {s : Tr} {own F S : SH} {I : IMem} (h : TrAt e b s own) (hs : Sub (own ++ F) S) (now : Int) :
    Runs Tryz.prog 16 #[.pointer (some ⟨b, 0, none⟩), .int .i64 now] I S fun v _ T => v = .bool (liveT s now) ∧ T = S := by
  refine transfer_Transfer_Live_fn _ _ _ _ _ ?_
  unfold transfer_Transfer_Live transfer_Transfer_Live_b1
  obtain ⟨z, g, ownz, owng, rfl, hz, hg⟩ := h
  refine ⟨_, Cell.at_ (add_mk _ _ _) (Cell.among hs rfl), bcase_of (fun h1 => ⟨_, Cell.at_ (add_mk _ _ _) (Cell.among hs rfl), ?_⟩) (fun h1 => ?_)⟩
  · rw [liveT, h1]; exact ⟨rfl, rfl⟩
  · rw [liveT, h1]; exact ⟨rfl, rfl⟩
abbrev tr0 (o : ByteArray) : Tr := ⟨o, [], false, 0, 0, rq0, false, 0, []⟩
theorem TOf_runs (o : ByteArray) (I : IMem) (S : SH) :
    Runs Tryz.prog 9 #[.string o] I S fun v _ T => ∃ b own, v = .pointer (some ⟨b, 0, none⟩) ∧ TrAt 52 b (tr0 o) own ∧ Sub (own ++ S) T := by
  refine transfer_Of_fn _ _ _ _ ?_
  unfold transfer_Of
  intro b5
  exact ⟨b5, _, rfl, ⟨(none, 0, 0), (none, 0, 0), [], [], rfl, OwnR.nil, OwnR.nil⟩, Sub.refl _⟩
end Go.Proofs.YthlkeokfmedjhaaGreat
/- A zone behind whatever deltas; what a master's SOA brings. -/
namespace Go.Proofs.YthlkeokfmedjhaaGreat
open Go.Px
set_option linter.unusedVariables false
set_option linter.unusedSimpArgs false

theorem delO_mem : ∀ (rs zs ys : List Rc), rs.foldl delO (some zs) = some ys → ∀ x ∈ ys, x ∈ zs
  | [], zs, ys, h, x, hx => by
    injection h with h; rw [h]; exact hx
  | r :: rs, zs, ys, h, x, hx => by
    rw [List.foldl_cons] at h
    cases hd : delO (some zs) r with
    | none => rw [hd, delO_none] at h; cases h
    | some ws =>
      rw [hd] at h
      have h1 := delO_mem rs ws ys h x hx
      change (if has zs r then some (without zs r) else none) = some ws at hd
      split at hd
      · injection hd with hd; rw [← hd] at h1; exact (mem_without.1 h1).1
      · cases hd
theorem insO_mem : ∀ (rs zs ys : List Rc), rs.foldl insO (some zs) = some ys → ∀ x ∈ ys, x ∈ zs ∨ x ∈ rs
  | [], zs, ys, h, x, hx => by
    injection h with h; rw [h]; exact .inl hx
  | r :: rs, zs, ys, h, x, hx => by
    rw [List.foldl_cons] at h
    cases hd : insO (some zs) r with
    | none => rw [hd, insO_none] at h; cases h
    | some ws =>
      rw [hd] at h
      change (if has zs r then none else some (insR zs r)) = some ws at hd
      split at hd
      · cases hd
      · injection hd with hd
        rcases insO_mem rs ws ys h x hx with h1 | h1
        · rw [← hd] at h1
          rcases insR_mem h1 with h2 | h2
          · exact .inl h2
          · exact .inr (h2 ▸ List.mem_cons_self ..)
        · exact .inr (List.mem_cons_of_mem _ h1)
theorem deltaF_mem {zs : List Rc} {s t : Rc} {gs ns out : List Rc} (h : deltaF zs s t gs ns = (none, out)) : ∀ x ∈ out, x ∈ zs ∨ x ∈ ns ∨ x = t := by
  intro x hx
  unfold deltaF at h
  split at h
  · cases h1 : (s :: gs).foldl delO (some zs) with
    | none => rw [h1, insO_none] at h; cases h
    | some ys =>
      rw [h1] at h
      cases h2 : (ns ++ [t]).foldl insO (some ys) with
      | none => rw [h2] at h; cases h
      | some o =>
        rw [h2] at h
        injection h with _ h; subst h
        rcases insO_mem _ _ _ h2 x hx with h3 | h3
        · exact .inl (delO_mem _ _ _ h1 x h3)
        · rcases List.mem_append.1 h3 with h3 | h3
          · exact .inr (.inl h3)
          · exact .inr (.inr (List.mem_singleton.1 h3))
  · cases h
def wS (xs : List Dd) : Nat := (xs.map fun x => x.2.2.2.length + 1).sum
theorem wS_cons (x : Dd) (xs : List Dd) : wS (x :: xs) = x.2.2.2.length + 1 + wS xs := by simp [wS]
open Classical in
noncomputable def endF (o : ByteArray) (r : Option Int × List Rc) : Option Int × List Rc := match r with
  | (none, out) => if chkF out o = 0 then (none, out) else (some (chkF out o), [])
  | (some c, _) => (some c, [])
noncomputable def delsF (o : ByteArray) (zs : List Rc) (xs : List Dd) : Option Int × List Rc := endF o (foldD zs xs)
theorem endF_ok {o : ByteArray} {out : List Rc} (h : chkF out o = 0) : endF o (none, out) = (none, out) := by show (if _ then _ else _) = _; rw [if_pos h]
theorem endF_bad {o : ByteArray} {out : List Rc} (h : chkF out o ≠ 0) : endF o (none, out) = (some (chkF out o), []) := by show (if _ then _ else _) = _; rw [if_neg h]
abbrev SmallD (x : Dd) : Prop := SmallR x.2.1 ∧ ∀ r ∈ x.2.2.2, SmallR r
theorem Deltas2_runs {zs : List Rc} {ds : List Dl} {xs : List Dd} {a b : Option Addr} {c d : Nat} {o : ByteArray} {I : IMem} {S : SH} (hx : RowIn I S a zs.length 4 encR zs) (hz : SS zs) (hl : zs.length + wS xs ≤ 10000) (hd : RowIn I S b ds.length 10 encDl ds) (hds : DsOK I S ds xs) (hdl : xs.length ≤ 10000)
    (hb : ∀ x ∈ xs, x.2.2.1.length ≤ 10000) (hsm : ∀ r ∈ zs, SmallR r) (hsx : ∀ x ∈ xs, SmallD x) :
    Runs Tryz.prog 49 #[.string o, .slice a zs.length c, .slice b ds.length d] I S fun v _ T => DRes S v T (delsF o zs xs) := by
  refine apply_Deltas_fn _ _ _ _ _ _ _ _ _ _ ?_
  unfold apply_Deltas
  refine (Clone_runs hx (by omega)).mono ?_
  rintro v J1 T1 hle1 ⟨own1, ho1, hs1⟩
  obtain ⟨p1, d1, rfl⟩ := ho1.slice
  refine ⟨_, _, _, rfl, ?_⟩
  have hdx := hds.len
  unfold apply_Deltas_b1 apply_Deltas_b2
  refine ⟨fun m o' q qn qc x xn xc ln i J T => o' = o ∧ x = b ∧ xn = ds.length ∧ ln = (ds.length : Int) ∧ I.le J ∧ ∃ (k : Nat) (cur : List Rc) (own : SH), i = (k : Int) ∧ k ≤ ds.length ∧ m = ds.length - k ∧ foldD zs xs = foldD cur (xs.drop k) ∧ SS cur ∧ cur.length + wS (xs.drop k) ≤ 10000 ∧ (∀ r ∈ cur, SmallR r) ∧ OwnZ (.slice q qn qc) cur own ∧ Sub (own ++ S) T,
    ds.length, ⟨rfl, rfl, rfl, rfl, hle1, 0, zs, own1, rfl, Nat.zero_le _, rfl, rfl, hz, hl, hsm, ho1, hs1⟩, ?_⟩
  rintro m o' q qn qc x xn xc ln i J T - ⟨rfl, rfl, rfl, rfl, hle, k, cur, own, rfl, hk, rfl, hfe, hcs, hcl, hcsm, hco, hT⟩
  have hcn := hco.len
  subst hcn
  unfold apply_Deltas_l3
  refine bcase_dec (fun h => ?_) (fun h => ?_)
  · obtain ⟨e, he⟩ := get_lt (xs := ds) (k := k) (by omega)
    obtain ⟨y, hy⟩ := get_lt (xs := xs) (k := k) (by omega)
    obtain ⟨h1, h2, h3, h4⟩ := (hds.keep (hT.right.keep hle)).ok k e y he hy
    have hby := hb y (List.mem_of_getElem? hy)
    have hsy := hsx y (List.mem_of_getElem? hy)
    have hdrop : xs.drop k = y :: xs.drop (k + 1) := by
      rw [List.drop_eq_getElem_cons (by omega)]
      rw [List.getElem?_eq_getElem (by omega)] at hy
      injection hy with hy; rw [hy]
    rw [hdrop, wS_cons] at hcl
    obtain ⟨a', rfl, hc⟩ := ((hd.sub hT.right).le hle).cell he
    have c0 := hc 0 _ rfl
    have e0 : (a'.add (k * 10)).add 0 = a'.add (k * 10) := by simp [Addr.add]
    rw [e0] at c0
    refine ⟨by omega, by omega, _, c0, _, hc 1 _ rfl, _, hc 2 _ rfl, _, hc 3 _ rfl, _, hc 4 _ rfl, _, hc 5 _ rfl, _, hc 6 _ rfl, _, hc 7 _ rfl, _, _, _, hc 8 _ rfl, _, _, _, hc 9 _ rfl, fun b10 => ?_⟩
    refine StP.all (vs := encDl e) rfl rfl ?_
    refine ⟨_, Cell.at0 rfl, _, Cell.at0 rfl, _, Cell.at0 rfl, _, Cell.at0 rfl, _, Cell.at0 rfl, _, Cell.at0 rfl, _, Cell.at0 rfl, _, Cell.at0 rfl, _, _, _, Cell.at0 rfl, _, _, _, Cell.at0 rfl, ?_⟩
    have hg1 := h3.1
    have hn1 := h4.1
    obtain ⟨es, et, ⟨gp, gn, gc⟩, np, nn, nc⟩ := e
    dsimp only at h1 h2 h3 h4 hg1 hn1
    subst hg1; subst hn1; subst h1; subst h2
    refine (Delta_runs (zs := cur) (gs := y.2.2.1) (ns := y.2.2.2) (src := y.1) (dst := y.2.1) ((hco.row encR_len).sub (hT.left.skip _)) hcs (by omega) (h3.sub ((Sub.refl _).skip _)) hby (h4.sub ((Sub.refl _).skip _)) (by omega)).mono ?_
    rintro v J2 T2 hle2 ⟨p2, n2, d2, own2, rfl, ho2, hs2⟩
    have hlen := deltaF_len cur y.1 y.2.1 y.2.2.1 y.2.2.2
    rw [hdrop, foldD] at hfe
    rcases deltaF_or cur y.1 y.2.1 y.2.2.1 y.2.2.2 with ⟨out, hr⟩ | ⟨c', hc', hr⟩
    · have hss := deltaF_SS hcs hr
      have hmem := deltaF_mem hr
      rw [hr] at ho2 hfe hlen ⊢
      dsimp only at ho2 hfe hlen
      refine ⟨_, _, _, _, rfl, true, rfl, bcase_f rfl ⟨ds.length - (k + 1), by omega, rfl, rfl, rfl, rfl, hle.trans hle2, k + 1, out, own2, ?_, by omega, rfl, hfe, hss, by omega, ?_, ho2, hs2.of_right (hT.right.skip _)⟩⟩
      · rw [wrap_i64 (by omega) (by omega)]; rfl
      · intro r hr'
        rcases hmem r hr' with h5 | h5 | h5
        · exact hcsm r h5
        · exact hsy.2 r h5
        · rw [h5]; exact hsy.1
    · rw [hr] at ho2 hfe ⊢
      dsimp only at ho2 hfe
      rw [delsF, hfe]
      exact ⟨_, _, _, _, rfl, false, rfl, bcase_t rfl ⟨none, 0, 0, [], rfl, OwnR.nil, (hT.right.skip _).trans hs2.right⟩⟩
  · have hke : k = xs.length := by omega
    subst hke
    rw [List.drop_length, foldD] at hfe
    unfold apply_Deltas_b4
    refine (checked_runs (o := o') ((hco.row encR_len).sub hT.left) (by omega) hcsm).mono ?_
    rintro v J2 T2 hle2 ⟨hv, rfl⟩
    rw [delsF, hfe]
    rcases hv with ⟨hc, rfl⟩ | ⟨hc, rfl⟩
    · rw [endF_ok hc]
      exact ⟨_, _, _, _, rfl, _, _, _, own, rfl, hco, hT⟩
    · rw [endF_bad hc]
      exact ⟨_, _, _, _, rfl, _, _, _, [], rfl, OwnR.nil, hT.right⟩

/-! ### what a master's SOA brings -/
structure Ms where
  id : Int
  rep : Bool
  op : Int
  aut : Bool
  trunc : Bool
  des : Bool
  ava : Bool
  code : Int
  qn : ByteArray
  qt : Int
  an : Sl
  auth : Sl
  ext : Sl
  size : Int
abbrev encM (m : Ms) : List Value := [.int .u16 m.id, .bool m.rep, .int .i64 m.op, .bool m.aut, .bool m.trunc, .bool m.des, .bool m.ava, .int .i64 m.code, .string m.qn, .int .u16 m.qt, .slice m.an.1 m.an.2.1 m.an.2.2, .slice m.auth.1 m.auth.2.1 m.auth.2.2, .slice m.ext.1 m.ext.2.1 m.ext.2.2, .int .i64 m.size]
abbrev vM (m : Ms) : Value := .agg #[.int .u16 m.id, .bool m.rep, .int .i64 m.op, .bool m.aut, .bool m.trunc, .bool m.des, .bool m.ava, .int .i64 m.code, .string m.qn, .int .u16 m.qt, .slice m.an.1 m.an.2.1 m.an.2.2, .slice m.auth.1 m.auth.2.1 m.auth.2.2, .slice m.ext.1 m.ext.2.1 m.ext.2.2, .int .i64 m.size]
abbrev mB (b : Nat) (m : Ms) : Nat × Obj := (b, .cells (encM m).toArray 44 (0, 0))
def overT (s : Tr) (now ex : Int) : Tr := { s with over := IntKind.wrap .i64 (now + IntKind.wrap .i64 ex) }
def toldT (s : Tr) (now id : Int) : List Rc → Tr × Ret
  | [r] => if r.1 = s.org then (if soaB r = true then (if laterF (soaO r).2.2.1 (timesT s.zone).2.2.1 = true then (askT s now id 251, (false, askQ s.zone id 251, true)) else (closeT (overT s now (timesT s.zone).2.2.2.2.2.1) now (timesT s.zone).2.2.2.1, (false, rq0, false))) else failedT s now id) else failedT s now id
  | _ => failedT s now id
theorem told_many {s : Tr} {now id : Int} {xs : List Rc} (h : xs.length ≠ 1) : toldT s now id xs = failedT s now id := by
  match xs, h with
  | [], _ => rfl
  | [_], h => exact absurd rfl h
  | _ :: _ :: _, _ => rfl
theorem told_runs {e : TypeId} {b : Nat} {s : Tr} {own F S : SH} {I : IMem} {m : Ms} {xs : List Rc} (h : TrAt e b s own) (hs : Sub (own ++ F) S) (now id : Int) (hl : s.zone.length ≤ 100000) (hsm : SizeOK s.zone) (hm : m.an.2.1 = xs.length) (hx : RowIn I F m.an.1 xs.length 4 encR xs) (hsx : SizeOK xs) :
    Runs Tryz.prog 31 #[.pointer (some ⟨b, 0, none⟩), .int .i64 now, vM m, .int .u16 id] I S fun v _ T => v = vR3 (toldT s now id xs).2 ∧ ∃ own', TrAt e b (toldT s now id xs).1 own' ∧ Sub (own' ++ F) T := by
  refine transfer_Transfer_told_fn _ _ _ _ _ _ _ _ _ _ _ _ _ _ _ _ _ _ _ _ _ _ _ _ _ _ ?_
  unfold transfer_Transfer_told
  intro b6 b9
  have hs9 : Sub (own ++ (qB b9 rq0 :: mB b6 m :: F)) (qB b9 rq0 :: mB b6 m :: S) := TrAt.frame (e := e) (b := b) (s := s) (TrAt.frame (e := e) (b := b) (s := s) hs)
  have hFS : Sub F S := hs.right
  have fail : toldT s now id xs = failedT s now id → ∀ {J : IMem} {T : SH}, Sub (own ++ (qB b9 rq0 :: mB b6 m :: F)) T → Runs Tryz.prog 30 #[.pointer (some ⟨b, 0, none⟩), .int .i64 now, .int .u16 id] J T fun v I1 S1 => ∃ x0 x1 x2 x3 x4 x5 x6 x7 x8, v = .tuple #[.bool x0, .agg #[.int .u16 x1, .int .u16 x2, .bool x3, .string x4, .int .u16 x5, .int .u32 x6, .string x7], .bool x8] ∧
      StP S1 ⟨b9, 0, none⟩ [.int .u16 x1, .int .u16 x2, .bool x3, .string x4, .int .u16 x5, .int .u32 x6, .string x7] fun S1' =>
      ∃ r0, Cell I1 S1' ⟨b9, 0, none⟩ (.int .u16 r0) ∧ ∃ r1, Cell I1 S1' ((⟨b9, 0, none⟩ : Addr).add 1) (.int .u16 r1) ∧ ∃ r2, Cell I1 S1' ((⟨b9, 0, none⟩ : Addr).add 2) (.bool r2) ∧ ∃ r3, Cell I1 S1' ((⟨b9, 0, none⟩ : Addr).add 3) (.string r3) ∧
      ∃ r4, Cell I1 S1' ((⟨b9, 0, none⟩ : Addr).add 4) (.int .u16 r4) ∧ ∃ r5, Cell I1 S1' ((⟨b9, 0, none⟩ : Addr).add 5) (.int .u32 r5) ∧ ∃ r6, Cell I1 S1' ((⟨b9, 0, none⟩ : Addr).add 6) (.string r6) ∧
      (Value.tuple #[.bool x0, .agg #[.int .u16 r0, .int .u16 r1, .bool r2, .string r3, .int .u16 r4, .int .u32 r5, .string r6], .bool x8] = vR3 (toldT s now id xs).2 ∧ ∃ own', TrAt e b (toldT s now id xs).1 own' ∧ Sub (own' ++ F) S1') := by
    intro ht J T hT
    rw [ht]
    refine (failed_runs h hT now id hl hsm).mono ?_
    rintro v J2 T2 hle2 ⟨rfl, own', ha, hs'⟩
    exact ⟨_, _, _, _, _, _, _, _, _, rfl, put_q (TrAt.back hs') fun T3 hT3 => ⟨rfl, own', ha, hT3.re (by intro a; simp only [cnt_cons, cnt_app]; omega)⟩⟩
  have h' := h
  obtain ⟨z, g, ownz, owng, rfl, hz, hg⟩ := h'
  unfold transfer_Transfer_told_b1 transfer_Transfer_told_b2
  have hmc : ∀ {J : IMem}, Cell J (qB b9 rq0 :: mB b6 m :: S) ((⟨b6, 0, none⟩ : Addr).add 10) (.slice m.an.1 xs.length m.an.2.2) := fun {J} => hm ▸ Cell.at_ (add_mk _ _ _) (Cell.tl (Cell.at0 rfl))
  refine ⟨_, _, _, hmc, bcase_bne (fun h1 => bcase_t rfl (fail (told_many (fun e => h1 (by rw [e]; rfl))) hs9)) (fun h1 => ?_)⟩
  obtain ⟨r, rfl⟩ : ∃ r, xs = [r] := by
    match xs, h1 with
    | [y], _ => exact ⟨y, rfl⟩
    | [], h1 => simp at h1
    | _ :: _ :: _, h1 => simp only [List.length_cons] at h1; omega
  obtain ⟨a', ha', hcr⟩ := ((hx.sub hFS).sub (((Sub.refl S).skip (mB b6 m)).skip (qB b9 rq0))).cell (i := 0) (x := r) rfl
  obtain ⟨c0, c1, c2, c3⟩ := CellsR hcr
  have hmc2 : ∀ {J : IMem}, Cell J (qB b9 rq0 :: mB b6 m :: S) ((⟨b6, 0, none⟩ : Addr).add 10) (.slice (some a') [r].length m.an.2.2) := fun {J} => by rw [← ha']; exact hmc
  refine ⟨_, _, _, hmc2, by decide, by simp, _, c0, _, Cell.among hs9 rfl, ?_⟩
  refine bcase_of (fun h2 => fail ?_ hs9) (fun h2 => ?_)
  · have hne : r.1 ≠ s.org := strNe.1 h2
    show (if _ then _ else _) = _
    rw [if_neg hne]
  · have heq : r.1 = s.org := strNe'.1 h2
    unfold transfer_Transfer_told_b3
    refine ⟨_, _, _, hmc2, by decide, by simp, _, c0, _, c1, _, c2, _, c3, (Of_runs r (hsx r (List.mem_cons_self ..)) _ _).mono ?_⟩
    rintro v J T hle ⟨rfl, rfl⟩
    refine ⟨_, _, _, _, _, _, _, _, rfl, fun b11 => StP.all (vs := encS (soaO r)) rfl rfl ?_⟩
    unfold transfer_Transfer_told_b4 transfer_Transfer_told_b5
    have hs11 : Sub ((tB e b s z g :: (ownz ++ owng)) ++ (qB b9 rq0 :: mB b6 m :: F)) (sB b11 (soaO r) :: qB b9 rq0 :: mB b6 m :: S) := hs9.skip _
    refine bcase_not (bcase_of (fun h3 => ?_) (fun h3 => fail ?_ hs11))
    · refine ⟨_, Cell.at_ (add_mk _ _ _) (Cell.at0 rfl), (times_runs h hs11 hl hsm).mono ?_⟩
      rintro v J2 T2 hle2 ⟨rfl, rfl⟩
      refine ⟨_, _, _, _, _, _, _, rfl, ⟨hle2, [], List.Perm.refl _⟩, (Later_runs _ _ _ _).mono ?_⟩
      rintro v J3 T3 hle3 ⟨rfl, rfl⟩
      refine ⟨_, rfl, ?_⟩
      unfold transfer_Transfer_told_b6
      refine bcase_of (fun h4 => ?_) (fun h4 => ?_)
      · have ht : toldT s now id [r] = (askT s now id 251, (false, askQ s.zone id 251, true)) := by
          show (if _ then _ else _) = _
          rw [if_pos heq, if_pos h3, if_pos h4]
        rw [ht]
        refine (ask_runs h hs11 now id 251 hl).mono ?_
        rintro v J4 T4 hle4 ⟨rfl, own', ha, hs'⟩
        exact ⟨_, _, _, _, _, _, _, rfl, put_q (TrAt.back hs') fun T5 hT5 => ⟨rfl, own', ha, hT5.re (by intro a; simp only [cnt_cons, cnt_app]; omega)⟩⟩
      · have ht : toldT s now id [r] = (closeT (overT s now (timesT s.zone).2.2.2.2.2.1) now (timesT s.zone).2.2.2.1, (false, rq0, false)) := by
          show (if _ then _ else _) = _
          rw [if_pos heq, if_pos h3, if_neg (by rw [h4]; exact Bool.false_ne_true)]
        rw [ht]
        unfold transfer_Transfer_told_b7
        refine (times_runs h hs11 hl hsm).mono ?_
        rintro v J4 T4 hle4 ⟨rfl, rfl⟩
        refine ⟨_, _, _, _, _, _, _, rfl, StP.at_ (add_mk _ _ _) (StP.among (L' := encT (overT s now (timesT s.zone).2.2.2.2.2.1) z g) hs11 (Nat.le_of_ble_eq_true rfl) rfl rfl ?_)⟩
        intro T5 hT5
        have h2' : TrAt e b (overT s now (timesT s.zone).2.2.2.2.2.1) (tB e b (overT s now (timesT s.zone).2.2.2.2.2.1) z g :: (ownz ++ owng)) := ⟨z, g, ownz, owng, rfl, hz, hg⟩
        have hT5' : Sub ((tB e b (overT s now (timesT s.zone).2.2.2.2.2.1) z g :: (ownz ++ owng)) ++ (qB b9 rq0 :: mB b6 m :: F)) T5 := hT5
        refine (times_runs h2' hT5' hl hsm).mono ?_
        rintro v J6 T6 hle6 ⟨rfl, rfl⟩
        refine ⟨_, _, _, _, _, _, _, rfl, (close_runs h2' hT5' now _).mono ?_⟩
        rintro v J7 T7 hle7 ⟨rfl, own', ha, hs'⟩
        exact ⟨rfl, put_q (q := rq0) (TrAt.back hs') fun T8 hT8 => ⟨rfl, own', ha, hT8.re (by intro a; simp only [cnt_cons, cnt_app]; omega)⟩⟩
    · show (if _ then _ else _) = _
      rw [if_pos heq, if_neg (by rw [h3]; exact Bool.false_ne_true)]
end Go.Proofs.YthlkeokfmedjhaaGreat
/- The zone that a transfer brings. -/
namespace Go.Proofs.YthlkeokfmedjhaaGreat
open Go.Px
set_option linter.unusedVariables false
set_option linter.unusedSimpArgs false

theorem full_none {o : ByteArray} {rs l : List Rc} (h : fullT o rs = (none, l)) : l = rs.take (rs.length - 1) ∧ rightT o rs = true := by
  unfold fullT at h
  split at h
  · rename_i hc
    injection h with _ h
    exact ⟨h.symm, hc.1⟩
  · cases h
def wT (xs : List Dd) : Nat := (xs.map fun x => x.2.2.1.length + x.2.2.2.length + 2).sum
theorem wT_app (xs ys : List Dd) : wT (xs ++ ys) = wT xs + wT ys := by simp [wT]
theorem wT_one (x : Dd) : wT [x] = x.2.2.1.length + x.2.2.2.length + 2 := by simp [wT]
theorem wT_mem : ∀ {xs : List Dd} {x : Dd}, x ∈ xs → x.2.2.1.length ≤ wT xs
  | y :: ys, x, h => by
    have e : wT (y :: ys) = (y.2.2.1.length + y.2.2.2.length + 2) + wT ys := by simp [wT]
    rcases List.mem_cons.1 h with rfl | h
    · omega
    · have := wT_mem h; omega
theorem wT_len : ∀ xs : List Dd, xs.length ≤ wT xs ∧ wS xs ≤ wT xs
  | [] => by simp [wT, wS]
  | y :: ys => by
    have e : wT (y :: ys) = (y.2.2.1.length + y.2.2.2.length + 2) + wT ys := by simp [wT]
    have e2 := wS_cons y ys
    obtain ⟨h1, h2⟩ := wT_len ys
    rw [List.length_cons]; omega
theorem tw_dw (xs : List Rc) : (xs.takeWhile nS).length + (xs.dropWhile nS).length = xs.length := by
  have := congrArg List.length (List.takeWhile_append_dropWhile (p := nS) (l := xs))
  rw [List.length_append] at this; exact this
theorem dG_facts {first : Rc} {Q : Rc → Prop} : ∀ (f : Nat) (frm : Int) (rest : List Rc) (out xs : List Dd), deltasG first f frm rest out = (none, xs) → (∀ r ∈ rest, Q r) → (∀ x ∈ out, Q x.2.1 ∧ ∀ r ∈ x.2.2.2, Q r) → wT xs ≤ wT out + rest.length ∧ ∀ x ∈ xs, Q x.2.1 ∧ ∀ r ∈ x.2.2.2, Q r
  | 0, frm, rest, out, xs, h, _, _ => by cases h
  | f + 1, frm, rest, out, xs, h, hr, ho => by
    by_cases h1 : 1 < rest.length
    · match rest, h1, h, hr with
      | r0 :: rest1, h1, h, hr =>
        by_cases h2 : isSoa r0 = true
        · by_cases h3 : serT r0 = frm
          · cases hd : rest1.dropWhile nS with
            | nil => rw [dG_nil h1 h2 h3 hd] at h; cases h
            | cons t rest3 =>
              rw [dG_step h1 h2 h3 hd] at h
              have hmem1 : ∀ r ∈ rest1, Q r := fun r h => hr r (List.mem_cons_of_mem _ h)
              have hmt : ∀ r ∈ t :: rest3, Q r := fun r h => hmem1 r ((List.dropWhile_sublist nS).subset (hd ▸ h))
              have ih := dG_facts f _ _ _ _ h (fun r h => hmt r (List.mem_cons_of_mem _ ((List.dropWhile_sublist nS).subset h))) (fun x hx => by
                rcases List.mem_append.1 hx with hx | hx
                · exact ho x hx
                · rw [List.mem_singleton.1 hx]
                  exact ⟨hmt t (List.mem_cons_self ..), fun r hr => hmt r (List.mem_cons_of_mem _ ((List.takeWhile_sublist nS).subset hr))⟩)
              refine ⟨?_, ih.2⟩
              have e1 := ih.1
              rw [wT_app, wT_one] at e1
              dsimp only at e1
              have e2 := tw_dw rest1
              have e3 := tw_dw rest3
              rw [hd, List.length_cons] at e2
              rw [List.length_cons]
              omega
          · rw [dG_ser h1 h2 h3] at h; cases h
        · rw [dG_nosoa h1 h2] at h; cases h
    · rw [dG_end h1] at h
      split at h
      · injection h with _ h
        subst h
        exact ⟨Nat.le_add_right _ _, ho⟩
      · cases h
theorem part_facts {o : ByteArray} {frm : Int} {rs all : List Rc} {same : Bool} {xs : List Dd} (h : partT o frm rs = (same, all, (none, xs))) : (∀ r ∈ all, r ∈ rs) ∧ all.length ≤ rs.length ∧ wT xs ≤ rs.length ∧ ∀ x ∈ xs, x.2.1 ∈ rs ∧ ∀ r ∈ x.2.2.2, r ∈ rs := by
  unfold partT at h
  split at h
  · rename_i hr
    obtain ⟨r0, l0, rfl⟩ := right_ne hr
    split at h
    · split at h
      · injection h with _ h; injection h with h1 h; injection h with _ h2
        subst h1 h2
        exact ⟨fun r h => (by cases h), Nat.zero_le _, Nat.zero_le _, fun x h => (by cases h)⟩
      · injection h with _ h; injection h with h1 h; injection h with h _; cases h
    · split at h
      · rename_i l hf
        injection h with _ h; injection h with h1 h; injection h with _ h2
        subst h1 h2
        obtain ⟨rfl, _⟩ := full_none hf
        exact ⟨fun r h => List.mem_of_mem_take h, by simp, Nat.zero_le _, fun x h => (by cases h)⟩
      · injection h with _ h; injection h with h1 h
        subst h1
        obtain ⟨w, q⟩ := dG_facts (Q := fun r => r ∈ r0 :: l0) _ _ _ _ _ h (fun r hr => List.mem_cons_of_mem _ hr) (fun x h => (by cases h))
        refine ⟨fun r h => (by cases h), Nat.zero_le _, ?_, q⟩
        have : wT [] = 0 := rfl
        rw [List.tail_cons] at w
        rw [List.length_cons]; omega
  · injection h with _ h; injection h with h1 h; injection h with h _; cases h
noncomputable def made2 (s : Tr) (r : PT) : Option Int × List Rc := match r with
  | (_, _, (some c, _)) => (some c, [])
  | (true, _, (none, _)) => (none, s.zone)
  | (false, all, (none, ds)) => if 0 < ds.length then delsF s.org s.zone ds else repF all s.org
noncomputable def made1 (s : Tr) (r : Option Int × List Rc) : Option Int × List Rc := match r with
  | (none, l) => repF l s.org
  | (some e, _) => (some e, [])
noncomputable def madeT (s : Tr) : Option Int × List Rc := if s.q.2.1 = 252 then made1 s (fullT s.org s.got) else made2 s (partT s.org (timesT s.zone).2.2.1 s.got)
abbrev MRes (z : Sl) (S : SH) (s : Tr) (v : Value) (T : SH) (res : Option Int × List Rc) : Prop := ∃ p n d own, v = .tuple #[.slice p n d, errN res.1] ∧ ((OwnZ (.slice p n d) res.2 own ∧ Sub (own ++ S) T) ∨ (z = (p, n, d) ∧ res = (none, s.zone) ∧ Sub S T))
theorem MRes.own {z : Sl} {S S' : SH} {s : Tr} {v : Value} {T : SH} {res : Option Int × List Rc} (h : DRes S' v T res) (hs : Sub S S') : MRes z S s v T res := by
  obtain ⟨p, n, d, own, h1, h2, h3⟩ := h
  exact ⟨p, n, d, own, h1, .inl ⟨h2, h3.of_right hs⟩⟩
theorem made_end {e : TypeId} {b b6 : Nat} {s : Tr} {z g : Sl} {ownz owng F S S' own1 own2 G : SH} {J : IMem} {same : Bool} {all : List Rc} {er : Option Int} {xs : List Dd} {ds : List Dl} {p dp : Option Addr} {n d dn dc : Nat} (hok : TOK s) (hz : OwnZ (.slice z.1 z.2.1 z.2.2) s.zone ownz) (hs : Sub (tB e b s z g :: (ownz ++ (owng ++ F))) S)
    (hp : partT s.org (timesT s.zone).2.2.1 s.got = (same, all, (er, xs))) (h1 : OwnZ (.slice p n d) all own1) (h2 : OwnD (.slice dp dn dc) ds own2) (h3 : DsOK J (G ++ owng) ds xs) (h4 : Sub (rsB b6 same p n d dp dn dc :: (own1 ++ (own2 ++ (G ++ S)))) S') :
    transfer_Transfer_made_b5 (fun v _ T => MRes z S s v T (made2 s (partT s.org (timesT s.zone).2.2.1 s.got))) (some ⟨b, 0, none⟩) ⟨b6, 0, none⟩ (errN er) J S' := by
  have hSS : Sub S S' := h4.drop.right.right.right
  have hs' := hs.trans hSS
  unfold transfer_Transfer_made_b5 transfer_Transfer_made_b6
  rw [hp]
  cases er with
  | some c => exact ⟨false, rfl, bcase_t rfl ⟨none, 0, 0, [], rfl, .inl ⟨OwnR.nil, hSS⟩⟩⟩
  | none =>
    obtain ⟨f1, f2, f3, f4⟩ := part_facts hp
    have hgl := hok.gl
    have hzl := hok.len
    refine ⟨true, rfl, bcase_f rfl ⟨_, Cell.among h4 rfl, ?_⟩⟩
    unfold transfer_Transfer_made_b7
    refine bcase_of (fun hsame => ?_) (fun hsame => ?_)
    · subst hsame
      exact ⟨_, _, _, Cell.at_ (add_mk _ _ _) (Cell.among hs' rfl), z.1, z.2.1, z.2.2, [], rfl, .inr ⟨rfl, rfl, hSS⟩⟩
    · subst hsame
      have hdl := h3.len
      have hdn := h2.len
      subst hdn
      refine ⟨_, _, _, Cell.at_ (add_mk _ _ _) (Cell.among h4 rfl), ?_⟩
      unfold transfer_Transfer_made_b8
      refine bcase_dec (fun h0 => ?_) (fun h0 => ?_)
      · have hm : made2 s (false, all, (none, xs)) = delsF s.org s.zone xs := if_pos (by omega)
        rw [hm]
        obtain ⟨w1, w2⟩ := wT_len xs
        have hzn := hz.len
        refine ⟨_, Cell.among hs' rfl, _, _, _, Cell.at_ (add_mk _ _ _) (Cell.among hs' rfl), _, _, _, Cell.at_ (add_mk _ _ _) (Cell.among h4 rfl), ?_⟩
        rw [show z.2.1 = s.zone.length from hzn]
        have hrz : RowIn J S' z.1 s.zone.length 4 encR s.zone := hzn ▸ ((hz.row encR_len).sub hs'.drop.left)
        have hG : Sub (G ++ owng) S' := ((Sub.refl G).both (hs.drop.right.left)).trans h4.drop.right.right
        refine (Deltas2_runs (o := s.org) hrz hok.ss (by omega) ((h2.row encDl_len).sub h4.drop.right.left) (h3.keep (hG.keep (IMem.le.refl J))) (by omega) (fun x hx => by have := wT_mem hx; omega) hok.small (fun x hx => ⟨hok.gsm _ (f4 x hx).1, fun r hr => hok.gsm r ((f4 x hx).2 r hr)⟩)).mono ?_
        rintro v J2 T2 hle2 hres
        obtain ⟨p2, n2, d2, own3, rfl, ho3, hs3⟩ := hres
        refine ⟨_, _, _, _, rfl, ?_⟩
        unfold transfer_Transfer_made_b9
        exact ⟨p2, n2, d2, own3, rfl, .inl ⟨ho3, hs3.of_right hSS⟩⟩
      · have hm : made2 s (false, all, (none, xs)) = repF all s.org := if_neg (by omega)
        rw [hm]
        have han := h1.len
        subst han
        unfold transfer_Transfer_made_b10
        refine ⟨_, Cell.among hs' rfl, _, _, _, Cell.at_ (add_mk _ _ _) (Cell.among h4 rfl), ?_⟩
        refine (Replace_runs (o := s.org) ((h1.row encR_len).sub h4.drop.left) (by omega) (fun r hr => hok.gsm r (f1 r hr))).mono ?_
        rintro v J2 T2 hle2 hres
        obtain ⟨p2, n2, d2, own3, rfl, ho3, hs3⟩ := hres
        refine ⟨_, _, _, _, rfl, ?_⟩
        unfold transfer_Transfer_made_b11
        exact ⟨p2, n2, d2, own3, rfl, .inl ⟨ho3, hs3.of_right hSS⟩⟩
theorem made_runs {e : TypeId} {b : Nat} {s : Tr} {z g : Sl} {ownz owng F S : SH} {I : IMem} (hok : TOK s) (hz : OwnZ (.slice z.1 z.2.1 z.2.2) s.zone ownz) (hg : OwnZ (.slice g.1 g.2.1 g.2.2) s.got owng) (hs : Sub (tB e b s z g :: (ownz ++ (owng ++ F))) S) :
    Runs Tryz.prog 33 #[.pointer (some ⟨b, 0, none⟩)] I S fun v _ T => MRes z S s v T (madeT s) := by
  refine transfer_Transfer_made_fn _ _ _ _ ?_
  unfold transfer_Transfer_made transfer_Transfer_made_b1 transfer_Transfer_made_b2
  have hgl := hok.gl
  have hgn := hg.len
  have hgc := OwnR.cap (by decide) hg
  have hgz := small_size hok.gsm
  have hrow : ∀ {J : IMem}, RowIn J owng g.1 s.got.length 4 encR s.got := fun {J} => hgn ▸ hg.row encR_len
  refine ⟨_, Cell.at_ (add2 _ _ _ _) (Cell.among hs rfl), bcase_beq (fun hq => ?_) (fun hq => ?_)⟩
  · rw [madeT, if_pos hq]
    refine ⟨_, Cell.among hs rfl, _, _, _, Cell.at_ (add_mk _ _ _) (Cell.among hs rfl), ?_⟩
    rw [show g.2.1 = s.got.length from hgn]
    refine (Full_runs (o := s.org) (hrow.sub hs.drop.right.left) (by omega) hgc hgz).mono ?_
    rintro v J T hle ⟨p, n, d, own, rfl, ho, hs2⟩
    refine ⟨_, _, _, _, rfl, ?_⟩
    unfold transfer_Transfer_made_b3
    have hs2' := hs.trans hs2.right
    cases hf : fullT s.org s.got with
    | mk er l =>
      rw [hf] at ho
      cases er with
      | some c => exact ⟨false, rfl, bcase_t rfl ⟨none, 0, 0, [], rfl, .inl ⟨OwnR.nil, hs2.right⟩⟩⟩
      | none =>
        obtain ⟨hl, _⟩ := full_none hf
        have hln := ho.len
        subst hln
        refine ⟨true, rfl, bcase_f rfl ⟨_, Cell.among hs2' rfl, ?_⟩⟩
        refine (Replace_runs (o := s.org) ((ho.row encR_len).sub hs2.left) (by rw [hl, List.length_take]; omega) (fun r hr => hok.gsm r (List.mem_of_mem_take (hl ▸ hr)))).mono ?_
        rintro v J2 T2 hle2 hres
        obtain ⟨p2, n2, d2, own3, rfl, ho3, hs3⟩ := hres
        exact ⟨_, _, _, _, rfl, p2, n2, d2, own3, rfl, .inl ⟨ho3, hs3.of_right hs2.right⟩⟩
  · rw [madeT, if_neg hq]
    unfold transfer_Transfer_made_b4
    have hTr : TrAt e b s (tB e b s z g :: (ownz ++ owng)) := ⟨z, g, ownz, owng, rfl, hz, hg⟩
    have hsA : Sub ((tB e b s z g :: (ownz ++ owng)) ++ F) S := hs.re (by intro a; simp only [cnt_cons, cnt_app]; omega)
    have hog : Sub owng S := hs.drop.right.left
    have hzs := small_size hok.small
    have hzl := hok.len
    refine ⟨_, Cell.among hs rfl, _, _, _, Cell.at_ (add_mk _ _ _) (Cell.among hs rfl), ?_, ?_⟩
    · refine (times_runs hTr hsA (by omega) hzs).mono ?_
      rintro v J T hle ⟨rfl, rfl⟩
      refine ⟨_, _, _, _, _, _, _, rfl, ⟨hle, [], List.Perm.refl _⟩, ?_, fun b6 => ⟨⟨hle, [_], List.Perm.refl _⟩, ?_⟩⟩
      · rw [show g.2.1 = s.got.length from hgn]
        refine (Part_runs (o := s.org) (frm := (timesT s.zone).2.2.1) hog (hrow (J := J)) (by omega) hgc hgz).mono ?_
        rintro v J2 T2 hle2 ⟨p, n, d, own1, dp, dn, dc, own2, G, ds, rfl, ho1, ho2, hds, hs2⟩
        refine ⟨_, _, _, _, _, _, _, _, rfl, fun b6 => ⟨Sub.keep (hle.trans hle2) (hs2.right.right.right.skip _), StP.all (vs := [.bool _, .slice p n d, .slice dp dn dc]) rfl rfl ?_⟩⟩
        exact made_end hok hz hs rfl ho1 ho2 hds (hs2.cons _)
      · rw [show g.2.1 = s.got.length from hgn]
        refine (Part_runs (o := s.org) (frm := (timesT s.zone).2.2.1) (hog.skip _) (hrow (J := J)) (by omega) hgc hgz).mono ?_
        rintro v J2 T2 hle2 ⟨p, n, d, own1, dp, dn, dc, own2, G, ds, rfl, ho1, ho2, hds, hs2⟩
        refine ⟨_, _, _, _, _, _, _, _, rfl, ?_⟩
        have hs3 : Go.Px.Sub (rsB b6 false none 0 0 none 0 0 :: (own1 ++ (own2 ++ (G ++ T)))) T2 := Sub.re (show Go.Px.Sub (own1 ++ (own2 ++ (G ++ (rsB b6 false none 0 0 none 0 0 :: T)))) T2 from hs2) (by intro a; simp only [cnt_cons, cnt_app, cnt_nil]; omega)
        refine StP.among (L' := [.bool _, .slice p n d, .slice dp dn dc]) hs3 (Nat.le_of_ble_eq_true rfl) rfl rfl ?_
        intro T3 hT3
        exact made_end hok hz hs rfl ho1 ho2 hds hT3
    · intro b6
      refine ⟨⟨IMem.le.refl I, [_], List.Perm.refl _⟩, (times_runs hTr (hsA.skip _) (by omega) hzs).mono ?_⟩
      rintro v J T hle ⟨rfl, rfl⟩
      refine ⟨_, _, _, _, _, _, _, rfl, ⟨hle, [_], List.Perm.refl _⟩, ?_⟩
      rw [show g.2.1 = s.got.length from hgn]
      refine (Part_runs (o := s.org) (frm := (timesT s.zone).2.2.1) (hog.skip _) (hrow (J := J)) (by omega) hgc hgz).mono ?_
      rintro v J2 T2 hle2 ⟨p, n, d, own1, dp, dn, dc, own2, G, ds, rfl, ho1, ho2, hds, hs2⟩
      refine ⟨_, _, _, _, _, _, _, _, rfl, ?_⟩
      have hs3 : Go.Px.Sub (rsB b6 false none 0 0 none 0 0 :: (own1 ++ (own2 ++ (G ++ S)))) T2 := Sub.re (show Go.Px.Sub (own1 ++ (own2 ++ (G ++ (rsB b6 false none 0 0 none 0 0 :: S)))) T2 from hs2) (by intro a; simp only [cnt_cons, cnt_app, cnt_nil]; omega)
      refine StP.among (L' := [.bool _, .slice p n d, .slice dp dn dc]) hs3 (Nat.le_of_ble_eq_true rfl) rfl rfl ?_
      intro T3 hT3
      exact made_end hok hz hs rfl ho1 ho2 hds hT3
end Go.Proofs.YthlkeokfmedjhaaGreat
/- A transfer takes an answer. -/
namespace Go.Proofs.YthlkeokfmedjhaaGreat
open Go.Px
set_option linter.unusedVariables false
set_option linter.unusedSimpArgs false

theorem chk_zero {zs : List Rc} {o : ByteArray} (h : chkF zs o = 0) : RightP zs o := by
  unfold chkF at h
  split at h
  · split at h
    · rename_i h2; exact h2
    · cases h
  · cases h
theorem rep_none {rs z : List Rc} {o : ByteArray} (h : repF rs o = (none, z)) : z = msR rs ∧ SS z ∧ RightP z o := by
  by_cases h1 : (msR rs).Nodup
  · by_cases h2 : chkF (msR rs) o = 0
    · rw [rep_ok h1 h2] at h
      injection h with _ h
      subst h
      exact ⟨rfl, msR_SS h1, chk_zero h2⟩
    · rw [rep_bad h1 h2] at h; cases h
  · rw [rep_twice h1] at h; cases h
theorem foldD_facts : ∀ {xs : List Dd} {zs out : List Rc}, foldD zs xs = (none, out) → SS zs → (∀ r ∈ zs, SmallR r) → (∀ x ∈ xs, SmallD x) → SS out ∧ ∀ r ∈ out, SmallR r
  | [], zs, out, h, hs, hz, _ => by
    rw [foldD] at h
    injection h with _ h
    subst h; exact ⟨hs, hz⟩
  | x :: xs, zs, out, h, hs, hz, hx => by
    rw [foldD] at h
    split at h
    · rename_i o ho
      refine foldD_facts h (deltaF_SS hs ho) (fun r hr => ?_) (fun y hy => hx y (List.mem_cons_of_mem _ hy))
      have hsx := hx x (List.mem_cons_self ..)
      rcases deltaF_mem ho r hr with h5 | h5 | h5
      · exact hz r h5
      · exact hsx.2 r h5
      · rw [h5]; exact hsx.1
    · cases h
theorem dels_none {o : ByteArray} {zs z : List Rc} {xs : List Dd} (h : delsF o zs xs = (none, z)) (hs : SS zs) (hz : ∀ r ∈ zs, SmallR r) (hx : ∀ x ∈ xs, SmallD x) : SS z ∧ RightP z o ∧ ∀ r ∈ z, SmallR r := by
  unfold delsF at h
  cases hf : foldD zs xs with
  | mk e out =>
    rw [hf] at h
    cases e with
    | some c => cases h
    | none =>
      by_cases hc : chkF out o = 0
      · rw [endF_ok hc] at h
        injection h with _ h
        subst h
        obtain ⟨f1, f2⟩ := foldD_facts hf hs hz hx
        exact ⟨f1, chk_zero hc, f2⟩
      · rw [endF_bad hc] at h; cases h
theorem made_ok {s : Tr} {z : List Rc} (hok : TOK s) (h : madeT s = (none, z)) : SS z ∧ (z = [] ∨ RightP z s.org) ∧ ∀ r ∈ z, SmallR r := by
  have fromRep : ∀ {rs : List Rc}, (∀ r ∈ rs, r ∈ s.got) → repF rs s.org = (none, z) → SS z ∧ (z = [] ∨ RightP z s.org) ∧ ∀ r ∈ z, SmallR r := by
    intro rs hr hf
    obtain ⟨h1, h2, h3⟩ := rep_none hf
    exact ⟨h2, .inr h3, fun r hr' => hok.gsm r (hr r ((msR_perm rs).mem_iff.1 (h1 ▸ hr')))⟩
  unfold madeT at h
  split at h
  · cases hf : fullT s.org s.got with
    | mk e l =>
      rw [hf] at h
      cases e with
      | some c => cases h
      | none =>
        obtain ⟨hl, _⟩ := full_none hf
        exact fromRep (fun r hr => List.mem_of_mem_take (hl ▸ hr)) h
  · cases hp : partT s.org (timesT s.zone).2.2.1 s.got with
    | mk same r =>
      obtain ⟨all, er, xs⟩ := r
      rw [hp] at h
      cases er with
      | some c => cases h
      | none =>
        obtain ⟨f1, f2, f3, f4⟩ := part_facts hp
        cases same with
        | true =>
          injection h with _ h
          subst h
          exact ⟨hok.ss, hok.right, hok.small⟩
        | false =>
          change (if 0 < xs.length then delsF s.org s.zone xs else repF all s.org) = (none, z) at h
          split at h
          · obtain ⟨g1, g2, g3⟩ := dels_none h hok.ss hok.small (fun x hx => ⟨hok.gsm _ (f4 x hx).1, fun r hr => hok.gsm r ((f4 x hx).2 r hr)⟩)
            exact ⟨g1, .inr g2, g3⟩
          · exact fromRep f1 h
def fitsT (s : Tr) (m : Ms) : Bool := (m.id == s.q.1) && (m.rep && ((m.qn == s.org) && ((m.qt == s.q.2.1) && true)))
def gotT (s : Tr) (now : Int) (xs : List Rc) : Tr := { s with got := s.got ++ xs, til := IntKind.wrap .i64 (now + 4) }
def zoneT (s : Tr) (now : Int) (z : List Rc) : Tr := { s with zone := z, has := true, over := IntKind.wrap .i64 (now + IntKind.wrap .i64 (timesT z).2.2.2.2.2.1) }
def turnT (s : Tr) (now : Int) (z : List Rc) : Tr × Ret := (closeT (zoneT s now z) now (timesT z).2.2.2.1, (decide (IntKind.wrap .i64 (((lessF s.zone z).length : Int) + ((lessF z s.zone).length : Int)) > 0), rq0, false))
def take3 (s : Tr) (now id : Int) (r : Option Int × List Rc) : Tr × Ret := match r with
  | (some _, _) => failedT s now id
  | (none, z) => turnT s now z
open Classical in
noncomputable def take2 (s : Tr) (now id : Int) : Tr × Ret := if s.got.length > 1024 then failedT s now id else if doneT s.got = true then take3 s now id (madeT s) else (s, (false, rq0, false))
open Classical in
noncomputable def takeT (s : Tr) (now id : Int) (m : Ms) (xs : List Rc) : Tr × Ret :=
  if s.opn = true ∧ fitsT s m = true then (if m.code ≠ 0 ∨ m.trunc = true then failedT s now id else if s.q.2.1 = 6 then toldT s now id xs else take2 (gotT s now xs) now id) else (s, (false, rq0, false))
abbrev TRes (e : TypeId) (b : Nat) (F : SH) (v : Value) (T : SH) (r : Tr × Ret) : Prop := v = vR3 r.2 ∧ ∃ own', TrAt e b r.1 own' ∧ Sub (own' ++ F) T
abbrev PutR (b9 : Nat) (R : Value → IMem → SH → Prop) (J : IMem) (S : SH) (c : Bool) (x1 x2 : Int) (x3 : Bool) (x4 : ByteArray) (x5 x6 : Int) (x7 : ByteArray) (a : Bool) : Prop :=
  StP S ⟨b9, 0, none⟩ [.int .u16 x1, .int .u16 x2, .bool x3, .string x4, .int .u16 x5, .int .u32 x6, .string x7] fun S1' =>
      ∃ r0, Cell J S1' ⟨b9, 0, none⟩ (.int .u16 r0) ∧ ∃ r1, Cell J S1' ((⟨b9, 0, none⟩ : Addr).add 1) (.int .u16 r1) ∧ ∃ r2, Cell J S1' ((⟨b9, 0, none⟩ : Addr).add 2) (.bool r2) ∧ ∃ r3, Cell J S1' ((⟨b9, 0, none⟩ : Addr).add 3) (.string r3) ∧
      ∃ r4, Cell J S1' ((⟨b9, 0, none⟩ : Addr).add 4) (.int .u16 r4) ∧ ∃ r5, Cell J S1' ((⟨b9, 0, none⟩ : Addr).add 5) (.int .u32 r5) ∧ ∃ r6, Cell J S1' ((⟨b9, 0, none⟩ : Addr).add 6) (.string r6) ∧
      R (.tuple #[.bool c, .agg #[.int .u16 r0, .int .u16 r1, .bool r2, .string r3, .int .u16 r4, .int .u32 r5, .string r6], .bool a]) J S1'
theorem take_failed {e : TypeId} {b b9 : Nat} {s : Tr} {own F S : SH} {I : IMem} {M : Nat × Obj} {r : Tr × Ret} (h : TrAt e b s own) (hs : Sub (own ++ (qB b9 rq0 :: M :: F)) S) (now id : Int) (hl : s.zone.length ≤ 100000) (hsm : SizeOK s.zone) (hr : r = failedT s now id) :
    Runs Tryz.prog 30 #[.pointer (some ⟨b, 0, none⟩), .int .i64 now, .int .u16 id] I S fun v I1 S1 => ∃ x0 x1 x2 x3 x4 x5 x6 x7 x8, v = .tuple #[.bool x0, .agg #[.int .u16 x1, .int .u16 x2, .bool x3, .string x4, .int .u16 x5, .int .u32 x6, .string x7], .bool x8] ∧
      PutR b9 (fun v _ T => TRes e b F v T r) I1 S1 x0 x1 x2 x3 x4 x5 x6 x7 x8 := by
  subst hr
  refine (failed_runs h hs now id hl hsm).mono ?_
  rintro v J2 T2 hle2 ⟨rfl, own', ha, hs'⟩
  exact ⟨_, _, _, _, _, _, _, _, _, rfl, put_q (TrAt.back hs') fun T3 hT3 => ⟨rfl, own', ha, hT3.re (by intro a; simp only [cnt_cons, cnt_app]; omega)⟩⟩
theorem take_none {e : TypeId} {b b9 : Nat} {s : Tr} {own F S : SH} {I : IMem} {M : Nat × Obj} {r : Tr × Ret} (h : TrAt e b s own) (hs : Sub (own ++ (qB b9 rq0 :: M :: F)) S) (hr : r = (s, (false, rq0, false))) :
    PutR b9 (fun v _ T => TRes e b F v T r) I S false 0 0 false ⟨#[]⟩ 0 0 ⟨#[]⟩ false := by
  subst hr
  exact put_q (q := rq0) (TrAt.back hs) fun T3 hT3 => ⟨rfl, own, h, hT3.re (by intro a; simp only [cnt_cons, cnt_app]; omega)⟩
end Go.Proofs.YthlkeokfmedjhaaGreat
/- A transfer takes an answer: the walk. -/
namespace Go.Proofs.YthlkeokfmedjhaaGreat
open Go.Px
set_option linter.unusedVariables false
set_option linter.unusedSimpArgs false

theorem take2_many {s : Tr} {now id : Int} (h : s.got.length > 1024) : take2 s now id = failedT s now id := by unfold take2; rw [if_pos h]
theorem take2_more {s : Tr} {now id : Int} (h : ¬ s.got.length > 1024) (g : ¬ doneT s.got = true) : take2 s now id = (s, (false, rq0, false)) := by unfold take2; rw [if_neg h, if_neg g]
theorem take2_done {s : Tr} {now id : Int} (h : ¬ s.got.length > 1024) (g : doneT s.got = true) : take2 s now id = take3 s now id (madeT s) := by unfold take2; rw [if_neg h, if_pos g]
theorem take_b6 {e : TypeId} {b b9 : Nat} {s : Tr} {z g : Sl} {ownz owng F S : SH} {I : IMem} {M : Nat × Obj} {now id : Int} {xs : List Rc} (hok : TOK s) (hz : OwnZ (.slice z.1 z.2.1 z.2.2) s.zone ownz) (hg : OwnZ (.slice g.1 g.2.1 g.2.2) (s.got ++ xs) owng)
    (hs : Sub (tB e b { s with got := s.got ++ xs } z g :: (ownz ++ (owng ++ (qB b9 rq0 :: M :: F)))) S) (hxl : xs.length ≤ 10000) (hxs : ∀ r ∈ xs, SmallR r) :
    transfer_Transfer_Take_b6 (fun v _ T => TRes e b F v T (take2 (gotT s now xs) now id)) (some ⟨b, 0, none⟩) now id ⟨b9, 0, none⟩ I S := by
  have hgn := hg.len
  have hzn := hz.len
  have hzl := hok.len
  have hgl := hok.gl
  have hzs := small_size hok.small
  unfold transfer_Transfer_Take_b6
  refine StP.at_ (add_mk _ _ _) (StP.among (L' := encT (gotT s now xs) z g) hs (Nat.le_of_ble_eq_true rfl) rfl rfl ?_)
  intro T1 hT1
  have hT1 : Sub (tB e b (gotT s now xs) z g :: (ownz ++ (owng ++ (qB b9 rq0 :: M :: F)))) T1 := hT1
  have hTr : TrAt e b (gotT s now xs) (tB e b (gotT s now xs) z g :: (ownz ++ owng)) := ⟨z, g, ownz, owng, rfl, hz, hg⟩
  have hsA : ∀ {T : SH}, Sub T1 T → Sub ((tB e b (gotT s now xs) z g :: (ownz ++ owng)) ++ (qB b9 rq0 :: M :: F)) T := fun h => (hT1.trans h).re (by intro a; simp only [cnt_cons, cnt_app]; omega)
  refine ⟨_, _, _, Cell.at_ (add_mk _ _ _) (Cell.among hT1 rfl), ?_⟩
  have hn : g.2.1 = (gotT s now xs).got.length := hgn
  rw [show ((⟨g.1, g.2.1, g.2.2⟩ : Sl)).2.1 = (gotT s now xs).got.length from hn]
  refine bcase_dec (fun h1 => take_failed hTr (hsA (Sub.refl T1)) now id (by show s.zone.length ≤ _; omega) hzs (take2_many (by omega))) (fun h1 => ?_)
  have hgl2 : (gotT s now xs).got.length ≤ 1024 := by omega
  have hokG : TOK (gotT s now xs) := ⟨hok.ss, hok.right, hok.small, hgl2, fun r hr => by
    rcases List.mem_append.1 hr with h | h
    · exact hok.gsm r h
    · exact hxs r h⟩
  refine ⟨_, _, _, Cell.at_ (add_mk _ _ _) (Cell.among hT1 rfl), ?_⟩
  rw [show ((⟨g.1, g.2.1, g.2.2⟩ : Sl)).2.1 = (gotT s now xs).got.length from hn]
  have hrow : RowIn I T1 g.1 (gotT s now xs).got.length 4 encR (gotT s now xs).got := hn ▸ ((hg.row encR_len).sub hT1.drop.right.left)
  refine (Done_runs hrow (by omega)).mono ?_
  rintro v J T hle ⟨rfl, rfl⟩
  refine ⟨_, rfl, bcase_not (bcase_of (fun h2 => ?_) (fun h2 => take_none hTr (hsA (Sub.refl _)) (take2_more (by omega) (by rw [h2]; exact Bool.false_ne_true))))⟩
  rw [take2_done (by omega) h2]
  refine (made_runs hokG hz hg hT1).mono ?_
  rintro v J2 T2 hle2 ⟨p, n, d, own, rfl, hres⟩
  have hTT : Sub T T2 := by
    rcases hres with ⟨_, h⟩ | ⟨_, _, h⟩
    · exact h.right
    · exact h
  refine ⟨_, _, _, _, rfl, ?_⟩
  cases hm : madeT (gotT s now xs) with
  | mk er zz =>
    rw [hm] at hres
    cases er with
    | some c => exact ⟨false, rfl, bcase_t rfl (take_failed hTr (hsA hTT) now id (by show s.zone.length ≤ _; omega) hzs rfl)⟩
    | none =>
      refine ⟨true, rfl, bcase_f rfl ?_⟩
      obtain ⟨k1, k2, k3⟩ := made_ok hokG hm
      have hzzl : zz.length ≤ 256 := by
        rcases k2 with k2 | k2
        · rw [k2]; decide
        · exact k2.many
      obtain ⟨ownN, hN, hsN⟩ : ∃ ownN, OwnZ (.slice p n d) zz ownN ∧ Sub (tB e b (gotT s now xs) z g :: (ownN ++ (owng ++ (qB b9 rq0 :: M :: F)))) T2 := by
        rcases hres with ⟨h1, h2⟩ | ⟨h1, h2, h3⟩
        · refine ⟨own, h1, ?_⟩
          have h3 : Go.Px.Sub (own ++ (tB e b (gotT s now xs) z g :: (ownz ++ (owng ++ (qB b9 rq0 :: M :: F))))) T2 := ((Sub.refl own).both hT1).trans h2
          exact h3.re (by intro a; simp only [cnt_cons, cnt_app]; omega)
        · injection h2 with _ h2
          subst h2
          subst h1
          exact ⟨ownz, hz, hT1.trans h3⟩
      have hnn := hN.len
      subst hnn
      have hzr : RowIn J2 T2 z.1 s.zone.length 4 encR s.zone := hzn ▸ ((hz.row encR_len).sub (hT1.drop.left.trans hTT))
      refine ⟨_, _, _, Cell.at_ (add_mk _ _ _) (Cell.among hsN rfl), ?_⟩
      rw [show ((⟨z.1, z.2.1, z.2.2⟩ : Sl)).2.1 = s.zone.length from hzn]
      refine (Between_runs hzr ((hN.row encR_len).sub hsN.drop.left) hok.ss k1 (by omega) (by omega)).mono ?_
      rintro v J3 T3 hle3 ⟨p1, n1, c1, q1, m1, d1, own1, own2, rfl, ho1, ho2, hs3⟩
      have e1 := ho1.len
      have e2 := ho2.len
      subst e1; subst e2
      refine ⟨_, _, _, _, _, _, rfl, ?_⟩
      have hs4 := hsN.trans hs3.right.right
      refine StP.at_ (add_mk _ _ _) (StP.among (L' := encT { gotT s now xs with zone := zz } (p, zz.length, d) g) hs4 (Nat.le_of_ble_eq_true rfl) rfl rfl ?_)
      intro T5 hT5
      refine StP.at_ (add_mk _ _ _) (StP.among (L' := encT { gotT s now xs with zone := zz, has := true } (p, zz.length, d) g) hT5 (Nat.le_of_ble_eq_true rfl) rfl rfl ?_)
      intro T6 hT6
      have hTr6 : TrAt e b { gotT s now xs with zone := zz, has := true } (tB e b { gotT s now xs with zone := zz, has := true } (p, zz.length, d) g :: (ownN ++ owng)) := ⟨(p, zz.length, d), g, ownN, owng, rfl, hN, hg⟩
      have hT6' : Sub ((tB e b { gotT s now xs with zone := zz, has := true } (p, zz.length, d) g :: (ownN ++ owng)) ++ (qB b9 rq0 :: M :: F)) T6 := hT6.re (by intro a; simp only [tB, cnt_cons, cnt_app]; omega)
      have hszz := small_size k3
      refine (times_runs hTr6 hT6' (by show zz.length ≤ _; omega) hszz).mono ?_
      rintro v J7 T7 hle7 ⟨rfl, rfl⟩
      refine ⟨_, _, _, _, _, _, _, rfl, StP.at_ (add_mk _ _ _) (StP.among (L' := encT (zoneT (gotT s now xs) now zz) (p, zz.length, d) g) hT6 (Nat.le_of_ble_eq_true rfl) rfl rfl ?_)⟩
      intro T8 hT8
      have hTr8 : TrAt e b (zoneT (gotT s now xs) now zz) (tB e b (zoneT (gotT s now xs) now zz) (p, zz.length, d) g :: (ownN ++ owng)) := ⟨(p, zz.length, d), g, ownN, owng, rfl, hN, hg⟩
      have hT8' : Sub ((tB e b (zoneT (gotT s now xs) now zz) (p, zz.length, d) g :: (ownN ++ owng)) ++ (qB b9 rq0 :: M :: F)) T8 := hT8.re (by intro a; simp only [tB, cnt_cons, cnt_app]; omega)
      refine (times_runs hTr8 hT8' (by show zz.length ≤ _; omega) hszz).mono ?_
      rintro v J9 T9 hle9 ⟨rfl, rfl⟩
      refine ⟨_, _, _, _, _, _, _, rfl, (close_runs hTr8 hT8' now _).mono ?_⟩
      rintro v J10 T10 hle10 ⟨rfl, own', ha, hs'⟩
      exact ⟨rfl, put_q (q := rq0) (TrAt.back hs') fun T11 hT11 => ⟨rfl, own', ha, hT11.re (by intro a; simp only [cnt_cons, cnt_app]; omega)⟩⟩
theorem takeT_no {s : Tr} {now id : Int} {m : Ms} {xs : List Rc} (h : ¬ (s.opn = true ∧ fitsT s m = true)) : takeT s now id m xs = (s, (false, rq0, false)) := by unfold takeT; rw [if_neg h]
theorem takeT_bad {s : Tr} {now id : Int} {m : Ms} {xs : List Rc} (h : s.opn = true ∧ fitsT s m = true) (g : m.code ≠ 0 ∨ m.trunc = true) : takeT s now id m xs = failedT s now id := by unfold takeT; rw [if_pos h, if_pos g]
theorem takeT_told {s : Tr} {now id : Int} {m : Ms} {xs : List Rc} (h : s.opn = true ∧ fitsT s m = true) (g : ¬ (m.code ≠ 0 ∨ m.trunc = true)) (k : s.q.2.1 = 6) : takeT s now id m xs = toldT s now id xs := by unfold takeT; rw [if_pos h, if_neg g, if_pos k]
theorem takeT_got {s : Tr} {now id : Int} {m : Ms} {xs : List Rc} (h : s.opn = true ∧ fitsT s m = true) (g : ¬ (m.code ≠ 0 ∨ m.trunc = true)) (k : s.q.2.1 ≠ 6) : takeT s now id m xs = take2 (gotT s now xs) now id := by unfold takeT; rw [if_pos h, if_neg g, if_neg k]
theorem Take_runs {e : TypeId} {b : Nat} {s : Tr} {own F S : SH} {I : IMem} {m : Ms} {xs : List Rc} {now id : Int} (h : TrAt e b s own) (hs : Sub (own ++ F) S) (hok : TOK s)
    (hm : s.opn = true ∧ fitsT s m = true → m.an.2.1 = xs.length ∧ RowIn I F m.an.1 xs.length 4 encR xs ∧ xs.length ≤ 10000 ∧ ∀ r ∈ xs, SmallR r) :
    Runs Tryz.prog 13 #[.pointer (some ⟨b, 0, none⟩), .int .i64 now, vM m, .int .u16 id] I S fun v _ T => TRes e b F v T (takeT s now id m xs) := by
  refine transfer_Transfer_Take_fn _ _ _ _ _ _ _ _ _ _ _ _ _ _ _ _ _ _ _ _ _ _ _ _ _ _ ?_
  unfold transfer_Transfer_Take
  intro b6 b9
  have hs9 : Sub (own ++ (qB b9 rq0 :: mB b6 m :: F)) (qB b9 rq0 :: mB b6 m :: S) := TrAt.frame (e := e) (b := b) (s := s) (TrAt.frame (e := e) (b := b) (s := s) hs)
  have hzl := hok.len
  have hzs := small_size hok.small
  have h' := h
  obtain ⟨z, g, ownz, owng, rfl, hz, hg⟩ := h'
  have hzn := hz.len
  have hM : ∀ {J : IMem} (k : Nat) {v : Value}, (encM m)[k]? = some v → Cell J (qB b9 rq0 :: mB b6 m :: S) ((⟨b6, 0, none⟩ : Addr).add k) v := fun {J} k {v} hk => Cell.at_ (a' := ⟨b6, k, none⟩) (by rw [add_mk, Nat.zero_add]) (Cell.tl (Cell.at0 (by rw [List.getElem?_toArray]; exact hk)))
  have no : ∀ {fl : Bool}, (s.opn = true ∧ fitsT s m = true → False) → transfer_Transfer_Take_b3 (fun v _ T => TRes e b F v T (takeT s now id m xs)) (some ⟨b, 0, none⟩) now id ⟨b6, 0, none⟩ ⟨b9, 0, none⟩ true I (qB b9 rq0 :: mB b6 m :: S) := by
    intro fl hn
    unfold transfer_Transfer_Take_b3
    exact bcase_t rfl (take_none h hs9 (takeT_no hn))
  have b2 : ∀ fl : Bool, fl = fitsT s m → transfer_Transfer_Take_b2 (fun v _ T => TRes e b F v T (takeT s now id m xs)) (some ⟨b, 0, none⟩) now id ⟨b6, 0, none⟩ ⟨b9, 0, none⟩ fl I (qB b9 rq0 :: mB b6 m :: S) := by
    intro fl hfl
    unfold transfer_Transfer_Take_b2
    refine ⟨_, Cell.at_ (add_mk _ _ _) (Cell.among hs9 rfl), bcase_not (bcase_of (fun h1 => ?_) (fun h1 => no (fl := false) (fun hh => by rw [hh.1] at h1; cases h1)))⟩
    cases fl with
    | false => exact no (fl := false) (fun hh => by rw [hh.2] at hfl; cases hfl)
    | true =>
      have hopen : s.opn = true ∧ fitsT s m = true := ⟨h1, hfl.symm⟩
      obtain ⟨hm1, hx, hxl, hxs⟩ := hm hopen
      unfold transfer_Transfer_Take_b3
      have b4 : ∀ bad : Bool, (bad = true ↔ (m.code ≠ 0 ∨ m.trunc = true)) → transfer_Transfer_Take_b4 (fun v _ T => TRes e b F v T (takeT s now id m xs)) (some ⟨b, 0, none⟩) now id ⟨b6, 0, none⟩ ⟨b9, 0, none⟩ bad I (qB b9 rq0 :: mB b6 m :: S) := by
        intro bad hbad
        unfold transfer_Transfer_Take_b4
        refine bcase_of (fun h2 => take_failed h hs9 now id (by omega) hzs (takeT_bad hopen (hbad.1 h2))) (fun h2 => ?_)
        have hgood : ¬ (m.code ≠ 0 ∨ m.trunc = true) := fun hh => by rw [hbad.2 hh] at h2; cases h2
        refine ⟨_, Cell.at_ (add2 _ _ _ _) (Cell.among hs9 rfl), bcase_beq (fun h3 => ?_) (fun h3 => ?_)⟩
        · rw [takeT_told hopen hgood h3]
          refine ⟨_, hM 0 rfl, _, hM 1 rfl, _, hM 2 rfl, _, hM 3 rfl, _, hM 4 rfl, _, hM 5 rfl, _, hM 6 rfl, _, hM 7 rfl, _, hM 8 rfl, _, hM 9 rfl, _, _, _, hM 10 rfl, _, _, _, hM 11 rfl, _, _, _, hM 12 rfl, _, hM 13 rfl, ?_⟩
          refine (told_runs (m := m) h hs9 now id (by omega) hzs hm1 (hx.sub (((Sub.refl F).skip _).skip _)) (small_size hxs)).mono ?_
          rintro v J T hle ⟨rfl, own', ha, hs'⟩
          exact ⟨_, _, _, _, _, _, _, _, _, rfl, put_q (TrAt.back hs') fun T3 hT3 => ⟨rfl, own', ha, hT3.re (by intro a; simp only [cnt_cons, cnt_app]; omega)⟩⟩
        · rw [takeT_got hopen hgood h3]
          unfold transfer_Transfer_Take_b5
          refine ⟨_, _, _, Cell.at_ (add_mk _ _ _) (Cell.among hs9 rfl), _, _, _, hM 10 rfl, ?_⟩
          have hgl := hok.gl
          have hxr : RowIn I (qB b9 rq0 :: mB b6 m :: S) m.an.1 m.an.2.1 4 encR xs := hm1 ▸ (hx.sub ((hs.right.skip _).skip _))
          refine AppR (own := owng) (F := tB e b s z g :: (ownz ++ (qB b9 rq0 :: mB b6 m :: F))) (hs9.re (by intro a; simp only [cnt_cons, cnt_app]; omega)) hg hxr (by omega) ?_
          intro p n c own' T ho hT
          refine StP.at_ (add_mk _ _ _) (StP.among (e := e) (L := encT s z g) (L' := encT { s with got := s.got ++ xs } z (p, n, c)) (F := ownz ++ (own' ++ (qB b9 rq0 :: mB b6 m :: F))) (hT.re (by intro a; simp only [tB, cnt_cons, cnt_app]; omega)) (Nat.le_of_ble_eq_true rfl) rfl rfl ?_)
          intro T2 hT2
          exact take_b6 hok hz ho hT2 hxl hxs
      refine bcase_f rfl ⟨_, hM 7 rfl, bcase_bne (fun h2 => b4 true ⟨fun _ => .inl h2, fun _ => rfl⟩) (fun h2 => ⟨_, hM 4 rfl, b4 _ ⟨fun h => .inr h, fun h => ?_⟩⟩)⟩
      rcases h with h | h
      · exact absurd h2 h
      · exact h
  unfold transfer_Transfer_Take_b1
  refine ⟨_, hM 0 rfl, _, Cell.at_ (add_mk _ _ _) (Cell.among hs9 rfl), bcase_of (fun h1 => ?_) (fun h1 => b2 false (by unfold fitsT; rw [h1]; rfl))⟩
  refine ⟨_, hM 1 rfl, bcase_of (fun h2 => ?_) (fun h2 => b2 false (by unfold fitsT; rw [h1, h2]; rfl))⟩
  refine ⟨_, hM 8 rfl, _, Cell.at_ (add2 _ _ _ _) (Cell.tl (Cell.at0 rfl)), _, Cell.among hs9 rfl, _, Cell.at_ (add2 _ _ _ _) (Cell.among hs9 rfl), b2 _ (by unfold fitsT; rw [h1, h2]; rfl)⟩
end Go.Proofs.YthlkeokfmedjhaaGreat
