import Derived.Test.YtdajglfbbcbgpaaDoorProg
import Derived.Test.YtdajglfbbcbgpaaDoorPx6
set_option linter.unusedVariables false
set_option maxRecDepth 8000
set_option maxHeartbeats 2000000
namespace Go.Proofs.YtdajglfbbcbgpaaDoor
open Go.Px
/-! ### zone_Has: function 14, bolter/zone.Has -/
noncomputable def zone_Has_code : Code := (Tryd.f14.body).getD .skip
def zone_Has (R : Value → IMem → SH → Prop) (z_0 : Option Addr) (z_0n : Nat) (z_0c : Nat) (r_1_0 : ByteArray) (r_1_1 : Int) (r_1_2 : Int) (r_1_3 : ByteArray) (I : IMem) (S : SH) : Prop :=
  ∀ b3 : Nat,
  ∃ x9_0, Cell I ((b3, .cells #[.string r_1_0, .int .u16 r_1_1, .int .u32 r_1_2, .string r_1_3] 36 (0, 0)) :: S) ⟨b3, 0, none⟩ (.string x9_0) ∧
  ∃ x9_1, Cell I ((b3, .cells #[.string r_1_0, .int .u16 r_1_1, .int .u32 r_1_2, .string r_1_3] 36 (0, 0)) :: S) ⟨b3, 1, none⟩ (.int .u16 x9_1) ∧
  ∃ x9_2, Cell I ((b3, .cells #[.string r_1_0, .int .u16 r_1_1, .int .u32 r_1_2, .string r_1_3] 36 (0, 0)) :: S) ⟨b3, 2, none⟩ (.int .u32 x9_2) ∧
  ∃ x9_3, Cell I ((b3, .cells #[.string r_1_0, .int .u16 r_1_1, .int .u32 r_1_2, .string r_1_3] 36 (0, 0)) :: S) ⟨b3, 3, none⟩ (.string x9_3) ∧
  Runs Tryd.prog 33 #[.slice z_0 z_0n z_0c, .agg #[.string x9_0, .int .u16 x9_1, .int .u32 x9_2, .string x9_3], .func (.func 26) #[] #[]] I ((b3, .cells #[.string r_1_0, .int .u16 r_1_1, .int .u32 r_1_2, .string r_1_3] 36 (0, 0)) :: S) fun v I1 S1 => ∃ x10_0 x10_1, v = .tuple #[.int .i64 x10_0, .bool x10_1] ∧
  R (.bool x10_1) I1 S1
theorem zone_Has_fn (R : Value → IMem → SH → Prop) (z_0 : Option Addr) (z_0n : Nat) (z_0c : Nat) (r_1_0 : ByteArray) (r_1_1 : Int) (r_1_2 : Int) (r_1_3 : ByteArray) (I : IMem) (S : SH) (h : zone_Has R z_0 z_0n z_0c r_1_0 r_1_1 r_1_2 r_1_3 I S) :
    Runs Tryd.prog 14 #[.slice z_0 z_0n z_0c, .agg #[.string r_1_0, .int .u16 r_1_1, .int .u32 r_1_2, .string r_1_3]] I S R := by
  refine Runs.of_wp (args := [.slice z_0 z_0n z_0c, .agg #[.string r_1_0, .int .u16 r_1_1, .int .u32 r_1_2, .string r_1_3]]) (c := zone_Has_code) Tryd.func14 (by kernel_rfl) (by kernel_rfl) ?_
  exact Pre.sound _ _ _ _ _ (cast (by kernel_rfl) h)
/-! ### bolterlaw08_awake: function 9, bolter/bolterlaw08.awake -/
noncomputable def bolterlaw08_awake_code : Code := (Tryd.f9.body).getD .skip
def bolterlaw08_awake_b2 (R : Value → IMem → SH → Prop) (x0 : Bool) (I : IMem) (S : SH) : Prop :=
  R (.bool x0) I S
def bolterlaw08_awake_b1 (R : Value → IMem → SH → Prop) (a_1 : Addr) (b_2 : Addr) (z_3 : Option Addr) (z_3n : Nat) (z_3c : Nat) (e_4 : Value) (I : IMem) (S : SH) : Prop :=
  ∃ x14_0, Cell I S a_1 (.string x14_0) ∧
  ∃ x14_1, Cell I S (a_1.add 1) (.int .u16 x14_1) ∧
  ∃ x14_2, Cell I S (a_1.add 2) (.int .u32 x14_2) ∧
  ∃ x14_3, Cell I S (a_1.add 3) (.string x14_3) ∧
  ∃ x15_0, Cell I S b_2 (.string x15_0) ∧
  ∃ x15_1, Cell I S (b_2.add 1) (.int .u16 x15_1) ∧
  ∃ x15_2, Cell I S (b_2.add 2) (.int .u32 x15_2) ∧
  ∃ x15_3, Cell I S (b_2.add 3) (.string x15_3) ∧
  ∃ x16, Runs Tryd.prog 26 #[.agg #[.string x14_0, .int .u16 x14_1, .int .u32 x14_2, .string x14_3], .agg #[.string x15_0, .int .u16 x15_1, .int .u32 x15_2, .string x15_3]] I S (fun v' _ T => v' = .int .i64 x16 ∧ T = S) ∧
  bcase (x16 == ((-1) : Int))
    (∃ nl, isNilI e_4 = some nl ∧
    bcase nl
      (bcase ((z_3n : Int) == (2 : Int))
        (ptrP z_3 fun x29 => (0 : Int) ≤ (0 : Int) ∧ (0 : Int) < (z_3n : Int) ∧
        ∃ x30_0, Cell I S (x29.add ((0 : Int).toNat * 4)) (.string x30_0) ∧
        ∃ x30_1, Cell I S ((x29.add ((0 : Int).toNat * 4)).add 1) (.int .u16 x30_1) ∧
        ∃ x30_2, Cell I S ((x29.add ((0 : Int).toNat * 4)).add 2) (.int .u32 x30_2) ∧
        ∃ x30_3, Cell I S ((x29.add ((0 : Int).toNat * 4)).add 3) (.string x30_3) ∧
        ∃ x31_0, Cell I S a_1 (.string x31_0) ∧
        ∃ x31_1, Cell I S (a_1.add 1) (.int .u16 x31_1) ∧
        ∃ x31_2, Cell I S (a_1.add 2) (.int .u32 x31_2) ∧
        ∃ x31_3, Cell I S (a_1.add 3) (.string x31_3) ∧
        bcase (((x30_0 : ByteArray) == (x31_0 : ByteArray)) && (((x30_1 : Int) == (x31_1 : Int)) && (((x30_2 : Int) == (x31_2 : Int)) && (((x30_3 : ByteArray) == (x31_3 : ByteArray)) && true))))
          (∃ x36_0, Cell I S b_2 (.string x36_0) ∧
          ∃ x36_1, Cell I S (b_2.add 1) (.int .u16 x36_1) ∧
          ∃ x36_2, Cell I S (b_2.add 2) (.int .u32 x36_2) ∧
          ∃ x36_3, Cell I S (b_2.add 3) (.string x36_3) ∧
          ∃ x37, Runs Tryd.prog 14 #[.slice z_3 z_3n z_3c, .agg #[.string x36_0, .int .u16 x36_1, .int .u32 x36_2, .string x36_3]] I S (fun v' _ T => v' = .bool x37 ∧ T = S) ∧
          bolterlaw08_awake_b2 R x37 I S)
          (bolterlaw08_awake_b2 R false I S))
        (bolterlaw08_awake_b2 R false I S))
      (bolterlaw08_awake_b2 R false I S))
    (bolterlaw08_awake_b2 R false I S)
def bolterlaw08_awake (R : Value → IMem → SH → Prop) (I : IMem) (S : SH) : Prop :=
  ∀ b1 : Nat,
  ∀ b2 : Nat,
  StP ((b2, .cells #[.string ⟨#[]⟩, .int .u16 0, .int .u32 0, .string ⟨#[]⟩] 36 (0, 0)) :: ((b1, .cells #[.string ⟨#[]⟩, .int .u16 0, .int .u32 0, .string ⟨#[]⟩] 36 (0, 0)) :: S)) ⟨b1, 0, none⟩ [.string ⟨#[1, 97]⟩, .int .u16 1, .int .u32 0, .string ⟨#[]⟩] fun S1 =>
  StP S1 ⟨b2, 0, none⟩ [.string ⟨#[1, 97]⟩, .int .u16 16, .int .u32 0, .string ⟨#[]⟩] fun S1' =>
  ∃ x8_0, Cell I S1' ⟨b2, 0, none⟩ (.string x8_0) ∧
  ∃ x8_1, Cell I S1' ⟨b2, 1, none⟩ (.int .u16 x8_1) ∧
  ∃ x8_2, Cell I S1' ⟨b2, 2, none⟩ (.int .u32 x8_2) ∧
  ∃ x8_3, Cell I S1' ⟨b2, 3, none⟩ (.string x8_3) ∧
  ∀ b9 : Nat,
  ∃ x10_0, Cell I ((b9, .cells #[.string x8_0, .int .u16 x8_1, .int .u32 x8_2, .string x8_3] 36 (0, 0)) :: S1') ⟨b1, 0, none⟩ (.string x10_0) ∧
  ∃ x10_1, Cell I ((b9, .cells #[.string x8_0, .int .u16 x8_1, .int .u32 x8_2, .string x8_3] 36 (0, 0)) :: S1') ⟨b1, 1, none⟩ (.int .u16 x10_1) ∧
  ∃ x10_2, Cell I ((b9, .cells #[.string x8_0, .int .u16 x8_1, .int .u32 x8_2, .string x8_3] 36 (0, 0)) :: S1') ⟨b1, 2, none⟩ (.int .u32 x10_2) ∧
  ∃ x10_3, Cell I ((b9, .cells #[.string x8_0, .int .u16 x8_1, .int .u32 x8_2, .string x8_3] 36 (0, 0)) :: S1') ⟨b1, 3, none⟩ (.string x10_3) ∧
  Runs Tryd.prog 13 #[.slice (some ⟨b9, 0, none⟩) 1 1, .agg #[.string x10_0, .int .u16 x10_1, .int .u32 x10_2, .string x10_3]] I ((b9, .cells #[.string x8_0, .int .u16 x8_1, .int .u32 x8_2, .string x8_3] 36 (0, 0)) :: S1') fun v I1 S1'' => ∃ x11_0 x11_0n x11_0c x11_1, v = .tuple #[.slice x11_0 x11_0n x11_0c, x11_1] ∧
  bolterlaw08_awake_b1 R ⟨b1, 0, none⟩ ⟨b2, 0, none⟩ x11_0 x11_0n x11_0c x11_1 I1 S1''
theorem bolterlaw08_awake_fn (R : Value → IMem → SH → Prop) (I : IMem) (S : SH) (h : bolterlaw08_awake R I S) :
    Runs Tryd.prog 9 #[] I S R := by
  refine Runs.of_wp (args := []) (c := bolterlaw08_awake_code) Tryd.func9 (by kernel_rfl) (by kernel_rfl) ?_
  refine WP.cut 3 (fun l I S => asAdr (l 1) fun a_1 => asAdr (l 2) fun b_2 => asSl (l 3) fun z_3 z_3n z_3c => asV (l 4) fun e_4 => bolterlaw08_awake_b1 R a_1 b_2 z_3 z_3n z_3c e_4 I S) (cast (by kernel_rfl) h) ?_
  clear h
  intro l I S _ h
  obtain ⟨a_1, e1, h⟩ := asAdr_e h
  obtain ⟨b_2, e2, h⟩ := asAdr_e h
  obtain ⟨z_3, z_3n, z_3c, e3, h⟩ := asSl_e h
  obtain ⟨e_4, e4, h⟩ := asV_e h
  rw [upd_eta e1, upd_eta e2, upd_eta e3, upd_eta e4]
  refine WP.seqY (by kernel_rfl) (fun l I S => asB (l 0) fun x0 => bolterlaw08_awake_b2 R x0 I S) ?_ ?_
  ·
    exact WP.quiet' (by kernel_rfl) (by kernel_rfl) (by kernel_rfl) (cast (by kernel_rfl) h)
  · clear h
    intro l I S _ h
    obtain ⟨x0, e0, h⟩ := asB_e h
    rw [upd_eta e0]
    exact Pre.sound _ _ _ _ _ (cast (by kernel_rfl) h)
/-! ### zone_Compare: function 26, bolter/zone.Compare -/
noncomputable def zone_Compare_code : Code := (Tryd.f26.body).getD .skip
def zone_Compare_b2 (R : Value → IMem → SH → Prop) (x4 : Int) (I : IMem) (S : SH) : Prop :=
  R (.int .i64 x4) I S
def zone_Compare_b1 (R : Value → IMem → SH → Prop) (a_2 : Addr) (b_3 : Addr) (I : IMem) (S : SH) : Prop :=
  ∃ x6, Cell I S a_2 (.string x6) ∧
  ∃ x8, Cell I S b_3 (.string x8) ∧
  ∃ x9, (∀ J T, I.le J → Runs Tryd.prog 43 #[.string x6, .string x8] J (T ++ S) (fun v' _ T' => v' = .int .i64 x9 ∧ T' = T ++ S)) ∧
  ∃ x11, Cell I S (a_2.add 1) (.int .u16 x11) ∧
  ∃ x13, Cell I S (b_3.add 1) (.int .u16 x13) ∧
  ∃ x14, (∀ J T, I.le J → Runs Tryd.prog 44 #[.int .u16 x11, .int .u16 x13] J (T ++ S) (fun v' _ T' => v' = .int .i64 x14 ∧ T' = T ++ S)) ∧
  ∃ x16, Cell I S (a_2.add 3) (.string x16) ∧
  ∃ x18, Cell I S (b_3.add 3) (.string x18) ∧
  ∃ x19, (∀ J T, I.le J → Runs Tryd.prog 45 #[.string x16, .string x18] J (T ++ S) (fun v' _ T' => v' = .int .i64 x19 ∧ T' = T ++ S)) ∧
  ∃ x21, Cell I S (a_2.add 2) (.int .u32 x21) ∧
  ∃ x23, Cell I S (b_3.add 2) (.int .u32 x23) ∧
  ∃ x24, (∀ J T, I.le J → Runs Tryd.prog 46 #[.int .u32 x21, .int .u32 x23] J (T ++ S) (fun v' _ T' => v' = .int .i64 x24 ∧ T' = T ++ S)) ∧
  ∀ b25 : Nat,
  Runs Tryd.prog 42 #[.slice (some ⟨b25, 0, none⟩) 4 4] I ((b25, .cells #[.int .i64 x9, .int .i64 x14, .int .i64 x19, .int .i64 x24] 3 (0, 0)) :: S) fun v I1 S1 => ∃ x26, v = .int .i64 x26 ∧
  zone_Compare_b2 R x26 I1 S1
def zone_Compare (R : Value → IMem → SH → Prop) (a_0_0 : ByteArray) (a_0_1 : Int) (a_0_2 : Int) (a_0_3 : ByteArray) (b_1_0 : ByteArray) (b_1_1 : Int) (b_1_2 : Int) (b_1_3 : ByteArray) (I : IMem) (S : SH) : Prop :=
  ∀ b2 : Nat,
  ∀ b3 : Nat,
  zone_Compare_b1 R ⟨b2, 0, none⟩ ⟨b3, 0, none⟩ I ((b3, .cells #[.string b_1_0, .int .u16 b_1_1, .int .u32 b_1_2, .string b_1_3] 36 (0, 0)) :: ((b2, .cells #[.string a_0_0, .int .u16 a_0_1, .int .u32 a_0_2, .string a_0_3] 36 (0, 0)) :: S))
theorem zone_Compare_fn (R : Value → IMem → SH → Prop) (a_0_0 : ByteArray) (a_0_1 : Int) (a_0_2 : Int) (a_0_3 : ByteArray) (b_1_0 : ByteArray) (b_1_1 : Int) (b_1_2 : Int) (b_1_3 : ByteArray) (I : IMem) (S : SH) (h : zone_Compare R a_0_0 a_0_1 a_0_2 a_0_3 b_1_0 b_1_1 b_1_2 b_1_3 I S) :
    Runs Tryd.prog 26 #[.agg #[.string a_0_0, .int .u16 a_0_1, .int .u32 a_0_2, .string a_0_3], .agg #[.string b_1_0, .int .u16 b_1_1, .int .u32 b_1_2, .string b_1_3]] I S R := by
  refine Runs.of_wp (args := [.agg #[.string a_0_0, .int .u16 a_0_1, .int .u32 a_0_2, .string a_0_3], .agg #[.string b_1_0, .int .u16 b_1_1, .int .u32 b_1_2, .string b_1_3]]) (c := zone_Compare_code) Tryd.func26 (by kernel_rfl) (by kernel_rfl) ?_
  refine WP.cut 1 (fun l I S => asAdr (l 2) fun a_2 => asAdr (l 3) fun b_3 => zone_Compare_b1 R a_2 b_3 I S) (cast (by kernel_rfl) h) ?_
  clear h
  intro l I S _ h
  obtain ⟨a_2, e2, h⟩ := asAdr_e h
  obtain ⟨b_3, e3, h⟩ := asAdr_e h
  rw [upd_eta e2, upd_eta e3]
  refine WP.seqY (by kernel_rfl) (fun l I S => asI .i64 (l 4) fun x4 => zone_Compare_b2 R x4 I S) ?_ ?_
  ·
    exact WP.draw' (.take 0 (.take 1 (.take 2 (.take 3 (.take 4 (.take 5 (.take 6 (.take 7 (.take 8 (.take 9 (.take 10 (.take 11 (.take 12 (.take 13 (.take 14 (.take 15 (.take 16 (.take 17 (.take 18 (.take 19 (.step 20 (.step 21 (.take 22 .done))))))))))))))))))))))) [20, 21] (by kernel_rfl) (by kernel_rfl) (by kernel_rfl) (by kernel_rfl) (by kernel_rfl) (cast (by kernel_rfl) h)
  · clear h
    intro l I S _ h
    obtain ⟨x4, e4, h⟩ := asI_e h
    rw [upd_eta e4]
    exact Pre.sound _ _ _ _ _ (cast (by kernel_rfl) h)
/-! ### bolterlaw08_compare: function 30, bolter/bolterlaw08.compare -/
noncomputable def bolterlaw08_compare_code : Code := (Tryd.f30.body).getD .skip
def bolterlaw08_compare_b1 (R : Value → IMem → SH → Prop) (less_5 : Bool) (I : IMem) (S : SH) : Prop :=
  bcase less_5
    (R (.int .i64 (-1)) I S)
    (R (.int .i64 1) I S)
def bolterlaw08_compare (R : Value → IMem → SH → Prop) (a_0_0 : ByteArray) (a_0_1 : Int) (a_0_2 : Int) (a_0_3 : ByteArray) (b_1_0 : ByteArray) (b_1_1 : Int) (b_1_2 : Int) (b_1_3 : ByteArray) (I : IMem) (S : SH) : Prop :=
  ∀ b2 : Nat,
  ∀ b3 : Nat,
  ∃ x7, Cell I ((b3, .cells #[.string b_1_0, .int .u16 b_1_1, .int .u32 b_1_2, .string b_1_3] 36 (0, 0)) :: ((b2, .cells #[.string a_0_0, .int .u16 a_0_1, .int .u32 a_0_2, .string a_0_3] 36 (0, 0)) :: S)) ⟨b2, 0, none⟩ (.string x7) ∧
  ∃ x9, Cell I ((b3, .cells #[.string b_1_0, .int .u16 b_1_1, .int .u32 b_1_2, .string b_1_3] 36 (0, 0)) :: ((b2, .cells #[.string a_0_0, .int .u16 a_0_1, .int .u32 a_0_2, .string a_0_3] 36 (0, 0)) :: S)) ⟨b3, 0, none⟩ (.string x9) ∧
  ∃ x17_0, Cell I ((b3, .cells #[.string b_1_0, .int .u16 b_1_1, .int .u32 b_1_2, .string b_1_3] 36 (0, 0)) :: ((b2, .cells #[.string a_0_0, .int .u16 a_0_1, .int .u32 a_0_2, .string a_0_3] 36 (0, 0)) :: S)) ⟨b2, 0, none⟩ (.string x17_0) ∧
  ∃ x17_1, Cell I ((b3, .cells #[.string b_1_0, .int .u16 b_1_1, .int .u32 b_1_2, .string b_1_3] 36 (0, 0)) :: ((b2, .cells #[.string a_0_0, .int .u16 a_0_1, .int .u32 a_0_2, .string a_0_3] 36 (0, 0)) :: S)) ⟨b2, 1, none⟩ (.int .u16 x17_1) ∧
  ∃ x17_2, Cell I ((b3, .cells #[.string b_1_0, .int .u16 b_1_1, .int .u32 b_1_2, .string b_1_3] 36 (0, 0)) :: ((b2, .cells #[.string a_0_0, .int .u16 a_0_1, .int .u32 a_0_2, .string a_0_3] 36 (0, 0)) :: S)) ⟨b2, 2, none⟩ (.int .u32 x17_2) ∧
  ∃ x17_3, Cell I ((b3, .cells #[.string b_1_0, .int .u16 b_1_1, .int .u32 b_1_2, .string b_1_3] 36 (0, 0)) :: ((b2, .cells #[.string a_0_0, .int .u16 a_0_1, .int .u32 a_0_2, .string a_0_3] 36 (0, 0)) :: S)) ⟨b2, 3, none⟩ (.string x17_3) ∧
  ∃ x18_0, Cell I ((b3, .cells #[.string b_1_0, .int .u16 b_1_1, .int .u32 b_1_2, .string b_1_3] 36 (0, 0)) :: ((b2, .cells #[.string a_0_0, .int .u16 a_0_1, .int .u32 a_0_2, .string a_0_3] 36 (0, 0)) :: S)) ⟨b3, 0, none⟩ (.string x18_0) ∧
  ∃ x18_1, Cell I ((b3, .cells #[.string b_1_0, .int .u16 b_1_1, .int .u32 b_1_2, .string b_1_3] 36 (0, 0)) :: ((b2, .cells #[.string a_0_0, .int .u16 a_0_1, .int .u32 a_0_2, .string a_0_3] 36 (0, 0)) :: S)) ⟨b3, 1, none⟩ (.int .u16 x18_1) ∧
  ∃ x18_2, Cell I ((b3, .cells #[.string b_1_0, .int .u16 b_1_1, .int .u32 b_1_2, .string b_1_3] 36 (0, 0)) :: ((b2, .cells #[.string a_0_0, .int .u16 a_0_1, .int .u32 a_0_2, .string a_0_3] 36 (0, 0)) :: S)) ⟨b3, 2, none⟩ (.int .u32 x18_2) ∧
  ∃ x18_3, Cell I ((b3, .cells #[.string b_1_0, .int .u16 b_1_1, .int .u32 b_1_2, .string b_1_3] 36 (0, 0)) :: ((b2, .cells #[.string a_0_0, .int .u16 a_0_1, .int .u32 a_0_2, .string a_0_3] 36 (0, 0)) :: S)) ⟨b3, 3, none⟩ (.string x18_3) ∧
  bcase (((x17_0 : ByteArray) == (x18_0 : ByteArray)) && (((x17_1 : Int) == (x18_1 : Int)) && (((x17_2 : Int) == (x18_2 : Int)) && (((x17_3 : ByteArray) == (x18_3 : ByteArray)) && true))))
    (R (.int .i64 0) I ((b3, .cells #[.string b_1_0, .int .u16 b_1_1, .int .u32 b_1_2, .string b_1_3] 36 (0, 0)) :: ((b2, .cells #[.string a_0_0, .int .u16 a_0_1, .int .u32 a_0_2, .string a_0_3] 36 (0, 0)) :: S)))
    (∃ x22, Cell I ((b3, .cells #[.string b_1_0, .int .u16 b_1_1, .int .u32 b_1_2, .string b_1_3] 36 (0, 0)) :: ((b2, .cells #[.string a_0_0, .int .u16 a_0_1, .int .u32 a_0_2, .string a_0_3] 36 (0, 0)) :: S)) ⟨b2, 0, none⟩ (.string x22) ∧
    ∃ x24, Cell I ((b3, .cells #[.string b_1_0, .int .u16 b_1_1, .int .u32 b_1_2, .string b_1_3] 36 (0, 0)) :: ((b2, .cells #[.string a_0_0, .int .u16 a_0_1, .int .u32 a_0_2, .string a_0_3] 36 (0, 0)) :: S)) ⟨b3, 0, none⟩ (.string x24) ∧
    bcase (!(x22.toList == x24.toList))
      (bolterlaw08_compare_b1 R (Op.bytesLess x7.toList x9.toList) I ((b3, .cells #[.string b_1_0, .int .u16 b_1_1, .int .u32 b_1_2, .string b_1_3] 36 (0, 0)) :: ((b2, .cells #[.string a_0_0, .int .u16 a_0_1, .int .u32 a_0_2, .string a_0_3] 36 (0, 0)) :: S)))
      (∃ x28, Cell I ((b3, .cells #[.string b_1_0, .int .u16 b_1_1, .int .u32 b_1_2, .string b_1_3] 36 (0, 0)) :: ((b2, .cells #[.string a_0_0, .int .u16 a_0_1, .int .u32 a_0_2, .string a_0_3] 36 (0, 0)) :: S)) ⟨b2, 1, none⟩ (.int .u16 x28) ∧
      ∃ x30, Cell I ((b3, .cells #[.string b_1_0, .int .u16 b_1_1, .int .u32 b_1_2, .string b_1_3] 36 (0, 0)) :: ((b2, .cells #[.string a_0_0, .int .u16 a_0_1, .int .u32 a_0_2, .string a_0_3] 36 (0, 0)) :: S)) ⟨b3, 1, none⟩ (.int .u16 x30) ∧
      bcase (x28 != x30)
        (∃ x33, Cell I ((b3, .cells #[.string b_1_0, .int .u16 b_1_1, .int .u32 b_1_2, .string b_1_3] 36 (0, 0)) :: ((b2, .cells #[.string a_0_0, .int .u16 a_0_1, .int .u32 a_0_2, .string a_0_3] 36 (0, 0)) :: S)) ⟨b2, 1, none⟩ (.int .u16 x33) ∧
        ∃ x35, Cell I ((b3, .cells #[.string b_1_0, .int .u16 b_1_1, .int .u32 b_1_2, .string b_1_3] 36 (0, 0)) :: ((b2, .cells #[.string a_0_0, .int .u16 a_0_1, .int .u32 a_0_2, .string a_0_3] 36 (0, 0)) :: S)) ⟨b3, 1, none⟩ (.int .u16 x35) ∧
        bolterlaw08_compare_b1 R (decide (x33 < x35)) I ((b3, .cells #[.string b_1_0, .int .u16 b_1_1, .int .u32 b_1_2, .string b_1_3] 36 (0, 0)) :: ((b2, .cells #[.string a_0_0, .int .u16 a_0_1, .int .u32 a_0_2, .string a_0_3] 36 (0, 0)) :: S)))
        (∃ x39, Cell I ((b3, .cells #[.string b_1_0, .int .u16 b_1_1, .int .u32 b_1_2, .string b_1_3] 36 (0, 0)) :: ((b2, .cells #[.string a_0_0, .int .u16 a_0_1, .int .u32 a_0_2, .string a_0_3] 36 (0, 0)) :: S)) ⟨b2, 3, none⟩ (.string x39) ∧
        ∃ x41, Cell I ((b3, .cells #[.string b_1_0, .int .u16 b_1_1, .int .u32 b_1_2, .string b_1_3] 36 (0, 0)) :: ((b2, .cells #[.string a_0_0, .int .u16 a_0_1, .int .u32 a_0_2, .string a_0_3] 36 (0, 0)) :: S)) ⟨b3, 3, none⟩ (.string x41) ∧
        bcase (!(x39.toList == x41.toList))
          (∃ x44, Cell I ((b3, .cells #[.string b_1_0, .int .u16 b_1_1, .int .u32 b_1_2, .string b_1_3] 36 (0, 0)) :: ((b2, .cells #[.string a_0_0, .int .u16 a_0_1, .int .u32 a_0_2, .string a_0_3] 36 (0, 0)) :: S)) ⟨b2, 3, none⟩ (.string x44) ∧
          ∃ x46, Cell I ((b3, .cells #[.string b_1_0, .int .u16 b_1_1, .int .u32 b_1_2, .string b_1_3] 36 (0, 0)) :: ((b2, .cells #[.string a_0_0, .int .u16 a_0_1, .int .u32 a_0_2, .string a_0_3] 36 (0, 0)) :: S)) ⟨b3, 3, none⟩ (.string x46) ∧
          bolterlaw08_compare_b1 R (Op.bytesLess x44.toList x46.toList) I ((b3, .cells #[.string b_1_0, .int .u16 b_1_1, .int .u32 b_1_2, .string b_1_3] 36 (0, 0)) :: ((b2, .cells #[.string a_0_0, .int .u16 a_0_1, .int .u32 a_0_2, .string a_0_3] 36 (0, 0)) :: S)))
          (∃ x12, Cell I ((b3, .cells #[.string b_1_0, .int .u16 b_1_1, .int .u32 b_1_2, .string b_1_3] 36 (0, 0)) :: ((b2, .cells #[.string a_0_0, .int .u16 a_0_1, .int .u32 a_0_2, .string a_0_3] 36 (0, 0)) :: S)) ⟨b2, 2, none⟩ (.int .u32 x12) ∧
          ∃ x14, Cell I ((b3, .cells #[.string b_1_0, .int .u16 b_1_1, .int .u32 b_1_2, .string b_1_3] 36 (0, 0)) :: ((b2, .cells #[.string a_0_0, .int .u16 a_0_1, .int .u32 a_0_2, .string a_0_3] 36 (0, 0)) :: S)) ⟨b3, 2, none⟩ (.int .u32 x14) ∧
          bolterlaw08_compare_b1 R (decide (x12 < x14)) I ((b3, .cells #[.string b_1_0, .int .u16 b_1_1, .int .u32 b_1_2, .string b_1_3] 36 (0, 0)) :: ((b2, .cells #[.string a_0_0, .int .u16 a_0_1, .int .u32 a_0_2, .string a_0_3] 36 (0, 0)) :: S))))))
theorem bolterlaw08_compare_fn (R : Value → IMem → SH → Prop) (a_0_0 : ByteArray) (a_0_1 : Int) (a_0_2 : Int) (a_0_3 : ByteArray) (b_1_0 : ByteArray) (b_1_1 : Int) (b_1_2 : Int) (b_1_3 : ByteArray) (I : IMem) (S : SH) (h : bolterlaw08_compare R a_0_0 a_0_1 a_0_2 a_0_3 b_1_0 b_1_1 b_1_2 b_1_3 I S) :
    Runs Tryd.prog 30 #[.agg #[.string a_0_0, .int .u16 a_0_1, .int .u32 a_0_2, .string a_0_3], .agg #[.string b_1_0, .int .u16 b_1_1, .int .u32 b_1_2, .string b_1_3]] I S R := by
  refine Runs.of_wp (args := [.agg #[.string a_0_0, .int .u16 a_0_1, .int .u32 a_0_2, .string a_0_3], .agg #[.string b_1_0, .int .u16 b_1_1, .int .u32 b_1_2, .string b_1_3]]) (c := bolterlaw08_compare_code) Tryd.func30 (by kernel_rfl) (by kernel_rfl) ?_
  refine WP.cut 3 (fun l I S => asB (l 5) fun less_5 => bolterlaw08_compare_b1 R less_5 I S) (cast (by kernel_rfl) h) ?_
  clear h
  intro l I S _ h
  obtain ⟨less_5, e5, h⟩ := asB_e h
  rw [upd_eta e5]
  exact Pre.sound _ _ _ _ _ (cast (by kernel_rfl) h)
/-! ### zone_Size: function 29, bolter/zone.Size -/
noncomputable def zone_Size_code : Code := (Tryd.f29.body).getD .skip
def zone_Size_b4 (R : Value → IMem → SH → Prop) (n_3 : Int) (I : IMem) (S : SH) : Prop :=
  R (.int .i64 n_3) I S
def zone_Size_l3 (again3 : Int → Option Addr → Nat → Nat → Int → Int → IMem → SH → Prop) (R : Value → IMem → SH → Prop) (n_3 : Int) (x6 : Option Addr) (x6n : Nat) (x6c : Nat) (x7 : Int) (x8 : Int) (I : IMem) (S : SH) : Prop :=
  bcase (decide (x8 < x7))
    (ptrP x6 fun x10 => (0 : Int) ≤ x8 ∧ x8 < (x6n : Int) ∧
    ∃ x11_0, Cell I S (x10.add (x8.toNat * 4)) (.string x11_0) ∧
    ∃ x11_1, Cell I S ((x10.add (x8.toNat * 4)).add 1) (.int .u16 x11_1) ∧
    ∃ x11_2, Cell I S ((x10.add (x8.toNat * 4)).add 2) (.int .u32 x11_2) ∧
    ∃ x11_3, Cell I S ((x10.add (x8.toNat * 4)).add 3) (.string x11_3) ∧
    ∀ b5 : Nat,
    StP ((b5, .cells #[.string ⟨#[]⟩, .int .u16 0, .int .u32 0, .string ⟨#[]⟩] 36 (0, 0)) :: S) ⟨b5, 0, none⟩ [.string x11_0, .int .u16 x11_1, .int .u32 x11_2, .string x11_3] fun S1 =>
    ∃ x14, Cell I S1 ⟨b5, 0, none⟩ (.string x14) ∧
    ∃ x18, Cell I S1 ⟨b5, 3, none⟩ (.string x18) ∧
    again3 (IntKind.wrap .i64 (n_3 + (IntKind.wrap .i64 ((IntKind.wrap .i64 ((10 : Int) + (x14.size : Int))) + (x18.size : Int))))) x6 x6n x6c x7 (IntKind.wrap .i64 (x8 + (1 : Int))) I S1)
    (zone_Size_b4 R n_3 I S)
def zone_Size_b2 (R : Value → IMem → SH → Prop) (n_3 : Int) (x6 : Option Addr) (x6n : Nat) (x6c : Nat) (x7 : Int) (x8 : Int) (I : IMem) (S : SH) : Prop :=
  ∃ (Inv : Nat → Int → Option Addr → Nat → Nat → Int → Int → IMem → SH → Prop) (m : Nat), Inv m n_3 x6 x6n x6c x7 x8 I S ∧
    ∀ (m : Nat) (n_3 : Int) (x6 : Option Addr) (x6n : Nat) (x6c : Nat) (x7 : Int) (x8 : Int) (J : IMem) (T : SH), I.le J → Inv m n_3 x6 x6n x6c x7 x8 J T →
      zone_Size_l3 (fun n_3 x6 x6n x6c x7 x8 I S => ∃ m', m' < m ∧ Inv m' n_3 x6 x6n x6c x7 x8 I S) R n_3 x6 x6n x6c x7 x8 J T
def zone_Size_b1 (R : Value → IMem → SH → Prop) (z_0 : Option Addr) (z_0n : Nat) (z_0c : Nat) (n_3 : Int) (I : IMem) (S : SH) : Prop :=
  zone_Size_b2 R n_3 z_0 z_0n z_0c (z_0n : Int) 0 I S
def zone_Size (R : Value → IMem → SH → Prop) (z_0 : Option Addr) (z_0n : Nat) (z_0c : Nat) (I : IMem) (S : SH) : Prop :=
  zone_Size_b1 R z_0 z_0n z_0c 0 I S
theorem zone_Size_fn (R : Value → IMem → SH → Prop) (z_0 : Option Addr) (z_0n : Nat) (z_0c : Nat) (I : IMem) (S : SH) (h : zone_Size R z_0 z_0n z_0c I S) :
    Runs Tryd.prog 29 #[.slice z_0 z_0n z_0c] I S R := by
  refine Runs.of_wp (args := [.slice z_0 z_0n z_0c]) (c := zone_Size_code) Tryd.func29 (by kernel_rfl) (by kernel_rfl) ?_
  refine WP.cut 2 (fun l I S => asSl (l 0) fun z_0 z_0n z_0c => asI .i64 (l 3) fun n_3 => zone_Size_b1 R z_0 z_0n z_0c n_3 I S) (cast (by kernel_rfl) h) ?_
  clear h
  intro l I S _ h
  obtain ⟨z_0, z_0n, z_0c, e0, h⟩ := asSl_e h
  obtain ⟨n_3, e3, h⟩ := asI_e h
  rw [upd_eta e0, upd_eta e3]
  refine WP.seqY (by kernel_rfl) (fun l I S => asI .i64 (l 3) fun n_3 => zone_Size_b4 R n_3 I S) ?_ ?_
  ·
    refine WP.cut 1 (fun l I S => asI .i64 (l 3) fun n_3 => asSl (l 6) fun x6 x6n x6c => asI .i64 (l 7) fun x7 => asI .i64 (l 8) fun x8 => zone_Size_b2 R n_3 x6 x6n x6c x7 x8 I S) (cast (by kernel_rfl) h) ?_
    clear h
    intro l I S _ h
    obtain ⟨n_3, e3, h⟩ := asI_e h
    obtain ⟨x6, x6n, x6c, e6, h⟩ := asSl_e h
    obtain ⟨x7, e7, h⟩ := asI_e h
    obtain ⟨x8, e8, h⟩ := asI_e h
    rw [upd_eta e3, upd_eta e6, upd_eta e7, upd_eta e8]
    refine WP.block' (by kernel_rfl) ?_
    obtain ⟨Inv_again3, m_again3, h0, hr⟩ := h
    refine WP.loop' (by kernel_rfl) (fun m_again3 => fun l I S => asI .i64 (l 3) fun n_3 => asSl (l 6) fun x6 x6n x6c => asI .i64 (l 7) fun x7 => asI .i64 (l 8) fun x8 => Inv_again3 m_again3 n_3 x6 x6n x6c x7 x8 I S) m_again3 (cast (by kernel_rfl) h0) ?_
    clear h0
    intro m_again3 l I S hle h
    obtain ⟨n_3, e3, h⟩ := asI_e h
    obtain ⟨x6, x6n, x6c, e6, h⟩ := asSl_e h
    obtain ⟨x7, e7, h⟩ := asI_e h
    obtain ⟨x8, e8, h⟩ := asI_e h
    rw [upd_eta e3, upd_eta e6, upd_eta e7, upd_eta e8]
    have h := hr m_again3 n_3 x6 x6n x6c x7 x8 I S hle h
    clear hr hle
    exact Pre.sound _ _ _ _ _ (cast (by kernel_rfl) h)
  · clear h
    intro l I S _ h
    obtain ⟨n_3, e3, h⟩ := asI_e h
    rw [upd_eta e3]
    exact Pre.sound _ _ _ _ _ (cast (by kernel_rfl) h)
/-! ### zone_Fits: function 63, bolter/zone.Fits -/
noncomputable def zone_Fits_code : Code := (Tryd.f63.body).getD .skip
def zone_Fits_b1 (R : Value → IMem → SH → Prop) (x2 : Bool) (I : IMem) (S : SH) : Prop :=
  R (.bool x2) I S
def zone_Fits (R : Value → IMem → SH → Prop) (z_0 : Option Addr) (z_0n : Nat) (z_0c : Nat) (I : IMem) (S : SH) : Prop :=
  bcase (decide ((z_0n : Int) ≤ (256 : Int)))
    (Runs Tryd.prog 29 #[.slice z_0 z_0n z_0c] I S fun v I1 S1 => ∃ x8, v = .int .i64 x8 ∧
    zone_Fits_b1 R (decide (x8 ≤ (16384 : Int))) I1 S1)
    (zone_Fits_b1 R false I S)
theorem zone_Fits_fn (R : Value → IMem → SH → Prop) (z_0 : Option Addr) (z_0n : Nat) (z_0c : Nat) (I : IMem) (S : SH) (h : zone_Fits R z_0 z_0n z_0c I S) :
    Runs Tryd.prog 63 #[.slice z_0 z_0n z_0c] I S R := by
  refine Runs.of_wp (args := [.slice z_0 z_0n z_0c]) (c := zone_Fits_code) Tryd.func63 (by kernel_rfl) (by kernel_rfl) ?_
  refine WP.cut 2 (fun l I S => asB (l 2) fun x2 => zone_Fits_b1 R x2 I S) (cast (by kernel_rfl) h) ?_
  clear h
  intro l I S _ h
  obtain ⟨x2, e2, h⟩ := asB_e h
  rw [upd_eta e2]
  exact Pre.sound _ _ _ _ _ (cast (by kernel_rfl) h)
/-! ### zone_Soa: function 40, bolter/zone.Soa -/
noncomputable def zone_Soa_code : Code := (Tryd.f40.body).getD .skip
def zone_Soa_b4 (R : Value → IMem → SH → Prop) (x2 : Addr) (I : IMem) (S : SH) : Prop :=
  StP S x2 [.string ⟨#[]⟩, .int .u16 0, .int .u32 0, .string ⟨#[]⟩] fun S1 =>
  ∃ r2_0, Cell I S1 x2 (.string r2_0) ∧
  ∃ r2_1, Cell I S1 (x2.add 1) (.int .u16 r2_1) ∧
  ∃ r2_2, Cell I S1 (x2.add 2) (.int .u32 r2_2) ∧
  ∃ r2_3, Cell I S1 (x2.add 3) (.string r2_3) ∧
  R (.tuple #[.agg #[.string r2_0, .int .u16 r2_1, .int .u32 r2_2, .string r2_3], .bool false]) I S1
def zone_Soa_l3 (again3 : Addr → Option Addr → Nat → Nat → Int → Int → IMem → SH → Prop) (R : Value → IMem → SH → Prop) (x2 : Addr) (x6 : Option Addr) (x6n : Nat) (x6c : Nat) (x7 : Int) (x8 : Int) (I : IMem) (S : SH) : Prop :=
  bcase (decide (x8 < x7))
    (ptrP x6 fun x10 => (0 : Int) ≤ x8 ∧ x8 < (x6n : Int) ∧
    ∃ x11_0, Cell I S (x10.add (x8.toNat * 4)) (.string x11_0) ∧
    ∃ x11_1, Cell I S ((x10.add (x8.toNat * 4)).add 1) (.int .u16 x11_1) ∧
    ∃ x11_2, Cell I S ((x10.add (x8.toNat * 4)).add 2) (.int .u32 x11_2) ∧
    ∃ x11_3, Cell I S ((x10.add (x8.toNat * 4)).add 3) (.string x11_3) ∧
    ∀ b5 : Nat,
    StP ((b5, .cells #[.string ⟨#[]⟩, .int .u16 0, .int .u32 0, .string ⟨#[]⟩] 36 (0, 0)) :: S) ⟨b5, 0, none⟩ [.string x11_0, .int .u16 x11_1, .int .u32 x11_2, .string x11_3] fun S1 =>
    ∃ x13, Cell I S1 ⟨b5, 1, none⟩ (.int .u16 x13) ∧
    bcase (x13 == (6 : Int))
      (∃ x15_0, Cell I S1 ⟨b5, 0, none⟩ (.string x15_0) ∧
      ∃ x15_1, Cell I S1 ⟨b5, 1, none⟩ (.int .u16 x15_1) ∧
      ∃ x15_2, Cell I S1 ⟨b5, 2, none⟩ (.int .u32 x15_2) ∧
      ∃ x15_3, Cell I S1 ⟨b5, 3, none⟩ (.string x15_3) ∧
      StP S1 x2 [.string x15_0, .int .u16 x15_1, .int .u32 x15_2, .string x15_3] fun S1' =>
      ∃ r2_0, Cell I S1' x2 (.string r2_0) ∧
      ∃ r2_1, Cell I S1' (x2.add 1) (.int .u16 r2_1) ∧
      ∃ r2_2, Cell I S1' (x2.add 2) (.int .u32 r2_2) ∧
      ∃ r2_3, Cell I S1' (x2.add 3) (.string r2_3) ∧
      R (.tuple #[.agg #[.string r2_0, .int .u16 r2_1, .int .u32 r2_2, .string r2_3], .bool true]) I S1')
      (again3 x2 x6 x6n x6c x7 (IntKind.wrap .i64 (x8 + (1 : Int))) I S1))
    (zone_Soa_b4 R x2 I S)
def zone_Soa_b2 (R : Value → IMem → SH → Prop) (x2 : Addr) (x6 : Option Addr) (x6n : Nat) (x6c : Nat) (x7 : Int) (x8 : Int) (I : IMem) (S : SH) : Prop :=
  ∃ (Inv : Nat → Addr → Option Addr → Nat → Nat → Int → Int → IMem → SH → Prop) (m : Nat), Inv m x2 x6 x6n x6c x7 x8 I S ∧
    ∀ (m : Nat) (x2 : Addr) (x6 : Option Addr) (x6n : Nat) (x6c : Nat) (x7 : Int) (x8 : Int) (J : IMem) (T : SH), I.le J → Inv m x2 x6 x6n x6c x7 x8 J T →
      zone_Soa_l3 (fun x2 x6 x6n x6c x7 x8 I S => ∃ m', m' < m ∧ Inv m' x2 x6 x6n x6c x7 x8 I S) R x2 x6 x6n x6c x7 x8 J T
def zone_Soa_b1 (R : Value → IMem → SH → Prop) (z_0 : Option Addr) (z_0n : Nat) (z_0c : Nat) (x2 : Addr) (I : IMem) (S : SH) : Prop :=
  zone_Soa_b2 R x2 z_0 z_0n z_0c (z_0n : Int) 0 I S
def zone_Soa (R : Value → IMem → SH → Prop) (z_0 : Option Addr) (z_0n : Nat) (z_0c : Nat) (I : IMem) (S : SH) : Prop :=
  ∀ b2 : Nat,
  zone_Soa_b1 R z_0 z_0n z_0c ⟨b2, 0, none⟩ I ((b2, .cells #[.string ⟨#[]⟩, .int .u16 0, .int .u32 0, .string ⟨#[]⟩] 36 (0, 0)) :: S)
theorem zone_Soa_fn (R : Value → IMem → SH → Prop) (z_0 : Option Addr) (z_0n : Nat) (z_0c : Nat) (I : IMem) (S : SH) (h : zone_Soa R z_0 z_0n z_0c I S) :
    Runs Tryd.prog 40 #[.slice z_0 z_0n z_0c] I S R := by
  refine Runs.of_wp (args := [.slice z_0 z_0n z_0c]) (c := zone_Soa_code) Tryd.func40 (by kernel_rfl) (by kernel_rfl) ?_
  refine WP.cut 1 (fun l I S => asSl (l 0) fun z_0 z_0n z_0c => asAdr (l 2) fun x2 => zone_Soa_b1 R z_0 z_0n z_0c x2 I S) (cast (by kernel_rfl) h) ?_
  clear h
  intro l I S _ h
  obtain ⟨z_0, z_0n, z_0c, e0, h⟩ := asSl_e h
  obtain ⟨x2, e2, h⟩ := asAdr_e h
  rw [upd_eta e0, upd_eta e2]
  refine WP.seqY (by kernel_rfl) (fun l I S => asAdr (l 2) fun x2 => zone_Soa_b4 R x2 I S) ?_ ?_
  ·
    refine WP.cut 1 (fun l I S => asAdr (l 2) fun x2 => asSl (l 6) fun x6 x6n x6c => asI .i64 (l 7) fun x7 => asI .i64 (l 8) fun x8 => zone_Soa_b2 R x2 x6 x6n x6c x7 x8 I S) (cast (by kernel_rfl) h) ?_
    clear h
    intro l I S _ h
    obtain ⟨x2, e2, h⟩ := asAdr_e h
    obtain ⟨x6, x6n, x6c, e6, h⟩ := asSl_e h
    obtain ⟨x7, e7, h⟩ := asI_e h
    obtain ⟨x8, e8, h⟩ := asI_e h
    rw [upd_eta e2, upd_eta e6, upd_eta e7, upd_eta e8]
    refine WP.block' (by kernel_rfl) ?_
    obtain ⟨Inv_again3, m_again3, h0, hr⟩ := h
    refine WP.loop' (by kernel_rfl) (fun m_again3 => fun l I S => asAdr (l 2) fun x2 => asSl (l 6) fun x6 x6n x6c => asI .i64 (l 7) fun x7 => asI .i64 (l 8) fun x8 => Inv_again3 m_again3 x2 x6 x6n x6c x7 x8 I S) m_again3 (cast (by kernel_rfl) h0) ?_
    clear h0
    intro m_again3 l I S hle h
    obtain ⟨x2, e2, h⟩ := asAdr_e h
    obtain ⟨x6, x6n, x6c, e6, h⟩ := asSl_e h
    obtain ⟨x7, e7, h⟩ := asI_e h
    obtain ⟨x8, e8, h⟩ := asI_e h
    rw [upd_eta e2, upd_eta e6, upd_eta e7, upd_eta e8]
    have h := hr m_again3 x2 x6 x6n x6c x7 x8 I S hle h
    clear hr hle
    exact Pre.sound _ _ _ _ _ (cast (by kernel_rfl) h)
  · clear h
    intro l I S _ h
    obtain ⟨x2, e2, h⟩ := asAdr_e h
    rw [upd_eta e2]
    exact Pre.sound _ _ _ _ _ (cast (by kernel_rfl) h)
/-! ### bolterlaw08_Sorted: function 11, bolter/bolterlaw08.Sorted -/
noncomputable def bolterlaw08_Sorted_code : Code := (Tryd.f11.body).getD .skip
def bolterlaw08_Sorted_b8 (again3 : Option Addr → Nat → Nat → Option Addr → Nat → Nat → Int → Int → IMem → SH → Prop) (again6 : Option Addr → Nat → Nat → Addr → Int → Option Addr → Nat → Nat → Int → Int → IMem → SH → Prop) (R : Value → IMem → SH → Prop) (out_3 : Option Addr) (out_3n : Nat) (out_3c : Nat) (r_5 : Addr) (at_6 : Int) (x9 : Option Addr) (x9n : Nat) (x9c : Nat) (x10 : Int) (x11 : Int) (I : IMem) (S : SH) : Prop :=
  again6 out_3 out_3n out_3c r_5 (IntKind.wrap .i64 (at_6 + (1 : Int))) x9 x9n x9c x10 x11 I S
def bolterlaw08_Sorted_b13 (again3 : Option Addr → Nat → Nat → Option Addr → Nat → Nat → Int → Int → IMem → SH → Prop) (R : Value → IMem → SH → Prop) (out_3 : Option Addr) (out_3n : Nat) (out_3c : Nat) (x9 : Option Addr) (x9n : Nat) (x9c : Nat) (x10 : Int) (x11 : Int) (I : IMem) (S : SH) : Prop :=
  again3 out_3 out_3n out_3c x9 x9n x9c x10 (IntKind.wrap .i64 (x11 + (1 : Int))) I S
def bolterlaw08_Sorted_b12 (again3 : Option Addr → Nat → Nat → Option Addr → Nat → Nat → Int → Int → IMem → SH → Prop) (R : Value → IMem → SH → Prop) (out_3 : Option Addr) (out_3n : Nat) (out_3c : Nat) (r_5 : Addr) (at_6 : Int) (next_8 : Option Addr) (next_8n : Nat) (next_8c : Nat) (x9 : Option Addr) (x9n : Nat) (x9c : Nat) (x10 : Int) (x11 : Int) (I : IMem) (S : SH) : Prop :=
  ∃ x49_0, Cell I S r_5 (.string x49_0) ∧
  ∃ x49_1, Cell I S (r_5.add 1) (.int .u16 x49_1) ∧
  ∃ x49_2, Cell I S (r_5.add 2) (.int .u32 x49_2) ∧
  ∃ x49_3, Cell I S (r_5.add 3) (.string x49_3) ∧
  (0 : Int) ≤ at_6 ∧ at_6 ≤ ((out_3n : Nat) : Int) ∧
  ∀ b50 : Nat,
  AppG 36 4 40 [.string ⟨#[]⟩, .int .u16 0, .int .u32 0, .string ⟨#[]⟩] (some (.slice 36)) I ((b50, .cells #[.string x49_0, .int .u16 x49_1, .int .u32 x49_2, .string x49_3] 36 (0, 0)) :: S) (.slice next_8 next_8n next_8c) (.slice (some ⟨b50, 0, none⟩) 1 1) fun x51 x51n x51c S1 =>
  AppG 36 4 40 [.string ⟨#[]⟩, .int .u16 0, .int .u32 0, .string ⟨#[]⟩] (some (.slice 36)) I S1 (.slice x51 x51n x51c) (.slice (slA out_3 out_3c at_6.toNat 4) (out_3n - at_6.toNat) (out_3c - at_6.toNat)) fun x55 x55n x55c S1' =>
  bolterlaw08_Sorted_b13 again3 R x55 x55n x55c x9 x9n x9c x10 x11 I S1'
def bolterlaw08_Sorted_b11 (again3 : Option Addr → Nat → Nat → Option Addr → Nat → Nat → Int → Int → IMem → SH → Prop) (R : Value → IMem → SH → Prop) (out_3 : Option Addr) (out_3n : Nat) (out_3c : Nat) (r_5 : Addr) (at_6 : Int) (x9 : Option Addr) (x9n : Nat) (x9c : Nat) (x10 : Int) (x11 : Int) (x43 : Bool) (I : IMem) (S : SH) : Prop :=
  bcase x43
    ((0 : Int) ≤ at_6 ∧ at_6 ≤ ((out_3c : Nat) : Int) ∧
    AppG 36 4 40 [.string ⟨#[]⟩, .int .u16 0, .int .u32 0, .string ⟨#[]⟩] (some (.slice 36)) I S (.slice none 0 0) (.slice (slA out_3 out_3c 0 4) (at_6.toNat - 0) (out_3c - 0)) fun x47 x47n x47c S1 =>
    bolterlaw08_Sorted_b12 again3 R out_3 out_3n out_3c r_5 at_6 x47 x47n x47c x9 x9n x9c x10 x11 I S1)
    (bolterlaw08_Sorted_b13 again3 R out_3 out_3n out_3c x9 x9n x9c x10 x11 I S)
def bolterlaw08_Sorted_b10 (again3 : Option Addr → Nat → Nat → Option Addr → Nat → Nat → Int → Int → IMem → SH → Prop) (R : Value → IMem → SH → Prop) (out_3 : Option Addr) (out_3n : Nat) (out_3c : Nat) (r_5 : Addr) (at_6 : Int) (is_7 : Bool) (x9 : Option Addr) (x9n : Nat) (x9c : Nat) (x10 : Int) (x11 : Int) (I : IMem) (S : SH) : Prop :=
  bolterlaw08_Sorted_b11 again3 R out_3 out_3n out_3c r_5 at_6 x9 x9n x9c x10 x11 (!is_7) I S
def bolterlaw08_Sorted_b9 (again3 : Option Addr → Nat → Nat → Option Addr → Nat → Nat → Int → Int → IMem → SH → Prop) (R : Value → IMem → SH → Prop) (out_3 : Option Addr) (out_3n : Nat) (out_3c : Nat) (r_5 : Addr) (at_6 : Int) (x9 : Option Addr) (x9n : Nat) (x9c : Nat) (x10 : Int) (x11 : Int) (I : IMem) (S : SH) : Prop :=
  bcase (decide (at_6 < (out_3n : Int)))
    (ptrP out_3 fun x37 => (0 : Int) ≤ at_6 ∧ at_6 < (out_3n : Int) ∧
    ∃ x38_0, Cell I S (x37.add (at_6.toNat * 4)) (.string x38_0) ∧
    ∃ x38_1, Cell I S ((x37.add (at_6.toNat * 4)).add 1) (.int .u16 x38_1) ∧
    ∃ x38_2, Cell I S ((x37.add (at_6.toNat * 4)).add 2) (.int .u32 x38_2) ∧
    ∃ x38_3, Cell I S ((x37.add (at_6.toNat * 4)).add 3) (.string x38_3) ∧
    ∃ x39_0, Cell I S r_5 (.string x39_0) ∧
    ∃ x39_1, Cell I S (r_5.add 1) (.int .u16 x39_1) ∧
    ∃ x39_2, Cell I S (r_5.add 2) (.int .u32 x39_2) ∧
    ∃ x39_3, Cell I S (r_5.add 3) (.string x39_3) ∧
    bolterlaw08_Sorted_b10 again3 R out_3 out_3n out_3c r_5 at_6 (((x38_0 : ByteArray) == (x39_0 : ByteArray)) && (((x38_1 : Int) == (x39_1 : Int)) && (((x38_2 : Int) == (x39_2 : Int)) && (((x38_3 : ByteArray) == (x39_3 : ByteArray)) && true)))) x9 x9n x9c x10 x11 I S)
    (bolterlaw08_Sorted_b10 again3 R out_3 out_3n out_3c r_5 at_6 false x9 x9n x9c x10 x11 I S)
def bolterlaw08_Sorted_b7 (again3 : Option Addr → Nat → Nat → Option Addr → Nat → Nat → Int → Int → IMem → SH → Prop) (again6 : Option Addr → Nat → Nat → Addr → Int → Option Addr → Nat → Nat → Int → Int → IMem → SH → Prop) (R : Value → IMem → SH → Prop) (out_3 : Option Addr) (out_3n : Nat) (out_3c : Nat) (r_5 : Addr) (at_6 : Int) (x9 : Option Addr) (x9n : Nat) (x9c : Nat) (x10 : Int) (x11 : Int) (x27 : Bool) (I : IMem) (S : SH) : Prop :=
  bcase x27
    (bolterlaw08_Sorted_b8 again3 again6 R out_3 out_3n out_3c r_5 at_6 x9 x9n x9c x10 x11 I S)
    (bolterlaw08_Sorted_b9 again3 R out_3 out_3n out_3c r_5 at_6 x9 x9n x9c x10 x11 I S)
def bolterlaw08_Sorted_l6 (again3 : Option Addr → Nat → Nat → Option Addr → Nat → Nat → Int → Int → IMem → SH → Prop) (again6 : Option Addr → Nat → Nat → Addr → Int → Option Addr → Nat → Nat → Int → Int → IMem → SH → Prop) (R : Value → IMem → SH → Prop) (out_3 : Option Addr) (out_3n : Nat) (out_3c : Nat) (r_5 : Addr) (at_6 : Int) (x9 : Option Addr) (x9n : Nat) (x9c : Nat) (x10 : Int) (x11 : Int) (I : IMem) (S : SH) : Prop :=
  bcase (decide (at_6 < (out_3n : Int)))
    (ptrP out_3 fun x22 => (0 : Int) ≤ at_6 ∧ at_6 < (out_3n : Int) ∧
    ∃ x23_0, Cell I S (x22.add (at_6.toNat * 4)) (.string x23_0) ∧
    ∃ x23_1, Cell I S ((x22.add (at_6.toNat * 4)).add 1) (.int .u16 x23_1) ∧
    ∃ x23_2, Cell I S ((x22.add (at_6.toNat * 4)).add 2) (.int .u32 x23_2) ∧
    ∃ x23_3, Cell I S ((x22.add (at_6.toNat * 4)).add 3) (.string x23_3) ∧
    ∃ x24_0, Cell I S r_5 (.string x24_0) ∧
    ∃ x24_1, Cell I S (r_5.add 1) (.int .u16 x24_1) ∧
    ∃ x24_2, Cell I S (r_5.add 2) (.int .u32 x24_2) ∧
    ∃ x24_3, Cell I S (r_5.add 3) (.string x24_3) ∧
    ∃ x25, Runs Tryd.prog 30 #[.agg #[.string x23_0, .int .u16 x23_1, .int .u32 x23_2, .string x23_3], .agg #[.string x24_0, .int .u16 x24_1, .int .u32 x24_2, .string x24_3]] I S (fun v' _ T => v' = .int .i64 x25 ∧ T = S) ∧
    bolterlaw08_Sorted_b7 again3 again6 R out_3 out_3n out_3c r_5 at_6 x9 x9n x9c x10 x11 (decide (x25 < (0 : Int))) I S)
    (bolterlaw08_Sorted_b7 again3 again6 R out_3 out_3n out_3c r_5 at_6 x9 x9n x9c x10 x11 false I S)
def bolterlaw08_Sorted_b5 (again3 : Option Addr → Nat → Nat → Option Addr → Nat → Nat → Int → Int → IMem → SH → Prop) (R : Value → IMem → SH → Prop) (out_3 : Option Addr) (out_3n : Nat) (out_3c : Nat) (r_5 : Addr) (at_6 : Int) (x9 : Option Addr) (x9n : Nat) (x9c : Nat) (x10 : Int) (x11 : Int) (I : IMem) (S : SH) : Prop :=
  ∃ (Inv : Nat → Option Addr → Nat → Nat → Addr → Int → Option Addr → Nat → Nat → Int → Int → IMem → SH → Prop) (m : Nat), Inv m out_3 out_3n out_3c r_5 at_6 x9 x9n x9c x10 x11 I S ∧
    ∀ (m : Nat) (out_3 : Option Addr) (out_3n : Nat) (out_3c : Nat) (r_5 : Addr) (at_6 : Int) (x9 : Option Addr) (x9n : Nat) (x9c : Nat) (x10 : Int) (x11 : Int) (J : IMem) (T : SH), I.le J → Inv m out_3 out_3n out_3c r_5 at_6 x9 x9n x9c x10 x11 J T →
      bolterlaw08_Sorted_l6 again3 (fun out_3 out_3n out_3c r_5 at_6 x9 x9n x9c x10 x11 I S => ∃ m', m' < m ∧ Inv m' out_3 out_3n out_3c r_5 at_6 x9 x9n x9c x10 x11 I S) R out_3 out_3n out_3c r_5 at_6 x9 x9n x9c x10 x11 J T
def bolterlaw08_Sorted_b4 (again3 : Option Addr → Nat → Nat → Option Addr → Nat → Nat → Int → Int → IMem → SH → Prop) (R : Value → IMem → SH → Prop) (out_3 : Option Addr) (out_3n : Nat) (out_3c : Nat) (x9 : Option Addr) (x9n : Nat) (x9c : Nat) (x10 : Int) (x11 : Int) (I : IMem) (S : SH) : Prop :=
  ptrP x9 fun x13 => (0 : Int) ≤ x11 ∧ x11 < (x9n : Int) ∧
  ∃ x14_0, Cell I S (x13.add (x11.toNat * 4)) (.string x14_0) ∧
  ∃ x14_1, Cell I S ((x13.add (x11.toNat * 4)).add 1) (.int .u16 x14_1) ∧
  ∃ x14_2, Cell I S ((x13.add (x11.toNat * 4)).add 2) (.int .u32 x14_2) ∧
  ∃ x14_3, Cell I S ((x13.add (x11.toNat * 4)).add 3) (.string x14_3) ∧
  ∀ b5 : Nat,
  StP ((b5, .cells #[.string ⟨#[]⟩, .int .u16 0, .int .u32 0, .string ⟨#[]⟩] 36 (0, 0)) :: S) ⟨b5, 0, none⟩ [.string x14_0, .int .u16 x14_1, .int .u32 x14_2, .string x14_3] fun S1 =>
  bolterlaw08_Sorted_b5 again3 R out_3 out_3n out_3c ⟨b5, 0, none⟩ 0 x9 x9n x9c x10 x11 I S1
def bolterlaw08_Sorted_b14 (R : Value → IMem → SH → Prop) (out_3 : Option Addr) (out_3n : Nat) (out_3c : Nat) (I : IMem) (S : SH) : Prop :=
  R (.slice out_3 out_3n out_3c) I S
def bolterlaw08_Sorted_l3 (again3 : Option Addr → Nat → Nat → Option Addr → Nat → Nat → Int → Int → IMem → SH → Prop) (R : Value → IMem → SH → Prop) (out_3 : Option Addr) (out_3n : Nat) (out_3c : Nat) (x9 : Option Addr) (x9n : Nat) (x9c : Nat) (x10 : Int) (x11 : Int) (I : IMem) (S : SH) : Prop :=
  bcase (decide (x11 < x10))
    (bolterlaw08_Sorted_b4 again3 R out_3 out_3n out_3c x9 x9n x9c x10 x11 I S)
    (bolterlaw08_Sorted_b14 R out_3 out_3n out_3c I S)
def bolterlaw08_Sorted_b2 (R : Value → IMem → SH → Prop) (out_3 : Option Addr) (out_3n : Nat) (out_3c : Nat) (x9 : Option Addr) (x9n : Nat) (x9c : Nat) (x10 : Int) (x11 : Int) (I : IMem) (S : SH) : Prop :=
  ∃ (Inv : Nat → Option Addr → Nat → Nat → Option Addr → Nat → Nat → Int → Int → IMem → SH → Prop) (m : Nat), Inv m out_3 out_3n out_3c x9 x9n x9c x10 x11 I S ∧
    ∀ (m : Nat) (out_3 : Option Addr) (out_3n : Nat) (out_3c : Nat) (x9 : Option Addr) (x9n : Nat) (x9c : Nat) (x10 : Int) (x11 : Int) (J : IMem) (T : SH), I.le J → Inv m out_3 out_3n out_3c x9 x9n x9c x10 x11 J T →
      bolterlaw08_Sorted_l3 (fun out_3 out_3n out_3c x9 x9n x9c x10 x11 I S => ∃ m', m' < m ∧ Inv m' out_3 out_3n out_3c x9 x9n x9c x10 x11 I S) R out_3 out_3n out_3c x9 x9n x9c x10 x11 J T
def bolterlaw08_Sorted_b1 (R : Value → IMem → SH → Prop) (rs_0 : Option Addr) (rs_0n : Nat) (rs_0c : Nat) (out_3 : Option Addr) (out_3n : Nat) (out_3c : Nat) (I : IMem) (S : SH) : Prop :=
  bolterlaw08_Sorted_b2 R out_3 out_3n out_3c rs_0 rs_0n rs_0c (rs_0n : Int) 0 I S
def bolterlaw08_Sorted (R : Value → IMem → SH → Prop) (rs_0 : Option Addr) (rs_0n : Nat) (rs_0c : Nat) (I : IMem) (S : SH) : Prop :=
  bolterlaw08_Sorted_b1 R rs_0 rs_0n rs_0c none 0 0 I S
theorem bolterlaw08_Sorted_fn (R : Value → IMem → SH → Prop) (rs_0 : Option Addr) (rs_0n : Nat) (rs_0c : Nat) (I : IMem) (S : SH) (h : bolterlaw08_Sorted R rs_0 rs_0n rs_0c I S) :
    Runs Tryd.prog 11 #[.slice rs_0 rs_0n rs_0c] I S R := by
  refine Runs.of_wp (args := [.slice rs_0 rs_0n rs_0c]) (c := bolterlaw08_Sorted_code) Tryd.func11 (by kernel_rfl) (by kernel_rfl) ?_
  refine WP.cut 2 (fun l I S => asSl (l 0) fun rs_0 rs_0n rs_0c => asSl (l 3) fun out_3 out_3n out_3c => bolterlaw08_Sorted_b1 R rs_0 rs_0n rs_0c out_3 out_3n out_3c I S) (cast (by kernel_rfl) h) ?_
  clear h
  intro l I S _ h
  obtain ⟨rs_0, rs_0n, rs_0c, e0, h⟩ := asSl_e h
  obtain ⟨out_3, out_3n, out_3c, e3, h⟩ := asSl_e h
  rw [upd_eta e0, upd_eta e3]
  refine WP.seqY (by kernel_rfl) (fun l I S => asSl (l 3) fun out_3 out_3n out_3c => bolterlaw08_Sorted_b14 R out_3 out_3n out_3c I S) ?_ ?_
  ·
    refine WP.cut 1 (fun l I S => asSl (l 3) fun out_3 out_3n out_3c => asSl (l 9) fun x9 x9n x9c => asI .i64 (l 10) fun x10 => asI .i64 (l 11) fun x11 => bolterlaw08_Sorted_b2 R out_3 out_3n out_3c x9 x9n x9c x10 x11 I S) (cast (by kernel_rfl) h) ?_
    clear h
    intro l I S _ h
    obtain ⟨out_3, out_3n, out_3c, e3, h⟩ := asSl_e h
    obtain ⟨x9, x9n, x9c, e9, h⟩ := asSl_e h
    obtain ⟨x10, e10, h⟩ := asI_e h
    obtain ⟨x11, e11, h⟩ := asI_e h
    rw [upd_eta e3, upd_eta e9, upd_eta e10, upd_eta e11]
    refine WP.block' (by kernel_rfl) ?_
    obtain ⟨Inv_again3, m_again3, h0, hr⟩ := h
    refine WP.loop' (by kernel_rfl) (fun m_again3 => fun l I S => asSl (l 3) fun out_3 out_3n out_3c => asSl (l 9) fun x9 x9n x9c => asI .i64 (l 10) fun x10 => asI .i64 (l 11) fun x11 => Inv_again3 m_again3 out_3 out_3n out_3c x9 x9n x9c x10 x11 I S) m_again3 (cast (by kernel_rfl) h0) ?_
    clear h0
    intro m_again3 l I S hle h
    obtain ⟨out_3, out_3n, out_3c, e3, h⟩ := asSl_e h
    obtain ⟨x9, x9n, x9c, e9, h⟩ := asSl_e h
    obtain ⟨x10, e10, h⟩ := asI_e h
    obtain ⟨x11, e11, h⟩ := asI_e h
    rw [upd_eta e3, upd_eta e9, upd_eta e10, upd_eta e11]
    have h := hr m_again3 out_3 out_3n out_3c x9 x9n x9c x10 x11 I S hle h
    clear hr hle
    refine WP.cut 2 (fun l I S => asSl (l 3) fun out_3 out_3n out_3c => asSl (l 9) fun x9 x9n x9c => asI .i64 (l 10) fun x10 => asI .i64 (l 11) fun x11 => bolterlaw08_Sorted_b4 (fun out_3 out_3n out_3c x9 x9n x9c x10 x11 I S => ∃ m', m' < m_again3 ∧ Inv_again3 m' out_3 out_3n out_3c x9 x9n x9c x10 x11 I S) R out_3 out_3n out_3c x9 x9n x9c x10 x11 I S) (cast (by kernel_rfl) h) ?_
    clear h
    intro l I S _ h
    obtain ⟨out_3, out_3n, out_3c, e3, h⟩ := asSl_e h
    obtain ⟨x9, x9n, x9c, e9, h⟩ := asSl_e h
    obtain ⟨x10, e10, h⟩ := asI_e h
    obtain ⟨x11, e11, h⟩ := asI_e h
    rw [upd_eta e3, upd_eta e9, upd_eta e10, upd_eta e11]
    refine WP.seqY (by kernel_rfl) (fun l I S => asSl (l 3) fun out_3 out_3n out_3c => asSl (l 9) fun x9 x9n x9c => asI .i64 (l 10) fun x10 => asI .i64 (l 11) fun x11 => bolterlaw08_Sorted_b13 (fun out_3 out_3n out_3c x9 x9n x9c x10 x11 I S => ∃ m', m' < m_again3 ∧ Inv_again3 m' out_3 out_3n out_3c x9 x9n x9c x10 x11 I S) R out_3 out_3n out_3c x9 x9n x9c x10 x11 I S) ?_ ?_
    ·
      refine WP.block' (by kernel_rfl) ?_
      refine WP.cut 2 (fun l I S => asSl (l 3) fun out_3 out_3n out_3c => asAdr (l 5) fun r_5 => asI .i64 (l 6) fun at_6 => asSl (l 9) fun x9 x9n x9c => asI .i64 (l 10) fun x10 => asI .i64 (l 11) fun x11 => bolterlaw08_Sorted_b5 (fun out_3 out_3n out_3c x9 x9n x9c x10 x11 I S => ∃ m', m' < m_again3 ∧ Inv_again3 m' out_3 out_3n out_3c x9 x9n x9c x10 x11 I S) R out_3 out_3n out_3c r_5 at_6 x9 x9n x9c x10 x11 I S) (cast (by kernel_rfl) h) ?_
      clear h
      intro l I S _ h
      obtain ⟨out_3, out_3n, out_3c, e3, h⟩ := asSl_e h
      obtain ⟨r_5, e5, h⟩ := asAdr_e h
      obtain ⟨at_6, e6, h⟩ := asI_e h
      obtain ⟨x9, x9n, x9c, e9, h⟩ := asSl_e h
      obtain ⟨x10, e10, h⟩ := asI_e h
      obtain ⟨x11, e11, h⟩ := asI_e h
      rw [upd_eta e3, upd_eta e5, upd_eta e6, upd_eta e9, upd_eta e10, upd_eta e11]
      refine WP.seqY (by kernel_rfl) (fun l I S => asSl (l 3) fun out_3 out_3n out_3c => asAdr (l 5) fun r_5 => asI .i64 (l 6) fun at_6 => asSl (l 9) fun x9 x9n x9c => asI .i64 (l 10) fun x10 => asI .i64 (l 11) fun x11 => bolterlaw08_Sorted_b9 (fun out_3 out_3n out_3c x9 x9n x9c x10 x11 I S => ∃ m', m' < m_again3 ∧ Inv_again3 m' out_3 out_3n out_3c x9 x9n x9c x10 x11 I S) R out_3 out_3n out_3c r_5 at_6 x9 x9n x9c x10 x11 I S) ?_ ?_
      ·
        refine WP.block' (by kernel_rfl) ?_
        obtain ⟨Inv_again6, m_again6, h0, hr⟩ := h
        refine WP.loop' (by kernel_rfl) (fun m_again6 => fun l I S => asSl (l 3) fun out_3 out_3n out_3c => asAdr (l 5) fun r_5 => asI .i64 (l 6) fun at_6 => asSl (l 9) fun x9 x9n x9c => asI .i64 (l 10) fun x10 => asI .i64 (l 11) fun x11 => Inv_again6 m_again6 out_3 out_3n out_3c r_5 at_6 x9 x9n x9c x10 x11 I S) m_again6 (cast (by kernel_rfl) h0) ?_
        clear h0
        intro m_again6 l I S hle h
        obtain ⟨out_3, out_3n, out_3c, e3, h⟩ := asSl_e h
        obtain ⟨r_5, e5, h⟩ := asAdr_e h
        obtain ⟨at_6, e6, h⟩ := asI_e h
        obtain ⟨x9, x9n, x9c, e9, h⟩ := asSl_e h
        obtain ⟨x10, e10, h⟩ := asI_e h
        obtain ⟨x11, e11, h⟩ := asI_e h
        rw [upd_eta e3, upd_eta e5, upd_eta e6, upd_eta e9, upd_eta e10, upd_eta e11]
        have h := hr m_again6 out_3 out_3n out_3c r_5 at_6 x9 x9n x9c x10 x11 I S hle h
        clear hr hle
        refine WP.seqY (by kernel_rfl) (fun l I S => asSl (l 3) fun out_3 out_3n out_3c => asAdr (l 5) fun r_5 => asI .i64 (l 6) fun at_6 => asSl (l 9) fun x9 x9n x9c => asI .i64 (l 10) fun x10 => asI .i64 (l 11) fun x11 => bolterlaw08_Sorted_b8 (fun out_3 out_3n out_3c x9 x9n x9c x10 x11 I S => ∃ m', m' < m_again3 ∧ Inv_again3 m' out_3 out_3n out_3c x9 x9n x9c x10 x11 I S) (fun out_3 out_3n out_3c r_5 at_6 x9 x9n x9c x10 x11 I S => ∃ m', m' < m_again6 ∧ Inv_again6 m' out_3 out_3n out_3c r_5 at_6 x9 x9n x9c x10 x11 I S) R out_3 out_3n out_3c r_5 at_6 x9 x9n x9c x10 x11 I S) ?_ ?_
        ·
          refine WP.seqY (by kernel_rfl) (fun l I S => asSl (l 3) fun out_3 out_3n out_3c => asAdr (l 5) fun r_5 => asI .i64 (l 6) fun at_6 => asSl (l 9) fun x9 x9n x9c => asI .i64 (l 10) fun x10 => asI .i64 (l 11) fun x11 => asB (l 27) fun x27 => bolterlaw08_Sorted_b7 (fun out_3 out_3n out_3c x9 x9n x9c x10 x11 I S => ∃ m', m' < m_again3 ∧ Inv_again3 m' out_3 out_3n out_3c x9 x9n x9c x10 x11 I S) (fun out_3 out_3n out_3c r_5 at_6 x9 x9n x9c x10 x11 I S => ∃ m', m' < m_again6 ∧ Inv_again6 m' out_3 out_3n out_3c r_5 at_6 x9 x9n x9c x10 x11 I S) R out_3 out_3n out_3c r_5 at_6 x9 x9n x9c x10 x11 x27 I S) ?_ ?_
          ·
            exact WP.quiet' (by kernel_rfl) (by kernel_rfl) (by kernel_rfl) (cast (by kernel_rfl) h)
          · clear h
            intro l I S _ h
            obtain ⟨out_3, out_3n, out_3c, e3, h⟩ := asSl_e h
            obtain ⟨r_5, e5, h⟩ := asAdr_e h
            obtain ⟨at_6, e6, h⟩ := asI_e h
            obtain ⟨x9, x9n, x9c, e9, h⟩ := asSl_e h
            obtain ⟨x10, e10, h⟩ := asI_e h
            obtain ⟨x11, e11, h⟩ := asI_e h
            obtain ⟨x27, e27, h⟩ := asB_e h
            rw [upd_eta e3, upd_eta e5, upd_eta e6, upd_eta e9, upd_eta e10, upd_eta e11, upd_eta e27]
            exact Pre.sound _ _ _ _ _ (cast (by kernel_rfl) h)
        · clear h
          intro l I S _ h
          obtain ⟨out_3, out_3n, out_3c, e3, h⟩ := asSl_e h
          obtain ⟨r_5, e5, h⟩ := asAdr_e h
          obtain ⟨at_6, e6, h⟩ := asI_e h
          obtain ⟨x9, x9n, x9c, e9, h⟩ := asSl_e h
          obtain ⟨x10, e10, h⟩ := asI_e h
          obtain ⟨x11, e11, h⟩ := asI_e h
          rw [upd_eta e3, upd_eta e5, upd_eta e6, upd_eta e9, upd_eta e10, upd_eta e11]
          exact Pre.sound _ _ _ _ _ (cast (by kernel_rfl) h)
      · clear h
        intro l I S _ h
        obtain ⟨out_3, out_3n, out_3c, e3, h⟩ := asSl_e h
        obtain ⟨r_5, e5, h⟩ := asAdr_e h
        obtain ⟨at_6, e6, h⟩ := asI_e h
        obtain ⟨x9, x9n, x9c, e9, h⟩ := asSl_e h
        obtain ⟨x10, e10, h⟩ := asI_e h
        obtain ⟨x11, e11, h⟩ := asI_e h
        rw [upd_eta e3, upd_eta e5, upd_eta e6, upd_eta e9, upd_eta e10, upd_eta e11]
        refine WP.seqY (by kernel_rfl) (fun l I S => asSl (l 3) fun out_3 out_3n out_3c => asAdr (l 5) fun r_5 => asI .i64 (l 6) fun at_6 => asB (l 7) fun is_7 => asSl (l 9) fun x9 x9n x9c => asI .i64 (l 10) fun x10 => asI .i64 (l 11) fun x11 => bolterlaw08_Sorted_b10 (fun out_3 out_3n out_3c x9 x9n x9c x10 x11 I S => ∃ m', m' < m_again3 ∧ Inv_again3 m' out_3 out_3n out_3c x9 x9n x9c x10 x11 I S) R out_3 out_3n out_3c r_5 at_6 is_7 x9 x9n x9c x10 x11 I S) ?_ ?_
        ·
          exact WP.quiet' (by kernel_rfl) (by kernel_rfl) (by kernel_rfl) (cast (by kernel_rfl) h)
        · clear h
          intro l I S _ h
          obtain ⟨out_3, out_3n, out_3c, e3, h⟩ := asSl_e h
          obtain ⟨r_5, e5, h⟩ := asAdr_e h
          obtain ⟨at_6, e6, h⟩ := asI_e h
          obtain ⟨is_7, e7, h⟩ := asB_e h
          obtain ⟨x9, x9n, x9c, e9, h⟩ := asSl_e h
          obtain ⟨x10, e10, h⟩ := asI_e h
          obtain ⟨x11, e11, h⟩ := asI_e h
          rw [upd_eta e3, upd_eta e5, upd_eta e6, upd_eta e7, upd_eta e9, upd_eta e10, upd_eta e11]
          refine WP.cut 1 (fun l I S => asSl (l 3) fun out_3 out_3n out_3c => asAdr (l 5) fun r_5 => asI .i64 (l 6) fun at_6 => asSl (l 9) fun x9 x9n x9c => asI .i64 (l 10) fun x10 => asI .i64 (l 11) fun x11 => asB (l 43) fun x43 => bolterlaw08_Sorted_b11 (fun out_3 out_3n out_3c x9 x9n x9c x10 x11 I S => ∃ m', m' < m_again3 ∧ Inv_again3 m' out_3 out_3n out_3c x9 x9n x9c x10 x11 I S) R out_3 out_3n out_3c r_5 at_6 x9 x9n x9c x10 x11 x43 I S) (cast (by kernel_rfl) h) ?_
          clear h
          intro l I S _ h
          obtain ⟨out_3, out_3n, out_3c, e3, h⟩ := asSl_e h
          obtain ⟨r_5, e5, h⟩ := asAdr_e h
          obtain ⟨at_6, e6, h⟩ := asI_e h
          obtain ⟨x9, x9n, x9c, e9, h⟩ := asSl_e h
          obtain ⟨x10, e10, h⟩ := asI_e h
          obtain ⟨x11, e11, h⟩ := asI_e h
          obtain ⟨x43, e43, h⟩ := asB_e h
          rw [upd_eta e3, upd_eta e5, upd_eta e6, upd_eta e9, upd_eta e10, upd_eta e11, upd_eta e43]
          refine WP.cond' (by kernel_rfl) (by kernel_rfl) h ?_ ?_
          · clear h
            intro h
            refine WP.cut 1 (fun l I S => asSl (l 3) fun out_3 out_3n out_3c => asAdr (l 5) fun r_5 => asI .i64 (l 6) fun at_6 => asSl (l 8) fun next_8 next_8n next_8c => asSl (l 9) fun x9 x9n x9c => asI .i64 (l 10) fun x10 => asI .i64 (l 11) fun x11 => bolterlaw08_Sorted_b12 (fun out_3 out_3n out_3c x9 x9n x9c x10 x11 I S => ∃ m', m' < m_again3 ∧ Inv_again3 m' out_3 out_3n out_3c x9 x9n x9c x10 x11 I S) R out_3 out_3n out_3c r_5 at_6 next_8 next_8n next_8c x9 x9n x9c x10 x11 I S) (cast (by kernel_rfl) h) ?_
            clear h
            intro l I S _ h
            obtain ⟨out_3, out_3n, out_3c, e3, h⟩ := asSl_e h
            obtain ⟨r_5, e5, h⟩ := asAdr_e h
            obtain ⟨at_6, e6, h⟩ := asI_e h
            obtain ⟨next_8, next_8n, next_8c, e8, h⟩ := asSl_e h
            obtain ⟨x9, x9n, x9c, e9, h⟩ := asSl_e h
            obtain ⟨x10, e10, h⟩ := asI_e h
            obtain ⟨x11, e11, h⟩ := asI_e h
            rw [upd_eta e3, upd_eta e5, upd_eta e6, upd_eta e8, upd_eta e9, upd_eta e10, upd_eta e11]
            exact WP.draw' (.take 0 (.take 1 (.take 4 (.take 5 (.take 6 (.step 2 (.step 3 (.step 7 (.take 8 .done))))))))) [2, 3, 7] (by kernel_rfl) (by kernel_rfl) (by kernel_rfl) (by kernel_rfl) (by kernel_rfl) (cast (by kernel_rfl) h)
          · clear h
            intro h
            exact Pre.sound _ _ _ _ _ (cast (by kernel_rfl) h)
    · clear h
      intro l I S _ h
      obtain ⟨out_3, out_3n, out_3c, e3, h⟩ := asSl_e h
      obtain ⟨x9, x9n, x9c, e9, h⟩ := asSl_e h
      obtain ⟨x10, e10, h⟩ := asI_e h
      obtain ⟨x11, e11, h⟩ := asI_e h
      rw [upd_eta e3, upd_eta e9, upd_eta e10, upd_eta e11]
      exact Pre.sound _ _ _ _ _ (cast (by kernel_rfl) h)
  · clear h
    intro l I S _ h
    obtain ⟨out_3, out_3n, out_3c, e3, h⟩ := asSl_e h
    rw [upd_eta e3]
    exact Pre.sound _ _ _ _ _ (cast (by kernel_rfl) h)
/-! ### bolterlaw05_SameRecords: function 16, bolter/bolterlaw05.SameRecords -/
noncomputable def bolterlaw05_SameRecords_code : Code := (Tryd.f16.body).getD .skip
def bolterlaw05_SameRecords_b7 (again3 : Option Addr → Nat → Nat → Option Addr → Nat → Nat → Int → Int → IMem → SH → Prop) (R : Value → IMem → SH → Prop) (a_0 : Option Addr) (a_0n : Nat) (a_0c : Nat) (b_1 : Option Addr) (b_1n : Nat) (b_1c : Nat) (x12 : Int) (x13 : Int) (I : IMem) (S : SH) : Prop :=
  again3 a_0 a_0n a_0c b_1 b_1n b_1c x12 (IntKind.wrap .i64 (x13 + (1 : Int))) I S
def bolterlaw05_SameRecords_b6 (again3 : Option Addr → Nat → Nat → Option Addr → Nat → Nat → Int → Int → IMem → SH → Prop) (R : Value → IMem → SH → Prop) (a_0 : Option Addr) (a_0n : Nat) (a_0c : Nat) (b_1 : Option Addr) (b_1n : Nat) (b_1c : Nat) (x12 : Int) (x13 : Int) (x24 : Bool) (I : IMem) (S : SH) : Prop :=
  bcase x24
    (R (.bool false) I S)
    (bolterlaw05_SameRecords_b7 again3 R a_0 a_0n a_0c b_1 b_1n b_1c x12 x13 I S)
def bolterlaw05_SameRecords_b5 (again3 : Option Addr → Nat → Nat → Option Addr → Nat → Nat → Int → Int → IMem → SH → Prop) (R : Value → IMem → SH → Prop) (a_0 : Option Addr) (a_0n : Nat) (a_0c : Nat) (b_1 : Option Addr) (b_1n : Nat) (b_1c : Nat) (k_5 : Int) (x12 : Int) (x13 : Int) (I : IMem) (S : SH) : Prop :=
  ptrP a_0 fun x18 => (0 : Int) ≤ k_5 ∧ k_5 < (a_0n : Int) ∧
  ∃ x19_0, Cell I S (x18.add (k_5.toNat * 4)) (.string x19_0) ∧
  ∃ x19_1, Cell I S ((x18.add (k_5.toNat * 4)).add 1) (.int .u16 x19_1) ∧
  ∃ x19_2, Cell I S ((x18.add (k_5.toNat * 4)).add 2) (.int .u32 x19_2) ∧
  ∃ x19_3, Cell I S ((x18.add (k_5.toNat * 4)).add 3) (.string x19_3) ∧
  ptrP b_1 fun x22 => (0 : Int) ≤ k_5 ∧ k_5 < (b_1n : Int) ∧
  ∃ x23_0, Cell I S (x22.add (k_5.toNat * 4)) (.string x23_0) ∧
  ∃ x23_1, Cell I S ((x22.add (k_5.toNat * 4)).add 1) (.int .u16 x23_1) ∧
  ∃ x23_2, Cell I S ((x22.add (k_5.toNat * 4)).add 2) (.int .u32 x23_2) ∧
  ∃ x23_3, Cell I S ((x22.add (k_5.toNat * 4)).add 3) (.string x23_3) ∧
  bolterlaw05_SameRecords_b6 again3 R a_0 a_0n a_0c b_1 b_1n b_1c x12 x13 (!(((x19_0 : ByteArray) == (x23_0 : ByteArray)) && (((x19_1 : Int) == (x23_1 : Int)) && (((x19_2 : Int) == (x23_2 : Int)) && (((x19_3 : ByteArray) == (x23_3 : ByteArray)) && true))))) I S
def bolterlaw05_SameRecords_b4 (again3 : Option Addr → Nat → Nat → Option Addr → Nat → Nat → Int → Int → IMem → SH → Prop) (R : Value → IMem → SH → Prop) (a_0 : Option Addr) (a_0n : Nat) (a_0c : Nat) (b_1 : Option Addr) (b_1n : Nat) (b_1c : Nat) (x12 : Int) (x13 : Int) (I : IMem) (S : SH) : Prop :=
  bolterlaw05_SameRecords_b5 again3 R a_0 a_0n a_0c b_1 b_1n b_1c x13 x12 x13 I S
def bolterlaw05_SameRecords_b8 (R : Value → IMem → SH → Prop) (I : IMem) (S : SH) : Prop :=
  R (.bool true) I S
def bolterlaw05_SameRecords_l3 (again3 : Option Addr → Nat → Nat → Option Addr → Nat → Nat → Int → Int → IMem → SH → Prop) (R : Value → IMem → SH → Prop) (a_0 : Option Addr) (a_0n : Nat) (a_0c : Nat) (b_1 : Option Addr) (b_1n : Nat) (b_1c : Nat) (x12 : Int) (x13 : Int) (I : IMem) (S : SH) : Prop :=
  bcase (decide (x13 < x12))
    (bolterlaw05_SameRecords_b4 again3 R a_0 a_0n a_0c b_1 b_1n b_1c x12 x13 I S)
    (bolterlaw05_SameRecords_b8 R I S)
def bolterlaw05_SameRecords_b2 (R : Value → IMem → SH → Prop) (a_0 : Option Addr) (a_0n : Nat) (a_0c : Nat) (b_1 : Option Addr) (b_1n : Nat) (b_1c : Nat) (x12 : Int) (x13 : Int) (I : IMem) (S : SH) : Prop :=
  ∃ (Inv : Nat → Option Addr → Nat → Nat → Option Addr → Nat → Nat → Int → Int → IMem → SH → Prop) (m : Nat), Inv m a_0 a_0n a_0c b_1 b_1n b_1c x12 x13 I S ∧
    ∀ (m : Nat) (a_0 : Option Addr) (a_0n : Nat) (a_0c : Nat) (b_1 : Option Addr) (b_1n : Nat) (b_1c : Nat) (x12 : Int) (x13 : Int) (J : IMem) (T : SH), I.le J → Inv m a_0 a_0n a_0c b_1 b_1n b_1c x12 x13 J T →
      bolterlaw05_SameRecords_l3 (fun a_0 a_0n a_0c b_1 b_1n b_1c x12 x13 I S => ∃ m', m' < m ∧ Inv m' a_0 a_0n a_0c b_1 b_1n b_1c x12 x13 I S) R a_0 a_0n a_0c b_1 b_1n b_1c x12 x13 J T
def bolterlaw05_SameRecords_b1 (R : Value → IMem → SH → Prop) (a_0 : Option Addr) (a_0n : Nat) (a_0c : Nat) (b_1 : Option Addr) (b_1n : Nat) (b_1c : Nat) (I : IMem) (S : SH) : Prop :=
  bolterlaw05_SameRecords_b2 R a_0 a_0n a_0c b_1 b_1n b_1c (a_0n : Int) 0 I S
def bolterlaw05_SameRecords (R : Value → IMem → SH → Prop) (a_0 : Option Addr) (a_0n : Nat) (a_0c : Nat) (b_1 : Option Addr) (b_1n : Nat) (b_1c : Nat) (I : IMem) (S : SH) : Prop :=
  bcase ((a_0n : Int) != (b_1n : Int))
    (R (.bool false) I S)
    (bolterlaw05_SameRecords_b1 R a_0 a_0n a_0c b_1 b_1n b_1c I S)
theorem bolterlaw05_SameRecords_fn (R : Value → IMem → SH → Prop) (a_0 : Option Addr) (a_0n : Nat) (a_0c : Nat) (b_1 : Option Addr) (b_1n : Nat) (b_1c : Nat) (I : IMem) (S : SH) (h : bolterlaw05_SameRecords R a_0 a_0n a_0c b_1 b_1n b_1c I S) :
    Runs Tryd.prog 16 #[.slice a_0 a_0n a_0c, .slice b_1 b_1n b_1c] I S R := by
  refine Runs.of_wp (args := [.slice a_0 a_0n a_0c, .slice b_1 b_1n b_1c]) (c := bolterlaw05_SameRecords_code) Tryd.func16 (by kernel_rfl) (by kernel_rfl) ?_
  refine WP.cut 2 (fun l I S => asSl (l 0) fun a_0 a_0n a_0c => asSl (l 1) fun b_1 b_1n b_1c => bolterlaw05_SameRecords_b1 R a_0 a_0n a_0c b_1 b_1n b_1c I S) (cast (by kernel_rfl) h) ?_
  clear h
  intro l I S _ h
  obtain ⟨a_0, a_0n, a_0c, e0, h⟩ := asSl_e h
  obtain ⟨b_1, b_1n, b_1c, e1, h⟩ := asSl_e h
  rw [upd_eta e0, upd_eta e1]
  refine WP.seqY (by kernel_rfl) (fun l I S => bolterlaw05_SameRecords_b8 R I S) ?_ ?_
  ·
    refine WP.cut 1 (fun l I S => asSl (l 0) fun a_0 a_0n a_0c => asSl (l 1) fun b_1 b_1n b_1c => asI .i64 (l 12) fun x12 => asI .i64 (l 13) fun x13 => bolterlaw05_SameRecords_b2 R a_0 a_0n a_0c b_1 b_1n b_1c x12 x13 I S) (cast (by kernel_rfl) h) ?_
    clear h
    intro l I S _ h
    obtain ⟨a_0, a_0n, a_0c, e0, h⟩ := asSl_e h
    obtain ⟨b_1, b_1n, b_1c, e1, h⟩ := asSl_e h
    obtain ⟨x12, e12, h⟩ := asI_e h
    obtain ⟨x13, e13, h⟩ := asI_e h
    rw [upd_eta e0, upd_eta e1, upd_eta e12, upd_eta e13]
    refine WP.block' (by kernel_rfl) ?_
    obtain ⟨Inv_again3, m_again3, h0, hr⟩ := h
    refine WP.loop' (by kernel_rfl) (fun m_again3 => fun l I S => asSl (l 0) fun a_0 a_0n a_0c => asSl (l 1) fun b_1 b_1n b_1c => asI .i64 (l 12) fun x12 => asI .i64 (l 13) fun x13 => Inv_again3 m_again3 a_0 a_0n a_0c b_1 b_1n b_1c x12 x13 I S) m_again3 (cast (by kernel_rfl) h0) ?_
    clear h0
    intro m_again3 l I S hle h
    obtain ⟨a_0, a_0n, a_0c, e0, h⟩ := asSl_e h
    obtain ⟨b_1, b_1n, b_1c, e1, h⟩ := asSl_e h
    obtain ⟨x12, e12, h⟩ := asI_e h
    obtain ⟨x13, e13, h⟩ := asI_e h
    rw [upd_eta e0, upd_eta e1, upd_eta e12, upd_eta e13]
    have h := hr m_again3 a_0 a_0n a_0c b_1 b_1n b_1c x12 x13 I S hle h
    clear hr hle
    refine WP.cut 2 (fun l I S => asSl (l 0) fun a_0 a_0n a_0c => asSl (l 1) fun b_1 b_1n b_1c => asI .i64 (l 12) fun x12 => asI .i64 (l 13) fun x13 => bolterlaw05_SameRecords_b4 (fun a_0 a_0n a_0c b_1 b_1n b_1c x12 x13 I S => ∃ m', m' < m_again3 ∧ Inv_again3 m' a_0 a_0n a_0c b_1 b_1n b_1c x12 x13 I S) R a_0 a_0n a_0c b_1 b_1n b_1c x12 x13 I S) (cast (by kernel_rfl) h) ?_
    clear h
    intro l I S _ h
    obtain ⟨a_0, a_0n, a_0c, e0, h⟩ := asSl_e h
    obtain ⟨b_1, b_1n, b_1c, e1, h⟩ := asSl_e h
    obtain ⟨x12, e12, h⟩ := asI_e h
    obtain ⟨x13, e13, h⟩ := asI_e h
    rw [upd_eta e0, upd_eta e1, upd_eta e12, upd_eta e13]
    refine WP.seqY (by kernel_rfl) (fun l I S => asSl (l 0) fun a_0 a_0n a_0c => asSl (l 1) fun b_1 b_1n b_1c => asI .i64 (l 12) fun x12 => asI .i64 (l 13) fun x13 => bolterlaw05_SameRecords_b7 (fun a_0 a_0n a_0c b_1 b_1n b_1c x12 x13 I S => ∃ m', m' < m_again3 ∧ Inv_again3 m' a_0 a_0n a_0c b_1 b_1n b_1c x12 x13 I S) R a_0 a_0n a_0c b_1 b_1n b_1c x12 x13 I S) ?_ ?_
    ·
      refine WP.block' (by kernel_rfl) ?_
      refine WP.cut 1 (fun l I S => asSl (l 0) fun a_0 a_0n a_0c => asSl (l 1) fun b_1 b_1n b_1c => asI .i64 (l 5) fun k_5 => asI .i64 (l 12) fun x12 => asI .i64 (l 13) fun x13 => bolterlaw05_SameRecords_b5 (fun a_0 a_0n a_0c b_1 b_1n b_1c x12 x13 I S => ∃ m', m' < m_again3 ∧ Inv_again3 m' a_0 a_0n a_0c b_1 b_1n b_1c x12 x13 I S) R a_0 a_0n a_0c b_1 b_1n b_1c k_5 x12 x13 I S) (cast (by kernel_rfl) h) ?_
      clear h
      intro l I S _ h
      obtain ⟨a_0, a_0n, a_0c, e0, h⟩ := asSl_e h
      obtain ⟨b_1, b_1n, b_1c, e1, h⟩ := asSl_e h
      obtain ⟨k_5, e5, h⟩ := asI_e h
      obtain ⟨x12, e12, h⟩ := asI_e h
      obtain ⟨x13, e13, h⟩ := asI_e h
      rw [upd_eta e0, upd_eta e1, upd_eta e5, upd_eta e12, upd_eta e13]
      refine WP.seqY (by kernel_rfl) (fun l I S => asSl (l 0) fun a_0 a_0n a_0c => asSl (l 1) fun b_1 b_1n b_1c => asI .i64 (l 12) fun x12 => asI .i64 (l 13) fun x13 => asB (l 24) fun x24 => bolterlaw05_SameRecords_b6 (fun a_0 a_0n a_0c b_1 b_1n b_1c x12 x13 I S => ∃ m', m' < m_again3 ∧ Inv_again3 m' a_0 a_0n a_0c b_1 b_1n b_1c x12 x13 I S) R a_0 a_0n a_0c b_1 b_1n b_1c x12 x13 x24 I S) ?_ ?_
      ·
        exact WP.quiet' (by kernel_rfl) (by kernel_rfl) (by kernel_rfl) (cast (by kernel_rfl) h)
      · clear h
        intro l I S _ h
        obtain ⟨a_0, a_0n, a_0c, e0, h⟩ := asSl_e h
        obtain ⟨b_1, b_1n, b_1c, e1, h⟩ := asSl_e h
        obtain ⟨x12, e12, h⟩ := asI_e h
        obtain ⟨x13, e13, h⟩ := asI_e h
        obtain ⟨x24, e24, h⟩ := asB_e h
        rw [upd_eta e0, upd_eta e1, upd_eta e12, upd_eta e13, upd_eta e24]
        exact Pre.sound _ _ _ _ _ (cast (by kernel_rfl) h)
    · clear h
      intro l I S _ h
      obtain ⟨a_0, a_0n, a_0c, e0, h⟩ := asSl_e h
      obtain ⟨b_1, b_1n, b_1c, e1, h⟩ := asSl_e h
      obtain ⟨x12, e12, h⟩ := asI_e h
      obtain ⟨x13, e13, h⟩ := asI_e h
      rw [upd_eta e0, upd_eta e1, upd_eta e12, upd_eta e13]
      exact Pre.sound _ _ _ _ _ (cast (by kernel_rfl) h)
  · clear h
    intro l I S _ h
    exact Pre.sound _ _ _ _ _ (cast (by kernel_rfl) h)
/-! ### zone_Right: function 64, bolter/zone.Right -/
noncomputable def zone_Right_code : Code := (Tryd.f64.body).getD .skip
def zone_Right_b8 (again3 : Option Addr → Nat → Nat → ByteArray → Int → Option Addr → Nat → Nat → Int → Int → IMem → SH → Prop) (R : Value → IMem → SH → Prop) (z_0 : Option Addr) (z_0n : Nat) (z_0c : Nat) (origin_1 : ByteArray) (soas_5 : Int) (x8 : Option Addr) (x8n : Nat) (x8c : Nat) (x9 : Int) (x10 : Int) (I : IMem) (S : SH) : Prop :=
  again3 z_0 z_0n z_0c origin_1 soas_5 x8 x8n x8c x9 (IntKind.wrap .i64 (x10 + (1 : Int))) I S
def zone_Right_b7 (again3 : Option Addr → Nat → Nat → ByteArray → Int → Option Addr → Nat → Nat → Int → Int → IMem → SH → Prop) (R : Value → IMem → SH → Prop) (z_0 : Option Addr) (z_0n : Nat) (z_0c : Nat) (origin_1 : ByteArray) (soas_5 : Int) (r_7 : Addr) (x8 : Option Addr) (x8n : Nat) (x8c : Nat) (x9 : Int) (x10 : Int) (I : IMem) (S : SH) : Prop :=
  ∃ x40, Cell I S (r_7.add 1) (.int .u16 x40) ∧
  bcase (x40 == (6 : Int))
    (∃ x45, Cell I S r_7 (.string x45) ∧
    bcase (!(x45.toList == origin_1.toList))
      (R (.bool false) I S)
      (zone_Right_b8 again3 R z_0 z_0n z_0c origin_1 (IntKind.wrap .i64 (soas_5 + (1 : Int))) x8 x8n x8c x9 x10 I S))
    (zone_Right_b8 again3 R z_0 z_0n z_0c origin_1 soas_5 x8 x8n x8c x9 x10 I S)
def zone_Right_b6 (again3 : Option Addr → Nat → Nat → ByteArray → Int → Option Addr → Nat → Nat → Int → Int → IMem → SH → Prop) (R : Value → IMem → SH → Prop) (z_0 : Option Addr) (z_0n : Nat) (z_0c : Nat) (origin_1 : ByteArray) (soas_5 : Int) (r_7 : Addr) (x8 : Option Addr) (x8n : Nat) (x8c : Nat) (x9 : Int) (x10 : Int) (x38 : Bool) (I : IMem) (S : SH) : Prop :=
  bcase x38
    (R (.bool false) I S)
    (zone_Right_b7 again3 R z_0 z_0n z_0c origin_1 soas_5 r_7 x8 x8n x8c x9 x10 I S)
def zone_Right_b5 (again3 : Option Addr → Nat → Nat → ByteArray → Int → Option Addr → Nat → Nat → Int → Int → IMem → SH → Prop) (R : Value → IMem → SH → Prop) (z_0 : Option Addr) (z_0n : Nat) (z_0c : Nat) (origin_1 : ByteArray) (soas_5 : Int) (k_6 : Int) (r_7 : Addr) (x8 : Option Addr) (x8n : Nat) (x8c : Nat) (x9 : Int) (x10 : Int) (I : IMem) (S : SH) : Prop :=
  ∃ x15_0, Cell I S r_7 (.string x15_0) ∧
  ∃ x15_1, Cell I S (r_7.add 1) (.int .u16 x15_1) ∧
  ∃ x15_2, Cell I S (r_7.add 2) (.int .u32 x15_2) ∧
  ∃ x15_3, Cell I S (r_7.add 3) (.string x15_3) ∧
  ∃ x16, Runs Tryd.prog 77 #[.agg #[.string x15_0, .int .u16 x15_1, .int .u32 x15_2, .string x15_3]] I S (fun v' _ T => v' = .bool x16 ∧ T = S) ∧
  bcase (!x16)
    (zone_Right_b6 again3 R z_0 z_0n z_0c origin_1 soas_5 r_7 x8 x8n x8c x9 x10 true I S)
    (∃ x20, Cell I S r_7 (.string x20) ∧
    ∃ x22, Runs Tryd.prog 78 #[.string x20, .string origin_1] I S (fun v' _ T => v' = .bool x22 ∧ T = S) ∧
    bcase (!x22)
      (zone_Right_b6 again3 R z_0 z_0n z_0c origin_1 soas_5 r_7 x8 x8n x8c x9 x10 true I S)
      (bcase (decide (k_6 > (0 : Int)))
        (ptrP z_0 fun x32 => (0 : Int) ≤ (IntKind.wrap .i64 (k_6 - (1 : Int))) ∧ (IntKind.wrap .i64 (k_6 - (1 : Int))) < (z_0n : Int) ∧
        ∃ x33_0, Cell I S (x32.add ((IntKind.wrap .i64 (k_6 - (1 : Int))).toNat * 4)) (.string x33_0) ∧
        ∃ x33_1, Cell I S ((x32.add ((IntKind.wrap .i64 (k_6 - (1 : Int))).toNat * 4)).add 1) (.int .u16 x33_1) ∧
        ∃ x33_2, Cell I S ((x32.add ((IntKind.wrap .i64 (k_6 - (1 : Int))).toNat * 4)).add 2) (.int .u32 x33_2) ∧
        ∃ x33_3, Cell I S ((x32.add ((IntKind.wrap .i64 (k_6 - (1 : Int))).toNat * 4)).add 3) (.string x33_3) ∧
        ∃ x34_0, Cell I S r_7 (.string x34_0) ∧
        ∃ x34_1, Cell I S (r_7.add 1) (.int .u16 x34_1) ∧
        ∃ x34_2, Cell I S (r_7.add 2) (.int .u32 x34_2) ∧
        ∃ x34_3, Cell I S (r_7.add 3) (.string x34_3) ∧
        ∃ x35, Runs Tryd.prog 26 #[.agg #[.string x33_0, .int .u16 x33_1, .int .u32 x33_2, .string x33_3], .agg #[.string x34_0, .int .u16 x34_1, .int .u32 x34_2, .string x34_3]] I S (fun v' _ T => v' = .int .i64 x35 ∧ T = S) ∧
        zone_Right_b6 again3 R z_0 z_0n z_0c origin_1 soas_5 r_7 x8 x8n x8c x9 x10 (decide (x35 ≥ (0 : Int))) I S)
        (zone_Right_b6 again3 R z_0 z_0n z_0c origin_1 soas_5 r_7 x8 x8n x8c x9 x10 false I S)))
def zone_Right_b4 (again3 : Option Addr → Nat → Nat → ByteArray → Int → Option Addr → Nat → Nat → Int → Int → IMem → SH → Prop) (R : Value → IMem → SH → Prop) (z_0 : Option Addr) (z_0n : Nat) (z_0c : Nat) (origin_1 : ByteArray) (soas_5 : Int) (x8 : Option Addr) (x8n : Nat) (x8c : Nat) (x9 : Int) (x10 : Int) (I : IMem) (S : SH) : Prop :=
  ptrP x8 fun x13 => (0 : Int) ≤ x10 ∧ x10 < (x8n : Int) ∧
  ∃ x14_0, Cell I S (x13.add (x10.toNat * 4)) (.string x14_0) ∧
  ∃ x14_1, Cell I S ((x13.add (x10.toNat * 4)).add 1) (.int .u16 x14_1) ∧
  ∃ x14_2, Cell I S ((x13.add (x10.toNat * 4)).add 2) (.int .u32 x14_2) ∧
  ∃ x14_3, Cell I S ((x13.add (x10.toNat * 4)).add 3) (.string x14_3) ∧
  ∀ b7 : Nat,
  StP ((b7, .cells #[.string ⟨#[]⟩, .int .u16 0, .int .u32 0, .string ⟨#[]⟩] 36 (0, 0)) :: S) ⟨b7, 0, none⟩ [.string x14_0, .int .u16 x14_1, .int .u32 x14_2, .string x14_3] fun S1 =>
  zone_Right_b5 again3 R z_0 z_0n z_0c origin_1 soas_5 x10 ⟨b7, 0, none⟩ x8 x8n x8c x9 x10 I S1
def zone_Right_b10 (R : Value → IMem → SH → Prop) (x4 : Bool) (I : IMem) (S : SH) : Prop :=
  R (.bool x4) I S
def zone_Right_b9 (R : Value → IMem → SH → Prop) (z_0 : Option Addr) (z_0n : Nat) (z_0c : Nat) (soas_5 : Int) (I : IMem) (S : SH) : Prop :=
  bcase (soas_5 == (1 : Int))
    (Runs Tryd.prog 63 #[.slice z_0 z_0n z_0c] I S fun v I1 S1 => ∃ x53, v = .bool x53 ∧
    zone_Right_b10 R x53 I1 S1)
    (zone_Right_b10 R false I S)
def zone_Right_l3 (again3 : Option Addr → Nat → Nat → ByteArray → Int → Option Addr → Nat → Nat → Int → Int → IMem → SH → Prop) (R : Value → IMem → SH → Prop) (z_0 : Option Addr) (z_0n : Nat) (z_0c : Nat) (origin_1 : ByteArray) (soas_5 : Int) (x8 : Option Addr) (x8n : Nat) (x8c : Nat) (x9 : Int) (x10 : Int) (I : IMem) (S : SH) : Prop :=
  bcase (decide (x10 < x9))
    (zone_Right_b4 again3 R z_0 z_0n z_0c origin_1 soas_5 x8 x8n x8c x9 x10 I S)
    (zone_Right_b9 R z_0 z_0n z_0c soas_5 I S)
def zone_Right_b2 (R : Value → IMem → SH → Prop) (z_0 : Option Addr) (z_0n : Nat) (z_0c : Nat) (origin_1 : ByteArray) (soas_5 : Int) (x8 : Option Addr) (x8n : Nat) (x8c : Nat) (x9 : Int) (x10 : Int) (I : IMem) (S : SH) : Prop :=
  ∃ (Inv : Nat → Option Addr → Nat → Nat → ByteArray → Int → Option Addr → Nat → Nat → Int → Int → IMem → SH → Prop) (m : Nat), Inv m z_0 z_0n z_0c origin_1 soas_5 x8 x8n x8c x9 x10 I S ∧
    ∀ (m : Nat) (z_0 : Option Addr) (z_0n : Nat) (z_0c : Nat) (origin_1 : ByteArray) (soas_5 : Int) (x8 : Option Addr) (x8n : Nat) (x8c : Nat) (x9 : Int) (x10 : Int) (J : IMem) (T : SH), I.le J → Inv m z_0 z_0n z_0c origin_1 soas_5 x8 x8n x8c x9 x10 J T →
      zone_Right_l3 (fun z_0 z_0n z_0c origin_1 soas_5 x8 x8n x8c x9 x10 I S => ∃ m', m' < m ∧ Inv m' z_0 z_0n z_0c origin_1 soas_5 x8 x8n x8c x9 x10 I S) R z_0 z_0n z_0c origin_1 soas_5 x8 x8n x8c x9 x10 J T
def zone_Right_b1 (R : Value → IMem → SH → Prop) (z_0 : Option Addr) (z_0n : Nat) (z_0c : Nat) (origin_1 : ByteArray) (soas_5 : Int) (I : IMem) (S : SH) : Prop :=
  zone_Right_b2 R z_0 z_0n z_0c origin_1 soas_5 z_0 z_0n z_0c (z_0n : Int) 0 I S
def zone_Right (R : Value → IMem → SH → Prop) (z_0 : Option Addr) (z_0n : Nat) (z_0c : Nat) (origin_1 : ByteArray) (I : IMem) (S : SH) : Prop :=
  zone_Right_b1 R z_0 z_0n z_0c origin_1 0 I S
theorem zone_Right_fn (R : Value → IMem → SH → Prop) (z_0 : Option Addr) (z_0n : Nat) (z_0c : Nat) (origin_1 : ByteArray) (I : IMem) (S : SH) (h : zone_Right R z_0 z_0n z_0c origin_1 I S) :
    Runs Tryd.prog 64 #[.slice z_0 z_0n z_0c, .string origin_1] I S R := by
  refine Runs.of_wp (args := [.slice z_0 z_0n z_0c, .string origin_1]) (c := zone_Right_code) Tryd.func64 (by kernel_rfl) (by kernel_rfl) ?_
  refine WP.cut 2 (fun l I S => asSl (l 0) fun z_0 z_0n z_0c => asStr (l 1) fun origin_1 => asI .i64 (l 5) fun soas_5 => zone_Right_b1 R z_0 z_0n z_0c origin_1 soas_5 I S) (cast (by kernel_rfl) h) ?_
  clear h
  intro l I S _ h
  obtain ⟨z_0, z_0n, z_0c, e0, h⟩ := asSl_e h
  obtain ⟨origin_1, e1, h⟩ := asStr_e h
  obtain ⟨soas_5, e5, h⟩ := asI_e h
  rw [upd_eta e0, upd_eta e1, upd_eta e5]
  refine WP.seqY (by kernel_rfl) (fun l I S => asSl (l 0) fun z_0 z_0n z_0c => asI .i64 (l 5) fun soas_5 => zone_Right_b9 R z_0 z_0n z_0c soas_5 I S) ?_ ?_
  ·
    refine WP.cut 1 (fun l I S => asSl (l 0) fun z_0 z_0n z_0c => asStr (l 1) fun origin_1 => asI .i64 (l 5) fun soas_5 => asSl (l 8) fun x8 x8n x8c => asI .i64 (l 9) fun x9 => asI .i64 (l 10) fun x10 => zone_Right_b2 R z_0 z_0n z_0c origin_1 soas_5 x8 x8n x8c x9 x10 I S) (cast (by kernel_rfl) h) ?_
    clear h
    intro l I S _ h
    obtain ⟨z_0, z_0n, z_0c, e0, h⟩ := asSl_e h
    obtain ⟨origin_1, e1, h⟩ := asStr_e h
    obtain ⟨soas_5, e5, h⟩ := asI_e h
    obtain ⟨x8, x8n, x8c, e8, h⟩ := asSl_e h
    obtain ⟨x9, e9, h⟩ := asI_e h
    obtain ⟨x10, e10, h⟩ := asI_e h
    rw [upd_eta e0, upd_eta e1, upd_eta e5, upd_eta e8, upd_eta e9, upd_eta e10]
    refine WP.block' (by kernel_rfl) ?_
    obtain ⟨Inv_again3, m_again3, h0, hr⟩ := h
    refine WP.loop' (by kernel_rfl) (fun m_again3 => fun l I S => asSl (l 0) fun z_0 z_0n z_0c => asStr (l 1) fun origin_1 => asI .i64 (l 5) fun soas_5 => asSl (l 8) fun x8 x8n x8c => asI .i64 (l 9) fun x9 => asI .i64 (l 10) fun x10 => Inv_again3 m_again3 z_0 z_0n z_0c origin_1 soas_5 x8 x8n x8c x9 x10 I S) m_again3 (cast (by kernel_rfl) h0) ?_
    clear h0
    intro m_again3 l I S hle h
    obtain ⟨z_0, z_0n, z_0c, e0, h⟩ := asSl_e h
    obtain ⟨origin_1, e1, h⟩ := asStr_e h
    obtain ⟨soas_5, e5, h⟩ := asI_e h
    obtain ⟨x8, x8n, x8c, e8, h⟩ := asSl_e h
    obtain ⟨x9, e9, h⟩ := asI_e h
    obtain ⟨x10, e10, h⟩ := asI_e h
    rw [upd_eta e0, upd_eta e1, upd_eta e5, upd_eta e8, upd_eta e9, upd_eta e10]
    have h := hr m_again3 z_0 z_0n z_0c origin_1 soas_5 x8 x8n x8c x9 x10 I S hle h
    clear hr hle
    refine WP.cut 2 (fun l I S => asSl (l 0) fun z_0 z_0n z_0c => asStr (l 1) fun origin_1 => asI .i64 (l 5) fun soas_5 => asSl (l 8) fun x8 x8n x8c => asI .i64 (l 9) fun x9 => asI .i64 (l 10) fun x10 => zone_Right_b4 (fun z_0 z_0n z_0c origin_1 soas_5 x8 x8n x8c x9 x10 I S => ∃ m', m' < m_again3 ∧ Inv_again3 m' z_0 z_0n z_0c origin_1 soas_5 x8 x8n x8c x9 x10 I S) R z_0 z_0n z_0c origin_1 soas_5 x8 x8n x8c x9 x10 I S) (cast (by kernel_rfl) h) ?_
    clear h
    intro l I S _ h
    obtain ⟨z_0, z_0n, z_0c, e0, h⟩ := asSl_e h
    obtain ⟨origin_1, e1, h⟩ := asStr_e h
    obtain ⟨soas_5, e5, h⟩ := asI_e h
    obtain ⟨x8, x8n, x8c, e8, h⟩ := asSl_e h
    obtain ⟨x9, e9, h⟩ := asI_e h
    obtain ⟨x10, e10, h⟩ := asI_e h
    rw [upd_eta e0, upd_eta e1, upd_eta e5, upd_eta e8, upd_eta e9, upd_eta e10]
    refine WP.seqY (by kernel_rfl) (fun l I S => asSl (l 0) fun z_0 z_0n z_0c => asStr (l 1) fun origin_1 => asI .i64 (l 5) fun soas_5 => asSl (l 8) fun x8 x8n x8c => asI .i64 (l 9) fun x9 => asI .i64 (l 10) fun x10 => zone_Right_b8 (fun z_0 z_0n z_0c origin_1 soas_5 x8 x8n x8c x9 x10 I S => ∃ m', m' < m_again3 ∧ Inv_again3 m' z_0 z_0n z_0c origin_1 soas_5 x8 x8n x8c x9 x10 I S) R z_0 z_0n z_0c origin_1 soas_5 x8 x8n x8c x9 x10 I S) ?_ ?_
    ·
      refine WP.block' (by kernel_rfl) ?_
      refine WP.cut 1 (fun l I S => asSl (l 0) fun z_0 z_0n z_0c => asStr (l 1) fun origin_1 => asI .i64 (l 5) fun soas_5 => asI .i64 (l 6) fun k_6 => asAdr (l 7) fun r_7 => asSl (l 8) fun x8 x8n x8c => asI .i64 (l 9) fun x9 => asI .i64 (l 10) fun x10 => zone_Right_b5 (fun z_0 z_0n z_0c origin_1 soas_5 x8 x8n x8c x9 x10 I S => ∃ m', m' < m_again3 ∧ Inv_again3 m' z_0 z_0n z_0c origin_1 soas_5 x8 x8n x8c x9 x10 I S) R z_0 z_0n z_0c origin_1 soas_5 k_6 r_7 x8 x8n x8c x9 x10 I S) (cast (by kernel_rfl) h) ?_
      clear h
      intro l I S _ h
      obtain ⟨z_0, z_0n, z_0c, e0, h⟩ := asSl_e h
      obtain ⟨origin_1, e1, h⟩ := asStr_e h
      obtain ⟨soas_5, e5, h⟩ := asI_e h
      obtain ⟨k_6, e6, h⟩ := asI_e h
      obtain ⟨r_7, e7, h⟩ := asAdr_e h
      obtain ⟨x8, x8n, x8c, e8, h⟩ := asSl_e h
      obtain ⟨x9, e9, h⟩ := asI_e h
      obtain ⟨x10, e10, h⟩ := asI_e h
      rw [upd_eta e0, upd_eta e1, upd_eta e5, upd_eta e6, upd_eta e7, upd_eta e8, upd_eta e9, upd_eta e10]
      refine WP.seqY (by kernel_rfl) (fun l I S => asSl (l 0) fun z_0 z_0n z_0c => asStr (l 1) fun origin_1 => asI .i64 (l 5) fun soas_5 => asAdr (l 7) fun r_7 => asSl (l 8) fun x8 x8n x8c => asI .i64 (l 9) fun x9 => asI .i64 (l 10) fun x10 => zone_Right_b7 (fun z_0 z_0n z_0c origin_1 soas_5 x8 x8n x8c x9 x10 I S => ∃ m', m' < m_again3 ∧ Inv_again3 m' z_0 z_0n z_0c origin_1 soas_5 x8 x8n x8c x9 x10 I S) R z_0 z_0n z_0c origin_1 soas_5 r_7 x8 x8n x8c x9 x10 I S) ?_ ?_
      ·
        refine WP.seqY (by kernel_rfl) (fun l I S => asSl (l 0) fun z_0 z_0n z_0c => asStr (l 1) fun origin_1 => asI .i64 (l 5) fun soas_5 => asAdr (l 7) fun r_7 => asSl (l 8) fun x8 x8n x8c => asI .i64 (l 9) fun x9 => asI .i64 (l 10) fun x10 => asB (l 38) fun x38 => zone_Right_b6 (fun z_0 z_0n z_0c origin_1 soas_5 x8 x8n x8c x9 x10 I S => ∃ m', m' < m_again3 ∧ Inv_again3 m' z_0 z_0n z_0c origin_1 soas_5 x8 x8n x8c x9 x10 I S) R z_0 z_0n z_0c origin_1 soas_5 r_7 x8 x8n x8c x9 x10 x38 I S) ?_ ?_
        ·
          exact WP.quiet' (by kernel_rfl) (by kernel_rfl) (by kernel_rfl) (cast (by kernel_rfl) h)
        · clear h
          intro l I S _ h
          obtain ⟨z_0, z_0n, z_0c, e0, h⟩ := asSl_e h
          obtain ⟨origin_1, e1, h⟩ := asStr_e h
          obtain ⟨soas_5, e5, h⟩ := asI_e h
          obtain ⟨r_7, e7, h⟩ := asAdr_e h
          obtain ⟨x8, x8n, x8c, e8, h⟩ := asSl_e h
          obtain ⟨x9, e9, h⟩ := asI_e h
          obtain ⟨x10, e10, h⟩ := asI_e h
          obtain ⟨x38, e38, h⟩ := asB_e h
          rw [upd_eta e0, upd_eta e1, upd_eta e5, upd_eta e7, upd_eta e8, upd_eta e9, upd_eta e10, upd_eta e38]
          exact Pre.sound _ _ _ _ _ (cast (by kernel_rfl) h)
      · clear h
        intro l I S _ h
        obtain ⟨z_0, z_0n, z_0c, e0, h⟩ := asSl_e h
        obtain ⟨origin_1, e1, h⟩ := asStr_e h
        obtain ⟨soas_5, e5, h⟩ := asI_e h
        obtain ⟨r_7, e7, h⟩ := asAdr_e h
        obtain ⟨x8, x8n, x8c, e8, h⟩ := asSl_e h
        obtain ⟨x9, e9, h⟩ := asI_e h
        obtain ⟨x10, e10, h⟩ := asI_e h
        rw [upd_eta e0, upd_eta e1, upd_eta e5, upd_eta e7, upd_eta e8, upd_eta e9, upd_eta e10]
        exact Pre.sound _ _ _ _ _ (cast (by kernel_rfl) h)
    · clear h
      intro l I S _ h
      obtain ⟨z_0, z_0n, z_0c, e0, h⟩ := asSl_e h
      obtain ⟨origin_1, e1, h⟩ := asStr_e h
      obtain ⟨soas_5, e5, h⟩ := asI_e h
      obtain ⟨x8, x8n, x8c, e8, h⟩ := asSl_e h
      obtain ⟨x9, e9, h⟩ := asI_e h
      obtain ⟨x10, e10, h⟩ := asI_e h
      rw [upd_eta e0, upd_eta e1, upd_eta e5, upd_eta e8, upd_eta e9, upd_eta e10]
      exact Pre.sound _ _ _ _ _ (cast (by kernel_rfl) h)
  · clear h
    intro l I S _ h
    obtain ⟨z_0, z_0n, z_0c, e0, h⟩ := asSl_e h
    obtain ⟨soas_5, e5, h⟩ := asI_e h
    rw [upd_eta e0, upd_eta e5]
    refine WP.cut 1 (fun l I S => asB (l 4) fun x4 => zone_Right_b10 R x4 I S) (cast (by kernel_rfl) h) ?_
    clear h
    intro l I S _ h
    obtain ⟨x4, e4, h⟩ := asB_e h
    rw [upd_eta e4]
    exact Pre.sound _ _ _ _ _ (cast (by kernel_rfl) h)
/-! ### zone_Insert: function 13, bolter/zone.Insert -/
noncomputable def zone_Insert_code : Code := (Tryd.f13.body).getD .skip
def zone_Insert_b2 (R : Value → IMem → SH → Prop) (x4 : Option Addr) (x4n : Nat) (x4c : Nat) (x5 : Value) (I : IMem) (S : SH) : Prop :=
  R (.tuple #[.slice x4 x4n x4c, x5]) I S
def zone_Insert_b1 (R : Value → IMem → SH → Prop) (z_0 : Option Addr) (z_0n : Nat) (z_0c : Nat) (r_3 : Addr) (k_6 : Int) (I : IMem) (S : SH) : Prop :=
  ∃ x19_0, Cell I S r_3 (.string x19_0) ∧
  ∃ x19_1, Cell I S (r_3.add 1) (.int .u16 x19_1) ∧
  ∃ x19_2, Cell I S (r_3.add 2) (.int .u32 x19_2) ∧
  ∃ x19_3, Cell I S (r_3.add 3) (.string x19_3) ∧
  (Runs Tryd.prog 35 #[.slice z_0 z_0n z_0c] I S fun v I1 S1 => ∃ x17 x17n x17c, v = .slice x17 x17n x17c ∧
  Keep I S I1 S1 ∧
  ∀ b20 : Nat,
  Runs Tryd.prog 34 #[.slice x17 x17n x17c, .int .i64 k_6, .slice (some ⟨b20, 0, none⟩) 1 1] I1 ((b20, .cells #[.string x19_0, .int .u16 x19_1, .int .u32 x19_2, .string x19_3] 36 (0, 0)) :: S1) fun v' I1' S1' => ∃ x21 x21n x21c, v' = .slice x21 x21n x21c ∧
  zone_Insert_b2 R x21 x21n x21c .nilIface I1' S1') ∧
  (∀ b20' : Nat,
  Runs Tryd.prog 35 #[.slice z_0 z_0n z_0c] I ((b20', .cells #[.string x19_0, .int .u16 x19_1, .int .u32 x19_2, .string x19_3] 36 (0, 0)) :: S) fun v'' I1'' S1'' => ∃ x17' x17'n x17'c, v'' = .slice x17' x17'n x17'c ∧
  Keep I S I1'' S1'' ∧
  Runs Tryd.prog 34 #[.slice x17' x17'n x17'c, .int .i64 k_6, .slice (some ⟨b20', 0, none⟩) 1 1] I1'' S1'' fun v_r3 I1_r3 S1_r3 => ∃ x21' x21'n x21'c, v_r3 = .slice x21' x21'n x21'c ∧
  zone_Insert_b2 R x21' x21'n x21'c .nilIface I1_r3 S1_r3)
def zone_Insert (R : Value → IMem → SH → Prop) (z_0 : Option Addr) (z_0n : Nat) (z_0c : Nat) (r_1_0 : ByteArray) (r_1_1 : Int) (r_1_2 : Int) (r_1_3 : ByteArray) (I : IMem) (S : SH) : Prop :=
  ∀ b3 : Nat,
  ∃ x10_0, Cell I ((b3, .cells #[.string r_1_0, .int .u16 r_1_1, .int .u32 r_1_2, .string r_1_3] 36 (0, 0)) :: S) ⟨b3, 0, none⟩ (.string x10_0) ∧
  ∃ x10_1, Cell I ((b3, .cells #[.string r_1_0, .int .u16 r_1_1, .int .u32 r_1_2, .string r_1_3] 36 (0, 0)) :: S) ⟨b3, 1, none⟩ (.int .u16 x10_1) ∧
  ∃ x10_2, Cell I ((b3, .cells #[.string r_1_0, .int .u16 r_1_1, .int .u32 r_1_2, .string r_1_3] 36 (0, 0)) :: S) ⟨b3, 2, none⟩ (.int .u32 x10_2) ∧
  ∃ x10_3, Cell I ((b3, .cells #[.string r_1_0, .int .u16 r_1_1, .int .u32 r_1_2, .string r_1_3] 36 (0, 0)) :: S) ⟨b3, 3, none⟩ (.string x10_3) ∧
  Runs Tryd.prog 33 #[.slice z_0 z_0n z_0c, .agg #[.string x10_0, .int .u16 x10_1, .int .u32 x10_2, .string x10_3], .func (.func 26) #[] #[]] I ((b3, .cells #[.string r_1_0, .int .u16 r_1_1, .int .u32 r_1_2, .string r_1_3] 36 (0, 0)) :: S) fun v I1 S1 => ∃ x11_0 x11_1, v = .tuple #[.int .i64 x11_0, .bool x11_1] ∧
  bcase x11_1
    (R (.tuple #[.slice none 0 0, (.iface 43 (.int .i64 7))]) I1 S1)
    (zone_Insert_b1 R z_0 z_0n z_0c ⟨b3, 0, none⟩ x11_0 I1 S1)
theorem zone_Insert_fn (R : Value → IMem → SH → Prop) (z_0 : Option Addr) (z_0n : Nat) (z_0c : Nat) (r_1_0 : ByteArray) (r_1_1 : Int) (r_1_2 : Int) (r_1_3 : ByteArray) (I : IMem) (S : SH) (h : zone_Insert R z_0 z_0n z_0c r_1_0 r_1_1 r_1_2 r_1_3 I S) :
    Runs Tryd.prog 13 #[.slice z_0 z_0n z_0c, .agg #[.string r_1_0, .int .u16 r_1_1, .int .u32 r_1_2, .string r_1_3]] I S R := by
  refine Runs.of_wp (args := [.slice z_0 z_0n z_0c, .agg #[.string r_1_0, .int .u16 r_1_1, .int .u32 r_1_2, .string r_1_3]]) (c := zone_Insert_code) Tryd.func13 (by kernel_rfl) (by kernel_rfl) ?_
  refine WP.cut 3 (fun l I S => asSl (l 0) fun z_0 z_0n z_0c => asAdr (l 3) fun r_3 => asI .i64 (l 6) fun k_6 => zone_Insert_b1 R z_0 z_0n z_0c r_3 k_6 I S) (cast (by kernel_rfl) h) ?_
  clear h
  intro l I S _ h
  obtain ⟨z_0, z_0n, z_0c, e0, h⟩ := asSl_e h
  obtain ⟨r_3, e3, h⟩ := asAdr_e h
  obtain ⟨k_6, e6, h⟩ := asI_e h
  rw [upd_eta e0, upd_eta e3, upd_eta e6]
  refine WP.seqY (by kernel_rfl) (fun l I S => asSl (l 4) fun x4 x4n x4c => asV (l 5) fun x5 => zone_Insert_b2 R x4 x4n x4c x5 I S) ?_ ?_
  ·
    exact WP.draw' (.take 0 (.take 2 (.take 3 (.fork 1 (.step 4 (.step 5 (.take 6 (.take 7 .done)))) 4 (.step 1 (.step 5 (.take 6 (.take 7 .done)))))))) [1, 4, 5] (by kernel_rfl) (by kernel_rfl) (by kernel_rfl) (by kernel_rfl) (by kernel_rfl) (cast (by kernel_rfl) h)
  · clear h
    intro l I S _ h
    obtain ⟨x4, x4n, x4c, e4, h⟩ := asSl_e h
    obtain ⟨x5, e5, h⟩ := asV_e h
    rw [upd_eta e4, upd_eta e5]
    exact Pre.sound _ _ _ _ _ (cast (by kernel_rfl) h)
/-! ### cmp_Or_int: function 42, cmp.Or[int] -/
noncomputable def cmp_Or_int_code : Code := (Tryd.f42.body).getD .skip
def cmp_Or_int_b4 (R : Value → IMem → SH → Prop) (zero_3 : Int) (I : IMem) (S : SH) : Prop :=
  R (.int .i64 zero_3) I S
def cmp_Or_int_l3 (again3 : Int → Option Addr → Nat → Nat → Int → Int → IMem → SH → Prop) (R : Value → IMem → SH → Prop) (zero_3 : Int) (x6 : Option Addr) (x6n : Nat) (x6c : Nat) (x7 : Int) (x8 : Int) (I : IMem) (S : SH) : Prop :=
  bcase (decide (x8 < x7))
    (ptrP x6 fun x10 => (0 : Int) ≤ x8 ∧ x8 < (x6n : Int) ∧
    ∃ x11, Cell I S (x10.add (x8.toNat * 1)) (.int .i64 x11) ∧
    bcase (x11 != zero_3)
      (R (.int .i64 x11) I S)
      (again3 zero_3 x6 x6n x6c x7 (IntKind.wrap .i64 (x8 + (1 : Int))) I S))
    (cmp_Or_int_b4 R zero_3 I S)
def cmp_Or_int_b2 (R : Value → IMem → SH → Prop) (zero_3 : Int) (x6 : Option Addr) (x6n : Nat) (x6c : Nat) (x7 : Int) (x8 : Int) (I : IMem) (S : SH) : Prop :=
  ∃ (Inv : Nat → Int → Option Addr → Nat → Nat → Int → Int → IMem → SH → Prop) (m : Nat), Inv m zero_3 x6 x6n x6c x7 x8 I S ∧
    ∀ (m : Nat) (zero_3 : Int) (x6 : Option Addr) (x6n : Nat) (x6c : Nat) (x7 : Int) (x8 : Int) (J : IMem) (T : SH), I.le J → Inv m zero_3 x6 x6n x6c x7 x8 J T →
      cmp_Or_int_l3 (fun zero_3 x6 x6n x6c x7 x8 I S => ∃ m', m' < m ∧ Inv m' zero_3 x6 x6n x6c x7 x8 I S) R zero_3 x6 x6n x6c x7 x8 J T
def cmp_Or_int_b1 (R : Value → IMem → SH → Prop) (vals_0 : Option Addr) (vals_0n : Nat) (vals_0c : Nat) (zero_3 : Int) (I : IMem) (S : SH) : Prop :=
  cmp_Or_int_b2 R zero_3 vals_0 vals_0n vals_0c (vals_0n : Int) 0 I S
def cmp_Or_int (R : Value → IMem → SH → Prop) (vals_0 : Option Addr) (vals_0n : Nat) (vals_0c : Nat) (I : IMem) (S : SH) : Prop :=
  cmp_Or_int_b1 R vals_0 vals_0n vals_0c 0 I S
theorem cmp_Or_int_fn (R : Value → IMem → SH → Prop) (vals_0 : Option Addr) (vals_0n : Nat) (vals_0c : Nat) (I : IMem) (S : SH) (h : cmp_Or_int R vals_0 vals_0n vals_0c I S) :
    Runs Tryd.prog 42 #[.slice vals_0 vals_0n vals_0c] I S R := by
  refine Runs.of_wp (args := [.slice vals_0 vals_0n vals_0c]) (c := cmp_Or_int_code) Tryd.func42 (by kernel_rfl) (by kernel_rfl) ?_
  refine WP.cut 2 (fun l I S => asSl (l 0) fun vals_0 vals_0n vals_0c => asI .i64 (l 3) fun zero_3 => cmp_Or_int_b1 R vals_0 vals_0n vals_0c zero_3 I S) (cast (by kernel_rfl) h) ?_
  clear h
  intro l I S _ h
  obtain ⟨vals_0, vals_0n, vals_0c, e0, h⟩ := asSl_e h
  obtain ⟨zero_3, e3, h⟩ := asI_e h
  rw [upd_eta e0, upd_eta e3]
  refine WP.seqY (by kernel_rfl) (fun l I S => asI .i64 (l 3) fun zero_3 => cmp_Or_int_b4 R zero_3 I S) ?_ ?_
  ·
    refine WP.cut 1 (fun l I S => asI .i64 (l 3) fun zero_3 => asSl (l 6) fun x6 x6n x6c => asI .i64 (l 7) fun x7 => asI .i64 (l 8) fun x8 => cmp_Or_int_b2 R zero_3 x6 x6n x6c x7 x8 I S) (cast (by kernel_rfl) h) ?_
    clear h
    intro l I S _ h
    obtain ⟨zero_3, e3, h⟩ := asI_e h
    obtain ⟨x6, x6n, x6c, e6, h⟩ := asSl_e h
    obtain ⟨x7, e7, h⟩ := asI_e h
    obtain ⟨x8, e8, h⟩ := asI_e h
    rw [upd_eta e3, upd_eta e6, upd_eta e7, upd_eta e8]
    refine WP.block' (by kernel_rfl) ?_
    obtain ⟨Inv_again3, m_again3, h0, hr⟩ := h
    refine WP.loop' (by kernel_rfl) (fun m_again3 => fun l I S => asI .i64 (l 3) fun zero_3 => asSl (l 6) fun x6 x6n x6c => asI .i64 (l 7) fun x7 => asI .i64 (l 8) fun x8 => Inv_again3 m_again3 zero_3 x6 x6n x6c x7 x8 I S) m_again3 (cast (by kernel_rfl) h0) ?_
    clear h0
    intro m_again3 l I S hle h
    obtain ⟨zero_3, e3, h⟩ := asI_e h
    obtain ⟨x6, x6n, x6c, e6, h⟩ := asSl_e h
    obtain ⟨x7, e7, h⟩ := asI_e h
    obtain ⟨x8, e8, h⟩ := asI_e h
    rw [upd_eta e3, upd_eta e6, upd_eta e7, upd_eta e8]
    have h := hr m_again3 zero_3 x6 x6n x6c x7 x8 I S hle h
    clear hr hle
    exact Pre.sound _ _ _ _ _ (cast (by kernel_rfl) h)
  · clear h
    intro l I S _ h
    obtain ⟨zero_3, e3, h⟩ := asI_e h
    rw [upd_eta e3]
    exact Pre.sound _ _ _ _ _ (cast (by kernel_rfl) h)
/-! ### cmp_Compare_api_Name: function 43, cmp.Compare[bolter/api.Name] -/
noncomputable def cmp_Compare_api_Name_code : Code := (Tryd.f43.body).getD .skip
def cmp_Compare_api_Name (R : Value → IMem → SH → Prop) (x_0 : ByteArray) (y_1 : ByteArray) (I : IMem) (S : SH) : Prop :=
  Runs Tryd.prog 59 #[.string x_0] I S fun v I1 S1 => ∃ x8, v = .bool x8 ∧
  Runs Tryd.prog 59 #[.string y_1] I1 S1 fun v' I1' S1' => ∃ x10, v' = .bool x10 ∧
  bcase x8
    (bcase x10
      (R (.int .i64 0) I1' S1')
      (R (.int .i64 (-1)) I1' S1'))
    (bcase x10
      (R (.int .i64 1) I1' S1')
      (bcase (Op.bytesLess x_0.toList y_1.toList)
        (R (.int .i64 (-1)) I1' S1')
        (bcase (!((Op.bytesLess x_0.toList y_1.toList) || (x_0.toList == y_1.toList)))
          (R (.int .i64 1) I1' S1')
          (R (.int .i64 0) I1' S1'))))
theorem cmp_Compare_api_Name_fn (R : Value → IMem → SH → Prop) (x_0 : ByteArray) (y_1 : ByteArray) (I : IMem) (S : SH) (h : cmp_Compare_api_Name R x_0 y_1 I S) :
    Runs Tryd.prog 43 #[.string x_0, .string y_1] I S R := by
  refine Runs.of_wp (args := [.string x_0, .string y_1]) (c := cmp_Compare_api_Name_code) Tryd.func43 (by kernel_rfl) (by kernel_rfl) ?_
  exact Pre.sound _ _ _ _ _ (cast (by kernel_rfl) h)
/-! ### cmp_Compare_api_Type: function 44, cmp.Compare[bolter/api.Type] -/
noncomputable def cmp_Compare_api_Type_code : Code := (Tryd.f44.body).getD .skip
def cmp_Compare_api_Type (R : Value → IMem → SH → Prop) (x_0 : Int) (y_1 : Int) (I : IMem) (S : SH) : Prop :=
  Runs Tryd.prog 60 #[.int .u16 x_0] I S fun v I1 S1 => ∃ x8, v = .bool x8 ∧
  Runs Tryd.prog 60 #[.int .u16 y_1] I1 S1 fun v' I1' S1' => ∃ x10, v' = .bool x10 ∧
  bcase x8
    (bcase x10
      (R (.int .i64 0) I1' S1')
      (R (.int .i64 (-1)) I1' S1'))
    (bcase x10
      (R (.int .i64 1) I1' S1')
      (bcase (decide (x_0 < y_1))
        (R (.int .i64 (-1)) I1' S1')
        (bcase (decide (x_0 > y_1))
          (R (.int .i64 1) I1' S1')
          (R (.int .i64 0) I1' S1'))))
theorem cmp_Compare_api_Type_fn (R : Value → IMem → SH → Prop) (x_0 : Int) (y_1 : Int) (I : IMem) (S : SH) (h : cmp_Compare_api_Type R x_0 y_1 I S) :
    Runs Tryd.prog 44 #[.int .u16 x_0, .int .u16 y_1] I S R := by
  refine Runs.of_wp (args := [.int .u16 x_0, .int .u16 y_1]) (c := cmp_Compare_api_Type_code) Tryd.func44 (by kernel_rfl) (by kernel_rfl) ?_
  exact Pre.sound _ _ _ _ _ (cast (by kernel_rfl) h)
/-! ### cmp_Compare_string: function 45, cmp.Compare[string] -/
noncomputable def cmp_Compare_string_code : Code := (Tryd.f45.body).getD .skip
def cmp_Compare_string (R : Value → IMem → SH → Prop) (x_0 : ByteArray) (y_1 : ByteArray) (I : IMem) (S : SH) : Prop :=
  Runs Tryd.prog 61 #[.string x_0] I S fun v I1 S1 => ∃ x8, v = .bool x8 ∧
  Runs Tryd.prog 61 #[.string y_1] I1 S1 fun v' I1' S1' => ∃ x10, v' = .bool x10 ∧
  bcase x8
    (bcase x10
      (R (.int .i64 0) I1' S1')
      (R (.int .i64 (-1)) I1' S1'))
    (bcase x10
      (R (.int .i64 1) I1' S1')
      (bcase (Op.bytesLess x_0.toList y_1.toList)
        (R (.int .i64 (-1)) I1' S1')
        (bcase (!((Op.bytesLess x_0.toList y_1.toList) || (x_0.toList == y_1.toList)))
          (R (.int .i64 1) I1' S1')
          (R (.int .i64 0) I1' S1'))))
theorem cmp_Compare_string_fn (R : Value → IMem → SH → Prop) (x_0 : ByteArray) (y_1 : ByteArray) (I : IMem) (S : SH) (h : cmp_Compare_string R x_0 y_1 I S) :
    Runs Tryd.prog 45 #[.string x_0, .string y_1] I S R := by
  refine Runs.of_wp (args := [.string x_0, .string y_1]) (c := cmp_Compare_string_code) Tryd.func45 (by kernel_rfl) (by kernel_rfl) ?_
  exact Pre.sound _ _ _ _ _ (cast (by kernel_rfl) h)
/-! ### cmp_Compare_uint32: function 46, cmp.Compare[uint32] -/
noncomputable def cmp_Compare_uint32_code : Code := (Tryd.f46.body).getD .skip
def cmp_Compare_uint32 (R : Value → IMem → SH → Prop) (x_0 : Int) (y_1 : Int) (I : IMem) (S : SH) : Prop :=
  Runs Tryd.prog 62 #[.int .u32 x_0] I S fun v I1 S1 => ∃ x8, v = .bool x8 ∧
  Runs Tryd.prog 62 #[.int .u32 y_1] I1 S1 fun v' I1' S1' => ∃ x10, v' = .bool x10 ∧
  bcase x8
    (bcase x10
      (R (.int .i64 0) I1' S1')
      (R (.int .i64 (-1)) I1' S1'))
    (bcase x10
      (R (.int .i64 1) I1' S1')
      (bcase (decide (x_0 < y_1))
        (R (.int .i64 (-1)) I1' S1')
        (bcase (decide (x_0 > y_1))
          (R (.int .i64 1) I1' S1')
          (R (.int .i64 0) I1' S1'))))
theorem cmp_Compare_uint32_fn (R : Value → IMem → SH → Prop) (x_0 : Int) (y_1 : Int) (I : IMem) (S : SH) (h : cmp_Compare_uint32 R x_0 y_1 I S) :
    Runs Tryd.prog 46 #[.int .u32 x_0, .int .u32 y_1] I S R := by
  refine Runs.of_wp (args := [.int .u32 x_0, .int .u32 y_1]) (c := cmp_Compare_uint32_code) Tryd.func46 (by kernel_rfl) (by kernel_rfl) ?_
  exact Pre.sound _ _ _ _ _ (cast (by kernel_rfl) h)
/-! ### slices_BinarySearchFunc_api_Record: function 33, slices.BinarySearchFunc[bolter/zone.Zone,bolter/api.Record,bolter/api.Record] -/
noncomputable def slices_BinarySearchFunc_api_Record_code : Code := (Tryd.f33.body).getD .skip
def slices_BinarySearchFunc_api_Record_b5 (again2 : Option Addr → Nat → Nat → Addr → Int → Int → Int → IMem → SH → Prop) (R : Value → IMem → SH → Prop) (x_0 : Option Addr) (x_0n : Nat) (x_0c : Nat) (target_4 : Addr) (n_8 : Int) (i_9 : Int) (j_10 : Int) (h_11 : Int) (x31 : Bool) (I : IMem) (S : SH) : Prop :=
  bcase x31
    (again2 x_0 x_0n x_0c target_4 n_8 (IntKind.wrap .i64 (h_11 + (1 : Int))) j_10 I S)
    (again2 x_0 x_0n x_0c target_4 n_8 i_9 h_11 I S)
def slices_BinarySearchFunc_api_Record_b4 (again2 : Option Addr → Nat → Nat → Addr → Int → Int → Int → IMem → SH → Prop) (R : Value → IMem → SH → Prop) (x_0 : Option Addr) (x_0n : Nat) (x_0c : Nat) (target_4 : Addr) (n_8 : Int) (i_9 : Int) (j_10 : Int) (h_11 : Int) (I : IMem) (S : SH) : Prop :=
  ptrP x_0 fun x27 => (0 : Int) ≤ h_11 ∧ h_11 < (x_0n : Int) ∧
  ∃ x28_0, Cell I S (x27.add (h_11.toNat * 4)) (.string x28_0) ∧
  ∃ x28_1, Cell I S ((x27.add (h_11.toNat * 4)).add 1) (.int .u16 x28_1) ∧
  ∃ x28_2, Cell I S ((x27.add (h_11.toNat * 4)).add 2) (.int .u32 x28_2) ∧
  ∃ x28_3, Cell I S ((x27.add (h_11.toNat * 4)).add 3) (.string x28_3) ∧
  ∃ x29_0, Cell I S target_4 (.string x29_0) ∧
  ∃ x29_1, Cell I S (target_4.add 1) (.int .u16 x29_1) ∧
  ∃ x29_2, Cell I S (target_4.add 2) (.int .u32 x29_2) ∧
  ∃ x29_3, Cell I S (target_4.add 3) (.string x29_3) ∧
  ∃ x30, Runs Tryd.prog 26 #[.agg #[.string x28_0, .int .u16 x28_1, .int .u32 x28_2, .string x28_3], .agg #[.string x29_0, .int .u16 x29_1, .int .u32 x29_2, .string x29_3]] I S (fun v' _ T => v' = .int .i64 x30 ∧ T = S) ∧
  slices_BinarySearchFunc_api_Record_b5 again2 R x_0 x_0n x_0c target_4 n_8 i_9 j_10 h_11 (decide (x30 < (0 : Int))) I S
def slices_BinarySearchFunc_api_Record_b3 (again2 : Option Addr → Nat → Nat → Addr → Int → Int → Int → IMem → SH → Prop) (R : Value → IMem → SH → Prop) (x_0 : Option Addr) (x_0n : Nat) (x_0c : Nat) (target_4 : Addr) (n_8 : Int) (i_9 : Int) (j_10 : Int) (I : IMem) (S : SH) : Prop :=
  slices_BinarySearchFunc_api_Record_b4 again2 R x_0 x_0n x_0c target_4 n_8 i_9 j_10 (IntKind.wrap .i64 ((IntKind.wrap .u64 (IntKind.wrap .i64 (i_9 + j_10))).fdiv (2 ^ (min (1 : Int).toNat (IntKind.bits .u64))))) I S
def slices_BinarySearchFunc_api_Record_b7 (R : Value → IMem → SH → Prop) (x6 : Int) (x7 : Bool) (I : IMem) (S : SH) : Prop :=
  R (.tuple #[.int .i64 x6, .bool x7]) I S
def slices_BinarySearchFunc_api_Record_b6 (R : Value → IMem → SH → Prop) (x_0 : Option Addr) (x_0n : Nat) (x_0c : Nat) (target_4 : Addr) (n_8 : Int) (i_9 : Int) (I : IMem) (S : SH) : Prop :=
  bcase (decide (i_9 < n_8))
    (ptrP x_0 fun x43 => (0 : Int) ≤ i_9 ∧ i_9 < (x_0n : Int) ∧
    ∃ x44_0, Cell I S (x43.add (i_9.toNat * 4)) (.string x44_0) ∧
    ∃ x44_1, Cell I S ((x43.add (i_9.toNat * 4)).add 1) (.int .u16 x44_1) ∧
    ∃ x44_2, Cell I S ((x43.add (i_9.toNat * 4)).add 2) (.int .u32 x44_2) ∧
    ∃ x44_3, Cell I S ((x43.add (i_9.toNat * 4)).add 3) (.string x44_3) ∧
    ∃ x45_0, Cell I S target_4 (.string x45_0) ∧
    ∃ x45_1, Cell I S (target_4.add 1) (.int .u16 x45_1) ∧
    ∃ x45_2, Cell I S (target_4.add 2) (.int .u32 x45_2) ∧
    ∃ x45_3, Cell I S (target_4.add 3) (.string x45_3) ∧
    ∃ x46, Runs Tryd.prog 26 #[.agg #[.string x44_0, .int .u16 x44_1, .int .u32 x44_2, .string x44_3], .agg #[.string x45_0, .int .u16 x45_1, .int .u32 x45_2, .string x45_3]] I S (fun v' _ T => v' = .int .i64 x46 ∧ T = S) ∧
    slices_BinarySearchFunc_api_Record_b7 R i_9 (x46 == (0 : Int)) I S)
    (slices_BinarySearchFunc_api_Record_b7 R i_9 false I S)
def slices_BinarySearchFunc_api_Record_l2 (again2 : Option Addr → Nat → Nat → Addr → Int → Int → Int → IMem → SH → Prop) (R : Value → IMem → SH → Prop) (x_0 : Option Addr) (x_0n : Nat) (x_0c : Nat) (target_4 : Addr) (n_8 : Int) (i_9 : Int) (j_10 : Int) (I : IMem) (S : SH) : Prop :=
  bcase (decide (i_9 < j_10))
    (slices_BinarySearchFunc_api_Record_b3 again2 R x_0 x_0n x_0c target_4 n_8 i_9 j_10 I S)
    (slices_BinarySearchFunc_api_Record_b6 R x_0 x_0n x_0c target_4 n_8 i_9 I S)
def slices_BinarySearchFunc_api_Record_b1 (R : Value → IMem → SH → Prop) (x_0 : Option Addr) (x_0n : Nat) (x_0c : Nat) (target_4 : Addr) (n_8 : Int) (i_9 : Int) (j_10 : Int) (I : IMem) (S : SH) : Prop :=
  ∃ (Inv : Nat → Option Addr → Nat → Nat → Addr → Int → Int → Int → IMem → SH → Prop) (m : Nat), Inv m x_0 x_0n x_0c target_4 n_8 i_9 j_10 I S ∧
    ∀ (m : Nat) (x_0 : Option Addr) (x_0n : Nat) (x_0c : Nat) (target_4 : Addr) (n_8 : Int) (i_9 : Int) (j_10 : Int) (J : IMem) (T : SH), I.le J → Inv m x_0 x_0n x_0c target_4 n_8 i_9 j_10 J T →
      slices_BinarySearchFunc_api_Record_l2 (fun x_0 x_0n x_0c target_4 n_8 i_9 j_10 I S => ∃ m', m' < m ∧ Inv m' x_0 x_0n x_0c target_4 n_8 i_9 j_10 I S) R x_0 x_0n x_0c target_4 n_8 i_9 j_10 J T
def slices_BinarySearchFunc_api_Record (R : Value → IMem → SH → Prop) (x_0 : Option Addr) (x_0n : Nat) (x_0c : Nat) (target_1_0 : ByteArray) (target_1_1 : Int) (target_1_2 : Int) (target_1_3 : ByteArray) (I : IMem) (S : SH) : Prop :=
  ∀ b4 : Nat,
  slices_BinarySearchFunc_api_Record_b1 R x_0 x_0n x_0c ⟨b4, 0, none⟩ (x_0n : Int) 0 (x_0n : Int) I ((b4, .cells #[.string target_1_0, .int .u16 target_1_1, .int .u32 target_1_2, .string target_1_3] 36 (0, 0)) :: S)
theorem slices_BinarySearchFunc_api_Record_fn (R : Value → IMem → SH → Prop) (x_0 : Option Addr) (x_0n : Nat) (x_0c : Nat) (target_1_0 : ByteArray) (target_1_1 : Int) (target_1_2 : Int) (target_1_3 : ByteArray) (I : IMem) (S : SH) (h : slices_BinarySearchFunc_api_Record R x_0 x_0n x_0c target_1_0 target_1_1 target_1_2 target_1_3 I S) :
    Runs Tryd.prog 33 #[.slice x_0 x_0n x_0c, .agg #[.string target_1_0, .int .u16 target_1_1, .int .u32 target_1_2, .string target_1_3], .func (.func 26) #[] #[]] I S R := by
  refine Runs.of_wp (args := [.slice x_0 x_0n x_0c, .agg #[.string target_1_0, .int .u16 target_1_1, .int .u32 target_1_2, .string target_1_3], .func (.func 26) #[] #[]]) (c := slices_BinarySearchFunc_api_Record_code) Tryd.func33 (by kernel_rfl) (by kernel_rfl) ?_
  refine WP.cut 3 (fun l I S => asSl (l 0) fun x_0 x_0n x_0c => asF 26 (l 2) (asAdr (l 4) fun target_4 => asI .i64 (l 8) fun n_8 => asI .i64 (l 9) fun i_9 => asI .i64 (l 10) fun j_10 => slices_BinarySearchFunc_api_Record_b1 R x_0 x_0n x_0c target_4 n_8 i_9 j_10 I S)) (cast (by kernel_rfl) h) ?_
  clear h
  intro l I S _ h
  obtain ⟨x_0, x_0n, x_0c, e0, h⟩ := asSl_e h
  obtain ⟨e2, h⟩ := asF_e h
  obtain ⟨target_4, e4, h⟩ := asAdr_e h
  obtain ⟨n_8, e8, h⟩ := asI_e h
  obtain ⟨i_9, e9, h⟩ := asI_e h
  obtain ⟨j_10, e10, h⟩ := asI_e h
  rw [upd_eta e0, upd_eta e2, upd_eta e4, upd_eta e8, upd_eta e9, upd_eta e10]
  refine WP.seqY (by kernel_rfl) (fun l I S => asSl (l 0) fun x_0 x_0n x_0c => asF 26 (l 2) (asAdr (l 4) fun target_4 => asI .i64 (l 8) fun n_8 => asI .i64 (l 9) fun i_9 => slices_BinarySearchFunc_api_Record_b6 R x_0 x_0n x_0c target_4 n_8 i_9 I S)) ?_ ?_
  ·
    refine WP.block' (by kernel_rfl) ?_
    obtain ⟨Inv_again2, m_again2, h0, hr⟩ := h
    refine WP.loop' (by kernel_rfl) (fun m_again2 => fun l I S => asSl (l 0) fun x_0 x_0n x_0c => asF 26 (l 2) (asAdr (l 4) fun target_4 => asI .i64 (l 8) fun n_8 => asI .i64 (l 9) fun i_9 => asI .i64 (l 10) fun j_10 => Inv_again2 m_again2 x_0 x_0n x_0c target_4 n_8 i_9 j_10 I S)) m_again2 (cast (by kernel_rfl) h0) ?_
    clear h0
    intro m_again2 l I S hle h
    obtain ⟨x_0, x_0n, x_0c, e0, h⟩ := asSl_e h
    obtain ⟨e2, h⟩ := asF_e h
    obtain ⟨target_4, e4, h⟩ := asAdr_e h
    obtain ⟨n_8, e8, h⟩ := asI_e h
    obtain ⟨i_9, e9, h⟩ := asI_e h
    obtain ⟨j_10, e10, h⟩ := asI_e h
    rw [upd_eta e0, upd_eta e2, upd_eta e4, upd_eta e8, upd_eta e9, upd_eta e10]
    have h := hr m_again2 x_0 x_0n x_0c target_4 n_8 i_9 j_10 I S hle h
    clear hr hle
    refine WP.cut 1 (fun l I S => asSl (l 0) fun x_0 x_0n x_0c => asF 26 (l 2) (asAdr (l 4) fun target_4 => asI .i64 (l 8) fun n_8 => asI .i64 (l 9) fun i_9 => asI .i64 (l 10) fun j_10 => slices_BinarySearchFunc_api_Record_b3 (fun x_0 x_0n x_0c target_4 n_8 i_9 j_10 I S => ∃ m', m' < m_again2 ∧ Inv_again2 m' x_0 x_0n x_0c target_4 n_8 i_9 j_10 I S) R x_0 x_0n x_0c target_4 n_8 i_9 j_10 I S)) (cast (by kernel_rfl) h) ?_
    clear h
    intro l I S _ h
    obtain ⟨x_0, x_0n, x_0c, e0, h⟩ := asSl_e h
    obtain ⟨e2, h⟩ := asF_e h
    obtain ⟨target_4, e4, h⟩ := asAdr_e h
    obtain ⟨n_8, e8, h⟩ := asI_e h
    obtain ⟨i_9, e9, h⟩ := asI_e h
    obtain ⟨j_10, e10, h⟩ := asI_e h
    rw [upd_eta e0, upd_eta e2, upd_eta e4, upd_eta e8, upd_eta e9, upd_eta e10]
    refine WP.block' (by kernel_rfl) ?_
    refine WP.cut 1 (fun l I S => asSl (l 0) fun x_0 x_0n x_0c => asF 26 (l 2) (asAdr (l 4) fun target_4 => asI .i64 (l 8) fun n_8 => asI .i64 (l 9) fun i_9 => asI .i64 (l 10) fun j_10 => asI .i64 (l 11) fun h_11 => slices_BinarySearchFunc_api_Record_b4 (fun x_0 x_0n x_0c target_4 n_8 i_9 j_10 I S => ∃ m', m' < m_again2 ∧ Inv_again2 m' x_0 x_0n x_0c target_4 n_8 i_9 j_10 I S) R x_0 x_0n x_0c target_4 n_8 i_9 j_10 h_11 I S)) (cast (by kernel_rfl) h) ?_
    clear h
    intro l I S _ h
    obtain ⟨x_0, x_0n, x_0c, e0, h⟩ := asSl_e h
    obtain ⟨e2, h⟩ := asF_e h
    obtain ⟨target_4, e4, h⟩ := asAdr_e h
    obtain ⟨n_8, e8, h⟩ := asI_e h
    obtain ⟨i_9, e9, h⟩ := asI_e h
    obtain ⟨j_10, e10, h⟩ := asI_e h
    obtain ⟨h_11, e11, h⟩ := asI_e h
    rw [upd_eta e0, upd_eta e2, upd_eta e4, upd_eta e8, upd_eta e9, upd_eta e10, upd_eta e11]
    refine WP.seqY (by kernel_rfl) (fun l I S => asSl (l 0) fun x_0 x_0n x_0c => asF 26 (l 2) (asAdr (l 4) fun target_4 => asI .i64 (l 8) fun n_8 => asI .i64 (l 9) fun i_9 => asI .i64 (l 10) fun j_10 => asI .i64 (l 11) fun h_11 => asB (l 31) fun x31 => slices_BinarySearchFunc_api_Record_b5 (fun x_0 x_0n x_0c target_4 n_8 i_9 j_10 I S => ∃ m', m' < m_again2 ∧ Inv_again2 m' x_0 x_0n x_0c target_4 n_8 i_9 j_10 I S) R x_0 x_0n x_0c target_4 n_8 i_9 j_10 h_11 x31 I S)) ?_ ?_
    ·
      exact WP.quiet' (by kernel_rfl) (by kernel_rfl) (by kernel_rfl) (cast (by kernel_rfl) h)
    · clear h
      intro l I S _ h
      obtain ⟨x_0, x_0n, x_0c, e0, h⟩ := asSl_e h
      obtain ⟨e2, h⟩ := asF_e h
      obtain ⟨target_4, e4, h⟩ := asAdr_e h
      obtain ⟨n_8, e8, h⟩ := asI_e h
      obtain ⟨i_9, e9, h⟩ := asI_e h
      obtain ⟨j_10, e10, h⟩ := asI_e h
      obtain ⟨h_11, e11, h⟩ := asI_e h
      obtain ⟨x31, e31, h⟩ := asB_e h
      rw [upd_eta e0, upd_eta e2, upd_eta e4, upd_eta e8, upd_eta e9, upd_eta e10, upd_eta e11, upd_eta e31]
      exact Pre.sound _ _ _ _ _ (cast (by kernel_rfl) h)
  · clear h
    intro l I S _ h
    obtain ⟨x_0, x_0n, x_0c, e0, h⟩ := asSl_e h
    obtain ⟨e2, h⟩ := asF_e h
    obtain ⟨target_4, e4, h⟩ := asAdr_e h
    obtain ⟨n_8, e8, h⟩ := asI_e h
    obtain ⟨i_9, e9, h⟩ := asI_e h
    rw [upd_eta e0, upd_eta e2, upd_eta e4, upd_eta e8, upd_eta e9]
    refine WP.seqY (by kernel_rfl) (fun l I S => asI .i64 (l 6) fun x6 => asB (l 7) fun x7 => slices_BinarySearchFunc_api_Record_b7 R x6 x7 I S) ?_ ?_
    ·
      exact WP.quiet' (by kernel_rfl) (by kernel_rfl) (by kernel_rfl) (cast (by kernel_rfl) h)
    · clear h
      intro l I S _ h
      obtain ⟨x6, e6, h⟩ := asI_e h
      obtain ⟨x7, e7, h⟩ := asB_e h
      rw [upd_eta e6, upd_eta e7]
      exact Pre.sound _ _ _ _ _ (cast (by kernel_rfl) h)
/-! ### slices_Insert_api_Record: function 34, slices.Insert[bolter/zone.Zone,bolter/api.Record] -/
noncomputable def slices_Insert_api_Record_code : Code := (Tryd.f34.body).getD .skip
def slices_Insert_api_Record_b4 (R : Value → IMem → SH → Prop) (s2_9 : Option Addr) (s2_9n : Nat) (s2_9c : Nat) (I : IMem) (S : SH) : Prop :=
  R (.slice s2_9 s2_9n s2_9c) I S
def slices_Insert_api_Record_b3 (R : Value → IMem → SH → Prop) (s_0 : Option Addr) (s_0n : Nat) (s_0c : Nat) (i_1 : Int) (m_7 : Int) (s2_9 : Option Addr) (s2_9n : Nat) (s2_9c : Nat) (I : IMem) (S : SH) : Prop :=
  (0 : Int) ≤ (IntKind.wrap .i64 (i_1 + m_7)) ∧ (IntKind.wrap .i64 (i_1 + m_7)) ≤ ((s2_9n : Nat) : Int) ∧
  (0 : Int) ≤ i_1 ∧ i_1 ≤ ((s_0n : Nat) : Int) ∧
  CpyP 4 I S (.slice (slA s2_9 s2_9c ((IntKind.wrap .i64 (i_1 + m_7)).toNat) 4) (s2_9n - (IntKind.wrap .i64 (i_1 + m_7)).toNat) (s2_9c - (IntKind.wrap .i64 (i_1 + m_7)).toNat)) (.slice (slA s_0 s_0c i_1.toNat 4) (s_0n - i_1.toNat) (s_0c - i_1.toNat)) fun x54 S1 =>
  slices_Insert_api_Record_b4 R s2_9 s2_9n s2_9c I S1
def slices_Insert_api_Record_b8 (R : Value → IMem → SH → Prop) (s_0 : Option Addr) (s_0n : Nat) (s_0c : Nat) (i_1 : Int) (v_2 : Option Addr) (v_2n : Nat) (v_2c : Nat) (I : IMem) (S : SH) : Prop :=
  (0 : Int) ≤ i_1 ∧ i_1 ≤ ((s_0n : Nat) : Int) ∧
  CpyP 4 I S (.slice (slA s_0 s_0c i_1.toNat 4) (s_0n - i_1.toNat) (s_0c - i_1.toNat)) (.slice v_2 v_2n v_2c) fun x82 S1 =>
  R (.slice s_0 s_0n s_0c) I S1
def slices_Insert_api_Record_b9 (R : Value → IMem → SH → Prop) (s_0 : Option Addr) (s_0n : Nat) (s_0c : Nat) (i_1 : Int) (v_2 : Option Addr) (v_2n : Nat) (v_2c : Nat) (m_7 : Int) (n_8 : Int) (I : IMem) (S : SH) : Prop :=
  (0 : Int) ≤ n_8 ∧ n_8 ≤ ((s_0n : Nat) : Int) ∧
  CpyP 4 I S (.slice (slA s_0 s_0c n_8.toNat 4) (s_0n - n_8.toNat) (s_0c - n_8.toNat)) (.slice v_2 v_2n v_2c) fun x88 S1 =>
  (0 : Int) ≤ i_1 ∧ i_1 ≤ ((s_0n : Nat) : Int) ∧
  Runs Tryd.prog 52 #[.slice (slA s_0 s_0c i_1.toNat 4) (s_0n - i_1.toNat) (s_0c - i_1.toNat), .int .i64 m_7] I S1 fun v I1 S1' => v = .tuple #[] ∧
  R (.slice s_0 s_0n s_0c) I1 S1'
def slices_Insert_api_Record_b7 (R : Value → IMem → SH → Prop) (s_0 : Option Addr) (s_0n : Nat) (s_0c : Nat) (i_1 : Int) (v_2 : Option Addr) (v_2n : Nat) (v_2c : Nat) (m_7 : Int) (n_8 : Int) (x68 : Bool) (I : IMem) (S : SH) : Prop :=
  bcase x68
    ((0 : Int) ≤ (IntKind.wrap .i64 (i_1 + m_7)) ∧ (IntKind.wrap .i64 (i_1 + m_7)) ≤ ((s_0n : Nat) : Int) ∧
    (0 : Int) ≤ i_1 ∧ i_1 ≤ ((s_0n : Nat) : Int) ∧
    CpyP 4 I S (.slice (slA s_0 s_0c ((IntKind.wrap .i64 (i_1 + m_7)).toNat) 4) (s_0n - (IntKind.wrap .i64 (i_1 + m_7)).toNat) (s_0c - (IntKind.wrap .i64 (i_1 + m_7)).toNat)) (.slice (slA s_0 s_0c i_1.toNat 4) (s_0n - i_1.toNat) (s_0c - i_1.toNat)) fun x77 S1 =>
    slices_Insert_api_Record_b8 R s_0 s_0n s_0c i_1 v_2 v_2n v_2c I S1)
    (slices_Insert_api_Record_b9 R s_0 s_0n s_0c i_1 v_2 v_2n v_2c m_7 n_8 I S)
def slices_Insert_api_Record_b6 (R : Value → IMem → SH → Prop) (s_0 : Option Addr) (s_0n : Nat) (s_0c : Nat) (i_1 : Int) (v_2 : Option Addr) (v_2n : Nat) (v_2c : Nat) (m_7 : Int) (n_8 : Int) (I : IMem) (S : SH) : Prop :=
  (0 : Int) ≤ (IntKind.wrap .i64 (i_1 + m_7)) ∧ (IntKind.wrap .i64 (i_1 + m_7)) ≤ ((s_0n : Nat) : Int) ∧
  RunsX Tryd.prog 51 #[.slice v_2 v_2n v_2c, .slice (slA s_0 s_0c ((IntKind.wrap .i64 (i_1 + m_7)).toNat) 4) (s_0n - (IntKind.wrap .i64 (i_1 + m_7)).toNat) (s_0c - (IntKind.wrap .i64 (i_1 + m_7)).toNat)] I S fun v I1 S1 => ∃ x67, v = .bool x67 ∧
  slices_Insert_api_Record_b7 R s_0 s_0n s_0c i_1 v_2 v_2n v_2c m_7 n_8 (!x67) I1 S1
def slices_Insert_api_Record_b5 (R : Value → IMem → SH → Prop) (s_0 : Option Addr) (s_0n : Nat) (s_0c : Nat) (i_1 : Int) (v_2 : Option Addr) (v_2n : Nat) (v_2c : Nat) (m_7 : Int) (n_8 : Int) (I : IMem) (S : SH) : Prop :=
  (0 : Int) ≤ (IntKind.wrap .i64 (n_8 + m_7)) ∧ (IntKind.wrap .i64 (n_8 + m_7)) ≤ ((s_0c : Nat) : Int) ∧
  slices_Insert_api_Record_b6 R (slA s_0 s_0c 0 4) ((IntKind.wrap .i64 (n_8 + m_7)).toNat - 0) (s_0c - 0) i_1 v_2 v_2n v_2c m_7 n_8 I S
def slices_Insert_api_Record_b2 (R : Value → IMem → SH → Prop) (s_0 : Option Addr) (s_0n : Nat) (s_0c : Nat) (i_1 : Int) (v_2 : Option Addr) (v_2n : Nat) (v_2c : Nat) (m_7 : Int) (n_8 : Int) (x31 : Bool) (I : IMem) (S : SH) : Prop :=
  bcase x31
    ((0 : Int) ≤ i_1 ∧ i_1 ≤ ((s_0c : Nat) : Int) ∧
    AppG 36 4 40 [.string ⟨#[]⟩, .int .u16 0, .int .u32 0, .string ⟨#[]⟩] (some (.int .i64)) I S (.slice (slA s_0 s_0c 0 4) (i_1.toNat - 0) (s_0c - 0)) (.int .i64 (IntKind.wrap .i64 ((IntKind.wrap .i64 (n_8 + m_7)) - i_1))) fun x40 x40n x40c S1 =>
    (0 : Int) ≤ i_1 ∧ i_1 ≤ ((x40n : Nat) : Int) ∧
    CpyP 4 I S1 (.slice (slA x40 x40c i_1.toNat 4) (x40n - i_1.toNat) (x40c - i_1.toNat)) (.slice v_2 v_2n v_2c) fun x45 S1' =>
    slices_Insert_api_Record_b3 R s_0 s_0n s_0c i_1 m_7 x40 x40n x40c I S1')
    (slices_Insert_api_Record_b5 R s_0 s_0n s_0c i_1 v_2 v_2n v_2c m_7 n_8 I S)
def slices_Insert_api_Record_b1 (R : Value → IMem → SH → Prop) (s_0 : Option Addr) (s_0n : Nat) (s_0c : Nat) (i_1 : Int) (v_2 : Option Addr) (v_2n : Nat) (v_2c : Nat) (m_7 : Int) (n_8 : Int) (I : IMem) (S : SH) : Prop :=
  slices_Insert_api_Record_b2 R s_0 s_0n s_0c i_1 v_2 v_2n v_2c m_7 n_8 (decide ((IntKind.wrap .i64 (n_8 + m_7)) > (s_0c : Int))) I S
def slices_Insert_api_Record (R : Value → IMem → SH → Prop) (s_0 : Option Addr) (s_0n : Nat) (s_0c : Nat) (i_1 : Int) (v_2 : Option Addr) (v_2n : Nat) (v_2c : Nat) (I : IMem) (S : SH) : Prop :=
  (0 : Int) ≤ i_1 ∧ i_1 ≤ ((s_0n : Nat) : Int) ∧
  bcase ((v_2n : Int) == (0 : Int))
    (R (.slice s_0 s_0n s_0c) I S)
    (bcase (i_1 == (s_0n : Int))
      (AppG 36 4 40 [.string ⟨#[]⟩, .int .u16 0, .int .u32 0, .string ⟨#[]⟩] (some (.slice 36)) I S (.slice s_0 s_0n s_0c) (.slice v_2 v_2n v_2c) fun x25 x25n x25c S1 =>
      R (.slice x25 x25n x25c) I S1)
      (slices_Insert_api_Record_b1 R s_0 s_0n s_0c i_1 v_2 v_2n v_2c (v_2n : Int) (s_0n : Int) I S))
theorem slices_Insert_api_Record_fn (R : Value → IMem → SH → Prop) (s_0 : Option Addr) (s_0n : Nat) (s_0c : Nat) (i_1 : Int) (v_2 : Option Addr) (v_2n : Nat) (v_2c : Nat) (I : IMem) (S : SH) (h : slices_Insert_api_Record R s_0 s_0n s_0c i_1 v_2 v_2n v_2c I S) :
    Runs Tryd.prog 34 #[.slice s_0 s_0n s_0c, .int .i64 i_1, .slice v_2 v_2n v_2c] I S R := by
  refine Runs.of_wp (args := [.slice s_0 s_0n s_0c, .int .i64 i_1, .slice v_2 v_2n v_2c]) (c := slices_Insert_api_Record_code) Tryd.func34 (by kernel_rfl) (by kernel_rfl) ?_
  refine WP.cut 6 (fun l I S => asSl (l 0) fun s_0 s_0n s_0c => asI .i64 (l 1) fun i_1 => asSl (l 2) fun v_2 v_2n v_2c => asI .i64 (l 7) fun m_7 => asI .i64 (l 8) fun n_8 => slices_Insert_api_Record_b1 R s_0 s_0n s_0c i_1 v_2 v_2n v_2c m_7 n_8 I S) (cast (by kernel_rfl) h) ?_
  clear h
  intro l I S _ h
  obtain ⟨s_0, s_0n, s_0c, e0, h⟩ := asSl_e h
  obtain ⟨i_1, e1, h⟩ := asI_e h
  obtain ⟨v_2, v_2n, v_2c, e2, h⟩ := asSl_e h
  obtain ⟨m_7, e7, h⟩ := asI_e h
  obtain ⟨n_8, e8, h⟩ := asI_e h
  rw [upd_eta e0, upd_eta e1, upd_eta e2, upd_eta e7, upd_eta e8]
  refine WP.seqY (by kernel_rfl) (fun l I S => asSl (l 0) fun s_0 s_0n s_0c => asI .i64 (l 1) fun i_1 => asSl (l 2) fun v_2 v_2n v_2c => asI .i64 (l 7) fun m_7 => asI .i64 (l 8) fun n_8 => slices_Insert_api_Record_b5 R s_0 s_0n s_0c i_1 v_2 v_2n v_2c m_7 n_8 I S) ?_ ?_
  ·
    refine WP.cut 1 (fun l I S => asSl (l 0) fun s_0 s_0n s_0c => asI .i64 (l 1) fun i_1 => asSl (l 2) fun v_2 v_2n v_2c => asI .i64 (l 7) fun m_7 => asI .i64 (l 8) fun n_8 => asB (l 31) fun x31 => slices_Insert_api_Record_b2 R s_0 s_0n s_0c i_1 v_2 v_2n v_2c m_7 n_8 x31 I S) (cast (by kernel_rfl) h) ?_
    clear h
    intro l I S _ h
    obtain ⟨s_0, s_0n, s_0c, e0, h⟩ := asSl_e h
    obtain ⟨i_1, e1, h⟩ := asI_e h
    obtain ⟨v_2, v_2n, v_2c, e2, h⟩ := asSl_e h
    obtain ⟨m_7, e7, h⟩ := asI_e h
    obtain ⟨n_8, e8, h⟩ := asI_e h
    obtain ⟨x31, e31, h⟩ := asB_e h
    rw [upd_eta e0, upd_eta e1, upd_eta e2, upd_eta e7, upd_eta e8, upd_eta e31]
    refine WP.cond' (by kernel_rfl) (by kernel_rfl) h ?_ ?_
    · clear h
      intro h
      refine WP.cut 2 (fun l I S => asSl (l 0) fun s_0 s_0n s_0c => asI .i64 (l 1) fun i_1 => asI .i64 (l 7) fun m_7 => asSl (l 9) fun s2_9 s2_9n s2_9c => slices_Insert_api_Record_b3 R s_0 s_0n s_0c i_1 m_7 s2_9 s2_9n s2_9c I S) (cast (by kernel_rfl) h) ?_
      clear h
      intro l I S _ h
      obtain ⟨s_0, s_0n, s_0c, e0, h⟩ := asSl_e h
      obtain ⟨i_1, e1, h⟩ := asI_e h
      obtain ⟨m_7, e7, h⟩ := asI_e h
      obtain ⟨s2_9, s2_9n, s2_9c, e9, h⟩ := asSl_e h
      rw [upd_eta e0, upd_eta e1, upd_eta e7, upd_eta e9]
      refine WP.seqY (by kernel_rfl) (fun l I S => asSl (l 9) fun s2_9 s2_9n s2_9c => slices_Insert_api_Record_b4 R s2_9 s2_9n s2_9c I S) ?_ ?_
      ·
        exact WP.draw' (.take 0 (.take 1 (.take 2 (.take 3 (.take 4 (.take 5 (.take 6 (.take 7 (.step 8 .done))))))))) [8] (by kernel_rfl) (by kernel_rfl) (by kernel_rfl) (by kernel_rfl) (by kernel_rfl) (cast (by kernel_rfl) h)
      · clear h
        intro l I S _ h
        obtain ⟨s2_9, s2_9n, s2_9c, e9, h⟩ := asSl_e h
        rw [upd_eta e9]
        exact Pre.sound _ _ _ _ _ (cast (by kernel_rfl) h)
    · clear h
      intro h
      exact Pre.sound _ _ _ _ _ (cast (by kernel_rfl) h)
  · clear h
    intro l I S _ h
    obtain ⟨s_0, s_0n, s_0c, e0, h⟩ := asSl_e h
    obtain ⟨i_1, e1, h⟩ := asI_e h
    obtain ⟨v_2, v_2n, v_2c, e2, h⟩ := asSl_e h
    obtain ⟨m_7, e7, h⟩ := asI_e h
    obtain ⟨n_8, e8, h⟩ := asI_e h
    rw [upd_eta e0, upd_eta e1, upd_eta e2, upd_eta e7, upd_eta e8]
    refine WP.cut 1 (fun l I S => asSl (l 0) fun s_0 s_0n s_0c => asI .i64 (l 1) fun i_1 => asSl (l 2) fun v_2 v_2n v_2c => asI .i64 (l 7) fun m_7 => asI .i64 (l 8) fun n_8 => slices_Insert_api_Record_b6 R s_0 s_0n s_0c i_1 v_2 v_2n v_2c m_7 n_8 I S) (cast (by kernel_rfl) h) ?_
    clear h
    intro l I S _ h
    obtain ⟨s_0, s_0n, s_0c, e0, h⟩ := asSl_e h
    obtain ⟨i_1, e1, h⟩ := asI_e h
    obtain ⟨v_2, v_2n, v_2c, e2, h⟩ := asSl_e h
    obtain ⟨m_7, e7, h⟩ := asI_e h
    obtain ⟨n_8, e8, h⟩ := asI_e h
    rw [upd_eta e0, upd_eta e1, upd_eta e2, upd_eta e7, upd_eta e8]
    refine WP.seqY (by kernel_rfl) (fun l I S => asSl (l 0) fun s_0 s_0n s_0c => asI .i64 (l 1) fun i_1 => asSl (l 2) fun v_2 v_2n v_2c => asI .i64 (l 7) fun m_7 => asI .i64 (l 8) fun n_8 => slices_Insert_api_Record_b9 R s_0 s_0n s_0c i_1 v_2 v_2n v_2c m_7 n_8 I S) ?_ ?_
    ·
      refine WP.cut 1 (fun l I S => asSl (l 0) fun s_0 s_0n s_0c => asI .i64 (l 1) fun i_1 => asSl (l 2) fun v_2 v_2n v_2c => asI .i64 (l 7) fun m_7 => asI .i64 (l 8) fun n_8 => asB (l 68) fun x68 => slices_Insert_api_Record_b7 R s_0 s_0n s_0c i_1 v_2 v_2n v_2c m_7 n_8 x68 I S) (cast (by kernel_rfl) h) ?_
      clear h
      intro l I S _ h
      obtain ⟨s_0, s_0n, s_0c, e0, h⟩ := asSl_e h
      obtain ⟨i_1, e1, h⟩ := asI_e h
      obtain ⟨v_2, v_2n, v_2c, e2, h⟩ := asSl_e h
      obtain ⟨m_7, e7, h⟩ := asI_e h
      obtain ⟨n_8, e8, h⟩ := asI_e h
      obtain ⟨x68, e68, h⟩ := asB_e h
      rw [upd_eta e0, upd_eta e1, upd_eta e2, upd_eta e7, upd_eta e8, upd_eta e68]
      refine WP.cond' (by kernel_rfl) (by kernel_rfl) h ?_ ?_
      · clear h
        intro h
        refine WP.seqY (by kernel_rfl) (fun l I S => asSl (l 0) fun s_0 s_0n s_0c => asI .i64 (l 1) fun i_1 => asSl (l 2) fun v_2 v_2n v_2c => slices_Insert_api_Record_b8 R s_0 s_0n s_0c i_1 v_2 v_2n v_2c I S) ?_ ?_
        ·
          exact WP.draw' (.take 0 (.take 1 (.take 2 (.take 3 (.take 4 (.take 5 (.take 6 (.take 7 (.step 8 .done))))))))) [8] (by kernel_rfl) (by kernel_rfl) (by kernel_rfl) (by kernel_rfl) (by kernel_rfl) (cast (by kernel_rfl) h)
        · clear h
          intro l I S _ h
          obtain ⟨s_0, s_0n, s_0c, e0, h⟩ := asSl_e h
          obtain ⟨i_1, e1, h⟩ := asI_e h
          obtain ⟨v_2, v_2n, v_2c, e2, h⟩ := asSl_e h
          rw [upd_eta e0, upd_eta e1, upd_eta e2]
          exact Pre.sound _ _ _ _ _ (cast (by kernel_rfl) h)
      · clear h
        intro h
        exact Pre.sound _ _ _ _ _ (cast (by kernel_rfl) h)
    · clear h
      intro l I S _ h
      obtain ⟨s_0, s_0n, s_0c, e0, h⟩ := asSl_e h
      obtain ⟨i_1, e1, h⟩ := asI_e h
      obtain ⟨v_2, v_2n, v_2c, e2, h⟩ := asSl_e h
      obtain ⟨m_7, e7, h⟩ := asI_e h
      obtain ⟨n_8, e8, h⟩ := asI_e h
      rw [upd_eta e0, upd_eta e1, upd_eta e2, upd_eta e7, upd_eta e8]
      exact Pre.sound _ _ _ _ _ (cast (by kernel_rfl) h)
/-! ### slices_Clone_api_Record: function 35, slices.Clone[bolter/zone.Zone,bolter/api.Record] -/
noncomputable def slices_Clone_api_Record_code : Code := (Tryd.f35.body).getD .skip
def slices_Clone_api_Record (R : Value → IMem → SH → Prop) (s_0 : Option Addr) (s_0n : Nat) (s_0c : Nat) (I : IMem) (S : SH) : Prop :=
  bcase ((s_0 : Option Addr).isNone)
    (R (.slice none 0 0) I S)
    (∀ b5 : Nat,
    AppG 36 4 40 [.string ⟨#[]⟩, .int .u16 0, .int .u32 0, .string ⟨#[]⟩] (some (.slice 36)) I ((b5, .cells #[] 36 (0, 0)) :: S) (.slice (some ⟨b5, 0, none⟩) 0 0) (.slice s_0 s_0n s_0c) fun x7 x7n x7c S1 =>
    R (.slice x7 x7n x7c) I S1)
theorem slices_Clone_api_Record_fn (R : Value → IMem → SH → Prop) (s_0 : Option Addr) (s_0n : Nat) (s_0c : Nat) (I : IMem) (S : SH) (h : slices_Clone_api_Record R s_0 s_0n s_0c I S) :
    Runs Tryd.prog 35 #[.slice s_0 s_0n s_0c] I S R := by
  refine Runs.of_wp (args := [.slice s_0 s_0n s_0c]) (c := slices_Clone_api_Record_code) Tryd.func35 (by kernel_rfl) (by kernel_rfl) ?_
  exact Pre.sound _ _ _ _ _ (cast (by kernel_rfl) h)
/-! ### cmp_isNaN_api_Name: function 59, cmp.isNaN[bolter/api.Name] -/
noncomputable def cmp_isNaN_api_Name_code : Code := (Tryd.f59.body).getD .skip
def cmp_isNaN_api_Name (R : Value → IMem → SH → Prop) (x_0 : ByteArray) (I : IMem) (S : SH) : Prop :=
  R (.bool (!(x_0.toList == x_0.toList))) I S
theorem cmp_isNaN_api_Name_fn (R : Value → IMem → SH → Prop) (x_0 : ByteArray) (I : IMem) (S : SH) (h : cmp_isNaN_api_Name R x_0 I S) :
    Runs Tryd.prog 59 #[.string x_0] I S R := by
  refine Runs.of_wp (args := [.string x_0]) (c := cmp_isNaN_api_Name_code) Tryd.func59 (by kernel_rfl) (by kernel_rfl) ?_
  exact Pre.sound _ _ _ _ _ (cast (by kernel_rfl) h)
/-! ### cmp_isNaN_api_Type: function 60, cmp.isNaN[bolter/api.Type] -/
noncomputable def cmp_isNaN_api_Type_code : Code := (Tryd.f60.body).getD .skip
def cmp_isNaN_api_Type (R : Value → IMem → SH → Prop) (x_0 : Int) (I : IMem) (S : SH) : Prop :=
  R (.bool (x_0 != x_0)) I S
theorem cmp_isNaN_api_Type_fn (R : Value → IMem → SH → Prop) (x_0 : Int) (I : IMem) (S : SH) (h : cmp_isNaN_api_Type R x_0 I S) :
    Runs Tryd.prog 60 #[.int .u16 x_0] I S R := by
  refine Runs.of_wp (args := [.int .u16 x_0]) (c := cmp_isNaN_api_Type_code) Tryd.func60 (by kernel_rfl) (by kernel_rfl) ?_
  exact Pre.sound _ _ _ _ _ (cast (by kernel_rfl) h)
/-! ### cmp_isNaN_string: function 61, cmp.isNaN[string] -/
noncomputable def cmp_isNaN_string_code : Code := (Tryd.f61.body).getD .skip
def cmp_isNaN_string (R : Value → IMem → SH → Prop) (x_0 : ByteArray) (I : IMem) (S : SH) : Prop :=
  R (.bool (!(x_0.toList == x_0.toList))) I S
theorem cmp_isNaN_string_fn (R : Value → IMem → SH → Prop) (x_0 : ByteArray) (I : IMem) (S : SH) (h : cmp_isNaN_string R x_0 I S) :
    Runs Tryd.prog 61 #[.string x_0] I S R := by
  refine Runs.of_wp (args := [.string x_0]) (c := cmp_isNaN_string_code) Tryd.func61 (by kernel_rfl) (by kernel_rfl) ?_
  exact Pre.sound _ _ _ _ _ (cast (by kernel_rfl) h)
/-! ### cmp_isNaN_uint32: function 62, cmp.isNaN[uint32] -/
noncomputable def cmp_isNaN_uint32_code : Code := (Tryd.f62.body).getD .skip
def cmp_isNaN_uint32 (R : Value → IMem → SH → Prop) (x_0 : Int) (I : IMem) (S : SH) : Prop :=
  R (.bool (x_0 != x_0)) I S
theorem cmp_isNaN_uint32_fn (R : Value → IMem → SH → Prop) (x_0 : Int) (I : IMem) (S : SH) (h : cmp_isNaN_uint32 R x_0 I S) :
    Runs Tryd.prog 62 #[.int .u32 x_0] I S R := by
  refine Runs.of_wp (args := [.int .u32 x_0]) (c := cmp_isNaN_uint32_code) Tryd.func62 (by kernel_rfl) (by kernel_rfl) ?_
  exact Pre.sound _ _ _ _ _ (cast (by kernel_rfl) h)
end Go.Proofs.YtdajglfbbcbgpaaDoor
