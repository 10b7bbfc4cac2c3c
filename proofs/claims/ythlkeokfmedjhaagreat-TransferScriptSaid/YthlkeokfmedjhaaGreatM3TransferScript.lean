import Derived.Test.YthlkeokfmedjhaaGreatProg
import Derived.Laws.Strings
import Derived.Lib.Overlaps
import Derived.Test.YthlkeokfmedjhaaGreatM1TransferScript
import Derived.Test.YthlkeokfmedjhaaGreatM2TransferScript
set_option linter.unusedVariables false
set_option maxRecDepth 8000
set_option maxHeartbeats 2000000
namespace Go.Proofs.YthlkeokfmedjhaaGreat
open Go.Px
/-! ### zone_Has: function 50, bolter/zone.Has -/
noncomputable def zone_Has_code : Code := (Tryz.f50.body).getD .skip
def zone_Has (R : Value → IMem → SH → Prop) (z_0 : Option Addr) (z_0n : Nat) (z_0c : Nat) (r_1_0 : ByteArray) (r_1_1 : Int) (r_1_2 : Int) (r_1_3 : ByteArray) (I : IMem) (S : SH) : Prop :=
  ∀ b3 : Nat,
  ∃ x9_0, Cell I ((b3, .cells #[.string r_1_0, .int .u16 r_1_1, .int .u32 r_1_2, .string r_1_3] 32 (0, 0)) :: S) ⟨b3, 0, none⟩ (.string x9_0) ∧
  ∃ x9_1, Cell I ((b3, .cells #[.string r_1_0, .int .u16 r_1_1, .int .u32 r_1_2, .string r_1_3] 32 (0, 0)) :: S) ⟨b3, 1, none⟩ (.int .u16 x9_1) ∧
  ∃ x9_2, Cell I ((b3, .cells #[.string r_1_0, .int .u16 r_1_1, .int .u32 r_1_2, .string r_1_3] 32 (0, 0)) :: S) ⟨b3, 2, none⟩ (.int .u32 x9_2) ∧
  ∃ x9_3, Cell I ((b3, .cells #[.string r_1_0, .int .u16 r_1_1, .int .u32 r_1_2, .string r_1_3] 32 (0, 0)) :: S) ⟨b3, 3, none⟩ (.string x9_3) ∧
  Runs Tryz.prog 69 #[.slice z_0 z_0n z_0c, .agg #[.string x9_0, .int .u16 x9_1, .int .u32 x9_2, .string x9_3], .func (.func 63) #[] #[]] I ((b3, .cells #[.string r_1_0, .int .u16 r_1_1, .int .u32 r_1_2, .string r_1_3] 32 (0, 0)) :: S) fun v I1 S1 => ∃ x10_0 x10_1, v = .tuple #[.int .i64 x10_0, .bool x10_1] ∧
  R (.bool x10_1) I1 S1
theorem zone_Has_fn (R : Value → IMem → SH → Prop) (z_0 : Option Addr) (z_0n : Nat) (z_0c : Nat) (r_1_0 : ByteArray) (r_1_1 : Int) (r_1_2 : Int) (r_1_3 : ByteArray) (I : IMem) (S : SH) (h : zone_Has R z_0 z_0n z_0c r_1_0 r_1_1 r_1_2 r_1_3 I S) :
    Runs Tryz.prog 50 #[.slice z_0 z_0n z_0c, .agg #[.string r_1_0, .int .u16 r_1_1, .int .u32 r_1_2, .string r_1_3]] I S R := by
  refine Runs.of_wp (args := [.slice z_0 z_0n z_0c, .agg #[.string r_1_0, .int .u16 r_1_1, .int .u32 r_1_2, .string r_1_3]]) (c := zone_Has_code) Tryz.func50 (by kernel_rfl) (by kernel_rfl) ?_
  exact Pre.sound _ _ _ _ _ (cast (by kernel_rfl) h)
/-! ### zone_Compare: function 63, bolter/zone.Compare -/
noncomputable def zone_Compare_code : Code := (Tryz.f63.body).getD .skip
def zone_Compare_b2 (R : Value → IMem → SH → Prop) (x4 : Int) (I : IMem) (S : SH) : Prop :=
  R (.int .i64 x4) I S
def zone_Compare_b1 (R : Value → IMem → SH → Prop) (a_2 : Addr) (b_3 : Addr) (I : IMem) (S : SH) : Prop :=
  ∃ x6, Cell I S a_2 (.string x6) ∧
  ∃ x8, Cell I S b_3 (.string x8) ∧
  ∃ x9, (∀ J T, I.le J → Runs Tryz.prog 81 #[.string x6, .string x8] J (T ++ S) (fun v' _ T' => v' = .int .i64 x9 ∧ T' = T ++ S)) ∧
  ∃ x11, Cell I S (a_2.add 1) (.int .u16 x11) ∧
  ∃ x13, Cell I S (b_3.add 1) (.int .u16 x13) ∧
  ∃ x14, (∀ J T, I.le J → Runs Tryz.prog 82 #[.int .u16 x11, .int .u16 x13] J (T ++ S) (fun v' _ T' => v' = .int .i64 x14 ∧ T' = T ++ S)) ∧
  ∃ x16, Cell I S (a_2.add 3) (.string x16) ∧
  ∃ x18, Cell I S (b_3.add 3) (.string x18) ∧
  ∃ x19, (∀ J T, I.le J → Runs Tryz.prog 83 #[.string x16, .string x18] J (T ++ S) (fun v' _ T' => v' = .int .i64 x19 ∧ T' = T ++ S)) ∧
  ∃ x21, Cell I S (a_2.add 2) (.int .u32 x21) ∧
  ∃ x23, Cell I S (b_3.add 2) (.int .u32 x23) ∧
  ∃ x24, (∀ J T, I.le J → Runs Tryz.prog 84 #[.int .u32 x21, .int .u32 x23] J (T ++ S) (fun v' _ T' => v' = .int .i64 x24 ∧ T' = T ++ S)) ∧
  ∀ b25 : Nat,
  Runs Tryz.prog 80 #[.slice (some ⟨b25, 0, none⟩) 4 4] I ((b25, .cells #[.int .i64 x9, .int .i64 x14, .int .i64 x19, .int .i64 x24] 3 (0, 0)) :: S) fun v I1 S1 => ∃ x26, v = .int .i64 x26 ∧
  zone_Compare_b2 R x26 I1 S1
def zone_Compare (R : Value → IMem → SH → Prop) (a_0_0 : ByteArray) (a_0_1 : Int) (a_0_2 : Int) (a_0_3 : ByteArray) (b_1_0 : ByteArray) (b_1_1 : Int) (b_1_2 : Int) (b_1_3 : ByteArray) (I : IMem) (S : SH) : Prop :=
  ∀ b2 : Nat,
  ∀ b3 : Nat,
  zone_Compare_b1 R ⟨b2, 0, none⟩ ⟨b3, 0, none⟩ I ((b3, .cells #[.string b_1_0, .int .u16 b_1_1, .int .u32 b_1_2, .string b_1_3] 32 (0, 0)) :: ((b2, .cells #[.string a_0_0, .int .u16 a_0_1, .int .u32 a_0_2, .string a_0_3] 32 (0, 0)) :: S))
theorem zone_Compare_fn (R : Value → IMem → SH → Prop) (a_0_0 : ByteArray) (a_0_1 : Int) (a_0_2 : Int) (a_0_3 : ByteArray) (b_1_0 : ByteArray) (b_1_1 : Int) (b_1_2 : Int) (b_1_3 : ByteArray) (I : IMem) (S : SH) (h : zone_Compare R a_0_0 a_0_1 a_0_2 a_0_3 b_1_0 b_1_1 b_1_2 b_1_3 I S) :
    Runs Tryz.prog 63 #[.agg #[.string a_0_0, .int .u16 a_0_1, .int .u32 a_0_2, .string a_0_3], .agg #[.string b_1_0, .int .u16 b_1_1, .int .u32 b_1_2, .string b_1_3]] I S R := by
  refine Runs.of_wp (args := [.agg #[.string a_0_0, .int .u16 a_0_1, .int .u32 a_0_2, .string a_0_3], .agg #[.string b_1_0, .int .u16 b_1_1, .int .u32 b_1_2, .string b_1_3]]) (c := zone_Compare_code) Tryz.func63 (by kernel_rfl) (by kernel_rfl) ?_
  refine WP.cut 1 (fun l I S => asAdr (l 2) fun a_2 => asAdr (l 3) fun b_3 => zone_Compare_b1 R a_2 b_3 I S) (cast (by kernel_rfl) h) ?_
  clear h
  intro l I S _ h
  obtain ⟨a_2, e2, h⟩ := asAdr_e h
  obtain ⟨b_3, e3, h⟩ := asAdr_e h
  rw [upd_eta e2, upd_eta e3]
  refine WP.seqY (by kernel_rfl) (fun l I S => asI .i64 (l 4) fun x4 => zone_Compare_b2 R x4 I S) ?_ ?_
  ·
    exact WP.draw' (.take 0 (.take 1 (.take 2 (.take 3 (.take 4 (.take 5 (.take 6 (.take 7 (.take 8 (.take 9 (.take 10 (.take 11 (.take 12 (.take 13 (.take 14 (.take 15 (.take 16 (.take 17 (.take 18 (.take 19 (.step 20 (.step 21 (.take 22 .done))))))))))))))))))))))) [20, 21] (by kernel_rfl) (by kernel_rfl) (by kernel_rfl) (by kernel_rfl) (by kernel_rfl) (cast (by kernel_rfl) h)
  · clear h
    intro l I S _ h
    obtain ⟨x4, e4, h⟩ := asI_e h
    rw [upd_eta e4]
    exact Pre.sound _ _ _ _ _ (cast (by kernel_rfl) h)
/-! ### bolterlaw08_compare: function 51, bolter/bolterlaw08.compare -/
noncomputable def bolterlaw08_compare_code : Code := (Tryz.f51.body).getD .skip
def bolterlaw08_compare_b1 (R : Value → IMem → SH → Prop) (less_5 : Bool) (I : IMem) (S : SH) : Prop :=
  bcase less_5
    (R (.int .i64 (-1)) I S)
    (R (.int .i64 1) I S)
def bolterlaw08_compare (R : Value → IMem → SH → Prop) (a_0_0 : ByteArray) (a_0_1 : Int) (a_0_2 : Int) (a_0_3 : ByteArray) (b_1_0 : ByteArray) (b_1_1 : Int) (b_1_2 : Int) (b_1_3 : ByteArray) (I : IMem) (S : SH) : Prop :=
  ∀ b2 : Nat,
  ∀ b3 : Nat,
  ∃ x7, Cell I ((b3, .cells #[.string b_1_0, .int .u16 b_1_1, .int .u32 b_1_2, .string b_1_3] 32 (0, 0)) :: ((b2, .cells #[.string a_0_0, .int .u16 a_0_1, .int .u32 a_0_2, .string a_0_3] 32 (0, 0)) :: S)) ⟨b2, 0, none⟩ (.string x7) ∧
  ∃ x9, Cell I ((b3, .cells #[.string b_1_0, .int .u16 b_1_1, .int .u32 b_1_2, .string b_1_3] 32 (0, 0)) :: ((b2, .cells #[.string a_0_0, .int .u16 a_0_1, .int .u32 a_0_2, .string a_0_3] 32 (0, 0)) :: S)) ⟨b3, 0, none⟩ (.string x9) ∧
  ∃ x17_0, Cell I ((b3, .cells #[.string b_1_0, .int .u16 b_1_1, .int .u32 b_1_2, .string b_1_3] 32 (0, 0)) :: ((b2, .cells #[.string a_0_0, .int .u16 a_0_1, .int .u32 a_0_2, .string a_0_3] 32 (0, 0)) :: S)) ⟨b2, 0, none⟩ (.string x17_0) ∧
  ∃ x17_1, Cell I ((b3, .cells #[.string b_1_0, .int .u16 b_1_1, .int .u32 b_1_2, .string b_1_3] 32 (0, 0)) :: ((b2, .cells #[.string a_0_0, .int .u16 a_0_1, .int .u32 a_0_2, .string a_0_3] 32 (0, 0)) :: S)) ⟨b2, 1, none⟩ (.int .u16 x17_1) ∧
  ∃ x17_2, Cell I ((b3, .cells #[.string b_1_0, .int .u16 b_1_1, .int .u32 b_1_2, .string b_1_3] 32 (0, 0)) :: ((b2, .cells #[.string a_0_0, .int .u16 a_0_1, .int .u32 a_0_2, .string a_0_3] 32 (0, 0)) :: S)) ⟨b2, 2, none⟩ (.int .u32 x17_2) ∧
  ∃ x17_3, Cell I ((b3, .cells #[.string b_1_0, .int .u16 b_1_1, .int .u32 b_1_2, .string b_1_3] 32 (0, 0)) :: ((b2, .cells #[.string a_0_0, .int .u16 a_0_1, .int .u32 a_0_2, .string a_0_3] 32 (0, 0)) :: S)) ⟨b2, 3, none⟩ (.string x17_3) ∧
  ∃ x18_0, Cell I ((b3, .cells #[.string b_1_0, .int .u16 b_1_1, .int .u32 b_1_2, .string b_1_3] 32 (0, 0)) :: ((b2, .cells #[.string a_0_0, .int .u16 a_0_1, .int .u32 a_0_2, .string a_0_3] 32 (0, 0)) :: S)) ⟨b3, 0, none⟩ (.string x18_0) ∧
  ∃ x18_1, Cell I ((b3, .cells #[.string b_1_0, .int .u16 b_1_1, .int .u32 b_1_2, .string b_1_3] 32 (0, 0)) :: ((b2, .cells #[.string a_0_0, .int .u16 a_0_1, .int .u32 a_0_2, .string a_0_3] 32 (0, 0)) :: S)) ⟨b3, 1, none⟩ (.int .u16 x18_1) ∧
  ∃ x18_2, Cell I ((b3, .cells #[.string b_1_0, .int .u16 b_1_1, .int .u32 b_1_2, .string b_1_3] 32 (0, 0)) :: ((b2, .cells #[.string a_0_0, .int .u16 a_0_1, .int .u32 a_0_2, .string a_0_3] 32 (0, 0)) :: S)) ⟨b3, 2, none⟩ (.int .u32 x18_2) ∧
  ∃ x18_3, Cell I ((b3, .cells #[.string b_1_0, .int .u16 b_1_1, .int .u32 b_1_2, .string b_1_3] 32 (0, 0)) :: ((b2, .cells #[.string a_0_0, .int .u16 a_0_1, .int .u32 a_0_2, .string a_0_3] 32 (0, 0)) :: S)) ⟨b3, 3, none⟩ (.string x18_3) ∧
  bcase (((x17_0 : ByteArray) == (x18_0 : ByteArray)) && (((x17_1 : Int) == (x18_1 : Int)) && (((x17_2 : Int) == (x18_2 : Int)) && (((x17_3 : ByteArray) == (x18_3 : ByteArray)) && true))))
    (R (.int .i64 0) I ((b3, .cells #[.string b_1_0, .int .u16 b_1_1, .int .u32 b_1_2, .string b_1_3] 32 (0, 0)) :: ((b2, .cells #[.string a_0_0, .int .u16 a_0_1, .int .u32 a_0_2, .string a_0_3] 32 (0, 0)) :: S)))
    (∃ x22, Cell I ((b3, .cells #[.string b_1_0, .int .u16 b_1_1, .int .u32 b_1_2, .string b_1_3] 32 (0, 0)) :: ((b2, .cells #[.string a_0_0, .int .u16 a_0_1, .int .u32 a_0_2, .string a_0_3] 32 (0, 0)) :: S)) ⟨b2, 0, none⟩ (.string x22) ∧
    ∃ x24, Cell I ((b3, .cells #[.string b_1_0, .int .u16 b_1_1, .int .u32 b_1_2, .string b_1_3] 32 (0, 0)) :: ((b2, .cells #[.string a_0_0, .int .u16 a_0_1, .int .u32 a_0_2, .string a_0_3] 32 (0, 0)) :: S)) ⟨b3, 0, none⟩ (.string x24) ∧
    bcase (!(x22.toList == x24.toList))
      (bolterlaw08_compare_b1 R (Op.bytesLess x7.toList x9.toList) I ((b3, .cells #[.string b_1_0, .int .u16 b_1_1, .int .u32 b_1_2, .string b_1_3] 32 (0, 0)) :: ((b2, .cells #[.string a_0_0, .int .u16 a_0_1, .int .u32 a_0_2, .string a_0_3] 32 (0, 0)) :: S)))
      (∃ x28, Cell I ((b3, .cells #[.string b_1_0, .int .u16 b_1_1, .int .u32 b_1_2, .string b_1_3] 32 (0, 0)) :: ((b2, .cells #[.string a_0_0, .int .u16 a_0_1, .int .u32 a_0_2, .string a_0_3] 32 (0, 0)) :: S)) ⟨b2, 1, none⟩ (.int .u16 x28) ∧
      ∃ x30, Cell I ((b3, .cells #[.string b_1_0, .int .u16 b_1_1, .int .u32 b_1_2, .string b_1_3] 32 (0, 0)) :: ((b2, .cells #[.string a_0_0, .int .u16 a_0_1, .int .u32 a_0_2, .string a_0_3] 32 (0, 0)) :: S)) ⟨b3, 1, none⟩ (.int .u16 x30) ∧
      bcase (x28 != x30)
        (∃ x33, Cell I ((b3, .cells #[.string b_1_0, .int .u16 b_1_1, .int .u32 b_1_2, .string b_1_3] 32 (0, 0)) :: ((b2, .cells #[.string a_0_0, .int .u16 a_0_1, .int .u32 a_0_2, .string a_0_3] 32 (0, 0)) :: S)) ⟨b2, 1, none⟩ (.int .u16 x33) ∧
        ∃ x35, Cell I ((b3, .cells #[.string b_1_0, .int .u16 b_1_1, .int .u32 b_1_2, .string b_1_3] 32 (0, 0)) :: ((b2, .cells #[.string a_0_0, .int .u16 a_0_1, .int .u32 a_0_2, .string a_0_3] 32 (0, 0)) :: S)) ⟨b3, 1, none⟩ (.int .u16 x35) ∧
        bolterlaw08_compare_b1 R (decide (x33 < x35)) I ((b3, .cells #[.string b_1_0, .int .u16 b_1_1, .int .u32 b_1_2, .string b_1_3] 32 (0, 0)) :: ((b2, .cells #[.string a_0_0, .int .u16 a_0_1, .int .u32 a_0_2, .string a_0_3] 32 (0, 0)) :: S)))
        (∃ x39, Cell I ((b3, .cells #[.string b_1_0, .int .u16 b_1_1, .int .u32 b_1_2, .string b_1_3] 32 (0, 0)) :: ((b2, .cells #[.string a_0_0, .int .u16 a_0_1, .int .u32 a_0_2, .string a_0_3] 32 (0, 0)) :: S)) ⟨b2, 3, none⟩ (.string x39) ∧
        ∃ x41, Cell I ((b3, .cells #[.string b_1_0, .int .u16 b_1_1, .int .u32 b_1_2, .string b_1_3] 32 (0, 0)) :: ((b2, .cells #[.string a_0_0, .int .u16 a_0_1, .int .u32 a_0_2, .string a_0_3] 32 (0, 0)) :: S)) ⟨b3, 3, none⟩ (.string x41) ∧
        bcase (!(x39.toList == x41.toList))
          (∃ x44, Cell I ((b3, .cells #[.string b_1_0, .int .u16 b_1_1, .int .u32 b_1_2, .string b_1_3] 32 (0, 0)) :: ((b2, .cells #[.string a_0_0, .int .u16 a_0_1, .int .u32 a_0_2, .string a_0_3] 32 (0, 0)) :: S)) ⟨b2, 3, none⟩ (.string x44) ∧
          ∃ x46, Cell I ((b3, .cells #[.string b_1_0, .int .u16 b_1_1, .int .u32 b_1_2, .string b_1_3] 32 (0, 0)) :: ((b2, .cells #[.string a_0_0, .int .u16 a_0_1, .int .u32 a_0_2, .string a_0_3] 32 (0, 0)) :: S)) ⟨b3, 3, none⟩ (.string x46) ∧
          bolterlaw08_compare_b1 R (Op.bytesLess x44.toList x46.toList) I ((b3, .cells #[.string b_1_0, .int .u16 b_1_1, .int .u32 b_1_2, .string b_1_3] 32 (0, 0)) :: ((b2, .cells #[.string a_0_0, .int .u16 a_0_1, .int .u32 a_0_2, .string a_0_3] 32 (0, 0)) :: S)))
          (∃ x12, Cell I ((b3, .cells #[.string b_1_0, .int .u16 b_1_1, .int .u32 b_1_2, .string b_1_3] 32 (0, 0)) :: ((b2, .cells #[.string a_0_0, .int .u16 a_0_1, .int .u32 a_0_2, .string a_0_3] 32 (0, 0)) :: S)) ⟨b2, 2, none⟩ (.int .u32 x12) ∧
          ∃ x14, Cell I ((b3, .cells #[.string b_1_0, .int .u16 b_1_1, .int .u32 b_1_2, .string b_1_3] 32 (0, 0)) :: ((b2, .cells #[.string a_0_0, .int .u16 a_0_1, .int .u32 a_0_2, .string a_0_3] 32 (0, 0)) :: S)) ⟨b3, 2, none⟩ (.int .u32 x14) ∧
          bolterlaw08_compare_b1 R (decide (x12 < x14)) I ((b3, .cells #[.string b_1_0, .int .u16 b_1_1, .int .u32 b_1_2, .string b_1_3] 32 (0, 0)) :: ((b2, .cells #[.string a_0_0, .int .u16 a_0_1, .int .u32 a_0_2, .string a_0_3] 32 (0, 0)) :: S))))))
theorem bolterlaw08_compare_fn (R : Value → IMem → SH → Prop) (a_0_0 : ByteArray) (a_0_1 : Int) (a_0_2 : Int) (a_0_3 : ByteArray) (b_1_0 : ByteArray) (b_1_1 : Int) (b_1_2 : Int) (b_1_3 : ByteArray) (I : IMem) (S : SH) (h : bolterlaw08_compare R a_0_0 a_0_1 a_0_2 a_0_3 b_1_0 b_1_1 b_1_2 b_1_3 I S) :
    Runs Tryz.prog 51 #[.agg #[.string a_0_0, .int .u16 a_0_1, .int .u32 a_0_2, .string a_0_3], .agg #[.string b_1_0, .int .u16 b_1_1, .int .u32 b_1_2, .string b_1_3]] I S R := by
  refine Runs.of_wp (args := [.agg #[.string a_0_0, .int .u16 a_0_1, .int .u32 a_0_2, .string a_0_3], .agg #[.string b_1_0, .int .u16 b_1_1, .int .u32 b_1_2, .string b_1_3]]) (c := bolterlaw08_compare_code) Tryz.func51 (by kernel_rfl) (by kernel_rfl) ?_
  refine WP.cut 3 (fun l I S => asB (l 5) fun less_5 => bolterlaw08_compare_b1 R less_5 I S) (cast (by kernel_rfl) h) ?_
  clear h
  intro l I S _ h
  obtain ⟨less_5, e5, h⟩ := asB_e h
  rw [upd_eta e5]
  exact Pre.sound _ _ _ _ _ (cast (by kernel_rfl) h)
/-! ### zone_Size: function 109, bolter/zone.Size -/
noncomputable def zone_Size_code : Code := (Tryz.f109.body).getD .skip
def zone_Size_b4 (R : Value → IMem → SH → Prop) (n_3 : Int) (I : IMem) (S : SH) : Prop :=
  R (.int .i64 n_3) I S
def zone_Size_l3 (again3 : Int → Option Addr → Nat → Nat → Int → Int → IMem → SH → Prop) (R : Value → IMem → SH → Prop) (n_3 : Int) (x6 : Option Addr) (x6n : Nat) (x6c : Nat) (x7 : Int) (x8 : Int) (I : IMem) (S : SH) : Prop :=
  bcase (decide (x8 < x7))
    (ptrP x6 fun x10 => (0 : Int) ≤ x8 ∧ x8 < (x6n : Int) ∧
    ∃ x11_0, Cell I S (x10.add (x8.toNat * 4)) (.string x11_0) ∧
    ∃ x11_1, Cell I S ((x10.add (x8.toNat * 4)).add 1) (.int .u16 x11_1) ∧
    ∃ x11_2, Cell I S ((x10.add (x8.toNat * 4)).add 2) (.int .u32 x11_2) ∧
    ∃ x11_3, Cell I S ((x10.add (x8.toNat * 4)).add 3) (.string x11_3) ∧
    ∀ b5 : Nat,
    StP ((b5, .cells #[.string ⟨#[]⟩, .int .u16 0, .int .u32 0, .string ⟨#[]⟩] 32 (0, 0)) :: S) ⟨b5, 0, none⟩ [.string x11_0, .int .u16 x11_1, .int .u32 x11_2, .string x11_3] fun S1 =>
    ∃ x14, Cell I S1 ⟨b5, 0, none⟩ (.string x14) ∧
    ∃ x18, Cell I S1 ⟨b5, 3, none⟩ (.string x18) ∧
    again3 (IntKind.wrap .i64 (n_3 + (IntKind.wrap .i64 ((IntKind.wrap .i64 ((10 : Int) + (x14.size : Int))) + (x18.size : Int))))) x6 x6n x6c x7 (IntKind.wrap .i64 (x8 + (1 : Int))) I S1)
    (zone_Size_b4 R n_3 I S)
def zone_Size_b2 (R : Value → IMem → SH → Prop) (n_3 : Int) (x6 : Option Addr) (x6n : Nat) (x6c : Nat) (x7 : Int) (x8 : Int) (I : IMem) (S : SH) : Prop :=
  ∃ (Inv : Nat → Int → Option Addr → Nat → Nat → Int → Int → IMem → SH → Prop) (m : Nat), Inv m n_3 x6 x6n x6c x7 x8 I S ∧
    ∀ (m : Nat) (n_3 : Int) (x6 : Option Addr) (x6n : Nat) (x6c : Nat) (x7 : Int) (x8 : Int) (J : IMem) (T : SH), I.le J → Inv m n_3 x6 x6n x6c x7 x8 J T →
      zone_Size_l3 (fun n_3 x6 x6n x6c x7 x8 I S => ∃ m', m' < m ∧ Inv m' n_3 x6 x6n x6c x7 x8 I S) R n_3 x6 x6n x6c x7 x8 J T
def zone_Size_b1 (R : Value → IMem → SH → Prop) (z_0 : Option Addr) (z_0n : Nat) (z_0c : Nat) (n_3 : Int) (I : IMem) (S : SH) : Prop :=
  zone_Size_b2 R n_3 z_0 z_0n z_0c (z_0n : Int) 0 I S
def zone_Size (R : Value → IMem → SH → Prop) (z_0 : Option Addr) (z_0n : Nat) (z_0c : Nat) (I : IMem) (S : SH) : Prop :=
  zone_Size_b1 R z_0 z_0n z_0c 0 I S
theorem zone_Size_fn (R : Value → IMem → SH → Prop) (z_0 : Option Addr) (z_0n : Nat) (z_0c : Nat) (I : IMem) (S : SH) (h : zone_Size R z_0 z_0n z_0c I S) :
    Runs Tryz.prog 109 #[.slice z_0 z_0n z_0c] I S R := by
  refine Runs.of_wp (args := [.slice z_0 z_0n z_0c]) (c := zone_Size_code) Tryz.func109 (by kernel_rfl) (by kernel_rfl) ?_
  refine WP.cut 2 (fun l I S => asSl (l 0) fun z_0 z_0n z_0c => asI .i64 (l 3) fun n_3 => zone_Size_b1 R z_0 z_0n z_0c n_3 I S) (cast (by kernel_rfl) h) ?_
  clear h
  intro l I S _ h
  obtain ⟨z_0, z_0n, z_0c, e0, h⟩ := asSl_e h
  obtain ⟨n_3, e3, h⟩ := asI_e h
  rw [upd_eta e0, upd_eta e3]
  refine WP.seqY (by kernel_rfl) (fun l I S => asI .i64 (l 3) fun n_3 => zone_Size_b4 R n_3 I S) ?_ ?_
  ·
    refine WP.cut 1 (fun l I S => asI .i64 (l 3) fun n_3 => asSl (l 6) fun x6 x6n x6c => asI .i64 (l 7) fun x7 => asI .i64 (l 8) fun x8 => zone_Size_b2 R n_3 x6 x6n x6c x7 x8 I S) (cast (by kernel_rfl) h) ?_
    clear h
    intro l I S _ h
    obtain ⟨n_3, e3, h⟩ := asI_e h
    obtain ⟨x6, x6n, x6c, e6, h⟩ := asSl_e h
    obtain ⟨x7, e7, h⟩ := asI_e h
    obtain ⟨x8, e8, h⟩ := asI_e h
    rw [upd_eta e3, upd_eta e6, upd_eta e7, upd_eta e8]
    refine WP.block' (by kernel_rfl) ?_
    obtain ⟨Inv_again3, m_again3, h0, hr⟩ := h
    refine WP.loop' (by kernel_rfl) (fun m_again3 => fun l I S => asI .i64 (l 3) fun n_3 => asSl (l 6) fun x6 x6n x6c => asI .i64 (l 7) fun x7 => asI .i64 (l 8) fun x8 => Inv_again3 m_again3 n_3 x6 x6n x6c x7 x8 I S) m_again3 (cast (by kernel_rfl) h0) ?_
    clear h0
    intro m_again3 l I S hle h
    obtain ⟨n_3, e3, h⟩ := asI_e h
    obtain ⟨x6, x6n, x6c, e6, h⟩ := asSl_e h
    obtain ⟨x7, e7, h⟩ := asI_e h
    obtain ⟨x8, e8, h⟩ := asI_e h
    rw [upd_eta e3, upd_eta e6, upd_eta e7, upd_eta e8]
    have h := hr m_again3 n_3 x6 x6n x6c x7 x8 I S hle h
    clear hr hle
    exact Pre.sound _ _ _ _ _ (cast (by kernel_rfl) h)
  · clear h
    intro l I S _ h
    obtain ⟨n_3, e3, h⟩ := asI_e h
    rw [upd_eta e3]
    exact Pre.sound _ _ _ _ _ (cast (by kernel_rfl) h)
/-! ### zone_Fits: function 85, bolter/zone.Fits -/
noncomputable def zone_Fits_code : Code := (Tryz.f85.body).getD .skip
def zone_Fits_b1 (R : Value → IMem → SH → Prop) (x2 : Bool) (I : IMem) (S : SH) : Prop :=
  R (.bool x2) I S
def zone_Fits (R : Value → IMem → SH → Prop) (z_0 : Option Addr) (z_0n : Nat) (z_0c : Nat) (I : IMem) (S : SH) : Prop :=
  bcase (decide ((z_0n : Int) ≤ (256 : Int)))
    (Runs Tryz.prog 109 #[.slice z_0 z_0n z_0c] I S fun v I1 S1 => ∃ x8, v = .int .i64 x8 ∧
    zone_Fits_b1 R (decide (x8 ≤ (16384 : Int))) I1 S1)
    (zone_Fits_b1 R false I S)
theorem zone_Fits_fn (R : Value → IMem → SH → Prop) (z_0 : Option Addr) (z_0n : Nat) (z_0c : Nat) (I : IMem) (S : SH) (h : zone_Fits R z_0 z_0n z_0c I S) :
    Runs Tryz.prog 85 #[.slice z_0 z_0n z_0c] I S R := by
  refine Runs.of_wp (args := [.slice z_0 z_0n z_0c]) (c := zone_Fits_code) Tryz.func85 (by kernel_rfl) (by kernel_rfl) ?_
  refine WP.cut 2 (fun l I S => asB (l 2) fun x2 => zone_Fits_b1 R x2 I S) (cast (by kernel_rfl) h) ?_
  clear h
  intro l I S _ h
  obtain ⟨x2, e2, h⟩ := asB_e h
  rw [upd_eta e2]
  exact Pre.sound _ _ _ _ _ (cast (by kernel_rfl) h)
/-! ### zone_Soa: function 40, bolter/zone.Soa -/
noncomputable def zone_Soa_code : Code := (Tryz.f40.body).getD .skip
def zone_Soa_b4 (R : Value → IMem → SH → Prop) (x2 : Addr) (I : IMem) (S : SH) : Prop :=
  StP S x2 [.string ⟨#[]⟩, .int .u16 0, .int .u32 0, .string ⟨#[]⟩] fun S1 =>
  ∃ r2_0, Cell I S1 x2 (.string r2_0) ∧
  ∃ r2_1, Cell I S1 (x2.add 1) (.int .u16 r2_1) ∧
  ∃ r2_2, Cell I S1 (x2.add 2) (.int .u32 r2_2) ∧
  ∃ r2_3, Cell I S1 (x2.add 3) (.string r2_3) ∧
  R (.tuple #[.agg #[.string r2_0, .int .u16 r2_1, .int .u32 r2_2, .string r2_3], .bool false]) I S1
def zone_Soa_l3 (again3 : Addr → Option Addr → Nat → Nat → Int → Int → IMem → SH → Prop) (R : Value → IMem → SH → Prop) (x2 : Addr) (x6 : Option Addr) (x6n : Nat) (x6c : Nat) (x7 : Int) (x8 : Int) (I : IMem) (S : SH) : Prop :=
  bcase (decide (x8 < x7))
    (ptrP x6 fun x10 => (0 : Int) ≤ x8 ∧ x8 < (x6n : Int) ∧
    ∃ x11_0, Cell I S (x10.add (x8.toNat * 4)) (.string x11_0) ∧
    ∃ x11_1, Cell I S ((x10.add (x8.toNat * 4)).add 1) (.int .u16 x11_1) ∧
    ∃ x11_2, Cell I S ((x10.add (x8.toNat * 4)).add 2) (.int .u32 x11_2) ∧
    ∃ x11_3, Cell I S ((x10.add (x8.toNat * 4)).add 3) (.string x11_3) ∧
    ∀ b5 : Nat,
    StP ((b5, .cells #[.string ⟨#[]⟩, .int .u16 0, .int .u32 0, .string ⟨#[]⟩] 32 (0, 0)) :: S) ⟨b5, 0, none⟩ [.string x11_0, .int .u16 x11_1, .int .u32 x11_2, .string x11_3] fun S1 =>
    ∃ x13, Cell I S1 ⟨b5, 1, none⟩ (.int .u16 x13) ∧
    bcase (x13 == (6 : Int))
      (∃ x15_0, Cell I S1 ⟨b5, 0, none⟩ (.string x15_0) ∧
      ∃ x15_1, Cell I S1 ⟨b5, 1, none⟩ (.int .u16 x15_1) ∧
      ∃ x15_2, Cell I S1 ⟨b5, 2, none⟩ (.int .u32 x15_2) ∧
      ∃ x15_3, Cell I S1 ⟨b5, 3, none⟩ (.string x15_3) ∧
      StP S1 x2 [.string x15_0, .int .u16 x15_1, .int .u32 x15_2, .string x15_3] fun S1' =>
      ∃ r2_0, Cell I S1' x2 (.string r2_0) ∧
      ∃ r2_1, Cell I S1' (x2.add 1) (.int .u16 r2_1) ∧
      ∃ r2_2, Cell I S1' (x2.add 2) (.int .u32 r2_2) ∧
      ∃ r2_3, Cell I S1' (x2.add 3) (.string r2_3) ∧
      R (.tuple #[.agg #[.string r2_0, .int .u16 r2_1, .int .u32 r2_2, .string r2_3], .bool true]) I S1')
      (again3 x2 x6 x6n x6c x7 (IntKind.wrap .i64 (x8 + (1 : Int))) I S1))
    (zone_Soa_b4 R x2 I S)
def zone_Soa_b2 (R : Value → IMem → SH → Prop) (x2 : Addr) (x6 : Option Addr) (x6n : Nat) (x6c : Nat) (x7 : Int) (x8 : Int) (I : IMem) (S : SH) : Prop :=
  ∃ (Inv : Nat → Addr → Option Addr → Nat → Nat → Int → Int → IMem → SH → Prop) (m : Nat), Inv m x2 x6 x6n x6c x7 x8 I S ∧
    ∀ (m : Nat) (x2 : Addr) (x6 : Option Addr) (x6n : Nat) (x6c : Nat) (x7 : Int) (x8 : Int) (J : IMem) (T : SH), I.le J → Inv m x2 x6 x6n x6c x7 x8 J T →
      zone_Soa_l3 (fun x2 x6 x6n x6c x7 x8 I S => ∃ m', m' < m ∧ Inv m' x2 x6 x6n x6c x7 x8 I S) R x2 x6 x6n x6c x7 x8 J T
def zone_Soa_b1 (R : Value → IMem → SH → Prop) (z_0 : Option Addr) (z_0n : Nat) (z_0c : Nat) (x2 : Addr) (I : IMem) (S : SH) : Prop :=
  zone_Soa_b2 R x2 z_0 z_0n z_0c (z_0n : Int) 0 I S
def zone_Soa (R : Value → IMem → SH → Prop) (z_0 : Option Addr) (z_0n : Nat) (z_0c : Nat) (I : IMem) (S : SH) : Prop :=
  ∀ b2 : Nat,
  zone_Soa_b1 R z_0 z_0n z_0c ⟨b2, 0, none⟩ I ((b2, .cells #[.string ⟨#[]⟩, .int .u16 0, .int .u32 0, .string ⟨#[]⟩] 32 (0, 0)) :: S)
theorem zone_Soa_fn (R : Value → IMem → SH → Prop) (z_0 : Option Addr) (z_0n : Nat) (z_0c : Nat) (I : IMem) (S : SH) (h : zone_Soa R z_0 z_0n z_0c I S) :
    Runs Tryz.prog 40 #[.slice z_0 z_0n z_0c] I S R := by
  refine Runs.of_wp (args := [.slice z_0 z_0n z_0c]) (c := zone_Soa_code) Tryz.func40 (by kernel_rfl) (by kernel_rfl) ?_
  refine WP.cut 1 (fun l I S => asSl (l 0) fun z_0 z_0n z_0c => asAdr (l 2) fun x2 => zone_Soa_b1 R z_0 z_0n z_0c x2 I S) (cast (by kernel_rfl) h) ?_
  clear h
  intro l I S _ h
  obtain ⟨z_0, z_0n, z_0c, e0, h⟩ := asSl_e h
  obtain ⟨x2, e2, h⟩ := asAdr_e h
  rw [upd_eta e0, upd_eta e2]
  refine WP.seqY (by kernel_rfl) (fun l I S => asAdr (l 2) fun x2 => zone_Soa_b4 R x2 I S) ?_ ?_
  ·
    refine WP.cut 1 (fun l I S => asAdr (l 2) fun x2 => asSl (l 6) fun x6 x6n x6c => asI .i64 (l 7) fun x7 => asI .i64 (l 8) fun x8 => zone_Soa_b2 R x2 x6 x6n x6c x7 x8 I S) (cast (by kernel_rfl) h) ?_
    clear h
    intro l I S _ h
    obtain ⟨x2, e2, h⟩ := asAdr_e h
    obtain ⟨x6, x6n, x6c, e6, h⟩ := asSl_e h
    obtain ⟨x7, e7, h⟩ := asI_e h
    obtain ⟨x8, e8, h⟩ := asI_e h
    rw [upd_eta e2, upd_eta e6, upd_eta e7, upd_eta e8]
    refine WP.block' (by kernel_rfl) ?_
    obtain ⟨Inv_again3, m_again3, h0, hr⟩ := h
    refine WP.loop' (by kernel_rfl) (fun m_again3 => fun l I S => asAdr (l 2) fun x2 => asSl (l 6) fun x6 x6n x6c => asI .i64 (l 7) fun x7 => asI .i64 (l 8) fun x8 => Inv_again3 m_again3 x2 x6 x6n x6c x7 x8 I S) m_again3 (cast (by kernel_rfl) h0) ?_
    clear h0
    intro m_again3 l I S hle h
    obtain ⟨x2, e2, h⟩ := asAdr_e h
    obtain ⟨x6, x6n, x6c, e6, h⟩ := asSl_e h
    obtain ⟨x7, e7, h⟩ := asI_e h
    obtain ⟨x8, e8, h⟩ := asI_e h
    rw [upd_eta e2, upd_eta e6, upd_eta e7, upd_eta e8]
    have h := hr m_again3 x2 x6 x6n x6c x7 x8 I S hle h
    clear hr hle
    exact Pre.sound _ _ _ _ _ (cast (by kernel_rfl) h)
  · clear h
    intro l I S _ h
    obtain ⟨x2, e2, h⟩ := asAdr_e h
    rw [upd_eta e2]
    exact Pre.sound _ _ _ _ _ (cast (by kernel_rfl) h)
/-! ### bolterlaw08_Sorted: function 35, bolter/bolterlaw08.Sorted -/
noncomputable def bolterlaw08_Sorted_code : Code := (Tryz.f35.body).getD .skip
def bolterlaw08_Sorted_b8 (again3 : Option Addr → Nat → Nat → Option Addr → Nat → Nat → Int → Int → IMem → SH → Prop) (again6 : Option Addr → Nat → Nat → Addr → Int → Option Addr → Nat → Nat → Int → Int → IMem → SH → Prop) (R : Value → IMem → SH → Prop) (out_3 : Option Addr) (out_3n : Nat) (out_3c : Nat) (r_5 : Addr) (at_6 : Int) (x9 : Option Addr) (x9n : Nat) (x9c : Nat) (x10 : Int) (x11 : Int) (I : IMem) (S : SH) : Prop :=
  again6 out_3 out_3n out_3c r_5 (IntKind.wrap .i64 (at_6 + (1 : Int))) x9 x9n x9c x10 x11 I S
def bolterlaw08_Sorted_b13 (again3 : Option Addr → Nat → Nat → Option Addr → Nat → Nat → Int → Int → IMem → SH → Prop) (R : Value → IMem → SH → Prop) (out_3 : Option Addr) (out_3n : Nat) (out_3c : Nat) (x9 : Option Addr) (x9n : Nat) (x9c : Nat) (x10 : Int) (x11 : Int) (I : IMem) (S : SH) : Prop :=
  again3 out_3 out_3n out_3c x9 x9n x9c x10 (IntKind.wrap .i64 (x11 + (1 : Int))) I S
def bolterlaw08_Sorted_b12 (again3 : Option Addr → Nat → Nat → Option Addr → Nat → Nat → Int → Int → IMem → SH → Prop) (R : Value → IMem → SH → Prop) (out_3 : Option Addr) (out_3n : Nat) (out_3c : Nat) (r_5 : Addr) (at_6 : Int) (next_8 : Option Addr) (next_8n : Nat) (next_8c : Nat) (x9 : Option Addr) (x9n : Nat) (x9c : Nat) (x10 : Int) (x11 : Int) (I : IMem) (S : SH) : Prop :=
  ∃ x49_0, Cell I S r_5 (.string x49_0) ∧
  ∃ x49_1, Cell I S (r_5.add 1) (.int .u16 x49_1) ∧
  ∃ x49_2, Cell I S (r_5.add 2) (.int .u32 x49_2) ∧
  ∃ x49_3, Cell I S (r_5.add 3) (.string x49_3) ∧
  (0 : Int) ≤ at_6 ∧ at_6 ≤ ((out_3n : Nat) : Int) ∧
  ∀ b50 : Nat,
  AppG 32 4 40 [.string ⟨#[]⟩, .int .u16 0, .int .u32 0, .string ⟨#[]⟩] (some (.slice 32)) I ((b50, .cells #[.string x49_0, .int .u16 x49_1, .int .u32 x49_2, .string x49_3] 32 (0, 0)) :: S) (.slice next_8 next_8n next_8c) (.slice (some ⟨b50, 0, none⟩) 1 1) fun x51 x51n x51c S1 =>
  AppG 32 4 40 [.string ⟨#[]⟩, .int .u16 0, .int .u32 0, .string ⟨#[]⟩] (some (.slice 32)) I S1 (.slice x51 x51n x51c) (.slice (slA out_3 out_3c at_6.toNat 4) (out_3n - at_6.toNat) (out_3c - at_6.toNat)) fun x55 x55n x55c S1' =>
  bolterlaw08_Sorted_b13 again3 R x55 x55n x55c x9 x9n x9c x10 x11 I S1'
def bolterlaw08_Sorted_b11 (again3 : Option Addr → Nat → Nat → Option Addr → Nat → Nat → Int → Int → IMem → SH → Prop) (R : Value → IMem → SH → Prop) (out_3 : Option Addr) (out_3n : Nat) (out_3c : Nat) (r_5 : Addr) (at_6 : Int) (x9 : Option Addr) (x9n : Nat) (x9c : Nat) (x10 : Int) (x11 : Int) (x43 : Bool) (I : IMem) (S : SH) : Prop :=
  bcase x43
    ((0 : Int) ≤ at_6 ∧ at_6 ≤ ((out_3c : Nat) : Int) ∧
    AppG 32 4 40 [.string ⟨#[]⟩, .int .u16 0, .int .u32 0, .string ⟨#[]⟩] (some (.slice 32)) I S (.slice none 0 0) (.slice (slA out_3 out_3c 0 4) (at_6.toNat - 0) (out_3c - 0)) fun x47 x47n x47c S1 =>
    bolterlaw08_Sorted_b12 again3 R out_3 out_3n out_3c r_5 at_6 x47 x47n x47c x9 x9n x9c x10 x11 I S1)
    (bolterlaw08_Sorted_b13 again3 R out_3 out_3n out_3c x9 x9n x9c x10 x11 I S)
def bolterlaw08_Sorted_b10 (again3 : Option Addr → Nat → Nat → Option Addr → Nat → Nat → Int → Int → IMem → SH → Prop) (R : Value → IMem → SH → Prop) (out_3 : Option Addr) (out_3n : Nat) (out_3c : Nat) (r_5 : Addr) (at_6 : Int) (is_7 : Bool) (x9 : Option Addr) (x9n : Nat) (x9c : Nat) (x10 : Int) (x11 : Int) (I : IMem) (S : SH) : Prop :=
  bolterlaw08_Sorted_b11 again3 R out_3 out_3n out_3c r_5 at_6 x9 x9n x9c x10 x11 (!is_7) I S
def bolterlaw08_Sorted_b9 (again3 : Option Addr → Nat → Nat → Option Addr → Nat → Nat → Int → Int → IMem → SH → Prop) (R : Value → IMem → SH → Prop) (out_3 : Option Addr) (out_3n : Nat) (out_3c : Nat) (r_5 : Addr) (at_6 : Int) (x9 : Option Addr) (x9n : Nat) (x9c : Nat) (x10 : Int) (x11 : Int) (I : IMem) (S : SH) : Prop :=
  bcase (decide (at_6 < (out_3n : Int)))
    (ptrP out_3 fun x37 => (0 : Int) ≤ at_6 ∧ at_6 < (out_3n : Int) ∧
    ∃ x38_0, Cell I S (x37.add (at_6.toNat * 4)) (.string x38_0) ∧
    ∃ x38_1, Cell I S ((x37.add (at_6.toNat * 4)).add 1) (.int .u16 x38_1) ∧
    ∃ x38_2, Cell I S ((x37.add (at_6.toNat * 4)).add 2) (.int .u32 x38_2) ∧
    ∃ x38_3, Cell I S ((x37.add (at_6.toNat * 4)).add 3) (.string x38_3) ∧
    ∃ x39_0, Cell I S r_5 (.string x39_0) ∧
    ∃ x39_1, Cell I S (r_5.add 1) (.int .u16 x39_1) ∧
    ∃ x39_2, Cell I S (r_5.add 2) (.int .u32 x39_2) ∧
    ∃ x39_3, Cell I S (r_5.add 3) (.string x39_3) ∧
    bolterlaw08_Sorted_b10 again3 R out_3 out_3n out_3c r_5 at_6 (((x38_0 : ByteArray) == (x39_0 : ByteArray)) && (((x38_1 : Int) == (x39_1 : Int)) && (((x38_2 : Int) == (x39_2 : Int)) && (((x38_3 : ByteArray) == (x39_3 : ByteArray)) && true)))) x9 x9n x9c x10 x11 I S)
    (bolterlaw08_Sorted_b10 again3 R out_3 out_3n out_3c r_5 at_6 false x9 x9n x9c x10 x11 I S)
def bolterlaw08_Sorted_b7 (again3 : Option Addr → Nat → Nat → Option Addr → Nat → Nat → Int → Int → IMem → SH → Prop) (again6 : Option Addr → Nat → Nat → Addr → Int → Option Addr → Nat → Nat → Int → Int → IMem → SH → Prop) (R : Value → IMem → SH → Prop) (out_3 : Option Addr) (out_3n : Nat) (out_3c : Nat) (r_5 : Addr) (at_6 : Int) (x9 : Option Addr) (x9n : Nat) (x9c : Nat) (x10 : Int) (x11 : Int) (x27 : Bool) (I : IMem) (S : SH) : Prop :=
  bcase x27
    (bolterlaw08_Sorted_b8 again3 again6 R out_3 out_3n out_3c r_5 at_6 x9 x9n x9c x10 x11 I S)
    (bolterlaw08_Sorted_b9 again3 R out_3 out_3n out_3c r_5 at_6 x9 x9n x9c x10 x11 I S)
def bolterlaw08_Sorted_l6 (again3 : Option Addr → Nat → Nat → Option Addr → Nat → Nat → Int → Int → IMem → SH → Prop) (again6 : Option Addr → Nat → Nat → Addr → Int → Option Addr → Nat → Nat → Int → Int → IMem → SH → Prop) (R : Value → IMem → SH → Prop) (out_3 : Option Addr) (out_3n : Nat) (out_3c : Nat) (r_5 : Addr) (at_6 : Int) (x9 : Option Addr) (x9n : Nat) (x9c : Nat) (x10 : Int) (x11 : Int) (I : IMem) (S : SH) : Prop :=
  bcase (decide (at_6 < (out_3n : Int)))
    (ptrP out_3 fun x22 => (0 : Int) ≤ at_6 ∧ at_6 < (out_3n : Int) ∧
    ∃ x23_0, Cell I S (x22.add (at_6.toNat * 4)) (.string x23_0) ∧
    ∃ x23_1, Cell I S ((x22.add (at_6.toNat * 4)).add 1) (.int .u16 x23_1) ∧
    ∃ x23_2, Cell I S ((x22.add (at_6.toNat * 4)).add 2) (.int .u32 x23_2) ∧
    ∃ x23_3, Cell I S ((x22.add (at_6.toNat * 4)).add 3) (.string x23_3) ∧
    ∃ x24_0, Cell I S r_5 (.string x24_0) ∧
    ∃ x24_1, Cell I S (r_5.add 1) (.int .u16 x24_1) ∧
    ∃ x24_2, Cell I S (r_5.add 2) (.int .u32 x24_2) ∧
    ∃ x24_3, Cell I S (r_5.add 3) (.string x24_3) ∧
    ∃ x25, Runs Tryz.prog 51 #[.agg #[.string x23_0, .int .u16 x23_1, .int .u32 x23_2, .string x23_3], .agg #[.string x24_0, .int .u16 x24_1, .int .u32 x24_2, .string x24_3]] I S (fun v' _ T => v' = .int .i64 x25 ∧ T = S) ∧
    bolterlaw08_Sorted_b7 again3 again6 R out_3 out_3n out_3c r_5 at_6 x9 x9n x9c x10 x11 (decide (x25 < (0 : Int))) I S)
    (bolterlaw08_Sorted_b7 again3 again6 R out_3 out_3n out_3c r_5 at_6 x9 x9n x9c x10 x11 false I S)
def bolterlaw08_Sorted_b5 (again3 : Option Addr → Nat → Nat → Option Addr → Nat → Nat → Int → Int → IMem → SH → Prop) (R : Value → IMem → SH → Prop) (out_3 : Option Addr) (out_3n : Nat) (out_3c : Nat) (r_5 : Addr) (at_6 : Int) (x9 : Option Addr) (x9n : Nat) (x9c : Nat) (x10 : Int) (x11 : Int) (I : IMem) (S : SH) : Prop :=
  ∃ (Inv : Nat → Option Addr → Nat → Nat → Addr → Int → Option Addr → Nat → Nat → Int → Int → IMem → SH → Prop) (m : Nat), Inv m out_3 out_3n out_3c r_5 at_6 x9 x9n x9c x10 x11 I S ∧
    ∀ (m : Nat) (out_3 : Option Addr) (out_3n : Nat) (out_3c : Nat) (r_5 : Addr) (at_6 : Int) (x9 : Option Addr) (x9n : Nat) (x9c : Nat) (x10 : Int) (x11 : Int) (J : IMem) (T : SH), I.le J → Inv m out_3 out_3n out_3c r_5 at_6 x9 x9n x9c x10 x11 J T →
      bolterlaw08_Sorted_l6 again3 (fun out_3 out_3n out_3c r_5 at_6 x9 x9n x9c x10 x11 I S => ∃ m', m' < m ∧ Inv m' out_3 out_3n out_3c r_5 at_6 x9 x9n x9c x10 x11 I S) R out_3 out_3n out_3c r_5 at_6 x9 x9n x9c x10 x11 J T
def bolterlaw08_Sorted_b4 (again3 : Option Addr → Nat → Nat → Option Addr → Nat → Nat → Int → Int → IMem → SH → Prop) (R : Value → IMem → SH → Prop) (out_3 : Option Addr) (out_3n : Nat) (out_3c : Nat) (x9 : Option Addr) (x9n : Nat) (x9c : Nat) (x10 : Int) (x11 : Int) (I : IMem) (S : SH) : Prop :=
  ptrP x9 fun x13 => (0 : Int) ≤ x11 ∧ x11 < (x9n : Int) ∧
  ∃ x14_0, Cell I S (x13.add (x11.toNat * 4)) (.string x14_0) ∧
  ∃ x14_1, Cell I S ((x13.add (x11.toNat * 4)).add 1) (.int .u16 x14_1) ∧
  ∃ x14_2, Cell I S ((x13.add (x11.toNat * 4)).add 2) (.int .u32 x14_2) ∧
  ∃ x14_3, Cell I S ((x13.add (x11.toNat * 4)).add 3) (.string x14_3) ∧
  ∀ b5 : Nat,
  StP ((b5, .cells #[.string ⟨#[]⟩, .int .u16 0, .int .u32 0, .string ⟨#[]⟩] 32 (0, 0)) :: S) ⟨b5, 0, none⟩ [.string x14_0, .int .u16 x14_1, .int .u32 x14_2, .string x14_3] fun S1 =>
  bolterlaw08_Sorted_b5 again3 R out_3 out_3n out_3c ⟨b5, 0, none⟩ 0 x9 x9n x9c x10 x11 I S1
def bolterlaw08_Sorted_b14 (R : Value → IMem → SH → Prop) (out_3 : Option Addr) (out_3n : Nat) (out_3c : Nat) (I : IMem) (S : SH) : Prop :=
  R (.slice out_3 out_3n out_3c) I S
def bolterlaw08_Sorted_l3 (again3 : Option Addr → Nat → Nat → Option Addr → Nat → Nat → Int → Int → IMem → SH → Prop) (R : Value → IMem → SH → Prop) (out_3 : Option Addr) (out_3n : Nat) (out_3c : Nat) (x9 : Option Addr) (x9n : Nat) (x9c : Nat) (x10 : Int) (x11 : Int) (I : IMem) (S : SH) : Prop :=
  bcase (decide (x11 < x10))
    (bolterlaw08_Sorted_b4 again3 R out_3 out_3n out_3c x9 x9n x9c x10 x11 I S)
    (bolterlaw08_Sorted_b14 R out_3 out_3n out_3c I S)
def bolterlaw08_Sorted_b2 (R : Value → IMem → SH → Prop) (out_3 : Option Addr) (out_3n : Nat) (out_3c : Nat) (x9 : Option Addr) (x9n : Nat) (x9c : Nat) (x10 : Int) (x11 : Int) (I : IMem) (S : SH) : Prop :=
  ∃ (Inv : Nat → Option Addr → Nat → Nat → Option Addr → Nat → Nat → Int → Int → IMem → SH → Prop) (m : Nat), Inv m out_3 out_3n out_3c x9 x9n x9c x10 x11 I S ∧
    ∀ (m : Nat) (out_3 : Option Addr) (out_3n : Nat) (out_3c : Nat) (x9 : Option Addr) (x9n : Nat) (x9c : Nat) (x10 : Int) (x11 : Int) (J : IMem) (T : SH), I.le J → Inv m out_3 out_3n out_3c x9 x9n x9c x10 x11 J T →
      bolterlaw08_Sorted_l3 (fun out_3 out_3n out_3c x9 x9n x9c x10 x11 I S => ∃ m', m' < m ∧ Inv m' out_3 out_3n out_3c x9 x9n x9c x10 x11 I S) R out_3 out_3n out_3c x9 x9n x9c x10 x11 J T
def bolterlaw08_Sorted_b1 (R : Value → IMem → SH → Prop) (rs_0 : Option Addr) (rs_0n : Nat) (rs_0c : Nat) (out_3 : Option Addr) (out_3n : Nat) (out_3c : Nat) (I : IMem) (S : SH) : Prop :=
  bolterlaw08_Sorted_b2 R out_3 out_3n out_3c rs_0 rs_0n rs_0c (rs_0n : Int) 0 I S
def bolterlaw08_Sorted (R : Value → IMem → SH → Prop) (rs_0 : Option Addr) (rs_0n : Nat) (rs_0c : Nat) (I : IMem) (S : SH) : Prop :=
  bolterlaw08_Sorted_b1 R rs_0 rs_0n rs_0c none 0 0 I S
theorem bolterlaw08_Sorted_fn (R : Value → IMem → SH → Prop) (rs_0 : Option Addr) (rs_0n : Nat) (rs_0c : Nat) (I : IMem) (S : SH) (h : bolterlaw08_Sorted R rs_0 rs_0n rs_0c I S) :
    Runs Tryz.prog 35 #[.slice rs_0 rs_0n rs_0c] I S R := by
  refine Runs.of_wp (args := [.slice rs_0 rs_0n rs_0c]) (c := bolterlaw08_Sorted_code) Tryz.func35 (by kernel_rfl) (by kernel_rfl) ?_
  refine WP.cut 2 (fun l I S => asSl (l 0) fun rs_0 rs_0n rs_0c => asSl (l 3) fun out_3 out_3n out_3c => bolterlaw08_Sorted_b1 R rs_0 rs_0n rs_0c out_3 out_3n out_3c I S) (cast (by kernel_rfl) h) ?_
  clear h
  intro l I S _ h
  obtain ⟨rs_0, rs_0n, rs_0c, e0, h⟩ := asSl_e h
  obtain ⟨out_3, out_3n, out_3c, e3, h⟩ := asSl_e h
  rw [upd_eta e0, upd_eta e3]
  refine WP.seqY (by kernel_rfl) (fun l I S => asSl (l 3) fun out_3 out_3n out_3c => bolterlaw08_Sorted_b14 R out_3 out_3n out_3c I S) ?_ ?_
  ·
    refine WP.cut 1 (fun l I S => asSl (l 3) fun out_3 out_3n out_3c => asSl (l 9) fun x9 x9n x9c => asI .i64 (l 10) fun x10 => asI .i64 (l 11) fun x11 => bolterlaw08_Sorted_b2 R out_3 out_3n out_3c x9 x9n x9c x10 x11 I S) (cast (by kernel_rfl) h) ?_
    clear h
    intro l I S _ h
    obtain ⟨out_3, out_3n, out_3c, e3, h⟩ := asSl_e h
    obtain ⟨x9, x9n, x9c, e9, h⟩ := asSl_e h
    obtain ⟨x10, e10, h⟩ := asI_e h
    obtain ⟨x11, e11, h⟩ := asI_e h
    rw [upd_eta e3, upd_eta e9, upd_eta e10, upd_eta e11]
    refine WP.block' (by kernel_rfl) ?_
    obtain ⟨Inv_again3, m_again3, h0, hr⟩ := h
    refine WP.loop' (by kernel_rfl) (fun m_again3 => fun l I S => asSl (l 3) fun out_3 out_3n out_3c => asSl (l 9) fun x9 x9n x9c => asI .i64 (l 10) fun x10 => asI .i64 (l 11) fun x11 => Inv_again3 m_again3 out_3 out_3n out_3c x9 x9n x9c x10 x11 I S) m_again3 (cast (by kernel_rfl) h0) ?_
    clear h0
    intro m_again3 l I S hle h
    obtain ⟨out_3, out_3n, out_3c, e3, h⟩ := asSl_e h
    obtain ⟨x9, x9n, x9c, e9, h⟩ := asSl_e h
    obtain ⟨x10, e10, h⟩ := asI_e h
    obtain ⟨x11, e11, h⟩ := asI_e h
    rw [upd_eta e3, upd_eta e9, upd_eta e10, upd_eta e11]
    have h := hr m_again3 out_3 out_3n out_3c x9 x9n x9c x10 x11 I S hle h
    clear hr hle
    refine WP.cut 2 (fun l I S => asSl (l 3) fun out_3 out_3n out_3c => asSl (l 9) fun x9 x9n x9c => asI .i64 (l 10) fun x10 => asI .i64 (l 11) fun x11 => bolterlaw08_Sorted_b4 (fun out_3 out_3n out_3c x9 x9n x9c x10 x11 I S => ∃ m', m' < m_again3 ∧ Inv_again3 m' out_3 out_3n out_3c x9 x9n x9c x10 x11 I S) R out_3 out_3n out_3c x9 x9n x9c x10 x11 I S) (cast (by kernel_rfl) h) ?_
    clear h
    intro l I S _ h
    obtain ⟨out_3, out_3n, out_3c, e3, h⟩ := asSl_e h
    obtain ⟨x9, x9n, x9c, e9, h⟩ := asSl_e h
    obtain ⟨x10, e10, h⟩ := asI_e h
    obtain ⟨x11, e11, h⟩ := asI_e h
    rw [upd_eta e3, upd_eta e9, upd_eta e10, upd_eta e11]
    refine WP.seqY (by kernel_rfl) (fun l I S => asSl (l 3) fun out_3 out_3n out_3c => asSl (l 9) fun x9 x9n x9c => asI .i64 (l 10) fun x10 => asI .i64 (l 11) fun x11 => bolterlaw08_Sorted_b13 (fun out_3 out_3n out_3c x9 x9n x9c x10 x11 I S => ∃ m', m' < m_again3 ∧ Inv_again3 m' out_3 out_3n out_3c x9 x9n x9c x10 x11 I S) R out_3 out_3n out_3c x9 x9n x9c x10 x11 I S) ?_ ?_
    ·
      refine WP.block' (by kernel_rfl) ?_
      refine WP.cut 2 (fun l I S => asSl (l 3) fun out_3 out_3n out_3c => asAdr (l 5) fun r_5 => asI .i64 (l 6) fun at_6 => asSl (l 9) fun x9 x9n x9c => asI .i64 (l 10) fun x10 => asI .i64 (l 11) fun x11 => bolterlaw08_Sorted_b5 (fun out_3 out_3n out_3c x9 x9n x9c x10 x11 I S => ∃ m', m' < m_again3 ∧ Inv_again3 m' out_3 out_3n out_3c x9 x9n x9c x10 x11 I S) R out_3 out_3n out_3c r_5 at_6 x9 x9n x9c x10 x11 I S) (cast (by kernel_rfl) h) ?_
      clear h
      intro l I S _ h
      obtain ⟨out_3, out_3n, out_3c, e3, h⟩ := asSl_e h
      obtain ⟨r_5, e5, h⟩ := asAdr_e h
      obtain ⟨at_6, e6, h⟩ := asI_e h
      obtain ⟨x9, x9n, x9c, e9, h⟩ := asSl_e h
      obtain ⟨x10, e10, h⟩ := asI_e h
      obtain ⟨x11, e11, h⟩ := asI_e h
      rw [upd_eta e3, upd_eta e5, upd_eta e6, upd_eta e9, upd_eta e10, upd_eta e11]
      refine WP.seqY (by kernel_rfl) (fun l I S => asSl (l 3) fun out_3 out_3n out_3c => asAdr (l 5) fun r_5 => asI .i64 (l 6) fun at_6 => asSl (l 9) fun x9 x9n x9c => asI .i64 (l 10) fun x10 => asI .i64 (l 11) fun x11 => bolterlaw08_Sorted_b9 (fun out_3 out_3n out_3c x9 x9n x9c x10 x11 I S => ∃ m', m' < m_again3 ∧ Inv_again3 m' out_3 out_3n out_3c x9 x9n x9c x10 x11 I S) R out_3 out_3n out_3c r_5 at_6 x9 x9n x9c x10 x11 I S) ?_ ?_
      ·
        refine WP.block' (by kernel_rfl) ?_
        obtain ⟨Inv_again6, m_again6, h0, hr⟩ := h
        refine WP.loop' (by kernel_rfl) (fun m_again6 => fun l I S => asSl (l 3) fun out_3 out_3n out_3c => asAdr (l 5) fun r_5 => asI .i64 (l 6) fun at_6 => asSl (l 9) fun x9 x9n x9c => asI .i64 (l 10) fun x10 => asI .i64 (l 11) fun x11 => Inv_again6 m_again6 out_3 out_3n out_3c r_5 at_6 x9 x9n x9c x10 x11 I S) m_again6 (cast (by kernel_rfl) h0) ?_
        clear h0
        intro m_again6 l I S hle h
        obtain ⟨out_3, out_3n, out_3c, e3, h⟩ := asSl_e h
        obtain ⟨r_5, e5, h⟩ := asAdr_e h
        obtain ⟨at_6, e6, h⟩ := asI_e h
        obtain ⟨x9, x9n, x9c, e9, h⟩ := asSl_e h
        obtain ⟨x10, e10, h⟩ := asI_e h
        obtain ⟨x11, e11, h⟩ := asI_e h
        rw [upd_eta e3, upd_eta e5, upd_eta e6, upd_eta e9, upd_eta e10, upd_eta e11]
        have h := hr m_again6 out_3 out_3n out_3c r_5 at_6 x9 x9n x9c x10 x11 I S hle h
        clear hr hle
        refine WP.seqY (by kernel_rfl) (fun l I S => asSl (l 3) fun out_3 out_3n out_3c => asAdr (l 5) fun r_5 => asI .i64 (l 6) fun at_6 => asSl (l 9) fun x9 x9n x9c => asI .i64 (l 10) fun x10 => asI .i64 (l 11) fun x11 => bolterlaw08_Sorted_b8 (fun out_3 out_3n out_3c x9 x9n x9c x10 x11 I S => ∃ m', m' < m_again3 ∧ Inv_again3 m' out_3 out_3n out_3c x9 x9n x9c x10 x11 I S) (fun out_3 out_3n out_3c r_5 at_6 x9 x9n x9c x10 x11 I S => ∃ m', m' < m_again6 ∧ Inv_again6 m' out_3 out_3n out_3c r_5 at_6 x9 x9n x9c x10 x11 I S) R out_3 out_3n out_3c r_5 at_6 x9 x9n x9c x10 x11 I S) ?_ ?_
        ·
          refine WP.seqY (by kernel_rfl) (fun l I S => asSl (l 3) fun out_3 out_3n out_3c => asAdr (l 5) fun r_5 => asI .i64 (l 6) fun at_6 => asSl (l 9) fun x9 x9n x9c => asI .i64 (l 10) fun x10 => asI .i64 (l 11) fun x11 => asB (l 27) fun x27 => bolterlaw08_Sorted_b7 (fun out_3 out_3n out_3c x9 x9n x9c x10 x11 I S => ∃ m', m' < m_again3 ∧ Inv_again3 m' out_3 out_3n out_3c x9 x9n x9c x10 x11 I S) (fun out_3 out_3n out_3c r_5 at_6 x9 x9n x9c x10 x11 I S => ∃ m', m' < m_again6 ∧ Inv_again6 m' out_3 out_3n out_3c r_5 at_6 x9 x9n x9c x10 x11 I S) R out_3 out_3n out_3c r_5 at_6 x9 x9n x9c x10 x11 x27 I S) ?_ ?_
          ·
            exact WP.quiet' (by kernel_rfl) (by kernel_rfl) (by kernel_rfl) (cast (by kernel_rfl) h)
          · clear h
            intro l I S _ h
            obtain ⟨out_3, out_3n, out_3c, e3, h⟩ := asSl_e h
            obtain ⟨r_5, e5, h⟩ := asAdr_e h
            obtain ⟨at_6, e6, h⟩ := asI_e h
            obtain ⟨x9, x9n, x9c, e9, h⟩ := asSl_e h
            obtain ⟨x10, e10, h⟩ := asI_e h
            obtain ⟨x11, e11, h⟩ := asI_e h
            obtain ⟨x27, e27, h⟩ := asB_e h
            rw [upd_eta e3, upd_eta e5, upd_eta e6, upd_eta e9, upd_eta e10, upd_eta e11, upd_eta e27]
            exact Pre.sound _ _ _ _ _ (cast (by kernel_rfl) h)
        · clear h
          intro l I S _ h
          obtain ⟨out_3, out_3n, out_3c, e3, h⟩ := asSl_e h
          obtain ⟨r_5, e5, h⟩ := asAdr_e h
          obtain ⟨at_6, e6, h⟩ := asI_e h
          obtain ⟨x9, x9n, x9c, e9, h⟩ := asSl_e h
          obtain ⟨x10, e10, h⟩ := asI_e h
          obtain ⟨x11, e11, h⟩ := asI_e h
          rw [upd_eta e3, upd_eta e5, upd_eta e6, upd_eta e9, upd_eta e10, upd_eta e11]
          exact Pre.sound _ _ _ _ _ (cast (by kernel_rfl) h)
      · clear h
        intro l I S _ h
        obtain ⟨out_3, out_3n, out_3c, e3, h⟩ := asSl_e h
        obtain ⟨r_5, e5, h⟩ := asAdr_e h
        obtain ⟨at_6, e6, h⟩ := asI_e h
        obtain ⟨x9, x9n, x9c, e9, h⟩ := asSl_e h
        obtain ⟨x10, e10, h⟩ := asI_e h
        obtain ⟨x11, e11, h⟩ := asI_e h
        rw [upd_eta e3, upd_eta e5, upd_eta e6, upd_eta e9, upd_eta e10, upd_eta e11]
        refine WP.seqY (by kernel_rfl) (fun l I S => asSl (l 3) fun out_3 out_3n out_3c => asAdr (l 5) fun r_5 => asI .i64 (l 6) fun at_6 => asB (l 7) fun is_7 => asSl (l 9) fun x9 x9n x9c => asI .i64 (l 10) fun x10 => asI .i64 (l 11) fun x11 => bolterlaw08_Sorted_b10 (fun out_3 out_3n out_3c x9 x9n x9c x10 x11 I S => ∃ m', m' < m_again3 ∧ Inv_again3 m' out_3 out_3n out_3c x9 x9n x9c x10 x11 I S) R out_3 out_3n out_3c r_5 at_6 is_7 x9 x9n x9c x10 x11 I S) ?_ ?_
        ·
          exact WP.quiet' (by kernel_rfl) (by kernel_rfl) (by kernel_rfl) (cast (by kernel_rfl) h)
        · clear h
          intro l I S _ h
          obtain ⟨out_3, out_3n, out_3c, e3, h⟩ := asSl_e h
          obtain ⟨r_5, e5, h⟩ := asAdr_e h
          obtain ⟨at_6, e6, h⟩ := asI_e h
          obtain ⟨is_7, e7, h⟩ := asB_e h
          obtain ⟨x9, x9n, x9c, e9, h⟩ := asSl_e h
          obtain ⟨x10, e10, h⟩ := asI_e h
          obtain ⟨x11, e11, h⟩ := asI_e h
          rw [upd_eta e3, upd_eta e5, upd_eta e6, upd_eta e7, upd_eta e9, upd_eta e10, upd_eta e11]
          refine WP.cut 1 (fun l I S => asSl (l 3) fun out_3 out_3n out_3c => asAdr (l 5) fun r_5 => asI .i64 (l 6) fun at_6 => asSl (l 9) fun x9 x9n x9c => asI .i64 (l 10) fun x10 => asI .i64 (l 11) fun x11 => asB (l 43) fun x43 => bolterlaw08_Sorted_b11 (fun out_3 out_3n out_3c x9 x9n x9c x10 x11 I S => ∃ m', m' < m_again3 ∧ Inv_again3 m' out_3 out_3n out_3c x9 x9n x9c x10 x11 I S) R out_3 out_3n out_3c r_5 at_6 x9 x9n x9c x10 x11 x43 I S) (cast (by kernel_rfl) h) ?_
          clear h
          intro l I S _ h
          obtain ⟨out_3, out_3n, out_3c, e3, h⟩ := asSl_e h
          obtain ⟨r_5, e5, h⟩ := asAdr_e h
          obtain ⟨at_6, e6, h⟩ := asI_e h
          obtain ⟨x9, x9n, x9c, e9, h⟩ := asSl_e h
          obtain ⟨x10, e10, h⟩ := asI_e h
          obtain ⟨x11, e11, h⟩ := asI_e h
          obtain ⟨x43, e43, h⟩ := asB_e h
          rw [upd_eta e3, upd_eta e5, upd_eta e6, upd_eta e9, upd_eta e10, upd_eta e11, upd_eta e43]
          refine WP.cond' (by kernel_rfl) (by kernel_rfl) h ?_ ?_
          · clear h
            intro h
            refine WP.cut 1 (fun l I S => asSl (l 3) fun out_3 out_3n out_3c => asAdr (l 5) fun r_5 => asI .i64 (l 6) fun at_6 => asSl (l 8) fun next_8 next_8n next_8c => asSl (l 9) fun x9 x9n x9c => asI .i64 (l 10) fun x10 => asI .i64 (l 11) fun x11 => bolterlaw08_Sorted_b12 (fun out_3 out_3n out_3c x9 x9n x9c x10 x11 I S => ∃ m', m' < m_again3 ∧ Inv_again3 m' out_3 out_3n out_3c x9 x9n x9c x10 x11 I S) R out_3 out_3n out_3c r_5 at_6 next_8 next_8n next_8c x9 x9n x9c x10 x11 I S) (cast (by kernel_rfl) h) ?_
            clear h
            intro l I S _ h
            obtain ⟨out_3, out_3n, out_3c, e3, h⟩ := asSl_e h
            obtain ⟨r_5, e5, h⟩ := asAdr_e h
            obtain ⟨at_6, e6, h⟩ := asI_e h
            obtain ⟨next_8, next_8n, next_8c, e8, h⟩ := asSl_e h
            obtain ⟨x9, x9n, x9c, e9, h⟩ := asSl_e h
            obtain ⟨x10, e10, h⟩ := asI_e h
            obtain ⟨x11, e11, h⟩ := asI_e h
            rw [upd_eta e3, upd_eta e5, upd_eta e6, upd_eta e8, upd_eta e9, upd_eta e10, upd_eta e11]
            exact WP.draw' (.take 0 (.take 1 (.take 4 (.take 5 (.take 6 (.step 2 (.step 3 (.step 7 (.take 8 .done))))))))) [2, 3, 7] (by kernel_rfl) (by kernel_rfl) (by kernel_rfl) (by kernel_rfl) (by kernel_rfl) (cast (by kernel_rfl) h)
          · clear h
            intro h
            exact Pre.sound _ _ _ _ _ (cast (by kernel_rfl) h)
    · clear h
      intro l I S _ h
      obtain ⟨out_3, out_3n, out_3c, e3, h⟩ := asSl_e h
      obtain ⟨x9, x9n, x9c, e9, h⟩ := asSl_e h
      obtain ⟨x10, e10, h⟩ := asI_e h
      obtain ⟨x11, e11, h⟩ := asI_e h
      rw [upd_eta e3, upd_eta e9, upd_eta e10, upd_eta e11]
      exact Pre.sound _ _ _ _ _ (cast (by kernel_rfl) h)
  · clear h
    intro l I S _ h
    obtain ⟨out_3, out_3n, out_3c, e3, h⟩ := asSl_e h
    rw [upd_eta e3]
    exact Pre.sound _ _ _ _ _ (cast (by kernel_rfl) h)
/-! ### bolterlaw05_SameRecords: function 15, bolter/bolterlaw05.SameRecords -/
noncomputable def bolterlaw05_SameRecords_code : Code := (Tryz.f15.body).getD .skip
def bolterlaw05_SameRecords_b7 (again3 : Option Addr → Nat → Nat → Option Addr → Nat → Nat → Int → Int → IMem → SH → Prop) (R : Value → IMem → SH → Prop) (a_0 : Option Addr) (a_0n : Nat) (a_0c : Nat) (b_1 : Option Addr) (b_1n : Nat) (b_1c : Nat) (x12 : Int) (x13 : Int) (I : IMem) (S : SH) : Prop :=
  again3 a_0 a_0n a_0c b_1 b_1n b_1c x12 (IntKind.wrap .i64 (x13 + (1 : Int))) I S
def bolterlaw05_SameRecords_b6 (again3 : Option Addr → Nat → Nat → Option Addr → Nat → Nat → Int → Int → IMem → SH → Prop) (R : Value → IMem → SH → Prop) (a_0 : Option Addr) (a_0n : Nat) (a_0c : Nat) (b_1 : Option Addr) (b_1n : Nat) (b_1c : Nat) (x12 : Int) (x13 : Int) (x24 : Bool) (I : IMem) (S : SH) : Prop :=
  bcase x24
    (R (.bool false) I S)
    (bolterlaw05_SameRecords_b7 again3 R a_0 a_0n a_0c b_1 b_1n b_1c x12 x13 I S)
def bolterlaw05_SameRecords_b5 (again3 : Option Addr → Nat → Nat → Option Addr → Nat → Nat → Int → Int → IMem → SH → Prop) (R : Value → IMem → SH → Prop) (a_0 : Option Addr) (a_0n : Nat) (a_0c : Nat) (b_1 : Option Addr) (b_1n : Nat) (b_1c : Nat) (k_5 : Int) (x12 : Int) (x13 : Int) (I : IMem) (S : SH) : Prop :=
  ptrP a_0 fun x18 => (0 : Int) ≤ k_5 ∧ k_5 < (a_0n : Int) ∧
  ∃ x19_0, Cell I S (x18.add (k_5.toNat * 4)) (.string x19_0) ∧
  ∃ x19_1, Cell I S ((x18.add (k_5.toNat * 4)).add 1) (.int .u16 x19_1) ∧
  ∃ x19_2, Cell I S ((x18.add (k_5.toNat * 4)).add 2) (.int .u32 x19_2) ∧
  ∃ x19_3, Cell I S ((x18.add (k_5.toNat * 4)).add 3) (.string x19_3) ∧
  ptrP b_1 fun x22 => (0 : Int) ≤ k_5 ∧ k_5 < (b_1n : Int) ∧
  ∃ x23_0, Cell I S (x22.add (k_5.toNat * 4)) (.string x23_0) ∧
  ∃ x23_1, Cell I S ((x22.add (k_5.toNat * 4)).add 1) (.int .u16 x23_1) ∧
  ∃ x23_2, Cell I S ((x22.add (k_5.toNat * 4)).add 2) (.int .u32 x23_2) ∧
  ∃ x23_3, Cell I S ((x22.add (k_5.toNat * 4)).add 3) (.string x23_3) ∧
  bolterlaw05_SameRecords_b6 again3 R a_0 a_0n a_0c b_1 b_1n b_1c x12 x13 (!(((x19_0 : ByteArray) == (x23_0 : ByteArray)) && (((x19_1 : Int) == (x23_1 : Int)) && (((x19_2 : Int) == (x23_2 : Int)) && (((x19_3 : ByteArray) == (x23_3 : ByteArray)) && true))))) I S
def bolterlaw05_SameRecords_b4 (again3 : Option Addr → Nat → Nat → Option Addr → Nat → Nat → Int → Int → IMem → SH → Prop) (R : Value → IMem → SH → Prop) (a_0 : Option Addr) (a_0n : Nat) (a_0c : Nat) (b_1 : Option Addr) (b_1n : Nat) (b_1c : Nat) (x12 : Int) (x13 : Int) (I : IMem) (S : SH) : Prop :=
  bolterlaw05_SameRecords_b5 again3 R a_0 a_0n a_0c b_1 b_1n b_1c x13 x12 x13 I S
def bolterlaw05_SameRecords_b8 (R : Value → IMem → SH → Prop) (I : IMem) (S : SH) : Prop :=
  R (.bool true) I S
def bolterlaw05_SameRecords_l3 (again3 : Option Addr → Nat → Nat → Option Addr → Nat → Nat → Int → Int → IMem → SH → Prop) (R : Value → IMem → SH → Prop) (a_0 : Option Addr) (a_0n : Nat) (a_0c : Nat) (b_1 : Option Addr) (b_1n : Nat) (b_1c : Nat) (x12 : Int) (x13 : Int) (I : IMem) (S : SH) : Prop :=
  bcase (decide (x13 < x12))
    (bolterlaw05_SameRecords_b4 again3 R a_0 a_0n a_0c b_1 b_1n b_1c x12 x13 I S)
    (bolterlaw05_SameRecords_b8 R I S)
def bolterlaw05_SameRecords_b2 (R : Value → IMem → SH → Prop) (a_0 : Option Addr) (a_0n : Nat) (a_0c : Nat) (b_1 : Option Addr) (b_1n : Nat) (b_1c : Nat) (x12 : Int) (x13 : Int) (I : IMem) (S : SH) : Prop :=
  ∃ (Inv : Nat → Option Addr → Nat → Nat → Option Addr → Nat → Nat → Int → Int → IMem → SH → Prop) (m : Nat), Inv m a_0 a_0n a_0c b_1 b_1n b_1c x12 x13 I S ∧
    ∀ (m : Nat) (a_0 : Option Addr) (a_0n : Nat) (a_0c : Nat) (b_1 : Option Addr) (b_1n : Nat) (b_1c : Nat) (x12 : Int) (x13 : Int) (J : IMem) (T : SH), I.le J → Inv m a_0 a_0n a_0c b_1 b_1n b_1c x12 x13 J T →
      bolterlaw05_SameRecords_l3 (fun a_0 a_0n a_0c b_1 b_1n b_1c x12 x13 I S => ∃ m', m' < m ∧ Inv m' a_0 a_0n a_0c b_1 b_1n b_1c x12 x13 I S) R a_0 a_0n a_0c b_1 b_1n b_1c x12 x13 J T
def bolterlaw05_SameRecords_b1 (R : Value → IMem → SH → Prop) (a_0 : Option Addr) (a_0n : Nat) (a_0c : Nat) (b_1 : Option Addr) (b_1n : Nat) (b_1c : Nat) (I : IMem) (S : SH) : Prop :=
  bolterlaw05_SameRecords_b2 R a_0 a_0n a_0c b_1 b_1n b_1c (a_0n : Int) 0 I S
def bolterlaw05_SameRecords (R : Value → IMem → SH → Prop) (a_0 : Option Addr) (a_0n : Nat) (a_0c : Nat) (b_1 : Option Addr) (b_1n : Nat) (b_1c : Nat) (I : IMem) (S : SH) : Prop :=
  bcase ((a_0n : Int) != (b_1n : Int))
    (R (.bool false) I S)
    (bolterlaw05_SameRecords_b1 R a_0 a_0n a_0c b_1 b_1n b_1c I S)
theorem bolterlaw05_SameRecords_fn (R : Value → IMem → SH → Prop) (a_0 : Option Addr) (a_0n : Nat) (a_0c : Nat) (b_1 : Option Addr) (b_1n : Nat) (b_1c : Nat) (I : IMem) (S : SH) (h : bolterlaw05_SameRecords R a_0 a_0n a_0c b_1 b_1n b_1c I S) :
    Runs Tryz.prog 15 #[.slice a_0 a_0n a_0c, .slice b_1 b_1n b_1c] I S R := by
  refine Runs.of_wp (args := [.slice a_0 a_0n a_0c, .slice b_1 b_1n b_1c]) (c := bolterlaw05_SameRecords_code) Tryz.func15 (by kernel_rfl) (by kernel_rfl) ?_
  refine WP.cut 2 (fun l I S => asSl (l 0) fun a_0 a_0n a_0c => asSl (l 1) fun b_1 b_1n b_1c => bolterlaw05_SameRecords_b1 R a_0 a_0n a_0c b_1 b_1n b_1c I S) (cast (by kernel_rfl) h) ?_
  clear h
  intro l I S _ h
  obtain ⟨a_0, a_0n, a_0c, e0, h⟩ := asSl_e h
  obtain ⟨b_1, b_1n, b_1c, e1, h⟩ := asSl_e h
  rw [upd_eta e0, upd_eta e1]
  refine WP.seqY (by kernel_rfl) (fun l I S => bolterlaw05_SameRecords_b8 R I S) ?_ ?_
  ·
    refine WP.cut 1 (fun l I S => asSl (l 0) fun a_0 a_0n a_0c => asSl (l 1) fun b_1 b_1n b_1c => asI .i64 (l 12) fun x12 => asI .i64 (l 13) fun x13 => bolterlaw05_SameRecords_b2 R a_0 a_0n a_0c b_1 b_1n b_1c x12 x13 I S) (cast (by kernel_rfl) h) ?_
    clear h
    intro l I S _ h
    obtain ⟨a_0, a_0n, a_0c, e0, h⟩ := asSl_e h
    obtain ⟨b_1, b_1n, b_1c, e1, h⟩ := asSl_e h
    obtain ⟨x12, e12, h⟩ := asI_e h
    obtain ⟨x13, e13, h⟩ := asI_e h
    rw [upd_eta e0, upd_eta e1, upd_eta e12, upd_eta e13]
    refine WP.block' (by kernel_rfl) ?_
    obtain ⟨Inv_again3, m_again3, h0, hr⟩ := h
    refine WP.loop' (by kernel_rfl) (fun m_again3 => fun l I S => asSl (l 0) fun a_0 a_0n a_0c => asSl (l 1) fun b_1 b_1n b_1c => asI .i64 (l 12) fun x12 => asI .i64 (l 13) fun x13 => Inv_again3 m_again3 a_0 a_0n a_0c b_1 b_1n b_1c x12 x13 I S) m_again3 (cast (by kernel_rfl) h0) ?_
    clear h0
    intro m_again3 l I S hle h
    obtain ⟨a_0, a_0n, a_0c, e0, h⟩ := asSl_e h
    obtain ⟨b_1, b_1n, b_1c, e1, h⟩ := asSl_e h
    obtain ⟨x12, e12, h⟩ := asI_e h
    obtain ⟨x13, e13, h⟩ := asI_e h
    rw [upd_eta e0, upd_eta e1, upd_eta e12, upd_eta e13]
    have h := hr m_again3 a_0 a_0n a_0c b_1 b_1n b_1c x12 x13 I S hle h
    clear hr hle
    refine WP.cut 2 (fun l I S => asSl (l 0) fun a_0 a_0n a_0c => asSl (l 1) fun b_1 b_1n b_1c => asI .i64 (l 12) fun x12 => asI .i64 (l 13) fun x13 => bolterlaw05_SameRecords_b4 (fun a_0 a_0n a_0c b_1 b_1n b_1c x12 x13 I S => ∃ m', m' < m_again3 ∧ Inv_again3 m' a_0 a_0n a_0c b_1 b_1n b_1c x12 x13 I S) R a_0 a_0n a_0c b_1 b_1n b_1c x12 x13 I S) (cast (by kernel_rfl) h) ?_
    clear h
    intro l I S _ h
    obtain ⟨a_0, a_0n, a_0c, e0, h⟩ := asSl_e h
    obtain ⟨b_1, b_1n, b_1c, e1, h⟩ := asSl_e h
    obtain ⟨x12, e12, h⟩ := asI_e h
    obtain ⟨x13, e13, h⟩ := asI_e h
    rw [upd_eta e0, upd_eta e1, upd_eta e12, upd_eta e13]
    refine WP.seqY (by kernel_rfl) (fun l I S => asSl (l 0) fun a_0 a_0n a_0c => asSl (l 1) fun b_1 b_1n b_1c => asI .i64 (l 12) fun x12 => asI .i64 (l 13) fun x13 => bolterlaw05_SameRecords_b7 (fun a_0 a_0n a_0c b_1 b_1n b_1c x12 x13 I S => ∃ m', m' < m_again3 ∧ Inv_again3 m' a_0 a_0n a_0c b_1 b_1n b_1c x12 x13 I S) R a_0 a_0n a_0c b_1 b_1n b_1c x12 x13 I S) ?_ ?_
    ·
      refine WP.block' (by kernel_rfl) ?_
      refine WP.cut 1 (fun l I S => asSl (l 0) fun a_0 a_0n a_0c => asSl (l 1) fun b_1 b_1n b_1c => asI .i64 (l 5) fun k_5 => asI .i64 (l 12) fun x12 => asI .i64 (l 13) fun x13 => bolterlaw05_SameRecords_b5 (fun a_0 a_0n a_0c b_1 b_1n b_1c x12 x13 I S => ∃ m', m' < m_again3 ∧ Inv_again3 m' a_0 a_0n a_0c b_1 b_1n b_1c x12 x13 I S) R a_0 a_0n a_0c b_1 b_1n b_1c k_5 x12 x13 I S) (cast (by kernel_rfl) h) ?_
      clear h
      intro l I S _ h
      obtain ⟨a_0, a_0n, a_0c, e0, h⟩ := asSl_e h
      obtain ⟨b_1, b_1n, b_1c, e1, h⟩ := asSl_e h
      obtain ⟨k_5, e5, h⟩ := asI_e h
      obtain ⟨x12, e12, h⟩ := asI_e h
      obtain ⟨x13, e13, h⟩ := asI_e h
      rw [upd_eta e0, upd_eta e1, upd_eta e5, upd_eta e12, upd_eta e13]
      refine WP.seqY (by kernel_rfl) (fun l I S => asSl (l 0) fun a_0 a_0n a_0c => asSl (l 1) fun b_1 b_1n b_1c => asI .i64 (l 12) fun x12 => asI .i64 (l 13) fun x13 => asB (l 24) fun x24 => bolterlaw05_SameRecords_b6 (fun a_0 a_0n a_0c b_1 b_1n b_1c x12 x13 I S => ∃ m', m' < m_again3 ∧ Inv_again3 m' a_0 a_0n a_0c b_1 b_1n b_1c x12 x13 I S) R a_0 a_0n a_0c b_1 b_1n b_1c x12 x13 x24 I S) ?_ ?_
      ·
        exact WP.quiet' (by kernel_rfl) (by kernel_rfl) (by kernel_rfl) (cast (by kernel_rfl) h)
      · clear h
        intro l I S _ h
        obtain ⟨a_0, a_0n, a_0c, e0, h⟩ := asSl_e h
        obtain ⟨b_1, b_1n, b_1c, e1, h⟩ := asSl_e h
        obtain ⟨x12, e12, h⟩ := asI_e h
        obtain ⟨x13, e13, h⟩ := asI_e h
        obtain ⟨x24, e24, h⟩ := asB_e h
        rw [upd_eta e0, upd_eta e1, upd_eta e12, upd_eta e13, upd_eta e24]
        exact Pre.sound _ _ _ _ _ (cast (by kernel_rfl) h)
    · clear h
      intro l I S _ h
      obtain ⟨a_0, a_0n, a_0c, e0, h⟩ := asSl_e h
      obtain ⟨b_1, b_1n, b_1c, e1, h⟩ := asSl_e h
      obtain ⟨x12, e12, h⟩ := asI_e h
      obtain ⟨x13, e13, h⟩ := asI_e h
      rw [upd_eta e0, upd_eta e1, upd_eta e12, upd_eta e13]
      exact Pre.sound _ _ _ _ _ (cast (by kernel_rfl) h)
  · clear h
    intro l I S _ h
    exact Pre.sound _ _ _ _ _ (cast (by kernel_rfl) h)
/-! ### zone_Right: function 86, bolter/zone.Right -/
noncomputable def zone_Right_code : Code := (Tryz.f86.body).getD .skip
def zone_Right_b8 (again3 : Option Addr → Nat → Nat → ByteArray → Int → Option Addr → Nat → Nat → Int → Int → IMem → SH → Prop) (R : Value → IMem → SH → Prop) (z_0 : Option Addr) (z_0n : Nat) (z_0c : Nat) (origin_1 : ByteArray) (soas_5 : Int) (x8 : Option Addr) (x8n : Nat) (x8c : Nat) (x9 : Int) (x10 : Int) (I : IMem) (S : SH) : Prop :=
  again3 z_0 z_0n z_0c origin_1 soas_5 x8 x8n x8c x9 (IntKind.wrap .i64 (x10 + (1 : Int))) I S
def zone_Right_b7 (again3 : Option Addr → Nat → Nat → ByteArray → Int → Option Addr → Nat → Nat → Int → Int → IMem → SH → Prop) (R : Value → IMem → SH → Prop) (z_0 : Option Addr) (z_0n : Nat) (z_0c : Nat) (origin_1 : ByteArray) (soas_5 : Int) (r_7 : Addr) (x8 : Option Addr) (x8n : Nat) (x8c : Nat) (x9 : Int) (x10 : Int) (I : IMem) (S : SH) : Prop :=
  ∃ x40, Cell I S (r_7.add 1) (.int .u16 x40) ∧
  bcase (x40 == (6 : Int))
    (∃ x45, Cell I S r_7 (.string x45) ∧
    bcase (!(x45.toList == origin_1.toList))
      (R (.bool false) I S)
      (zone_Right_b8 again3 R z_0 z_0n z_0c origin_1 (IntKind.wrap .i64 (soas_5 + (1 : Int))) x8 x8n x8c x9 x10 I S))
    (zone_Right_b8 again3 R z_0 z_0n z_0c origin_1 soas_5 x8 x8n x8c x9 x10 I S)
def zone_Right_b6 (again3 : Option Addr → Nat → Nat → ByteArray → Int → Option Addr → Nat → Nat → Int → Int → IMem → SH → Prop) (R : Value → IMem → SH → Prop) (z_0 : Option Addr) (z_0n : Nat) (z_0c : Nat) (origin_1 : ByteArray) (soas_5 : Int) (r_7 : Addr) (x8 : Option Addr) (x8n : Nat) (x8c : Nat) (x9 : Int) (x10 : Int) (x38 : Bool) (I : IMem) (S : SH) : Prop :=
  bcase x38
    (R (.bool false) I S)
    (zone_Right_b7 again3 R z_0 z_0n z_0c origin_1 soas_5 r_7 x8 x8n x8c x9 x10 I S)
def zone_Right_b5 (again3 : Option Addr → Nat → Nat → ByteArray → Int → Option Addr → Nat → Nat → Int → Int → IMem → SH → Prop) (R : Value → IMem → SH → Prop) (z_0 : Option Addr) (z_0n : Nat) (z_0c : Nat) (origin_1 : ByteArray) (soas_5 : Int) (k_6 : Int) (r_7 : Addr) (x8 : Option Addr) (x8n : Nat) (x8c : Nat) (x9 : Int) (x10 : Int) (I : IMem) (S : SH) : Prop :=
  ∃ x15_0, Cell I S r_7 (.string x15_0) ∧
  ∃ x15_1, Cell I S (r_7.add 1) (.int .u16 x15_1) ∧
  ∃ x15_2, Cell I S (r_7.add 2) (.int .u32 x15_2) ∧
  ∃ x15_3, Cell I S (r_7.add 3) (.string x15_3) ∧
  ∃ x16, Runs Tryz.prog 76 #[.agg #[.string x15_0, .int .u16 x15_1, .int .u32 x15_2, .string x15_3]] I S (fun v' _ T => v' = .bool x16 ∧ T = S) ∧
  bcase (!x16)
    (zone_Right_b6 again3 R z_0 z_0n z_0c origin_1 soas_5 r_7 x8 x8n x8c x9 x10 true I S)
    (∃ x20, Cell I S r_7 (.string x20) ∧
    ∃ x22, Runs Tryz.prog 77 #[.string x20, .string origin_1] I S (fun v' _ T => v' = .bool x22 ∧ T = S) ∧
    bcase (!x22)
      (zone_Right_b6 again3 R z_0 z_0n z_0c origin_1 soas_5 r_7 x8 x8n x8c x9 x10 true I S)
      (bcase (decide (k_6 > (0 : Int)))
        (ptrP z_0 fun x32 => (0 : Int) ≤ (IntKind.wrap .i64 (k_6 - (1 : Int))) ∧ (IntKind.wrap .i64 (k_6 - (1 : Int))) < (z_0n : Int) ∧
        ∃ x33_0, Cell I S (x32.add ((IntKind.wrap .i64 (k_6 - (1 : Int))).toNat * 4)) (.string x33_0) ∧
        ∃ x33_1, Cell I S ((x32.add ((IntKind.wrap .i64 (k_6 - (1 : Int))).toNat * 4)).add 1) (.int .u16 x33_1) ∧
        ∃ x33_2, Cell I S ((x32.add ((IntKind.wrap .i64 (k_6 - (1 : Int))).toNat * 4)).add 2) (.int .u32 x33_2) ∧
        ∃ x33_3, Cell I S ((x32.add ((IntKind.wrap .i64 (k_6 - (1 : Int))).toNat * 4)).add 3) (.string x33_3) ∧
        ∃ x34_0, Cell I S r_7 (.string x34_0) ∧
        ∃ x34_1, Cell I S (r_7.add 1) (.int .u16 x34_1) ∧
        ∃ x34_2, Cell I S (r_7.add 2) (.int .u32 x34_2) ∧
        ∃ x34_3, Cell I S (r_7.add 3) (.string x34_3) ∧
        ∃ x35, Runs Tryz.prog 63 #[.agg #[.string x33_0, .int .u16 x33_1, .int .u32 x33_2, .string x33_3], .agg #[.string x34_0, .int .u16 x34_1, .int .u32 x34_2, .string x34_3]] I S (fun v' _ T => v' = .int .i64 x35 ∧ T = S) ∧
        zone_Right_b6 again3 R z_0 z_0n z_0c origin_1 soas_5 r_7 x8 x8n x8c x9 x10 (decide (x35 ≥ (0 : Int))) I S)
        (zone_Right_b6 again3 R z_0 z_0n z_0c origin_1 soas_5 r_7 x8 x8n x8c x9 x10 false I S)))
def zone_Right_b4 (again3 : Option Addr → Nat → Nat → ByteArray → Int → Option Addr → Nat → Nat → Int → Int → IMem → SH → Prop) (R : Value → IMem → SH → Prop) (z_0 : Option Addr) (z_0n : Nat) (z_0c : Nat) (origin_1 : ByteArray) (soas_5 : Int) (x8 : Option Addr) (x8n : Nat) (x8c : Nat) (x9 : Int) (x10 : Int) (I : IMem) (S : SH) : Prop :=
  ptrP x8 fun x13 => (0 : Int) ≤ x10 ∧ x10 < (x8n : Int) ∧
  ∃ x14_0, Cell I S (x13.add (x10.toNat * 4)) (.string x14_0) ∧
  ∃ x14_1, Cell I S ((x13.add (x10.toNat * 4)).add 1) (.int .u16 x14_1) ∧
  ∃ x14_2, Cell I S ((x13.add (x10.toNat * 4)).add 2) (.int .u32 x14_2) ∧
  ∃ x14_3, Cell I S ((x13.add (x10.toNat * 4)).add 3) (.string x14_3) ∧
  ∀ b7 : Nat,
  StP ((b7, .cells #[.string ⟨#[]⟩, .int .u16 0, .int .u32 0, .string ⟨#[]⟩] 32 (0, 0)) :: S) ⟨b7, 0, none⟩ [.string x14_0, .int .u16 x14_1, .int .u32 x14_2, .string x14_3] fun S1 =>
  zone_Right_b5 again3 R z_0 z_0n z_0c origin_1 soas_5 x10 ⟨b7, 0, none⟩ x8 x8n x8c x9 x10 I S1
def zone_Right_b10 (R : Value → IMem → SH → Prop) (x4 : Bool) (I : IMem) (S : SH) : Prop :=
  R (.bool x4) I S
def zone_Right_b9 (R : Value → IMem → SH → Prop) (z_0 : Option Addr) (z_0n : Nat) (z_0c : Nat) (soas_5 : Int) (I : IMem) (S : SH) : Prop :=
  bcase (soas_5 == (1 : Int))
    (Runs Tryz.prog 85 #[.slice z_0 z_0n z_0c] I S fun v I1 S1 => ∃ x53, v = .bool x53 ∧
    zone_Right_b10 R x53 I1 S1)
    (zone_Right_b10 R false I S)
def zone_Right_l3 (again3 : Option Addr → Nat → Nat → ByteArray → Int → Option Addr → Nat → Nat → Int → Int → IMem → SH → Prop) (R : Value → IMem → SH → Prop) (z_0 : Option Addr) (z_0n : Nat) (z_0c : Nat) (origin_1 : ByteArray) (soas_5 : Int) (x8 : Option Addr) (x8n : Nat) (x8c : Nat) (x9 : Int) (x10 : Int) (I : IMem) (S : SH) : Prop :=
  bcase (decide (x10 < x9))
    (zone_Right_b4 again3 R z_0 z_0n z_0c origin_1 soas_5 x8 x8n x8c x9 x10 I S)
    (zone_Right_b9 R z_0 z_0n z_0c soas_5 I S)
def zone_Right_b2 (R : Value → IMem → SH → Prop) (z_0 : Option Addr) (z_0n : Nat) (z_0c : Nat) (origin_1 : ByteArray) (soas_5 : Int) (x8 : Option Addr) (x8n : Nat) (x8c : Nat) (x9 : Int) (x10 : Int) (I : IMem) (S : SH) : Prop :=
  ∃ (Inv : Nat → Option Addr → Nat → Nat → ByteArray → Int → Option Addr → Nat → Nat → Int → Int → IMem → SH → Prop) (m : Nat), Inv m z_0 z_0n z_0c origin_1 soas_5 x8 x8n x8c x9 x10 I S ∧
    ∀ (m : Nat) (z_0 : Option Addr) (z_0n : Nat) (z_0c : Nat) (origin_1 : ByteArray) (soas_5 : Int) (x8 : Option Addr) (x8n : Nat) (x8c : Nat) (x9 : Int) (x10 : Int) (J : IMem) (T : SH), I.le J → Inv m z_0 z_0n z_0c origin_1 soas_5 x8 x8n x8c x9 x10 J T →
      zone_Right_l3 (fun z_0 z_0n z_0c origin_1 soas_5 x8 x8n x8c x9 x10 I S => ∃ m', m' < m ∧ Inv m' z_0 z_0n z_0c origin_1 soas_5 x8 x8n x8c x9 x10 I S) R z_0 z_0n z_0c origin_1 soas_5 x8 x8n x8c x9 x10 J T
def zone_Right_b1 (R : Value → IMem → SH → Prop) (z_0 : Option Addr) (z_0n : Nat) (z_0c : Nat) (origin_1 : ByteArray) (soas_5 : Int) (I : IMem) (S : SH) : Prop :=
  zone_Right_b2 R z_0 z_0n z_0c origin_1 soas_5 z_0 z_0n z_0c (z_0n : Int) 0 I S
def zone_Right (R : Value → IMem → SH → Prop) (z_0 : Option Addr) (z_0n : Nat) (z_0c : Nat) (origin_1 : ByteArray) (I : IMem) (S : SH) : Prop :=
  zone_Right_b1 R z_0 z_0n z_0c origin_1 0 I S
theorem zone_Right_fn (R : Value → IMem → SH → Prop) (z_0 : Option Addr) (z_0n : Nat) (z_0c : Nat) (origin_1 : ByteArray) (I : IMem) (S : SH) (h : zone_Right R z_0 z_0n z_0c origin_1 I S) :
    Runs Tryz.prog 86 #[.slice z_0 z_0n z_0c, .string origin_1] I S R := by
  refine Runs.of_wp (args := [.slice z_0 z_0n z_0c, .string origin_1]) (c := zone_Right_code) Tryz.func86 (by kernel_rfl) (by kernel_rfl) ?_
  refine WP.cut 2 (fun l I S => asSl (l 0) fun z_0 z_0n z_0c => asStr (l 1) fun origin_1 => asI .i64 (l 5) fun soas_5 => zone_Right_b1 R z_0 z_0n z_0c origin_1 soas_5 I S) (cast (by kernel_rfl) h) ?_
  clear h
  intro l I S _ h
  obtain ⟨z_0, z_0n, z_0c, e0, h⟩ := asSl_e h
  obtain ⟨origin_1, e1, h⟩ := asStr_e h
  obtain ⟨soas_5, e5, h⟩ := asI_e h
  rw [upd_eta e0, upd_eta e1, upd_eta e5]
  refine WP.seqY (by kernel_rfl) (fun l I S => asSl (l 0) fun z_0 z_0n z_0c => asI .i64 (l 5) fun soas_5 => zone_Right_b9 R z_0 z_0n z_0c soas_5 I S) ?_ ?_
  ·
    refine WP.cut 1 (fun l I S => asSl (l 0) fun z_0 z_0n z_0c => asStr (l 1) fun origin_1 => asI .i64 (l 5) fun soas_5 => asSl (l 8) fun x8 x8n x8c => asI .i64 (l 9) fun x9 => asI .i64 (l 10) fun x10 => zone_Right_b2 R z_0 z_0n z_0c origin_1 soas_5 x8 x8n x8c x9 x10 I S) (cast (by kernel_rfl) h) ?_
    clear h
    intro l I S _ h
    obtain ⟨z_0, z_0n, z_0c, e0, h⟩ := asSl_e h
    obtain ⟨origin_1, e1, h⟩ := asStr_e h
    obtain ⟨soas_5, e5, h⟩ := asI_e h
    obtain ⟨x8, x8n, x8c, e8, h⟩ := asSl_e h
    obtain ⟨x9, e9, h⟩ := asI_e h
    obtain ⟨x10, e10, h⟩ := asI_e h
    rw [upd_eta e0, upd_eta e1, upd_eta e5, upd_eta e8, upd_eta e9, upd_eta e10]
    refine WP.block' (by kernel_rfl) ?_
    obtain ⟨Inv_again3, m_again3, h0, hr⟩ := h
    refine WP.loop' (by kernel_rfl) (fun m_again3 => fun l I S => asSl (l 0) fun z_0 z_0n z_0c => asStr (l 1) fun origin_1 => asI .i64 (l 5) fun soas_5 => asSl (l 8) fun x8 x8n x8c => asI .i64 (l 9) fun x9 => asI .i64 (l 10) fun x10 => Inv_again3 m_again3 z_0 z_0n z_0c origin_1 soas_5 x8 x8n x8c x9 x10 I S) m_again3 (cast (by kernel_rfl) h0) ?_
    clear h0
    intro m_again3 l I S hle h
    obtain ⟨z_0, z_0n, z_0c, e0, h⟩ := asSl_e h
    obtain ⟨origin_1, e1, h⟩ := asStr_e h
    obtain ⟨soas_5, e5, h⟩ := asI_e h
    obtain ⟨x8, x8n, x8c, e8, h⟩ := asSl_e h
    obtain ⟨x9, e9, h⟩ := asI_e h
    obtain ⟨x10, e10, h⟩ := asI_e h
    rw [upd_eta e0, upd_eta e1, upd_eta e5, upd_eta e8, upd_eta e9, upd_eta e10]
    have h := hr m_again3 z_0 z_0n z_0c origin_1 soas_5 x8 x8n x8c x9 x10 I S hle h
    clear hr hle
    refine WP.cut 2 (fun l I S => asSl (l 0) fun z_0 z_0n z_0c => asStr (l 1) fun origin_1 => asI .i64 (l 5) fun soas_5 => asSl (l 8) fun x8 x8n x8c => asI .i64 (l 9) fun x9 => asI .i64 (l 10) fun x10 => zone_Right_b4 (fun z_0 z_0n z_0c origin_1 soas_5 x8 x8n x8c x9 x10 I S => ∃ m', m' < m_again3 ∧ Inv_again3 m' z_0 z_0n z_0c origin_1 soas_5 x8 x8n x8c x9 x10 I S) R z_0 z_0n z_0c origin_1 soas_5 x8 x8n x8c x9 x10 I S) (cast (by kernel_rfl) h) ?_
    clear h
    intro l I S _ h
    obtain ⟨z_0, z_0n, z_0c, e0, h⟩ := asSl_e h
    obtain ⟨origin_1, e1, h⟩ := asStr_e h
    obtain ⟨soas_5, e5, h⟩ := asI_e h
    obtain ⟨x8, x8n, x8c, e8, h⟩ := asSl_e h
    obtain ⟨x9, e9, h⟩ := asI_e h
    obtain ⟨x10, e10, h⟩ := asI_e h
    rw [upd_eta e0, upd_eta e1, upd_eta e5, upd_eta e8, upd_eta e9, upd_eta e10]
    refine WP.seqY (by kernel_rfl) (fun l I S => asSl (l 0) fun z_0 z_0n z_0c => asStr (l 1) fun origin_1 => asI .i64 (l 5) fun soas_5 => asSl (l 8) fun x8 x8n x8c => asI .i64 (l 9) fun x9 => asI .i64 (l 10) fun x10 => zone_Right_b8 (fun z_0 z_0n z_0c origin_1 soas_5 x8 x8n x8c x9 x10 I S => ∃ m', m' < m_again3 ∧ Inv_again3 m' z_0 z_0n z_0c origin_1 soas_5 x8 x8n x8c x9 x10 I S) R z_0 z_0n z_0c origin_1 soas_5 x8 x8n x8c x9 x10 I S) ?_ ?_
    ·
      refine WP.block' (by kernel_rfl) ?_
      refine WP.cut 1 (fun l I S => asSl (l 0) fun z_0 z_0n z_0c => asStr (l 1) fun origin_1 => asI .i64 (l 5) fun soas_5 => asI .i64 (l 6) fun k_6 => asAdr (l 7) fun r_7 => asSl (l 8) fun x8 x8n x8c => asI .i64 (l 9) fun x9 => asI .i64 (l 10) fun x10 => zone_Right_b5 (fun z_0 z_0n z_0c origin_1 soas_5 x8 x8n x8c x9 x10 I S => ∃ m', m' < m_again3 ∧ Inv_again3 m' z_0 z_0n z_0c origin_1 soas_5 x8 x8n x8c x9 x10 I S) R z_0 z_0n z_0c origin_1 soas_5 k_6 r_7 x8 x8n x8c x9 x10 I S) (cast (by kernel_rfl) h) ?_
      clear h
      intro l I S _ h
      obtain ⟨z_0, z_0n, z_0c, e0, h⟩ := asSl_e h
      obtain ⟨origin_1, e1, h⟩ := asStr_e h
      obtain ⟨soas_5, e5, h⟩ := asI_e h
      obtain ⟨k_6, e6, h⟩ := asI_e h
      obtain ⟨r_7, e7, h⟩ := asAdr_e h
      obtain ⟨x8, x8n, x8c, e8, h⟩ := asSl_e h
      obtain ⟨x9, e9, h⟩ := asI_e h
      obtain ⟨x10, e10, h⟩ := asI_e h
      rw [upd_eta e0, upd_eta e1, upd_eta e5, upd_eta e6, upd_eta e7, upd_eta e8, upd_eta e9, upd_eta e10]
      refine WP.seqY (by kernel_rfl) (fun l I S => asSl (l 0) fun z_0 z_0n z_0c => asStr (l 1) fun origin_1 => asI .i64 (l 5) fun soas_5 => asAdr (l 7) fun r_7 => asSl (l 8) fun x8 x8n x8c => asI .i64 (l 9) fun x9 => asI .i64 (l 10) fun x10 => zone_Right_b7 (fun z_0 z_0n z_0c origin_1 soas_5 x8 x8n x8c x9 x10 I S => ∃ m', m' < m_again3 ∧ Inv_again3 m' z_0 z_0n z_0c origin_1 soas_5 x8 x8n x8c x9 x10 I S) R z_0 z_0n z_0c origin_1 soas_5 r_7 x8 x8n x8c x9 x10 I S) ?_ ?_
      ·
        refine WP.seqY (by kernel_rfl) (fun l I S => asSl (l 0) fun z_0 z_0n z_0c => asStr (l 1) fun origin_1 => asI .i64 (l 5) fun soas_5 => asAdr (l 7) fun r_7 => asSl (l 8) fun x8 x8n x8c => asI .i64 (l 9) fun x9 => asI .i64 (l 10) fun x10 => asB (l 38) fun x38 => zone_Right_b6 (fun z_0 z_0n z_0c origin_1 soas_5 x8 x8n x8c x9 x10 I S => ∃ m', m' < m_again3 ∧ Inv_again3 m' z_0 z_0n z_0c origin_1 soas_5 x8 x8n x8c x9 x10 I S) R z_0 z_0n z_0c origin_1 soas_5 r_7 x8 x8n x8c x9 x10 x38 I S) ?_ ?_
        ·
          exact WP.quiet' (by kernel_rfl) (by kernel_rfl) (by kernel_rfl) (cast (by kernel_rfl) h)
        · clear h
          intro l I S _ h
          obtain ⟨z_0, z_0n, z_0c, e0, h⟩ := asSl_e h
          obtain ⟨origin_1, e1, h⟩ := asStr_e h
          obtain ⟨soas_5, e5, h⟩ := asI_e h
          obtain ⟨r_7, e7, h⟩ := asAdr_e h
          obtain ⟨x8, x8n, x8c, e8, h⟩ := asSl_e h
          obtain ⟨x9, e9, h⟩ := asI_e h
          obtain ⟨x10, e10, h⟩ := asI_e h
          obtain ⟨x38, e38, h⟩ := asB_e h
          rw [upd_eta e0, upd_eta e1, upd_eta e5, upd_eta e7, upd_eta e8, upd_eta e9, upd_eta e10, upd_eta e38]
          exact Pre.sound _ _ _ _ _ (cast (by kernel_rfl) h)
      · clear h
        intro l I S _ h
        obtain ⟨z_0, z_0n, z_0c, e0, h⟩ := asSl_e h
        obtain ⟨origin_1, e1, h⟩ := asStr_e h
        obtain ⟨soas_5, e5, h⟩ := asI_e h
        obtain ⟨r_7, e7, h⟩ := asAdr_e h
        obtain ⟨x8, x8n, x8c, e8, h⟩ := asSl_e h
        obtain ⟨x9, e9, h⟩ := asI_e h
        obtain ⟨x10, e10, h⟩ := asI_e h
        rw [upd_eta e0, upd_eta e1, upd_eta e5, upd_eta e7, upd_eta e8, upd_eta e9, upd_eta e10]
        exact Pre.sound _ _ _ _ _ (cast (by kernel_rfl) h)
    · clear h
      intro l I S _ h
      obtain ⟨z_0, z_0n, z_0c, e0, h⟩ := asSl_e h
      obtain ⟨origin_1, e1, h⟩ := asStr_e h
      obtain ⟨soas_5, e5, h⟩ := asI_e h
      obtain ⟨x8, x8n, x8c, e8, h⟩ := asSl_e h
      obtain ⟨x9, e9, h⟩ := asI_e h
      obtain ⟨x10, e10, h⟩ := asI_e h
      rw [upd_eta e0, upd_eta e1, upd_eta e5, upd_eta e8, upd_eta e9, upd_eta e10]
      exact Pre.sound _ _ _ _ _ (cast (by kernel_rfl) h)
  · clear h
    intro l I S _ h
    obtain ⟨z_0, z_0n, z_0c, e0, h⟩ := asSl_e h
    obtain ⟨soas_5, e5, h⟩ := asI_e h
    rw [upd_eta e0, upd_eta e5]
    refine WP.cut 1 (fun l I S => asB (l 4) fun x4 => zone_Right_b10 R x4 I S) (cast (by kernel_rfl) h) ?_
    clear h
    intro l I S _ h
    obtain ⟨x4, e4, h⟩ := asB_e h
    rw [upd_eta e4]
    exact Pre.sound _ _ _ _ _ (cast (by kernel_rfl) h)
/-! ### zone_Insert: function 89, bolter/zone.Insert -/
noncomputable def zone_Insert_code : Code := (Tryz.f89.body).getD .skip
def zone_Insert_b2 (R : Value → IMem → SH → Prop) (x4 : Option Addr) (x4n : Nat) (x4c : Nat) (x5 : Value) (I : IMem) (S : SH) : Prop :=
  R (.tuple #[.slice x4 x4n x4c, x5]) I S
def zone_Insert_b1 (R : Value → IMem → SH → Prop) (z_0 : Option Addr) (z_0n : Nat) (z_0c : Nat) (r_3 : Addr) (k_6 : Int) (I : IMem) (S : SH) : Prop :=
  ∃ x19_0, Cell I S r_3 (.string x19_0) ∧
  ∃ x19_1, Cell I S (r_3.add 1) (.int .u16 x19_1) ∧
  ∃ x19_2, Cell I S (r_3.add 2) (.int .u32 x19_2) ∧
  ∃ x19_3, Cell I S (r_3.add 3) (.string x19_3) ∧
  (Runs Tryz.prog 67 #[.slice z_0 z_0n z_0c] I S fun v I1 S1 => ∃ x17 x17n x17c, v = .slice x17 x17n x17c ∧
  Keep I S I1 S1 ∧
  ∀ b20 : Nat,
  Runs Tryz.prog 111 #[.slice x17 x17n x17c, .int .i64 k_6, .slice (some ⟨b20, 0, none⟩) 1 1] I1 ((b20, .cells #[.string x19_0, .int .u16 x19_1, .int .u32 x19_2, .string x19_3] 32 (0, 0)) :: S1) fun v' I1' S1' => ∃ x21 x21n x21c, v' = .slice x21 x21n x21c ∧
  zone_Insert_b2 R x21 x21n x21c .nilIface I1' S1') ∧
  (∀ b20' : Nat,
  Runs Tryz.prog 67 #[.slice z_0 z_0n z_0c] I ((b20', .cells #[.string x19_0, .int .u16 x19_1, .int .u32 x19_2, .string x19_3] 32 (0, 0)) :: S) fun v'' I1'' S1'' => ∃ x17' x17'n x17'c, v'' = .slice x17' x17'n x17'c ∧
  Keep I S I1'' S1'' ∧
  Runs Tryz.prog 111 #[.slice x17' x17'n x17'c, .int .i64 k_6, .slice (some ⟨b20', 0, none⟩) 1 1] I1'' S1'' fun v_r3 I1_r3 S1_r3 => ∃ x21' x21'n x21'c, v_r3 = .slice x21' x21'n x21'c ∧
  zone_Insert_b2 R x21' x21'n x21'c .nilIface I1_r3 S1_r3)
def zone_Insert (R : Value → IMem → SH → Prop) (z_0 : Option Addr) (z_0n : Nat) (z_0c : Nat) (r_1_0 : ByteArray) (r_1_1 : Int) (r_1_2 : Int) (r_1_3 : ByteArray) (I : IMem) (S : SH) : Prop :=
  ∀ b3 : Nat,
  ∃ x10_0, Cell I ((b3, .cells #[.string r_1_0, .int .u16 r_1_1, .int .u32 r_1_2, .string r_1_3] 32 (0, 0)) :: S) ⟨b3, 0, none⟩ (.string x10_0) ∧
  ∃ x10_1, Cell I ((b3, .cells #[.string r_1_0, .int .u16 r_1_1, .int .u32 r_1_2, .string r_1_3] 32 (0, 0)) :: S) ⟨b3, 1, none⟩ (.int .u16 x10_1) ∧
  ∃ x10_2, Cell I ((b3, .cells #[.string r_1_0, .int .u16 r_1_1, .int .u32 r_1_2, .string r_1_3] 32 (0, 0)) :: S) ⟨b3, 2, none⟩ (.int .u32 x10_2) ∧
  ∃ x10_3, Cell I ((b3, .cells #[.string r_1_0, .int .u16 r_1_1, .int .u32 r_1_2, .string r_1_3] 32 (0, 0)) :: S) ⟨b3, 3, none⟩ (.string x10_3) ∧
  Runs Tryz.prog 69 #[.slice z_0 z_0n z_0c, .agg #[.string x10_0, .int .u16 x10_1, .int .u32 x10_2, .string x10_3], .func (.func 63) #[] #[]] I ((b3, .cells #[.string r_1_0, .int .u16 r_1_1, .int .u32 r_1_2, .string r_1_3] 32 (0, 0)) :: S) fun v I1 S1 => ∃ x11_0 x11_1, v = .tuple #[.int .i64 x11_0, .bool x11_1] ∧
  bcase x11_1
    (R (.tuple #[.slice none 0 0, (.iface 123 (.int .i64 7))]) I1 S1)
    (zone_Insert_b1 R z_0 z_0n z_0c ⟨b3, 0, none⟩ x11_0 I1 S1)
theorem zone_Insert_fn (R : Value → IMem → SH → Prop) (z_0 : Option Addr) (z_0n : Nat) (z_0c : Nat) (r_1_0 : ByteArray) (r_1_1 : Int) (r_1_2 : Int) (r_1_3 : ByteArray) (I : IMem) (S : SH) (h : zone_Insert R z_0 z_0n z_0c r_1_0 r_1_1 r_1_2 r_1_3 I S) :
    Runs Tryz.prog 89 #[.slice z_0 z_0n z_0c, .agg #[.string r_1_0, .int .u16 r_1_1, .int .u32 r_1_2, .string r_1_3]] I S R := by
  refine Runs.of_wp (args := [.slice z_0 z_0n z_0c, .agg #[.string r_1_0, .int .u16 r_1_1, .int .u32 r_1_2, .string r_1_3]]) (c := zone_Insert_code) Tryz.func89 (by kernel_rfl) (by kernel_rfl) ?_
  refine WP.cut 3 (fun l I S => asSl (l 0) fun z_0 z_0n z_0c => asAdr (l 3) fun r_3 => asI .i64 (l 6) fun k_6 => zone_Insert_b1 R z_0 z_0n z_0c r_3 k_6 I S) (cast (by kernel_rfl) h) ?_
  clear h
  intro l I S _ h
  obtain ⟨z_0, z_0n, z_0c, e0, h⟩ := asSl_e h
  obtain ⟨r_3, e3, h⟩ := asAdr_e h
  obtain ⟨k_6, e6, h⟩ := asI_e h
  rw [upd_eta e0, upd_eta e3, upd_eta e6]
  refine WP.seqY (by kernel_rfl) (fun l I S => asSl (l 4) fun x4 x4n x4c => asV (l 5) fun x5 => zone_Insert_b2 R x4 x4n x4c x5 I S) ?_ ?_
  ·
    exact WP.draw' (.take 0 (.take 2 (.take 3 (.fork 1 (.step 4 (.step 5 (.take 6 (.take 7 .done)))) 4 (.step 1 (.step 5 (.take 6 (.take 7 .done)))))))) [1, 4, 5] (by kernel_rfl) (by kernel_rfl) (by kernel_rfl) (by kernel_rfl) (by kernel_rfl) (cast (by kernel_rfl) h)
  · clear h
    intro l I S _ h
    obtain ⟨x4, x4n, x4c, e4, h⟩ := asSl_e h
    obtain ⟨x5, e5, h⟩ := asV_e h
    rw [upd_eta e4, upd_eta e5]
    exact Pre.sound _ _ _ _ _ (cast (by kernel_rfl) h)
/-! ### cmp_Or_int: function 80, cmp.Or[int] -/
noncomputable def cmp_Or_int_code : Code := (Tryz.f80.body).getD .skip
def cmp_Or_int_b4 (R : Value → IMem → SH → Prop) (zero_3 : Int) (I : IMem) (S : SH) : Prop :=
  R (.int .i64 zero_3) I S
def cmp_Or_int_l3 (again3 : Int → Option Addr → Nat → Nat → Int → Int → IMem → SH → Prop) (R : Value → IMem → SH → Prop) (zero_3 : Int) (x6 : Option Addr) (x6n : Nat) (x6c : Nat) (x7 : Int) (x8 : Int) (I : IMem) (S : SH) : Prop :=
  bcase (decide (x8 < x7))
    (ptrP x6 fun x10 => (0 : Int) ≤ x8 ∧ x8 < (x6n : Int) ∧
    ∃ x11, Cell I S (x10.add (x8.toNat * 1)) (.int .i64 x11) ∧
    bcase (x11 != zero_3)
      (R (.int .i64 x11) I S)
      (again3 zero_3 x6 x6n x6c x7 (IntKind.wrap .i64 (x8 + (1 : Int))) I S))
    (cmp_Or_int_b4 R zero_3 I S)
def cmp_Or_int_b2 (R : Value → IMem → SH → Prop) (zero_3 : Int) (x6 : Option Addr) (x6n : Nat) (x6c : Nat) (x7 : Int) (x8 : Int) (I : IMem) (S : SH) : Prop :=
  ∃ (Inv : Nat → Int → Option Addr → Nat → Nat → Int → Int → IMem → SH → Prop) (m : Nat), Inv m zero_3 x6 x6n x6c x7 x8 I S ∧
    ∀ (m : Nat) (zero_3 : Int) (x6 : Option Addr) (x6n : Nat) (x6c : Nat) (x7 : Int) (x8 : Int) (J : IMem) (T : SH), I.le J → Inv m zero_3 x6 x6n x6c x7 x8 J T →
      cmp_Or_int_l3 (fun zero_3 x6 x6n x6c x7 x8 I S => ∃ m', m' < m ∧ Inv m' zero_3 x6 x6n x6c x7 x8 I S) R zero_3 x6 x6n x6c x7 x8 J T
def cmp_Or_int_b1 (R : Value → IMem → SH → Prop) (vals_0 : Option Addr) (vals_0n : Nat) (vals_0c : Nat) (zero_3 : Int) (I : IMem) (S : SH) : Prop :=
  cmp_Or_int_b2 R zero_3 vals_0 vals_0n vals_0c (vals_0n : Int) 0 I S
def cmp_Or_int (R : Value → IMem → SH → Prop) (vals_0 : Option Addr) (vals_0n : Nat) (vals_0c : Nat) (I : IMem) (S : SH) : Prop :=
  cmp_Or_int_b1 R vals_0 vals_0n vals_0c 0 I S
theorem cmp_Or_int_fn (R : Value → IMem → SH → Prop) (vals_0 : Option Addr) (vals_0n : Nat) (vals_0c : Nat) (I : IMem) (S : SH) (h : cmp_Or_int R vals_0 vals_0n vals_0c I S) :
    Runs Tryz.prog 80 #[.slice vals_0 vals_0n vals_0c] I S R := by
  refine Runs.of_wp (args := [.slice vals_0 vals_0n vals_0c]) (c := cmp_Or_int_code) Tryz.func80 (by kernel_rfl) (by kernel_rfl) ?_
  refine WP.cut 2 (fun l I S => asSl (l 0) fun vals_0 vals_0n vals_0c => asI .i64 (l 3) fun zero_3 => cmp_Or_int_b1 R vals_0 vals_0n vals_0c zero_3 I S) (cast (by kernel_rfl) h) ?_
  clear h
  intro l I S _ h
  obtain ⟨vals_0, vals_0n, vals_0c, e0, h⟩ := asSl_e h
  obtain ⟨zero_3, e3, h⟩ := asI_e h
  rw [upd_eta e0, upd_eta e3]
  refine WP.seqY (by kernel_rfl) (fun l I S => asI .i64 (l 3) fun zero_3 => cmp_Or_int_b4 R zero_3 I S) ?_ ?_
  ·
    refine WP.cut 1 (fun l I S => asI .i64 (l 3) fun zero_3 => asSl (l 6) fun x6 x6n x6c => asI .i64 (l 7) fun x7 => asI .i64 (l 8) fun x8 => cmp_Or_int_b2 R zero_3 x6 x6n x6c x7 x8 I S) (cast (by kernel_rfl) h) ?_
    clear h
    intro l I S _ h
    obtain ⟨zero_3, e3, h⟩ := asI_e h
    obtain ⟨x6, x6n, x6c, e6, h⟩ := asSl_e h
    obtain ⟨x7, e7, h⟩ := asI_e h
    obtain ⟨x8, e8, h⟩ := asI_e h
    rw [upd_eta e3, upd_eta e6, upd_eta e7, upd_eta e8]
    refine WP.block' (by kernel_rfl) ?_
    obtain ⟨Inv_again3, m_again3, h0, hr⟩ := h
    refine WP.loop' (by kernel_rfl) (fun m_again3 => fun l I S => asI .i64 (l 3) fun zero_3 => asSl (l 6) fun x6 x6n x6c => asI .i64 (l 7) fun x7 => asI .i64 (l 8) fun x8 => Inv_again3 m_again3 zero_3 x6 x6n x6c x7 x8 I S) m_again3 (cast (by kernel_rfl) h0) ?_
    clear h0
    intro m_again3 l I S hle h
    obtain ⟨zero_3, e3, h⟩ := asI_e h
    obtain ⟨x6, x6n, x6c, e6, h⟩ := asSl_e h
    obtain ⟨x7, e7, h⟩ := asI_e h
    obtain ⟨x8, e8, h⟩ := asI_e h
    rw [upd_eta e3, upd_eta e6, upd_eta e7, upd_eta e8]
    have h := hr m_again3 zero_3 x6 x6n x6c x7 x8 I S hle h
    clear hr hle
    exact Pre.sound _ _ _ _ _ (cast (by kernel_rfl) h)
  · clear h
    intro l I S _ h
    obtain ⟨zero_3, e3, h⟩ := asI_e h
    rw [upd_eta e3]
    exact Pre.sound _ _ _ _ _ (cast (by kernel_rfl) h)
/-! ### cmp_Compare_api_Name: function 81, cmp.Compare[bolter/api.Name] -/
noncomputable def cmp_Compare_api_Name_code : Code := (Tryz.f81.body).getD .skip
def cmp_Compare_api_Name (R : Value → IMem → SH → Prop) (x_0 : ByteArray) (y_1 : ByteArray) (I : IMem) (S : SH) : Prop :=
  Runs Tryz.prog 105 #[.string x_0] I S fun v I1 S1 => ∃ x8, v = .bool x8 ∧
  Runs Tryz.prog 105 #[.string y_1] I1 S1 fun v' I1' S1' => ∃ x10, v' = .bool x10 ∧
  bcase x8
    (bcase x10
      (R (.int .i64 0) I1' S1')
      (R (.int .i64 (-1)) I1' S1'))
    (bcase x10
      (R (.int .i64 1) I1' S1')
      (bcase (Op.bytesLess x_0.toList y_1.toList)
        (R (.int .i64 (-1)) I1' S1')
        (bcase (!((Op.bytesLess x_0.toList y_1.toList) || (x_0.toList == y_1.toList)))
          (R (.int .i64 1) I1' S1')
          (R (.int .i64 0) I1' S1'))))
theorem cmp_Compare_api_Name_fn (R : Value → IMem → SH → Prop) (x_0 : ByteArray) (y_1 : ByteArray) (I : IMem) (S : SH) (h : cmp_Compare_api_Name R x_0 y_1 I S) :
    Runs Tryz.prog 81 #[.string x_0, .string y_1] I S R := by
  refine Runs.of_wp (args := [.string x_0, .string y_1]) (c := cmp_Compare_api_Name_code) Tryz.func81 (by kernel_rfl) (by kernel_rfl) ?_
  exact Pre.sound _ _ _ _ _ (cast (by kernel_rfl) h)
/-! ### cmp_Compare_api_Type: function 82, cmp.Compare[bolter/api.Type] -/
noncomputable def cmp_Compare_api_Type_code : Code := (Tryz.f82.body).getD .skip
def cmp_Compare_api_Type (R : Value → IMem → SH → Prop) (x_0 : Int) (y_1 : Int) (I : IMem) (S : SH) : Prop :=
  Runs Tryz.prog 106 #[.int .u16 x_0] I S fun v I1 S1 => ∃ x8, v = .bool x8 ∧
  Runs Tryz.prog 106 #[.int .u16 y_1] I1 S1 fun v' I1' S1' => ∃ x10, v' = .bool x10 ∧
  bcase x8
    (bcase x10
      (R (.int .i64 0) I1' S1')
      (R (.int .i64 (-1)) I1' S1'))
    (bcase x10
      (R (.int .i64 1) I1' S1')
      (bcase (decide (x_0 < y_1))
        (R (.int .i64 (-1)) I1' S1')
        (bcase (decide (x_0 > y_1))
          (R (.int .i64 1) I1' S1')
          (R (.int .i64 0) I1' S1'))))
theorem cmp_Compare_api_Type_fn (R : Value → IMem → SH → Prop) (x_0 : Int) (y_1 : Int) (I : IMem) (S : SH) (h : cmp_Compare_api_Type R x_0 y_1 I S) :
    Runs Tryz.prog 82 #[.int .u16 x_0, .int .u16 y_1] I S R := by
  refine Runs.of_wp (args := [.int .u16 x_0, .int .u16 y_1]) (c := cmp_Compare_api_Type_code) Tryz.func82 (by kernel_rfl) (by kernel_rfl) ?_
  exact Pre.sound _ _ _ _ _ (cast (by kernel_rfl) h)
/-! ### cmp_Compare_string: function 83, cmp.Compare[string] -/
noncomputable def cmp_Compare_string_code : Code := (Tryz.f83.body).getD .skip
def cmp_Compare_string (R : Value → IMem → SH → Prop) (x_0 : ByteArray) (y_1 : ByteArray) (I : IMem) (S : SH) : Prop :=
  Runs Tryz.prog 107 #[.string x_0] I S fun v I1 S1 => ∃ x8, v = .bool x8 ∧
  Runs Tryz.prog 107 #[.string y_1] I1 S1 fun v' I1' S1' => ∃ x10, v' = .bool x10 ∧
  bcase x8
    (bcase x10
      (R (.int .i64 0) I1' S1')
      (R (.int .i64 (-1)) I1' S1'))
    (bcase x10
      (R (.int .i64 1) I1' S1')
      (bcase (Op.bytesLess x_0.toList y_1.toList)
        (R (.int .i64 (-1)) I1' S1')
        (bcase (!((Op.bytesLess x_0.toList y_1.toList) || (x_0.toList == y_1.toList)))
          (R (.int .i64 1) I1' S1')
          (R (.int .i64 0) I1' S1'))))
theorem cmp_Compare_string_fn (R : Value → IMem → SH → Prop) (x_0 : ByteArray) (y_1 : ByteArray) (I : IMem) (S : SH) (h : cmp_Compare_string R x_0 y_1 I S) :
    Runs Tryz.prog 83 #[.string x_0, .string y_1] I S R := by
  refine Runs.of_wp (args := [.string x_0, .string y_1]) (c := cmp_Compare_string_code) Tryz.func83 (by kernel_rfl) (by kernel_rfl) ?_
  exact Pre.sound _ _ _ _ _ (cast (by kernel_rfl) h)
/-! ### cmp_Compare_uint32: function 84, cmp.Compare[uint32] -/
noncomputable def cmp_Compare_uint32_code : Code := (Tryz.f84.body).getD .skip
def cmp_Compare_uint32 (R : Value → IMem → SH → Prop) (x_0 : Int) (y_1 : Int) (I : IMem) (S : SH) : Prop :=
  Runs Tryz.prog 108 #[.int .u32 x_0] I S fun v I1 S1 => ∃ x8, v = .bool x8 ∧
  Runs Tryz.prog 108 #[.int .u32 y_1] I1 S1 fun v' I1' S1' => ∃ x10, v' = .bool x10 ∧
  bcase x8
    (bcase x10
      (R (.int .i64 0) I1' S1')
      (R (.int .i64 (-1)) I1' S1'))
    (bcase x10
      (R (.int .i64 1) I1' S1')
      (bcase (decide (x_0 < y_1))
        (R (.int .i64 (-1)) I1' S1')
        (bcase (decide (x_0 > y_1))
          (R (.int .i64 1) I1' S1')
          (R (.int .i64 0) I1' S1'))))
theorem cmp_Compare_uint32_fn (R : Value → IMem → SH → Prop) (x_0 : Int) (y_1 : Int) (I : IMem) (S : SH) (h : cmp_Compare_uint32 R x_0 y_1 I S) :
    Runs Tryz.prog 84 #[.int .u32 x_0, .int .u32 y_1] I S R := by
  refine Runs.of_wp (args := [.int .u32 x_0, .int .u32 y_1]) (c := cmp_Compare_uint32_code) Tryz.func84 (by kernel_rfl) (by kernel_rfl) ?_
  exact Pre.sound _ _ _ _ _ (cast (by kernel_rfl) h)
/-! ### slices_BinarySearchFunc_api_Record: function 69, slices.BinarySearchFunc[bolter/zone.Zone,bolter/api.Record,bolter/api.Record] -/
noncomputable def slices_BinarySearchFunc_api_Record_code : Code := (Tryz.f69.body).getD .skip
def slices_BinarySearchFunc_api_Record_b5 (again2 : Option Addr → Nat → Nat → Addr → Int → Int → Int → IMem → SH → Prop) (R : Value → IMem → SH → Prop) (x_0 : Option Addr) (x_0n : Nat) (x_0c : Nat) (target_4 : Addr) (n_8 : Int) (i_9 : Int) (j_10 : Int) (h_11 : Int) (x31 : Bool) (I : IMem) (S : SH) : Prop :=
  bcase x31
    (again2 x_0 x_0n x_0c target_4 n_8 (IntKind.wrap .i64 (h_11 + (1 : Int))) j_10 I S)
    (again2 x_0 x_0n x_0c target_4 n_8 i_9 h_11 I S)
def slices_BinarySearchFunc_api_Record_b4 (again2 : Option Addr → Nat → Nat → Addr → Int → Int → Int → IMem → SH → Prop) (R : Value → IMem → SH → Prop) (x_0 : Option Addr) (x_0n : Nat) (x_0c : Nat) (target_4 : Addr) (n_8 : Int) (i_9 : Int) (j_10 : Int) (h_11 : Int) (I : IMem) (S : SH) : Prop :=
  ptrP x_0 fun x27 => (0 : Int) ≤ h_11 ∧ h_11 < (x_0n : Int) ∧
  ∃ x28_0, Cell I S (x27.add (h_11.toNat * 4)) (.string x28_0) ∧
  ∃ x28_1, Cell I S ((x27.add (h_11.toNat * 4)).add 1) (.int .u16 x28_1) ∧
  ∃ x28_2, Cell I S ((x27.add (h_11.toNat * 4)).add 2) (.int .u32 x28_2) ∧
  ∃ x28_3, Cell I S ((x27.add (h_11.toNat * 4)).add 3) (.string x28_3) ∧
  ∃ x29_0, Cell I S target_4 (.string x29_0) ∧
  ∃ x29_1, Cell I S (target_4.add 1) (.int .u16 x29_1) ∧
  ∃ x29_2, Cell I S (target_4.add 2) (.int .u32 x29_2) ∧
  ∃ x29_3, Cell I S (target_4.add 3) (.string x29_3) ∧
  ∃ x30, Runs Tryz.prog 63 #[.agg #[.string x28_0, .int .u16 x28_1, .int .u32 x28_2, .string x28_3], .agg #[.string x29_0, .int .u16 x29_1, .int .u32 x29_2, .string x29_3]] I S (fun v' _ T => v' = .int .i64 x30 ∧ T = S) ∧
  slices_BinarySearchFunc_api_Record_b5 again2 R x_0 x_0n x_0c target_4 n_8 i_9 j_10 h_11 (decide (x30 < (0 : Int))) I S
def slices_BinarySearchFunc_api_Record_b3 (again2 : Option Addr → Nat → Nat → Addr → Int → Int → Int → IMem → SH → Prop) (R : Value → IMem → SH → Prop) (x_0 : Option Addr) (x_0n : Nat) (x_0c : Nat) (target_4 : Addr) (n_8 : Int) (i_9 : Int) (j_10 : Int) (I : IMem) (S : SH) : Prop :=
  slices_BinarySearchFunc_api_Record_b4 again2 R x_0 x_0n x_0c target_4 n_8 i_9 j_10 (IntKind.wrap .i64 ((IntKind.wrap .u64 (IntKind.wrap .i64 (i_9 + j_10))).fdiv (2 ^ (min (1 : Int).toNat (IntKind.bits .u64))))) I S
def slices_BinarySearchFunc_api_Record_b7 (R : Value → IMem → SH → Prop) (x6 : Int) (x7 : Bool) (I : IMem) (S : SH) : Prop :=
  R (.tuple #[.int .i64 x6, .bool x7]) I S
def slices_BinarySearchFunc_api_Record_b6 (R : Value → IMem → SH → Prop) (x_0 : Option Addr) (x_0n : Nat) (x_0c : Nat) (target_4 : Addr) (n_8 : Int) (i_9 : Int) (I : IMem) (S : SH) : Prop :=
  bcase (decide (i_9 < n_8))
    (ptrP x_0 fun x43 => (0 : Int) ≤ i_9 ∧ i_9 < (x_0n : Int) ∧
    ∃ x44_0, Cell I S (x43.add (i_9.toNat * 4)) (.string x44_0) ∧
    ∃ x44_1, Cell I S ((x43.add (i_9.toNat * 4)).add 1) (.int .u16 x44_1) ∧
    ∃ x44_2, Cell I S ((x43.add (i_9.toNat * 4)).add 2) (.int .u32 x44_2) ∧
    ∃ x44_3, Cell I S ((x43.add (i_9.toNat * 4)).add 3) (.string x44_3) ∧
    ∃ x45_0, Cell I S target_4 (.string x45_0) ∧
    ∃ x45_1, Cell I S (target_4.add 1) (.int .u16 x45_1) ∧
    ∃ x45_2, Cell I S (target_4.add 2) (.int .u32 x45_2) ∧
    ∃ x45_3, Cell I S (target_4.add 3) (.string x45_3) ∧
    ∃ x46, Runs Tryz.prog 63 #[.agg #[.string x44_0, .int .u16 x44_1, .int .u32 x44_2, .string x44_3], .agg #[.string x45_0, .int .u16 x45_1, .int .u32 x45_2, .string x45_3]] I S (fun v' _ T => v' = .int .i64 x46 ∧ T = S) ∧
    slices_BinarySearchFunc_api_Record_b7 R i_9 (x46 == (0 : Int)) I S)
    (slices_BinarySearchFunc_api_Record_b7 R i_9 false I S)
def slices_BinarySearchFunc_api_Record_l2 (again2 : Option Addr → Nat → Nat → Addr → Int → Int → Int → IMem → SH → Prop) (R : Value → IMem → SH → Prop) (x_0 : Option Addr) (x_0n : Nat) (x_0c : Nat) (target_4 : Addr) (n_8 : Int) (i_9 : Int) (j_10 : Int) (I : IMem) (S : SH) : Prop :=
  bcase (decide (i_9 < j_10))
    (slices_BinarySearchFunc_api_Record_b3 again2 R x_0 x_0n x_0c target_4 n_8 i_9 j_10 I S)
    (slices_BinarySearchFunc_api_Record_b6 R x_0 x_0n x_0c target_4 n_8 i_9 I S)
def slices_BinarySearchFunc_api_Record_b1 (R : Value → IMem → SH → Prop) (x_0 : Option Addr) (x_0n : Nat) (x_0c : Nat) (target_4 : Addr) (n_8 : Int) (i_9 : Int) (j_10 : Int) (I : IMem) (S : SH) : Prop :=
  ∃ (Inv : Nat → Option Addr → Nat → Nat → Addr → Int → Int → Int → IMem → SH → Prop) (m : Nat), Inv m x_0 x_0n x_0c target_4 n_8 i_9 j_10 I S ∧
    ∀ (m : Nat) (x_0 : Option Addr) (x_0n : Nat) (x_0c : Nat) (target_4 : Addr) (n_8 : Int) (i_9 : Int) (j_10 : Int) (J : IMem) (T : SH), I.le J → Inv m x_0 x_0n x_0c target_4 n_8 i_9 j_10 J T →
      slices_BinarySearchFunc_api_Record_l2 (fun x_0 x_0n x_0c target_4 n_8 i_9 j_10 I S => ∃ m', m' < m ∧ Inv m' x_0 x_0n x_0c target_4 n_8 i_9 j_10 I S) R x_0 x_0n x_0c target_4 n_8 i_9 j_10 J T
def slices_BinarySearchFunc_api_Record (R : Value → IMem → SH → Prop) (x_0 : Option Addr) (x_0n : Nat) (x_0c : Nat) (target_1_0 : ByteArray) (target_1_1 : Int) (target_1_2 : Int) (target_1_3 : ByteArray) (I : IMem) (S : SH) : Prop :=
  ∀ b4 : Nat,
  slices_BinarySearchFunc_api_Record_b1 R x_0 x_0n x_0c ⟨b4, 0, none⟩ (x_0n : Int) 0 (x_0n : Int) I ((b4, .cells #[.string target_1_0, .int .u16 target_1_1, .int .u32 target_1_2, .string target_1_3] 32 (0, 0)) :: S)
theorem slices_BinarySearchFunc_api_Record_fn (R : Value → IMem → SH → Prop) (x_0 : Option Addr) (x_0n : Nat) (x_0c : Nat) (target_1_0 : ByteArray) (target_1_1 : Int) (target_1_2 : Int) (target_1_3 : ByteArray) (I : IMem) (S : SH) (h : slices_BinarySearchFunc_api_Record R x_0 x_0n x_0c target_1_0 target_1_1 target_1_2 target_1_3 I S) :
    Runs Tryz.prog 69 #[.slice x_0 x_0n x_0c, .agg #[.string target_1_0, .int .u16 target_1_1, .int .u32 target_1_2, .string target_1_3], .func (.func 63) #[] #[]] I S R := by
  refine Runs.of_wp (args := [.slice x_0 x_0n x_0c, .agg #[.string target_1_0, .int .u16 target_1_1, .int .u32 target_1_2, .string target_1_3], .func (.func 63) #[] #[]]) (c := slices_BinarySearchFunc_api_Record_code) Tryz.func69 (by kernel_rfl) (by kernel_rfl) ?_
  refine WP.cut 3 (fun l I S => asSl (l 0) fun x_0 x_0n x_0c => asF 63 (l 2) (asAdr (l 4) fun target_4 => asI .i64 (l 8) fun n_8 => asI .i64 (l 9) fun i_9 => asI .i64 (l 10) fun j_10 => slices_BinarySearchFunc_api_Record_b1 R x_0 x_0n x_0c target_4 n_8 i_9 j_10 I S)) (cast (by kernel_rfl) h) ?_
  clear h
  intro l I S _ h
  obtain ⟨x_0, x_0n, x_0c, e0, h⟩ := asSl_e h
  obtain ⟨e2, h⟩ := asF_e h
  obtain ⟨target_4, e4, h⟩ := asAdr_e h
  obtain ⟨n_8, e8, h⟩ := asI_e h
  obtain ⟨i_9, e9, h⟩ := asI_e h
  obtain ⟨j_10, e10, h⟩ := asI_e h
  rw [upd_eta e0, upd_eta e2, upd_eta e4, upd_eta e8, upd_eta e9, upd_eta e10]
  refine WP.seqY (by kernel_rfl) (fun l I S => asSl (l 0) fun x_0 x_0n x_0c => asF 63 (l 2) (asAdr (l 4) fun target_4 => asI .i64 (l 8) fun n_8 => asI .i64 (l 9) fun i_9 => slices_BinarySearchFunc_api_Record_b6 R x_0 x_0n x_0c target_4 n_8 i_9 I S)) ?_ ?_
  ·
    refine WP.block' (by kernel_rfl) ?_
    obtain ⟨Inv_again2, m_again2, h0, hr⟩ := h
    refine WP.loop' (by kernel_rfl) (fun m_again2 => fun l I S => asSl (l 0) fun x_0 x_0n x_0c => asF 63 (l 2) (asAdr (l 4) fun target_4 => asI .i64 (l 8) fun n_8 => asI .i64 (l 9) fun i_9 => asI .i64 (l 10) fun j_10 => Inv_again2 m_again2 x_0 x_0n x_0c target_4 n_8 i_9 j_10 I S)) m_again2 (cast (by kernel_rfl) h0) ?_
    clear h0
    intro m_again2 l I S hle h
    obtain ⟨x_0, x_0n, x_0c, e0, h⟩ := asSl_e h
    obtain ⟨e2, h⟩ := asF_e h
    obtain ⟨target_4, e4, h⟩ := asAdr_e h
    obtain ⟨n_8, e8, h⟩ := asI_e h
    obtain ⟨i_9, e9, h⟩ := asI_e h
    obtain ⟨j_10, e10, h⟩ := asI_e h
    rw [upd_eta e0, upd_eta e2, upd_eta e4, upd_eta e8, upd_eta e9, upd_eta e10]
    have h := hr m_again2 x_0 x_0n x_0c target_4 n_8 i_9 j_10 I S hle h
    clear hr hle
    refine WP.cut 1 (fun l I S => asSl (l 0) fun x_0 x_0n x_0c => asF 63 (l 2) (asAdr (l 4) fun target_4 => asI .i64 (l 8) fun n_8 => asI .i64 (l 9) fun i_9 => asI .i64 (l 10) fun j_10 => slices_BinarySearchFunc_api_Record_b3 (fun x_0 x_0n x_0c target_4 n_8 i_9 j_10 I S => ∃ m', m' < m_again2 ∧ Inv_again2 m' x_0 x_0n x_0c target_4 n_8 i_9 j_10 I S) R x_0 x_0n x_0c target_4 n_8 i_9 j_10 I S)) (cast (by kernel_rfl) h) ?_
    clear h
    intro l I S _ h
    obtain ⟨x_0, x_0n, x_0c, e0, h⟩ := asSl_e h
    obtain ⟨e2, h⟩ := asF_e h
    obtain ⟨target_4, e4, h⟩ := asAdr_e h
    obtain ⟨n_8, e8, h⟩ := asI_e h
    obtain ⟨i_9, e9, h⟩ := asI_e h
    obtain ⟨j_10, e10, h⟩ := asI_e h
    rw [upd_eta e0, upd_eta e2, upd_eta e4, upd_eta e8, upd_eta e9, upd_eta e10]
    refine WP.block' (by kernel_rfl) ?_
    refine WP.cut 1 (fun l I S => asSl (l 0) fun x_0 x_0n x_0c => asF 63 (l 2) (asAdr (l 4) fun target_4 => asI .i64 (l 8) fun n_8 => asI .i64 (l 9) fun i_9 => asI .i64 (l 10) fun j_10 => asI .i64 (l 11) fun h_11 => slices_BinarySearchFunc_api_Record_b4 (fun x_0 x_0n x_0c target_4 n_8 i_9 j_10 I S => ∃ m', m' < m_again2 ∧ Inv_again2 m' x_0 x_0n x_0c target_4 n_8 i_9 j_10 I S) R x_0 x_0n x_0c target_4 n_8 i_9 j_10 h_11 I S)) (cast (by kernel_rfl) h) ?_
    clear h
    intro l I S _ h
    obtain ⟨x_0, x_0n, x_0c, e0, h⟩ := asSl_e h
    obtain ⟨e2, h⟩ := asF_e h
    obtain ⟨target_4, e4, h⟩ := asAdr_e h
    obtain ⟨n_8, e8, h⟩ := asI_e h
    obtain ⟨i_9, e9, h⟩ := asI_e h
    obtain ⟨j_10, e10, h⟩ := asI_e h
    obtain ⟨h_11, e11, h⟩ := asI_e h
    rw [upd_eta e0, upd_eta e2, upd_eta e4, upd_eta e8, upd_eta e9, upd_eta e10, upd_eta e11]
    refine WP.seqY (by kernel_rfl) (fun l I S => asSl (l 0) fun x_0 x_0n x_0c => asF 63 (l 2) (asAdr (l 4) fun target_4 => asI .i64 (l 8) fun n_8 => asI .i64 (l 9) fun i_9 => asI .i64 (l 10) fun j_10 => asI .i64 (l 11) fun h_11 => asB (l 31) fun x31 => slices_BinarySearchFunc_api_Record_b5 (fun x_0 x_0n x_0c target_4 n_8 i_9 j_10 I S => ∃ m', m' < m_again2 ∧ Inv_again2 m' x_0 x_0n x_0c target_4 n_8 i_9 j_10 I S) R x_0 x_0n x_0c target_4 n_8 i_9 j_10 h_11 x31 I S)) ?_ ?_
    ·
      exact WP.quiet' (by kernel_rfl) (by kernel_rfl) (by kernel_rfl) (cast (by kernel_rfl) h)
    · clear h
      intro l I S _ h
      obtain ⟨x_0, x_0n, x_0c, e0, h⟩ := asSl_e h
      obtain ⟨e2, h⟩ := asF_e h
      obtain ⟨target_4, e4, h⟩ := asAdr_e h
      obtain ⟨n_8, e8, h⟩ := asI_e h
      obtain ⟨i_9, e9, h⟩ := asI_e h
      obtain ⟨j_10, e10, h⟩ := asI_e h
      obtain ⟨h_11, e11, h⟩ := asI_e h
      obtain ⟨x31, e31, h⟩ := asB_e h
      rw [upd_eta e0, upd_eta e2, upd_eta e4, upd_eta e8, upd_eta e9, upd_eta e10, upd_eta e11, upd_eta e31]
      exact Pre.sound _ _ _ _ _ (cast (by kernel_rfl) h)
  · clear h
    intro l I S _ h
    obtain ⟨x_0, x_0n, x_0c, e0, h⟩ := asSl_e h
    obtain ⟨e2, h⟩ := asF_e h
    obtain ⟨target_4, e4, h⟩ := asAdr_e h
    obtain ⟨n_8, e8, h⟩ := asI_e h
    obtain ⟨i_9, e9, h⟩ := asI_e h
    rw [upd_eta e0, upd_eta e2, upd_eta e4, upd_eta e8, upd_eta e9]
    refine WP.seqY (by kernel_rfl) (fun l I S => asI .i64 (l 6) fun x6 => asB (l 7) fun x7 => slices_BinarySearchFunc_api_Record_b7 R x6 x7 I S) ?_ ?_
    ·
      exact WP.quiet' (by kernel_rfl) (by kernel_rfl) (by kernel_rfl) (cast (by kernel_rfl) h)
    · clear h
      intro l I S _ h
      obtain ⟨x6, e6, h⟩ := asI_e h
      obtain ⟨x7, e7, h⟩ := asB_e h
      rw [upd_eta e6, upd_eta e7]
      exact Pre.sound _ _ _ _ _ (cast (by kernel_rfl) h)
/-! ### slices_Insert_api_Record: function 111, slices.Insert[bolter/zone.Zone,bolter/api.Record] -/
noncomputable def slices_Insert_api_Record_code : Code := (Tryz.f111.body).getD .skip
def slices_Insert_api_Record_b4 (R : Value → IMem → SH → Prop) (s2_9 : Option Addr) (s2_9n : Nat) (s2_9c : Nat) (I : IMem) (S : SH) : Prop :=
  R (.slice s2_9 s2_9n s2_9c) I S
def slices_Insert_api_Record_b3 (R : Value → IMem → SH → Prop) (s_0 : Option Addr) (s_0n : Nat) (s_0c : Nat) (i_1 : Int) (m_7 : Int) (s2_9 : Option Addr) (s2_9n : Nat) (s2_9c : Nat) (I : IMem) (S : SH) : Prop :=
  (0 : Int) ≤ (IntKind.wrap .i64 (i_1 + m_7)) ∧ (IntKind.wrap .i64 (i_1 + m_7)) ≤ ((s2_9n : Nat) : Int) ∧
  (0 : Int) ≤ i_1 ∧ i_1 ≤ ((s_0n : Nat) : Int) ∧
  CpyP 4 I S (.slice (slA s2_9 s2_9c ((IntKind.wrap .i64 (i_1 + m_7)).toNat) 4) (s2_9n - (IntKind.wrap .i64 (i_1 + m_7)).toNat) (s2_9c - (IntKind.wrap .i64 (i_1 + m_7)).toNat)) (.slice (slA s_0 s_0c i_1.toNat 4) (s_0n - i_1.toNat) (s_0c - i_1.toNat)) fun x54 S1 =>
  slices_Insert_api_Record_b4 R s2_9 s2_9n s2_9c I S1
def slices_Insert_api_Record_b8 (R : Value → IMem → SH → Prop) (s_0 : Option Addr) (s_0n : Nat) (s_0c : Nat) (i_1 : Int) (v_2 : Option Addr) (v_2n : Nat) (v_2c : Nat) (I : IMem) (S : SH) : Prop :=
  (0 : Int) ≤ i_1 ∧ i_1 ≤ ((s_0n : Nat) : Int) ∧
  CpyP 4 I S (.slice (slA s_0 s_0c i_1.toNat 4) (s_0n - i_1.toNat) (s_0c - i_1.toNat)) (.slice v_2 v_2n v_2c) fun x82 S1 =>
  R (.slice s_0 s_0n s_0c) I S1
def slices_Insert_api_Record_b9 (R : Value → IMem → SH → Prop) (s_0 : Option Addr) (s_0n : Nat) (s_0c : Nat) (i_1 : Int) (v_2 : Option Addr) (v_2n : Nat) (v_2c : Nat) (m_7 : Int) (n_8 : Int) (I : IMem) (S : SH) : Prop :=
  (0 : Int) ≤ n_8 ∧ n_8 ≤ ((s_0n : Nat) : Int) ∧
  CpyP 4 I S (.slice (slA s_0 s_0c n_8.toNat 4) (s_0n - n_8.toNat) (s_0c - n_8.toNat)) (.slice v_2 v_2n v_2c) fun x88 S1 =>
  (0 : Int) ≤ i_1 ∧ i_1 ≤ ((s_0n : Nat) : Int) ∧
  Runs Tryz.prog 120 #[.slice (slA s_0 s_0c i_1.toNat 4) (s_0n - i_1.toNat) (s_0c - i_1.toNat), .int .i64 m_7] I S1 fun v I1 S1' => v = .tuple #[] ∧
  R (.slice s_0 s_0n s_0c) I1 S1'
def slices_Insert_api_Record_b7 (R : Value → IMem → SH → Prop) (s_0 : Option Addr) (s_0n : Nat) (s_0c : Nat) (i_1 : Int) (v_2 : Option Addr) (v_2n : Nat) (v_2c : Nat) (m_7 : Int) (n_8 : Int) (x68 : Bool) (I : IMem) (S : SH) : Prop :=
  bcase x68
    ((0 : Int) ≤ (IntKind.wrap .i64 (i_1 + m_7)) ∧ (IntKind.wrap .i64 (i_1 + m_7)) ≤ ((s_0n : Nat) : Int) ∧
    (0 : Int) ≤ i_1 ∧ i_1 ≤ ((s_0n : Nat) : Int) ∧
    CpyP 4 I S (.slice (slA s_0 s_0c ((IntKind.wrap .i64 (i_1 + m_7)).toNat) 4) (s_0n - (IntKind.wrap .i64 (i_1 + m_7)).toNat) (s_0c - (IntKind.wrap .i64 (i_1 + m_7)).toNat)) (.slice (slA s_0 s_0c i_1.toNat 4) (s_0n - i_1.toNat) (s_0c - i_1.toNat)) fun x77 S1 =>
    slices_Insert_api_Record_b8 R s_0 s_0n s_0c i_1 v_2 v_2n v_2c I S1)
    (slices_Insert_api_Record_b9 R s_0 s_0n s_0c i_1 v_2 v_2n v_2c m_7 n_8 I S)
def slices_Insert_api_Record_b6 (R : Value → IMem → SH → Prop) (s_0 : Option Addr) (s_0n : Nat) (s_0c : Nat) (i_1 : Int) (v_2 : Option Addr) (v_2n : Nat) (v_2c : Nat) (m_7 : Int) (n_8 : Int) (I : IMem) (S : SH) : Prop :=
  (0 : Int) ≤ (IntKind.wrap .i64 (i_1 + m_7)) ∧ (IntKind.wrap .i64 (i_1 + m_7)) ≤ ((s_0n : Nat) : Int) ∧
  RunsX Tryz.prog 119 #[.slice v_2 v_2n v_2c, .slice (slA s_0 s_0c ((IntKind.wrap .i64 (i_1 + m_7)).toNat) 4) (s_0n - (IntKind.wrap .i64 (i_1 + m_7)).toNat) (s_0c - (IntKind.wrap .i64 (i_1 + m_7)).toNat)] I S fun v I1 S1 => ∃ x67, v = .bool x67 ∧
  slices_Insert_api_Record_b7 R s_0 s_0n s_0c i_1 v_2 v_2n v_2c m_7 n_8 (!x67) I1 S1
def slices_Insert_api_Record_b5 (R : Value → IMem → SH → Prop) (s_0 : Option Addr) (s_0n : Nat) (s_0c : Nat) (i_1 : Int) (v_2 : Option Addr) (v_2n : Nat) (v_2c : Nat) (m_7 : Int) (n_8 : Int) (I : IMem) (S : SH) : Prop :=
  (0 : Int) ≤ (IntKind.wrap .i64 (n_8 + m_7)) ∧ (IntKind.wrap .i64 (n_8 + m_7)) ≤ ((s_0c : Nat) : Int) ∧
  slices_Insert_api_Record_b6 R (slA s_0 s_0c 0 4) ((IntKind.wrap .i64 (n_8 + m_7)).toNat - 0) (s_0c - 0) i_1 v_2 v_2n v_2c m_7 n_8 I S
def slices_Insert_api_Record_b2 (R : Value → IMem → SH → Prop) (s_0 : Option Addr) (s_0n : Nat) (s_0c : Nat) (i_1 : Int) (v_2 : Option Addr) (v_2n : Nat) (v_2c : Nat) (m_7 : Int) (n_8 : Int) (x31 : Bool) (I : IMem) (S : SH) : Prop :=
  bcase x31
    ((0 : Int) ≤ i_1 ∧ i_1 ≤ ((s_0c : Nat) : Int) ∧
    AppG 32 4 40 [.string ⟨#[]⟩, .int .u16 0, .int .u32 0, .string ⟨#[]⟩] (some (.int .i64)) I S (.slice (slA s_0 s_0c 0 4) (i_1.toNat - 0) (s_0c - 0)) (.int .i64 (IntKind.wrap .i64 ((IntKind.wrap .i64 (n_8 + m_7)) - i_1))) fun x40 x40n x40c S1 =>
    (0 : Int) ≤ i_1 ∧ i_1 ≤ ((x40n : Nat) : Int) ∧
    CpyP 4 I S1 (.slice (slA x40 x40c i_1.toNat 4) (x40n - i_1.toNat) (x40c - i_1.toNat)) (.slice v_2 v_2n v_2c) fun x45 S1' =>
    slices_Insert_api_Record_b3 R s_0 s_0n s_0c i_1 m_7 x40 x40n x40c I S1')
    (slices_Insert_api_Record_b5 R s_0 s_0n s_0c i_1 v_2 v_2n v_2c m_7 n_8 I S)
def slices_Insert_api_Record_b1 (R : Value → IMem → SH → Prop) (s_0 : Option Addr) (s_0n : Nat) (s_0c : Nat) (i_1 : Int) (v_2 : Option Addr) (v_2n : Nat) (v_2c : Nat) (m_7 : Int) (n_8 : Int) (I : IMem) (S : SH) : Prop :=
  slices_Insert_api_Record_b2 R s_0 s_0n s_0c i_1 v_2 v_2n v_2c m_7 n_8 (decide ((IntKind.wrap .i64 (n_8 + m_7)) > (s_0c : Int))) I S
def slices_Insert_api_Record (R : Value → IMem → SH → Prop) (s_0 : Option Addr) (s_0n : Nat) (s_0c : Nat) (i_1 : Int) (v_2 : Option Addr) (v_2n : Nat) (v_2c : Nat) (I : IMem) (S : SH) : Prop :=
  (0 : Int) ≤ i_1 ∧ i_1 ≤ ((s_0n : Nat) : Int) ∧
  bcase ((v_2n : Int) == (0 : Int))
    (R (.slice s_0 s_0n s_0c) I S)
    (bcase (i_1 == (s_0n : Int))
      (AppG 32 4 40 [.string ⟨#[]⟩, .int .u16 0, .int .u32 0, .string ⟨#[]⟩] (some (.slice 32)) I S (.slice s_0 s_0n s_0c) (.slice v_2 v_2n v_2c) fun x25 x25n x25c S1 =>
      R (.slice x25 x25n x25c) I S1)
      (slices_Insert_api_Record_b1 R s_0 s_0n s_0c i_1 v_2 v_2n v_2c (v_2n : Int) (s_0n : Int) I S))
theorem slices_Insert_api_Record_fn (R : Value → IMem → SH → Prop) (s_0 : Option Addr) (s_0n : Nat) (s_0c : Nat) (i_1 : Int) (v_2 : Option Addr) (v_2n : Nat) (v_2c : Nat) (I : IMem) (S : SH) (h : slices_Insert_api_Record R s_0 s_0n s_0c i_1 v_2 v_2n v_2c I S) :
    Runs Tryz.prog 111 #[.slice s_0 s_0n s_0c, .int .i64 i_1, .slice v_2 v_2n v_2c] I S R := by
  refine Runs.of_wp (args := [.slice s_0 s_0n s_0c, .int .i64 i_1, .slice v_2 v_2n v_2c]) (c := slices_Insert_api_Record_code) Tryz.func111 (by kernel_rfl) (by kernel_rfl) ?_
  refine WP.cut 6 (fun l I S => asSl (l 0) fun s_0 s_0n s_0c => asI .i64 (l 1) fun i_1 => asSl (l 2) fun v_2 v_2n v_2c => asI .i64 (l 7) fun m_7 => asI .i64 (l 8) fun n_8 => slices_Insert_api_Record_b1 R s_0 s_0n s_0c i_1 v_2 v_2n v_2c m_7 n_8 I S) (cast (by kernel_rfl) h) ?_
  clear h
  intro l I S _ h
  obtain ⟨s_0, s_0n, s_0c, e0, h⟩ := asSl_e h
  obtain ⟨i_1, e1, h⟩ := asI_e h
  obtain ⟨v_2, v_2n, v_2c, e2, h⟩ := asSl_e h
  obtain ⟨m_7, e7, h⟩ := asI_e h
  obtain ⟨n_8, e8, h⟩ := asI_e h
  rw [upd_eta e0, upd_eta e1, upd_eta e2, upd_eta e7, upd_eta e8]
  refine WP.seqY (by kernel_rfl) (fun l I S => asSl (l 0) fun s_0 s_0n s_0c => asI .i64 (l 1) fun i_1 => asSl (l 2) fun v_2 v_2n v_2c => asI .i64 (l 7) fun m_7 => asI .i64 (l 8) fun n_8 => slices_Insert_api_Record_b5 R s_0 s_0n s_0c i_1 v_2 v_2n v_2c m_7 n_8 I S) ?_ ?_
  ·
    refine WP.cut 1 (fun l I S => asSl (l 0) fun s_0 s_0n s_0c => asI .i64 (l 1) fun i_1 => asSl (l 2) fun v_2 v_2n v_2c => asI .i64 (l 7) fun m_7 => asI .i64 (l 8) fun n_8 => asB (l 31) fun x31 => slices_Insert_api_Record_b2 R s_0 s_0n s_0c i_1 v_2 v_2n v_2c m_7 n_8 x31 I S) (cast (by kernel_rfl) h) ?_
    clear h
    intro l I S _ h
    obtain ⟨s_0, s_0n, s_0c, e0, h⟩ := asSl_e h
    obtain ⟨i_1, e1, h⟩ := asI_e h
    obtain ⟨v_2, v_2n, v_2c, e2, h⟩ := asSl_e h
    obtain ⟨m_7, e7, h⟩ := asI_e h
    obtain ⟨n_8, e8, h⟩ := asI_e h
    obtain ⟨x31, e31, h⟩ := asB_e h
    rw [upd_eta e0, upd_eta e1, upd_eta e2, upd_eta e7, upd_eta e8, upd_eta e31]
    refine WP.cond' (by kernel_rfl) (by kernel_rfl) h ?_ ?_
    · clear h
      intro h
      refine WP.cut 2 (fun l I S => asSl (l 0) fun s_0 s_0n s_0c => asI .i64 (l 1) fun i_1 => asI .i64 (l 7) fun m_7 => asSl (l 9) fun s2_9 s2_9n s2_9c => slices_Insert_api_Record_b3 R s_0 s_0n s_0c i_1 m_7 s2_9 s2_9n s2_9c I S) (cast (by kernel_rfl) h) ?_
      clear h
      intro l I S _ h
      obtain ⟨s_0, s_0n, s_0c, e0, h⟩ := asSl_e h
      obtain ⟨i_1, e1, h⟩ := asI_e h
      obtain ⟨m_7, e7, h⟩ := asI_e h
      obtain ⟨s2_9, s2_9n, s2_9c, e9, h⟩ := asSl_e h
      rw [upd_eta e0, upd_eta e1, upd_eta e7, upd_eta e9]
      refine WP.seqY (by kernel_rfl) (fun l I S => asSl (l 9) fun s2_9 s2_9n s2_9c => slices_Insert_api_Record_b4 R s2_9 s2_9n s2_9c I S) ?_ ?_
      ·
        exact WP.draw' (.take 0 (.take 1 (.take 2 (.take 3 (.take 4 (.take 5 (.take 6 (.take 7 (.step 8 .done))))))))) [8] (by kernel_rfl) (by kernel_rfl) (by kernel_rfl) (by kernel_rfl) (by kernel_rfl) (cast (by kernel_rfl) h)
      · clear h
        intro l I S _ h
        obtain ⟨s2_9, s2_9n, s2_9c, e9, h⟩ := asSl_e h
        rw [upd_eta e9]
        exact Pre.sound _ _ _ _ _ (cast (by kernel_rfl) h)
    · clear h
      intro h
      exact Pre.sound _ _ _ _ _ (cast (by kernel_rfl) h)
  · clear h
    intro l I S _ h
    obtain ⟨s_0, s_0n, s_0c, e0, h⟩ := asSl_e h
    obtain ⟨i_1, e1, h⟩ := asI_e h
    obtain ⟨v_2, v_2n, v_2c, e2, h⟩ := asSl_e h
    obtain ⟨m_7, e7, h⟩ := asI_e h
    obtain ⟨n_8, e8, h⟩ := asI_e h
    rw [upd_eta e0, upd_eta e1, upd_eta e2, upd_eta e7, upd_eta e8]
    refine WP.cut 1 (fun l I S => asSl (l 0) fun s_0 s_0n s_0c => asI .i64 (l 1) fun i_1 => asSl (l 2) fun v_2 v_2n v_2c => asI .i64 (l 7) fun m_7 => asI .i64 (l 8) fun n_8 => slices_Insert_api_Record_b6 R s_0 s_0n s_0c i_1 v_2 v_2n v_2c m_7 n_8 I S) (cast (by kernel_rfl) h) ?_
    clear h
    intro l I S _ h
    obtain ⟨s_0, s_0n, s_0c, e0, h⟩ := asSl_e h
    obtain ⟨i_1, e1, h⟩ := asI_e h
    obtain ⟨v_2, v_2n, v_2c, e2, h⟩ := asSl_e h
    obtain ⟨m_7, e7, h⟩ := asI_e h
    obtain ⟨n_8, e8, h⟩ := asI_e h
    rw [upd_eta e0, upd_eta e1, upd_eta e2, upd_eta e7, upd_eta e8]
    refine WP.seqY (by kernel_rfl) (fun l I S => asSl (l 0) fun s_0 s_0n s_0c => asI .i64 (l 1) fun i_1 => asSl (l 2) fun v_2 v_2n v_2c => asI .i64 (l 7) fun m_7 => asI .i64 (l 8) fun n_8 => slices_Insert_api_Record_b9 R s_0 s_0n s_0c i_1 v_2 v_2n v_2c m_7 n_8 I S) ?_ ?_
    ·
      refine WP.cut 1 (fun l I S => asSl (l 0) fun s_0 s_0n s_0c => asI .i64 (l 1) fun i_1 => asSl (l 2) fun v_2 v_2n v_2c => asI .i64 (l 7) fun m_7 => asI .i64 (l 8) fun n_8 => asB (l 68) fun x68 => slices_Insert_api_Record_b7 R s_0 s_0n s_0c i_1 v_2 v_2n v_2c m_7 n_8 x68 I S) (cast (by kernel_rfl) h) ?_
      clear h
      intro l I S _ h
      obtain ⟨s_0, s_0n, s_0c, e0, h⟩ := asSl_e h
      obtain ⟨i_1, e1, h⟩ := asI_e h
      obtain ⟨v_2, v_2n, v_2c, e2, h⟩ := asSl_e h
      obtain ⟨m_7, e7, h⟩ := asI_e h
      obtain ⟨n_8, e8, h⟩ := asI_e h
      obtain ⟨x68, e68, h⟩ := asB_e h
      rw [upd_eta e0, upd_eta e1, upd_eta e2, upd_eta e7, upd_eta e8, upd_eta e68]
      refine WP.cond' (by kernel_rfl) (by kernel_rfl) h ?_ ?_
      · clear h
        intro h
        refine WP.seqY (by kernel_rfl) (fun l I S => asSl (l 0) fun s_0 s_0n s_0c => asI .i64 (l 1) fun i_1 => asSl (l 2) fun v_2 v_2n v_2c => slices_Insert_api_Record_b8 R s_0 s_0n s_0c i_1 v_2 v_2n v_2c I S) ?_ ?_
        ·
          exact WP.draw' (.take 0 (.take 1 (.take 2 (.take 3 (.take 4 (.take 5 (.take 6 (.take 7 (.step 8 .done))))))))) [8] (by kernel_rfl) (by kernel_rfl) (by kernel_rfl) (by kernel_rfl) (by kernel_rfl) (cast (by kernel_rfl) h)
        · clear h
          intro l I S _ h
          obtain ⟨s_0, s_0n, s_0c, e0, h⟩ := asSl_e h
          obtain ⟨i_1, e1, h⟩ := asI_e h
          obtain ⟨v_2, v_2n, v_2c, e2, h⟩ := asSl_e h
          rw [upd_eta e0, upd_eta e1, upd_eta e2]
          exact Pre.sound _ _ _ _ _ (cast (by kernel_rfl) h)
      · clear h
        intro h
        exact Pre.sound _ _ _ _ _ (cast (by kernel_rfl) h)
    · clear h
      intro l I S _ h
      obtain ⟨s_0, s_0n, s_0c, e0, h⟩ := asSl_e h
      obtain ⟨i_1, e1, h⟩ := asI_e h
      obtain ⟨v_2, v_2n, v_2c, e2, h⟩ := asSl_e h
      obtain ⟨m_7, e7, h⟩ := asI_e h
      obtain ⟨n_8, e8, h⟩ := asI_e h
      rw [upd_eta e0, upd_eta e1, upd_eta e2, upd_eta e7, upd_eta e8]
      exact Pre.sound _ _ _ _ _ (cast (by kernel_rfl) h)
/-! ### slices_Clone_api_Record: function 67, slices.Clone[bolter/zone.Zone,bolter/api.Record] -/
noncomputable def slices_Clone_api_Record_code : Code := (Tryz.f67.body).getD .skip
def slices_Clone_api_Record (R : Value → IMem → SH → Prop) (s_0 : Option Addr) (s_0n : Nat) (s_0c : Nat) (I : IMem) (S : SH) : Prop :=
  bcase ((s_0 : Option Addr).isNone)
    (R (.slice none 0 0) I S)
    (∀ b5 : Nat,
    AppG 32 4 40 [.string ⟨#[]⟩, .int .u16 0, .int .u32 0, .string ⟨#[]⟩] (some (.slice 32)) I ((b5, .cells #[] 32 (0, 0)) :: S) (.slice (some ⟨b5, 0, none⟩) 0 0) (.slice s_0 s_0n s_0c) fun x7 x7n x7c S1 =>
    R (.slice x7 x7n x7c) I S1)
theorem slices_Clone_api_Record_fn (R : Value → IMem → SH → Prop) (s_0 : Option Addr) (s_0n : Nat) (s_0c : Nat) (I : IMem) (S : SH) (h : slices_Clone_api_Record R s_0 s_0n s_0c I S) :
    Runs Tryz.prog 67 #[.slice s_0 s_0n s_0c] I S R := by
  refine Runs.of_wp (args := [.slice s_0 s_0n s_0c]) (c := slices_Clone_api_Record_code) Tryz.func67 (by kernel_rfl) (by kernel_rfl) ?_
  exact Pre.sound _ _ _ _ _ (cast (by kernel_rfl) h)
/-! ### cmp_isNaN_api_Name: function 105, cmp.isNaN[bolter/api.Name] -/
noncomputable def cmp_isNaN_api_Name_code : Code := (Tryz.f105.body).getD .skip
def cmp_isNaN_api_Name (R : Value → IMem → SH → Prop) (x_0 : ByteArray) (I : IMem) (S : SH) : Prop :=
  R (.bool (!(x_0.toList == x_0.toList))) I S
theorem cmp_isNaN_api_Name_fn (R : Value → IMem → SH → Prop) (x_0 : ByteArray) (I : IMem) (S : SH) (h : cmp_isNaN_api_Name R x_0 I S) :
    Runs Tryz.prog 105 #[.string x_0] I S R := by
  refine Runs.of_wp (args := [.string x_0]) (c := cmp_isNaN_api_Name_code) Tryz.func105 (by kernel_rfl) (by kernel_rfl) ?_
  exact Pre.sound _ _ _ _ _ (cast (by kernel_rfl) h)
/-! ### cmp_isNaN_api_Type: function 106, cmp.isNaN[bolter/api.Type] -/
noncomputable def cmp_isNaN_api_Type_code : Code := (Tryz.f106.body).getD .skip
def cmp_isNaN_api_Type (R : Value → IMem → SH → Prop) (x_0 : Int) (I : IMem) (S : SH) : Prop :=
  R (.bool (x_0 != x_0)) I S
theorem cmp_isNaN_api_Type_fn (R : Value → IMem → SH → Prop) (x_0 : Int) (I : IMem) (S : SH) (h : cmp_isNaN_api_Type R x_0 I S) :
    Runs Tryz.prog 106 #[.int .u16 x_0] I S R := by
  refine Runs.of_wp (args := [.int .u16 x_0]) (c := cmp_isNaN_api_Type_code) Tryz.func106 (by kernel_rfl) (by kernel_rfl) ?_
  exact Pre.sound _ _ _ _ _ (cast (by kernel_rfl) h)
/-! ### cmp_isNaN_string: function 107, cmp.isNaN[string] -/
noncomputable def cmp_isNaN_string_code : Code := (Tryz.f107.body).getD .skip
def cmp_isNaN_string (R : Value → IMem → SH → Prop) (x_0 : ByteArray) (I : IMem) (S : SH) : Prop :=
  R (.bool (!(x_0.toList == x_0.toList))) I S
theorem cmp_isNaN_string_fn (R : Value → IMem → SH → Prop) (x_0 : ByteArray) (I : IMem) (S : SH) (h : cmp_isNaN_string R x_0 I S) :
    Runs Tryz.prog 107 #[.string x_0] I S R := by
  refine Runs.of_wp (args := [.string x_0]) (c := cmp_isNaN_string_code) Tryz.func107 (by kernel_rfl) (by kernel_rfl) ?_
  exact Pre.sound _ _ _ _ _ (cast (by kernel_rfl) h)
/-! ### cmp_isNaN_uint32: function 108, cmp.isNaN[uint32] -/
noncomputable def cmp_isNaN_uint32_code : Code := (Tryz.f108.body).getD .skip
def cmp_isNaN_uint32 (R : Value → IMem → SH → Prop) (x_0 : Int) (I : IMem) (S : SH) : Prop :=
  R (.bool (x_0 != x_0)) I S
theorem cmp_isNaN_uint32_fn (R : Value → IMem → SH → Prop) (x_0 : Int) (I : IMem) (S : SH) (h : cmp_isNaN_uint32 R x_0 I S) :
    Runs Tryz.prog 108 #[.int .u32 x_0] I S R := by
  refine Runs.of_wp (args := [.int .u32 x_0]) (c := cmp_isNaN_uint32_code) Tryz.func108 (by kernel_rfl) (by kernel_rfl) ?_
  exact Pre.sound _ _ _ _ _ (cast (by kernel_rfl) h)
end Go.Proofs.YthlkeokfmedjhaaGreat
/- Three-way comparisons, one behind the other; records and their order. -/
namespace Go.Px
set_option linter.unusedVariables false

theorem bl_irrefl : ∀ x, Op.bytesLess x x = false
  | [] => rfl
  | a :: x => by simp [Op.bytesLess, bl_irrefl x]
theorem bl_tri : ∀ x y, Op.bytesLess x y = true ∨ x = y ∨ Op.bytesLess y x = true
  | [], [] => .inr (.inl rfl)
  | [], _ :: _ => .inl rfl
  | _ :: _, [] => .inr (.inr rfl)
  | a :: x, b :: y => by
    simp only [Op.bytesLess, Bool.or_eq_true, decide_eq_true_eq, Bool.and_eq_true, beq_iff_eq, List.cons.injEq]
    by_cases h : a = b
    · subst h
      rcases bl_tri x y with g | g | g
      · exact .inl (.inr ⟨rfl, g⟩)
      · exact .inr (.inl ⟨rfl, g⟩)
      · exact .inr (.inr (.inr ⟨rfl, g⟩))
    · have : a < b ∨ b < a := by
        rw [UInt8.lt_iff_toNat_lt, UInt8.lt_iff_toNat_lt]
        have : a.toNat ≠ b.toNat := fun e => h (UInt8.toNat_inj.1 e)
        omega
      rcases this with g | g
      · exact .inl (.inl g)
      · exact .inr (.inr (.inl g))
theorem bl_trans : ∀ {x y z}, Op.bytesLess x y = true → Op.bytesLess y z = true → Op.bytesLess x z = true
  | _, [], _, h, _ => by simp [Op.bytesLess] at h
  | _, _ :: _, [], _, h => by simp [Op.bytesLess] at h
  | [], _ :: _, _ :: _, _, _ => rfl
  | a :: x, b :: y, c :: z, h, g => by
    simp only [Op.bytesLess, Bool.or_eq_true, decide_eq_true_eq, Bool.and_eq_true, beq_iff_eq] at h g ⊢
    rw [UInt8.lt_iff_toNat_lt] at h g ⊢
    rcases h with h | ⟨rfl, h⟩
    · rcases g with g | ⟨rfl, g⟩
      · exact .inl (by omega)
      · exact .inl h
    · rcases g with g | ⟨rfl, g⟩
      · exact .inl g
      · exact .inr ⟨rfl, bl_trans h g⟩

structure Cm {α : Type} (c : α → α → Int) : Prop where
  vals : ∀ a b, c a b = -1 ∨ c a b = 0 ∨ c a b = 1
  refl : ∀ a, c a a = 0
  anti : ∀ a b, c b a = -(c a b)
  eq : ∀ a b, c a b = 0 → a = b
  trans : ∀ a b d, c a b < 0 → c b d < 0 → c a d < 0
def lexC {α β : Type} (c : α → α → Int) (d : β → β → Int) (p q : α × β) : Int := if c p.1 q.1 = 0 then d p.2 q.2 else c p.1 q.1
theorem Cm.lex {α β : Type} {c : α → α → Int} {d : β → β → Int} (hc : Cm c) (hd : Cm d) : Cm (lexC c d) where
  vals a b := by unfold lexC; split <;> first | exact hd.vals _ _ | exact hc.vals _ _
  refl a := by unfold lexC; rw [if_pos (hc.refl _)]; exact hd.refl _
  anti a b := by
    unfold lexC
    have := hc.anti a.1 b.1
    by_cases h : c a.1 b.1 = 0
    · rw [if_pos h, if_pos (by omega)]; exact hd.anti _ _
    · rw [if_neg h, if_neg (by omega)]; exact this
  eq a b h := by
    unfold lexC at h
    split at h
    · rename_i h1; exact Prod.ext (hc.eq _ _ h1) (hd.eq _ _ h)
    · exact absurd h ‹_›
  trans a b e h g := by
    unfold lexC at h g ⊢
    split at h
    · rename_i h1
      have := hc.eq _ _ h1
      rw [this]
      split at g
      · rename_i h2; rw [if_pos h2]; exact hd.trans _ _ _ h g
      · rename_i h2; rw [if_neg h2]; exact g
    · rename_i h1
      split at g
      · rename_i h2
        have := hc.eq _ _ h2
        rw [← this, if_neg h1]; exact h
      · rename_i h2
        have := hc.trans _ _ _ h g
        rw [if_neg (by omega)]; exact this
theorem Cm.le_trans {α : Type} {c : α → α → Int} (hc : Cm c) {a b d : α} (h : c a b ≤ 0) (g : c b d ≤ 0) : c a d ≤ 0 := by
  by_cases h1 : c a b = 0
  · rw [hc.eq _ _ h1]; exact g
  · by_cases h2 : c b d = 0
    · rw [← hc.eq _ _ h2]; exact h
    · have := hc.trans a b d (by omega) (by omega); omega

def ltB (a b : ByteArray) : Bool := Op.bytesLess a.toList b.toList
def cmpB (a b : ByteArray) : Int := if ltB a b then -1 else if ltB b a then 1 else 0
def cmpI (a b : Int) : Int := if a < b then -1 else if b < a then 1 else 0
theorem toList_inj {a b : ByteArray} (h : a.toList = b.toList) : a = b := by
  rw [ByteArray.toList_eq, ByteArray.toList_eq] at h
  exact ByteArray.ext (Array.toList_inj.1 h)
theorem keq {a b : ByteArray} : (a.toList == b.toList) = true ↔ a = b := by
  rw [beq_iff_eq]; exact ⟨toList_inj, fun h => by rw [h]⟩
theorem cmB : Cm cmpB where
  vals a b := by unfold cmpB; split <;> first | exact .inl rfl | (split <;> first | exact .inr (.inr rfl) | exact .inr (.inl rfl))
  refl a := by simp [cmpB, ltB, bl_irrefl]
  anti a b := by
    unfold cmpB ltB
    rcases bl_tri a.toList b.toList with h | h | h
    · have : Op.bytesLess b.toList a.toList = false := by
        cases hb : Op.bytesLess b.toList a.toList with
        | false => rfl
        | true => have := bl_trans h hb; rw [bl_irrefl] at this; cases this
      simp [h, this]
    · rw [h]; simp [bl_irrefl]
    · have : Op.bytesLess a.toList b.toList = false := by
        cases hb : Op.bytesLess a.toList b.toList with
        | false => rfl
        | true => have := bl_trans h hb; rw [bl_irrefl] at this; cases this
      simp [h, this]
  eq a b h := by
    unfold cmpB ltB at h
    rcases bl_tri a.toList b.toList with g | g | g
    · simp [g] at h
    · exact toList_inj g
    · split at h <;> first | (simp at h; done) | (simp [g] at h)
  trans a b d h g := by
    have key : ∀ x y : ByteArray, cmpB x y < 0 ↔ Op.bytesLess x.toList y.toList = true := fun x y => by
      unfold cmpB ltB
      split
      · simp [*]
      · split <;> simp [*]
    rw [key] at *
    exact bl_trans h g
theorem cmI : Cm cmpI where
  vals a b := by unfold cmpI; split <;> first | exact .inl rfl | (split <;> first | exact .inr (.inr rfl) | exact .inr (.inl rfl))
  refl a := by simp [cmpI]
  anti a b := by unfold cmpI; split <;> split <;> first | omega | (split <;> omega) | skip
  eq a b h := by unfold cmpI at h; split at h <;> first | omega | (split at h <;> omega)
  trans a b d h g := by
    have key : ∀ x y : Int, cmpI x y < 0 ↔ x < y := fun x y => by
      unfold cmpI
      split
      · simp [*]
      · split <;> simp [*]
    rw [key] at *
    omega

/-- a record: its name, type, TTL and data -/
abbrev Rc := ByteArray × Int × Int × ByteArray
def encR (r : Rc) : List Value := [.string r.1, .int .u16 r.2.1, .int .u32 r.2.2.1, .string r.2.2.2]
theorem encR_len (r : Rc) : (encR r).length = 4 := rfl
theorem encR_one (r : Rc) : (encR r).all one = true := rfl
def keyR (r : Rc) : ByteArray × Int × ByteArray × Int := (r.1, r.2.1, r.2.2.2, r.2.2.1)
def cmpR (a b : Rc) : Int := lexC cmpB (lexC cmpI (lexC cmpB cmpI)) (keyR a) (keyR b)
theorem cmR : Cm cmpR := by
  have h : Cm (lexC cmpB (lexC cmpI (lexC cmpB cmpI))) := cmB.lex (cmI.lex (cmB.lex cmI))
  refine ⟨fun a b => h.vals _ _, fun a => h.refl _, fun a b => h.anti _ _, fun a b e => ?_, fun a b d => h.trans _ _ _⟩
  have := h.eq _ _ e
  obtain ⟨a1, a2, a3, a4⟩ := a
  obtain ⟨b1, b2, b3, b4⟩ := b
  simp only [keyR, Prod.mk.injEq] at this
  obtain ⟨rfl, rfl, rfl, rfl⟩ := this
  rfl
end Go.Px
/- The comparison of records: contracts. -/
namespace Go.Proofs.YthlkeokfmedjhaaGreat
open Go.Px
set_option linter.unusedVariables false

theorem isNaNn_runs (x : ByteArray) (I : IMem) (S : SH) : Runs Tryz.prog 105 #[.string x] I S fun v _ T => v = .bool false ∧ T = S :=
  cmp_isNaN_api_Name_fn _ _ _ _ (by unfold cmp_isNaN_api_Name; simp)
theorem isNaNs_runs (x : ByteArray) (I : IMem) (S : SH) : Runs Tryz.prog 107 #[.string x] I S fun v _ T => v = .bool false ∧ T = S :=
  cmp_isNaN_string_fn _ _ _ _ (by unfold cmp_isNaN_string; simp)
theorem isNaNt_runs (x : Int) (I : IMem) (S : SH) : Runs Tryz.prog 106 #[.int .u16 x] I S fun v _ T => v = .bool false ∧ T = S :=
  cmp_isNaN_api_Type_fn _ _ _ _ (by unfold cmp_isNaN_api_Type; simp)
theorem isNaNu_runs (x : Int) (I : IMem) (S : SH) : Runs Tryz.prog 108 #[.int .u32 x] I S fun v _ T => v = .bool false ∧ T = S :=
  cmp_isNaN_uint32_fn _ _ _ _ (by unfold cmp_isNaN_uint32; simp)

theorem gtB (x y : ByteArray) : (!(Op.bytesLess x.toList y.toList || x.toList == y.toList)) = Op.bytesLess y.toList x.toList := by
  rcases bl_tri x.toList y.toList with h | h | h
  · have : Op.bytesLess y.toList x.toList = false := by
      cases hb : Op.bytesLess y.toList x.toList with
      | false => rfl
      | true => have := bl_trans h hb; rw [bl_irrefl] at this; cases this
    simp [h, this]
  · rw [h]; simp [bl_irrefl]
  · have h1 : Op.bytesLess x.toList y.toList = false := by
      cases hb : Op.bytesLess x.toList y.toList with
      | false => rfl
      | true => have := bl_trans h hb; rw [bl_irrefl] at this; cases this
    have h2 : (x.toList == y.toList) = false := by
      cases hb : x.toList == y.toList with
      | false => rfl
      | true => have := eq_of_beq hb; rw [this, bl_irrefl] at h; cases h
    simp [h, h1, h2]

theorem CmpN_runs (x y : ByteArray) (I : IMem) (S : SH) : Runs Tryz.prog 81 #[.string x, .string y] I S fun v _ T => v = .int .i64 (cmpB x y) ∧ T = S := by
  refine cmp_Compare_api_Name_fn _ _ _ _ _ ?_
  unfold cmp_Compare_api_Name
  refine (isNaNn_runs x I S).mono ?_
  rintro v J T hle ⟨rfl, rfl⟩
  refine ⟨_, rfl, (isNaNn_runs y J T).mono ?_⟩
  rintro v J' T' hle' ⟨rfl, rfl⟩
  refine ⟨_, rfl, ?_⟩
  rw [gtB]
  refine bcase_f rfl (bcase_f rfl (bcase_of (fun h => ⟨by simp [cmpB, ltB, h], rfl⟩) (fun h => bcase_of (fun g => ⟨by simp [cmpB, ltB, h, g], rfl⟩) (fun g => ⟨by simp [cmpB, ltB, h, g], rfl⟩))))
theorem CmpS_runs (x y : ByteArray) (I : IMem) (S : SH) : Runs Tryz.prog 83 #[.string x, .string y] I S fun v _ T => v = .int .i64 (cmpB x y) ∧ T = S := by
  refine cmp_Compare_string_fn _ _ _ _ _ ?_
  unfold cmp_Compare_string
  refine (isNaNs_runs x I S).mono ?_
  rintro v J T hle ⟨rfl, rfl⟩
  refine ⟨_, rfl, (isNaNs_runs y J T).mono ?_⟩
  rintro v J' T' hle' ⟨rfl, rfl⟩
  refine ⟨_, rfl, ?_⟩
  rw [gtB]
  refine bcase_f rfl (bcase_f rfl (bcase_of (fun h => ⟨by simp [cmpB, ltB, h], rfl⟩) (fun h => bcase_of (fun g => ⟨by simp [cmpB, ltB, h, g], rfl⟩) (fun g => ⟨by simp [cmpB, ltB, h, g], rfl⟩))))
theorem CmpT_runs (x y : Int) (I : IMem) (S : SH) : Runs Tryz.prog 82 #[.int .u16 x, .int .u16 y] I S fun v _ T => v = .int .i64 (cmpI x y) ∧ T = S := by
  refine cmp_Compare_api_Type_fn _ _ _ _ _ ?_
  unfold cmp_Compare_api_Type
  refine (isNaNt_runs x I S).mono ?_
  rintro v J T hle ⟨rfl, rfl⟩
  refine ⟨_, rfl, (isNaNt_runs y J T).mono ?_⟩
  rintro v J' T' hle' ⟨rfl, rfl⟩
  refine ⟨_, rfl, ?_⟩
  refine bcase_f rfl (bcase_f rfl (bcase_dec (fun h => ⟨by rw [cmpI, if_pos h], rfl⟩) (fun h => bcase_dec (fun g => ⟨by rw [cmpI, if_neg h, if_pos g], rfl⟩) (fun g => ⟨by rw [cmpI, if_neg h, if_neg g], rfl⟩))))
theorem CmpU_runs (x y : Int) (I : IMem) (S : SH) : Runs Tryz.prog 84 #[.int .u32 x, .int .u32 y] I S fun v _ T => v = .int .i64 (cmpI x y) ∧ T = S := by
  refine cmp_Compare_uint32_fn _ _ _ _ _ ?_
  unfold cmp_Compare_uint32
  refine (isNaNu_runs x I S).mono ?_
  rintro v J T hle ⟨rfl, rfl⟩
  refine ⟨_, rfl, (isNaNu_runs y J T).mono ?_⟩
  rintro v J' T' hle' ⟨rfl, rfl⟩
  refine ⟨_, rfl, ?_⟩
  refine bcase_f rfl (bcase_f rfl (bcase_dec (fun h => ⟨by rw [cmpI, if_pos h], rfl⟩) (fun h => bcase_dec (fun g => ⟨by rw [cmpI, if_neg h, if_pos g], rfl⟩) (fun g => ⟨by rw [cmpI, if_neg h, if_neg g], rfl⟩))))

def orL : List Int → Int
  | [] => 0
  | x :: xs => if x = 0 then orL xs else x
def elI (x : Int) : List Value := [.int .i64 x]
theorem Or_runs {xs : List Int} {a : Option Addr} {c : Nat} {I : IMem} {S : SH} (hx : RowIn I S a xs.length 1 elI xs) (hl : xs.length ≤ 9223372036854775807) :
    Runs Tryz.prog 80 #[.slice a xs.length c] I S fun v _ T => v = .int .i64 (orL xs) ∧ T = S := by
  refine cmp_Or_int_fn _ _ _ _ _ _ ?_
  unfold cmp_Or_int cmp_Or_int_b1 cmp_Or_int_b2
  refine ⟨fun m z p n c' q i J T => z = 0 ∧ p = a ∧ n = xs.length ∧ q = (xs.length : Int) ∧ T = S ∧ I.le J ∧ ∃ k : Nat, i = (k : Int) ∧ k ≤ xs.length ∧ m = xs.length - k ∧ orL xs = orL (xs.drop k), xs.length, ⟨rfl, rfl, rfl, rfl, rfl, IMem.le.refl I, 0, rfl, Nat.zero_le _, by simp, by simp⟩, ?_⟩
  rintro m z p n c' q i J T - ⟨rfl, rfl, rfl, rfl, rfl, hle, k, rfl, hk, rfl, ho⟩
  unfold cmp_Or_int_l3
  refine bcase_dec (fun h => ?_) (fun h => ?_)
  · have hlt : k < xs.length := by omega
    obtain ⟨x, hxk⟩ : ∃ x, xs[k]? = some x := ⟨_, List.getElem?_eq_getElem hlt⟩
    obtain ⟨a', rfl, hc⟩ := hx.cell hxk
    refine ⟨by omega, by omega, x, ?_, ?_⟩
    · have := (hc 0 (.int .i64 x) rfl).le hle
      simpa [Addr.add] using this
    · have hd : xs.drop k = x :: xs.drop (k + 1) := by
        rw [List.drop_eq_getElem_cons hlt]
        rw [List.getElem?_eq_getElem hlt] at hxk
        injection hxk with hxk; rw [hxk]
      refine bcase_bne (fun h => ⟨?_, rfl⟩) (fun h => ?_)
      · rw [ho, hd, orL, if_neg h]
      · refine ⟨xs.length - (k + 1), by omega, rfl, rfl, rfl, rfl, rfl, hle, k + 1, ?_, by omega, rfl, ?_⟩
        · rw [wrap_i64 (by omega) (by omega)]; rfl
        · rw [ho, hd, orL, if_pos h]
  · have : k = xs.length := by omega
    subst this
    refine ⟨?_, rfl⟩
    rw [ho, List.drop_length]; rfl

theorem cmpR_or (a b : Rc) : orL [cmpB a.1 b.1, cmpI a.2.1 b.2.1, cmpB a.2.2.2 b.2.2.2, cmpI a.2.2.1 b.2.2.1] = cmpR a b := by
  simp only [orL, cmpR, lexC, keyR]
  repeat' split
  all_goals simp_all

abbrev vR (r : Rc) : Value := .agg #[.string r.1, .int .u16 r.2.1, .int .u32 r.2.2.1, .string r.2.2.2]
theorem Compare_runs (a b : Rc) (I : IMem) (S : SH) : Runs Tryz.prog 63 #[vR a, vR b] I S fun v _ T => v = .int .i64 (cmpR a b) ∧ T = S := by
  refine Runs.drop (zone_Compare_fn _ _ _ _ _ _ _ _ _ _ _ ?_)
  unfold zone_Compare zone_Compare_b1
  intro b2 b3
  refine ⟨_, Cell.tl (Cell.at0 rfl), _, Cell.at0 rfl, _, fun J T _ => CmpN_runs _ _ _ _, _, Cell.tl (Cell.at0 rfl), _, Cell.at0 rfl, _, fun J T _ => CmpT_runs _ _ _ _, _, Cell.tl (Cell.at0 rfl), _, Cell.at0 rfl, _, fun J T _ => CmpS_runs _ _ _ _,
    _, Cell.tl (Cell.at0 rfl), _, Cell.at0 rfl, _, fun J T _ => CmpU_runs _ _ _ _, ?_⟩
  intro b25
  refine (Or_runs (xs := [cmpB a.1 b.1, cmpI a.2.1 b.2.1, cmpB a.2.2.2 b.2.2.2, cmpI a.2.2.1 b.2.2.1]) ⟨rfl, ?_⟩ (by simp)).mono ?_
  · intro i x hx
    refine ⟨_, rfl, rfl, ?_⟩
    intro j v hj
    have hi : i < 4 := by
      rcases Nat.lt_or_ge i 4 with h | h
      · exact h
      · rw [List.getElem?_eq_none (by simpa using h)] at hx; cases hx
    have hj0 : j = 0 := by
      rcases Nat.lt_or_ge j 1 with h | h
      · omega
      · rw [elI, List.getElem?_eq_none (by simpa using h)] at hj; cases hj
    subst hj0
    rw [add_mk, add_mk]
    refine Cell.at0 ?_
    simp [elI] at hj; subst hj
    match i, hi with
    | 0, _ => simp at hx; subst hx; rfl
    | 1, _ => simp at hx; subst hx; rfl
    | 2, _ => simp at hx; subst hx; rfl
    | 3, _ => simp at hx; subst hx; rfl
  · rintro v J T hle ⟨rfl, rfl⟩
    refine ⟨_, rfl, ?_⟩
    unfold zone_Compare_b2
    exact ⟨S, ((Sub.refl S).skip _).skip _ |>.skip _, by rw [cmpR_or], rfl⟩
end Go.Proofs.YthlkeokfmedjhaaGreat
/- The law's own comparison; the search in a row; what slices.overlaps answers; a clone; an insertion. -/
namespace Go.Proofs.YthlkeokfmedjhaaGreat
open Go.Px
set_option linter.unusedVariables false

theorem cmpB_ne {x y : ByteArray} (h : x ≠ y) : cmpB x y = if Op.bytesLess x.toList y.toList then -1 else 1 := by
  unfold cmpB ltB
  split
  · rfl
  · rename_i h1
    rcases bl_tri x.toList y.toList with g | g | g
    · exact absurd g h1
    · exact absurd (toList_inj g) h
    · rw [if_pos g]
theorem cmpI_ne {x y : Int} (h : x ≠ y) : cmpI x y = if decide (x < y) then -1 else 1 := by
  unfold cmpI
  by_cases g : x < y
  · simp [g]
  · rw [if_neg g, if_pos (by omega)]; simp [g]
theorem recEq {a b : Rc} : (((a.1 : ByteArray) == (b.1 : ByteArray)) && (((a.2.1 : Int) == (b.2.1 : Int)) && (((a.2.2.1 : Int) == (b.2.2.1 : Int)) && (((a.2.2.2 : ByteArray) == (b.2.2.2 : ByteArray)) && true)))) = true ↔ a = b := by
  simp only [Bool.and_eq_true, ba_beq, beq_iff_eq, and_true]
  obtain ⟨a1, a2, a3, a4⟩ := a
  obtain ⟨b1, b2, b3, b4⟩ := b
  simp
theorem strNe {x y : ByteArray} : (!(x.toList == y.toList)) = true ↔ x ≠ y := by
  rw [Bool.not_eq_true', ← Bool.not_eq_true, keq]
theorem strNe' {x y : ByteArray} : (!(x.toList == y.toList)) = false ↔ x = y := by
  rw [Bool.not_eq_false', keq]
theorem cmpR_eq (a b : Rc) : cmpR a b = if cmpB a.1 b.1 = 0 then (if cmpI a.2.1 b.2.1 = 0 then (if cmpB a.2.2.2 b.2.2.2 = 0 then cmpI a.2.2.1 b.2.2.1 else cmpB a.2.2.2 b.2.2.2) else cmpI a.2.1 b.2.1) else cmpB a.1 b.1 := rfl
theorem compare_runs (a b : Rc) (I : IMem) (S : SH) : Runs Tryz.prog 51 #[vR a, vR b] I S fun v _ T => v = .int .i64 (cmpR a b) ∧ T = S := by
  refine Runs.drop (bolterlaw08_compare_fn _ _ _ _ _ _ _ _ _ _ _ ?_)
  unfold bolterlaw08_compare bolterlaw08_compare_b1
  intro b2 b3
  have hs : Sub S ((b3, Obj.cells #[.string b.1, .int .u16 b.2.1, .int .u32 b.2.2.1, .string b.2.2.2] 32 (0, 0)) :: (b2, Obj.cells #[.string a.1, .int .u16 a.2.1, .int .u32 a.2.2.1, .string a.2.2.2] 32 (0, 0)) :: S) := ((Sub.refl S).skip _).skip _
  have fin : ∀ {t : Bool}, cmpR a b = (if t then -1 else 1) → bcase t (∃ L, Sub L ((b3, Obj.cells #[.string b.1, .int .u16 b.2.1, .int .u32 b.2.2.1, .string b.2.2.2] 32 (0, 0)) :: (b2, Obj.cells #[.string a.1, .int .u16 a.2.1, .int .u32 a.2.2.1, .string a.2.2.2] 32 (0, 0)) :: S) ∧ Value.int .i64 (-1) = .int .i64 (cmpR a b) ∧ L = S)
      (∃ L, Sub L ((b3, Obj.cells #[.string b.1, .int .u16 b.2.1, .int .u32 b.2.2.1, .string b.2.2.2] 32 (0, 0)) :: (b2, Obj.cells #[.string a.1, .int .u16 a.2.1, .int .u32 a.2.2.1, .string a.2.2.2] 32 (0, 0)) :: S) ∧ Value.int .i64 1 = .int .i64 (cmpR a b) ∧ L = S) := by
    intro t ht
    refine bcase_of (fun h => ⟨S, hs, by rw [ht, h]; rfl, rfl⟩) (fun h => ⟨S, hs, by rw [ht, h]; rfl, rfl⟩)
  refine ⟨_, Cell.tl (Cell.at0 rfl), _, Cell.at0 rfl, _, Cell.tl (Cell.at0 rfl), _, Cell.tl (Cell.at0 rfl), _, Cell.tl (Cell.at0 rfl), _, Cell.tl (Cell.at0 rfl), _, Cell.at0 rfl, _, Cell.at0 rfl, _, Cell.at0 rfl, _, Cell.at0 rfl, ?_⟩
  refine bcase_of (fun h => ?_) (fun h => ?_)
  · have := recEq.1 h
    exact ⟨S, hs, by rw [this, cmR.refl], rfl⟩
  · have hne : a ≠ b := fun e => by rw [recEq.2 e] at h; cases h
    refine ⟨_, Cell.tl (Cell.at0 rfl), _, Cell.at0 rfl, bcase_of (fun h1 => fin ?_) (fun h1 => ⟨_, Cell.tl (Cell.at0 rfl), _, Cell.at0 rfl, bcase_bne (fun h2 => ⟨_, Cell.tl (Cell.at0 rfl), _, Cell.at0 rfl, fin ?_⟩) (fun h2 => ⟨_, Cell.tl (Cell.at0 rfl), _, Cell.at0 rfl, bcase_of (fun h3 => ⟨_, Cell.tl (Cell.at0 rfl), _, Cell.at0 rfl, fin ?_⟩) (fun h3 => ⟨_, Cell.tl (Cell.at0 rfl), _, Cell.at0 rfl, fin ?_⟩)⟩)⟩)⟩
    · have h1 := strNe.1 h1
      have : cmpB a.1 b.1 ≠ 0 := fun e => h1 (cmB.eq _ _ e)
      rw [cmpR_eq, if_neg this, cmpB_ne h1]
    · have h1 := strNe'.1 h1
      have : cmpI a.2.1 b.2.1 ≠ 0 := fun e => h2 (cmI.eq _ _ e)
      rw [cmpR_eq, h1, if_pos (cmB.refl _), if_neg this, cmpI_ne h2]
    · have h1 := strNe'.1 h1
      have h3 := strNe.1 h3
      have : cmpB a.2.2.2 b.2.2.2 ≠ 0 := fun e => h3 (cmB.eq _ _ e)
      rw [cmpR_eq, h1, h2, if_pos (cmB.refl _), if_pos (cmI.refl _), if_neg this, cmpB_ne h3]
    · have h1 := strNe'.1 h1
      have h3 := strNe'.1 h3
      have h4 : a.2.2.1 ≠ b.2.2.1 := fun e => hne (by
        obtain ⟨a1, a2, a3, a4⟩ := a
        obtain ⟨b1, b2, b3, b4⟩ := b
        simp_all)
      rw [cmpR_eq, h1, h2, h3, if_pos (cmB.refl _), if_pos (cmI.refl _), if_pos (cmB.refl _), cmpI_ne h4]

/-- four cells of a record, one behind the other -/
theorem CellsR {I : IMem} {S : SH} {a : Addr} {r : Rc} (h : ∀ j v, (encR r)[j]? = some v → Cell I S (a.add j) v) :
    Cell I S a (.string r.1) ∧ Cell I S (a.add 1) (.int .u16 r.2.1) ∧ Cell I S (a.add 2) (.int .u32 r.2.2.1) ∧ Cell I S (a.add 3) (.string r.2.2.2) :=
  ⟨by simpa [Addr.add] using h 0 _ rfl, h 1 _ rfl, h 2 _ rfl, h 3 _ rfl⟩
abbrev Below (xs : List Rc) (r : Rc) (k : Nat) : Prop := k ≤ xs.length ∧ ∀ (i : Nat) (x : Rc), xs[i]? = some x → (i < k ↔ cmpR x r < 0)
theorem half {i j : Nat} (h : i + j ≤ 9223372036854775807) : IntKind.wrap .i64 ((IntKind.wrap .u64 (IntKind.wrap .i64 ((i : Int) + (j : Int)))).fdiv (2 ^ (min (1 : Int).toNat (IntKind.bits .u64)))) = (((i + j) / 2 : Nat) : Int) := by
  have e : (2 ^ (min (1 : Int).toNat (IntKind.bits .u64)) : Int) = 2 := rfl
  rw [e, wrap_i64 (x := (i : Int) + (j : Int)) (by omega) (by omega), wrap_u64 (by omega) (by omega), Int.fdiv_eq_ediv_of_nonneg _ (by omega), wrap_i64 (by omega) (by omega)]
  omega
theorem Search_runs {xs : List Rc} {a : Option Addr} {c : Nat} {r : Rc} {I : IMem} {S : SH} (hx : RowIn I S a xs.length 4 encR xs) (hl : xs.length ≤ 140737488355328)
    (hm : ∀ (i j : Nat) (x y : Rc), i ≤ j → xs[i]? = some x → xs[j]? = some y → cmpR y r < 0 → cmpR x r < 0) :
    Runs Tryz.prog 69 #[.slice a xs.length c, vR r, .func (.func 63) #[] #[]] I S fun v _ T => (∃ (k : Nat) (f : Bool), v = .tuple #[.int .i64 (k : Int), .bool f] ∧ Below xs r k ∧ (f = true ↔ xs[k]? = some r)) ∧ T = S := by
  refine Runs.drop (slices_BinarySearchFunc_api_Record_fn _ _ _ _ _ _ _ _ _ _ ?_)
  unfold slices_BinarySearchFunc_api_Record slices_BinarySearchFunc_api_Record_b1
  intro b4
  have hs : Sub S ((b4, Obj.cells #[.string r.1, .int .u16 r.2.1, .int .u32 r.2.2.1, .string r.2.2.2] 32 (0, 0)) :: S) := (Sub.refl S).skip _
  have hx' := hx.sub hs
  refine ⟨fun m p n c' tg q i j J T => p = a ∧ n = xs.length ∧ tg = ⟨b4, 0, none⟩ ∧ q = (xs.length : Int) ∧ T = ((b4, Obj.cells #[.string r.1, .int .u16 r.2.1, .int .u32 r.2.2.1, .string r.2.2.2] 32 (0, 0)) :: S) ∧ I.le J ∧
    ∃ k h : Nat, i = (k : Int) ∧ j = (h : Int) ∧ k ≤ h ∧ h ≤ xs.length ∧ m = h - k ∧ (∀ (i : Nat) (x : Rc), xs[i]? = some x → i < k → cmpR x r < 0) ∧ (∀ (i : Nat) (x : Rc), xs[i]? = some x → h ≤ i → ¬ cmpR x r < 0), xs.length,
    ⟨rfl, rfl, rfl, rfl, rfl, IMem.le.refl I, 0, xs.length, rfl, rfl, Nat.zero_le _, Nat.le_refl _, by simp, by intro i x _ h; omega, by
      intro i x hi h
      rw [List.getElem?_eq_none h] at hi; cases hi⟩, ?_⟩
  rintro m p n c' tg q i j J T - ⟨rfl, rfl, rfl, rfl, rfl, hle, k, h, rfl, rfl, hkh, hh, rfl, hlo, hhi⟩
  unfold slices_BinarySearchFunc_api_Record_l2 slices_BinarySearchFunc_api_Record_b3 slices_BinarySearchFunc_api_Record_b4 slices_BinarySearchFunc_api_Record_b5 slices_BinarySearchFunc_api_Record_b6 slices_BinarySearchFunc_api_Record_b7
  refine bcase_dec (fun hlt => ?_) (fun hlt => ?_)
  · rw [half (by omega)]
    have hg1 : k ≤ (k + h) / 2 := by omega
    have hg2 : (k + h) / 2 < h := by omega
    generalize (k + h) / 2 = g at hg1 hg2
    obtain ⟨x, hxg⟩ : ∃ x, xs[g]? = some x := ⟨_, List.getElem?_eq_getElem (by omega)⟩
    obtain ⟨a', rfl, hc⟩ := hx'.cell hxg
    obtain ⟨c0, c1, c2, c3⟩ := CellsR hc
    refine ⟨by omega, by omega, _, c0.le hle, _, c1.le hle, _, c2.le hle, _, c3.le hle, _, Cell.at0 rfl, _, Cell.at0 rfl, _, Cell.at0 rfl, _, Cell.at0 rfl, _, Compare_runs x r _ _, ?_⟩
    refine bcase_dec (fun hlt' => ?_) (fun hlt' => ?_)
    · refine ⟨h - (g + 1), by omega, rfl, rfl, rfl, rfl, rfl, hle, g + 1, h, ?_, rfl, by omega, hh, rfl, fun i y hy hi => ?_, hhi⟩
      · rw [wrap_i64 (by omega) (by omega)]; rfl
      · exact hm i g y x (by omega) hy hxg hlt'
    · refine ⟨g - k, by omega, rfl, rfl, rfl, rfl, rfl, hle, k, g, rfl, rfl, by omega, by omega, rfl, hlo, fun i y hy hi => ?_⟩
      exact fun hy' => hlt' (hm g i x y hi hxg hy hy')
  · have : k = h := by omega
    subst this
    have hb : Below xs r k := ⟨hh, fun i x hi => ⟨hlo i x hi, fun hc => by
      rcases Nat.lt_or_ge i k with g | g
      · exact g
      · exact absurd hc (hhi i x hi g)⟩⟩
    refine bcase_dec (fun hlt => ?_) (fun hlt => ?_)
    · obtain ⟨x, hxg⟩ : ∃ x, xs[k]? = some x := ⟨_, List.getElem?_eq_getElem (by omega)⟩
      obtain ⟨a', rfl, hc⟩ := hx'.cell hxg
      obtain ⟨c0, c1, c2, c3⟩ := CellsR hc
      refine ⟨by omega, by omega, _, c0.le hle, _, c1.le hle, _, c2.le hle, _, c3.le hle, _, Cell.at0 rfl, _, Cell.at0 rfl, _, Cell.at0 rfl, _, Cell.at0 rfl, _, Compare_runs x r _ _, ?_⟩
      refine ⟨S, hs, ⟨k, _, rfl, hb, ?_⟩, rfl⟩
      rw [beq_iff_eq, hxg]
      exact ⟨fun e => by rw [cmR.eq _ _ e], fun e => by injection e with e; rw [e, cmR.refl]⟩
    · refine ⟨S, hs, ⟨k, false, rfl, hb, ?_⟩, rfl⟩
      rw [List.getElem?_eq_none (by omega)]
      simp
end Go.Proofs.YthlkeokfmedjhaaGreat
/- What slices.overlaps answers; a clone; an insertion into a row of one's own. -/
namespace Go.Proofs.YthlkeokfmedjhaaGreat
open Go.Px
set_option linter.unusedVariables false

theorem ovl_runs {I : IMem} {S : SH} {a b : Addr} {la ca lb cb : Nat} {csA csB : Array Value} {eA eB : TypeId} (hne : a.block ≠ b.block) (hA : (a.block, Obj.cells csA eA (0, 0)) ∈ S) (hB : (b.block, Obj.cells csB eB (0, 0)) ∈ S) (hB0 : csB.size ≠ 0) :
    RunsX Tryz.prog 119 #[.slice (some a) la ca, .slice (some b) lb cb] I S fun v _ T => v = .bool false ∧ T = S := by
  intro w hw
  refine ⟨.bool false, w, I, S, ?_, IMem.le.refl I, hw, rfl, rfl⟩
  have h1 := hw.own _ hA
  have h2 := hw.own _ hB
  obtain ⟨i, hi, _⟩ := info_of_underlying (P := Tryz.prog) (t := 32) Tryz.underlying32
  rw [run_callFunc_extern Tryz.func119 (by kernel_rfl) (by kernel_rfl) (by kernel_rfl) (e := Extern.SlicesOverlaps.overlaps #[38, 38] #[4]) (by kernel_rfl)]
  rw [Lib.run_overlaps_apart w 38 4 32 Tryz.underlying38 i.size (fun w => run_sizeOf hi) a b la ca lb cb hne eA eB csA.size csB.size ?_ ?_ hB0 ?_ ?_]
  · rfl
  · simp only [World.shape?]; rw [h1]
  · simp only [World.shape?]; rw [h2]
  · simp only [World.frozen?]; rw [h1]; simp
  · simp only [World.frozen?]; rw [h1]; simp

abbrev zR : List Value := [.string ⟨#[]⟩, .int .u16 0, .int .u32 0, .string ⟨#[]⟩]
abbrev OwnZ (v : Value) (xs : List Rc) (own : SH) : Prop := OwnR 32 4 encR v xs own
theorem Clone_runs {xs : List Rc} {a : Option Addr} {c : Nat} {I : IMem} {S : SH} (hx : RowIn I S a xs.length 4 encR xs) (hl : xs.length * 40 ≤ 140737488355328) :
    Runs Tryz.prog 67 #[.slice a xs.length c] I S fun v _ T => ∃ own', OwnZ v xs own' ∧ Sub (own' ++ S) T := by
  refine slices_Clone_api_Record_fn _ _ _ _ _ _ ?_
  unfold slices_Clone_api_Record
  refine bcase_of (fun h => ?_) (fun h => ?_)
  · have hxs : xs = [] := by
      cases xs with
      | nil => rfl
      | cons x xs =>
        obtain ⟨a', rfl, _⟩ := hx.cell (i := 0) (x := x) rfl
        cases h
    subst hxs
    exact ⟨[], OwnR.nil, Sub.refl _⟩
  · intro b5
    refine AppG.own (xs := ([] : List Rc)) (ys := xs) (el := encR) (own := [(b5, .cells #[] 32 (0, 0))]) (F := S) encR_len encR_one rfl (List.Perm.refl _) (.inr ⟨b5, 0, [], rfl, rfl, rfl, Nat.zero_le _⟩) ⟨?_, flatMap_one encR_one xs⟩ ?_ ?_ ?_
    · exact RowIn.rd encR_len (by decide) (hx.sub ((Sub.refl S).skip _))
    · simp only [List.length_nil, maxLen]; omega
    · simpa using hl
    · intro p n c own' ho
      rw [List.nil_append] at ho
      exact ⟨own', ho, Sub.refl _⟩

theorem take_at {α : Type} {A B : List α} {o : Nat} (h : A.length = o) : (A ++ B).take o = A := by subst h; exact List.take_left
theorem drop_at {α : Type} {A B : List α} {o : Nat} (h : A.length = o) : (A ++ B).drop o = B := by subst h; exact List.drop_left

theorem Insert_runs {xs : List Rc} {i : Nat} {r : Rc} {b : Nat} {own : SH} {a : Option Addr} {n c : Nat} (hv : OwnZ (.slice a n c) xs own) (hi : i ≤ xs.length) (hl : (xs.length + 1) * 40 ≤ 140737488355328) (I : IMem) (F : SH) :
    Runs Tryz.prog 111 #[.slice a n c, .int .i64 (i : Int), .slice (some ⟨b, 0, none⟩) 1 1] I (own ++ (b, .cells (encR r).toArray 32 (0, 0)) :: F) fun v _ T => ∃ own', OwnZ v (xs.take i ++ r :: xs.drop i) own' ∧ Sub (own' ++ F) T := by
  refine (slices_Insert_api_Record_fn _ _ _ _ _ _ _ _ _ _ ?_)
  unfold slices_Insert_api_Record slices_Insert_api_Record_b1 slices_Insert_api_Record_b2 slices_Insert_api_Record_b3 slices_Insert_api_Record_b4 slices_Insert_api_Record_b5 slices_Insert_api_Record_b6 slices_Insert_api_Record_b7 slices_Insert_api_Record_b8
  have hn := hv.len
  subst hn
  have rdr : ∀ (G : SH), Rd I (G ++ (b, .cells (encR r).toArray 32 (0, 0)) :: F) 4 (.slice (some ⟨b, 0, none⟩) 1 1) 1 (encR r) := fun G =>
    Rd.keep (Sub.keep (IMem.le.refl I) (L := (b, .cells (encR r).toArray 32 (0, 0)) :: F) ⟨G, List.perm_append_comm⟩) (Rd.list rfl (by simp [encR_len]))
  refine ⟨by omega, by omega, bcase_beq (fun h => absurd h (by decide)) (fun _ => bcase_beq (fun h => ?_) (fun h => ?_))⟩
  · have hin : i = xs.length := by omega
    subst hin
    refine AppG.own (xs := xs) (ys := [r]) (el := encR) (own := own) (F := (b, .cells (encR r).toArray 32 (0, 0)) :: F) encR_len encR_one rfl (List.Perm.refl _) hv ⟨?_, rfl⟩ ?_ ?_ ?_
    · exact rdr own
    · simp only [List.length_singleton, maxLen]; omega
    · simpa using hl
    · intro p n c own' ho
      refine ⟨own', ?_, ⟨[_], by rw [List.append_assoc]; exact List.Perm.append_left _ (List.perm_append_comm (l₁ := [_]))⟩⟩
      rw [List.take_length, List.drop_length]
      exact ho
  · rcases hv with ⟨hv, rfl, rfl⟩ | ⟨g, cap, rest, hv, rfl, hcap, hcm⟩
    · simp at hi h; omega
    · injection hv with h1 h2 h3
      subst h1; subst h3
      obtain ⟨ys, zs, rfl, rfl⟩ : ∃ ys zs : List Rc, xs = ys ++ zs ∧ ys.length = i := ⟨xs.take i, xs.drop i, (List.take_append_drop i xs).symm, by rw [List.length_take]; omega⟩
      rw [take_at rfl, drop_at rfl]
      rw [List.length_append] at hi hl hcap h
      have hlen : (ys ++ zs).length = ys.length + zs.length := List.length_append
      have hA : (ys.flatMap encR).length = ys.length * 4 := flatMap_len encR_len ys
      have hB : (zs.flatMap encR).length = zs.length * 4 := flatMap_len encR_len zs
      have hL : (ys ++ zs).flatMap encR ++ rest = ys.flatMap encR ++ (zs.flatMap encR ++ rest) := by rw [List.flatMap_append, List.append_assoc]
      have hz : 0 < zs.length := by omega
      rw [hL, hlen]
      have w1 : IntKind.wrap .i64 (((ys.length + zs.length : Nat) : Int) + ((1 : Nat) : Int)) = ((ys.length + zs.length + 1 : Nat) : Int) := by rw [wrap_i64 (by omega) (by omega)]; omega
      have w2 : IntKind.wrap .i64 (((ys.length : Nat) : Int) + ((1 : Nat) : Int)) = ((ys.length + 1 : Nat) : Int) := by rw [wrap_i64 (by omega) (by omega)]; omega
      have w3 : IntKind.wrap .i64 (((ys.length + zs.length + 1 : Nat) : Int) - ((ys.length : Nat) : Int)) = ((zs.length + 1 : Nat) : Int) := by rw [wrap_i64 (by omega) (by omega)]; omega
      simp only [w1, w2, w3, slA_zero, Nat.sub_zero, Int.toNat_natCast]
      refine bcase_dec (fun hg => ?_) (fun hg => ?_)
      · -- no room: a new row
        refine ⟨by omega, by omega, ?_⟩
        refine ⟨_, [], _, some ⟨g, 0, none⟩, ys.length, c, zs.length + 1, ys.flatMap encR, repV (zs.length + 1) zR, List.Perm.refl _, List.Perm.refl _, rfl, ⟨.i64, rfl, rfl⟩, ?_, ?_, fun h => by omega, fun _ => ⟨?_, fun g' d hd hdm => ?_⟩⟩
        · simp only [maxLen]; omega
        · omega
        · refine Rd.list (L := ys.flatMap encR ++ (zs.flatMap encR ++ rest)) (S := (b, Obj.cells (encR r).toArray 32 (0, 0)) :: F) ?_ ?_
          · rw [List.drop_zero, take_at hA]
          · rw [List.length_append, hA]; omega
        · have hZ : (repV (zs.length + 1) zR ++ repV (d - (ys.length + (zs.length + 1))) zR).length = (d - ys.length) * 4 := by
            rw [List.length_append, repV_length, repV_length]; show (zs.length + 1) * 4 + (d - (ys.length + (zs.length + 1))) * 4 = _; omega
          generalize hZe : repV (zs.length + 1) zR ++ repV (d - (ys.length + (zs.length + 1))) zR = Z at hZ
          have hL1 : ys.flatMap encR ++ repV (zs.length + 1) zR ++ repV (d - (ys.length + (zs.length + 1))) zR = ys.flatMap encR ++ Z := by rw [← hZe, List.append_assoc]
          rw [hL1]
          have e1 : slA (some ⟨g', 0, none⟩) d ys.length 4 = some ⟨g', ys.length * 4, none⟩ := by
            unfold slA; rw [if_neg (by omega)]; show some ((⟨g', 0, none⟩ : Addr).add _) = _; rw [add_mk, Nat.zero_add]
          have e2 : slA (some ⟨g', 0, none⟩) d (ys.length + 1) 4 = some ⟨g', (ys.length + 1) * 4, none⟩ := by
            unfold slA; rw [if_neg (by omega)]; show some ((⟨g', 0, none⟩ : Addr).add _) = _; rw [add_mk, Nat.zero_add]
          have e3 : slA (some ⟨g, 0, none⟩) c ys.length 4 = some ⟨g, ys.length * 4, none⟩ := by
            unfold slA; rw [if_neg (by omega)]; show some ((⟨g, 0, none⟩ : Addr).add _) = _; rw [add_mk, Nat.zero_add]
          refine ⟨by omega, by omega, ?_⟩
          rw [e1]
          have m1 : min 1 (ys.length + (zs.length + 1) - ys.length) = 1 := by omega
          refine ⟨encR r, ?_, rfl, .inr ⟨_, rfl, StP.list (L := ys.flatMap encR ++ Z) ?_ rfl ?_⟩⟩
          · rw [m1]
            exact Rd.keep (Sub.keep (IMem.le.refl I) ((Sub.refl _).skip _)) (rdr [(g, _)])
          · rw [List.length_append, hA, hZ, encR_len]; omega
          · rw [take_at hA, ← List.drop_drop, drop_at hA, encR_len]
            refine ⟨by omega, by omega, by omega, by omega, ?_⟩
            rw [e2, e3]
            have m2 : min (ys.length + zs.length - ys.length) (ys.length + (zs.length + 1) - (ys.length + 1)) = zs.length := by omega
            have hP : (ys.flatMap encR ++ encR r).length = (ys.length + 1) * 4 := by rw [List.length_append, hA, encR_len]; omega
            refine ⟨zs.flatMap encR, ?_, flatMap_one encR_one zs, .inr ⟨_, rfl, StP.list ?_ (flatMap_one encR_one zs) ?_⟩⟩
            · rw [m2]
              refine Rd.keep (Sub.keep (IMem.le.refl I) ((Sub.refl _).skip _)) (Rd.list (L := ys.flatMap encR ++ (zs.flatMap encR ++ rest)) (S := (b, Obj.cells (encR r).toArray 32 (0, 0)) :: F) ?_ ?_)
              · rw [drop_at hA, take_at hB]
              · rw [List.length_append, List.length_append, hA, hB]; omega
            · rw [List.length_append, hP, List.length_drop, hZ, hB]; omega
            · rw [take_at hP, ← List.drop_drop, drop_at hP, hB]
              refine ⟨[_], .inr ⟨g', d, (Z.drop 4).drop (zs.length * 4), by simp, ?_, ?_, hdm⟩, ⟨[_, _], (List.perm_append_comm (l₁ := [_, _]) (l₂ := F)).cons _⟩⟩
              · simp [List.flatMap_append]
              · simp [hZ]; omega
      · -- room: in place
        have hc1 : ys.length + zs.length + 1 ≤ c := by omega
        refine ⟨by omega, by omega, by omega, by omega, ?_⟩
        have e2 : slA (some ⟨g, 0, none⟩) c (ys.length + 1) 4 = some ⟨g, (ys.length + 1) * 4, none⟩ := by
          unfold slA; rw [if_neg (by omega)]; show some ((⟨g, 0, none⟩ : Addr).add _) = _; rw [add_mk, Nat.zero_add]
        have e3 : slA (some ⟨g, 0, none⟩) c ys.length 4 = some ⟨g, ys.length * 4, none⟩ := by
          unfold slA; rw [if_neg (by omega)]; show some ((⟨g, 0, none⟩ : Addr).add _) = _; rw [add_mk, Nat.zero_add]
        rw [e2, e3]
        have hrest : rest.length = (c - (ys.length + zs.length)) * 4 := by omega
        intro w hw
        have hgb : g ≠ b := by
          have := hw.nodup
          simp only [List.singleton_append, List.map_cons, List.nodup_cons, List.mem_cons, not_or] at this
          exact this.1.1
        obtain ⟨v, w', J, T, hr, hle, hs, rfl, rfl⟩ := ovl_runs (I := I) (a := ⟨b, 0, none⟩) (b := ⟨g, (ys.length + 1) * 4, none⟩) (la := 1) (ca := 1) (lb := ys.length + zs.length + 1 - (ys.length + 1)) (cb := c - (ys.length + 1)) (fun h => hgb h.symm)
          (csA := (encR r).toArray) (csB := (ys.flatMap encR ++ (zs.flatMap encR ++ rest)).toArray) (eA := 32) (eB := 32) (S := [(g, Obj.cells (ys.flatMap encR ++ (zs.flatMap encR ++ rest)).toArray 32 (0, 0))] ++ (b, .cells (encR r).toArray 32 (0, 0)) :: F) (by simp) (by simp) (by rw [List.size_toArray, List.length_append, List.length_append, hA, hB]; omega) w hw
        refine ⟨_, w', J, _, hr, hle, hs, false, rfl, ?_⟩
        refine bcase_t rfl ⟨by omega, by omega, by omega, by omega, ?_⟩
        have m2 : min (ys.length + zs.length + 1 - ys.length) (ys.length + zs.length + 1 - (ys.length + 1)) = zs.length := by omega
        refine ⟨zs.flatMap encR, ?_, flatMap_one encR_one zs, .inr ⟨_, rfl, StP.list ?_ (flatMap_one encR_one zs) ?_⟩⟩
        · rw [m2]
          refine Rd.list ?_ ?_
          · rw [drop_at hA, take_at hB]
          · rw [List.length_append, List.length_append, hA, hB]; omega
        · rw [List.length_append, List.length_append, hA, hB]; omega
        · rw [hB]
          have hT : ((ys.flatMap encR ++ (zs.flatMap encR ++ rest)).take ((ys.length + 1) * 4)).length = (ys.length + 1) * 4 := by
            rw [List.length_take, List.length_append, List.length_append, hA, hB]; omega
          generalize hTe : (ys.flatMap encR ++ (zs.flatMap encR ++ rest)).take ((ys.length + 1) * 4) = Tk at hT
          have hT4 : Tk.take (ys.length * 4) = ys.flatMap encR := by
            rw [← hTe, List.take_take, show min (ys.length * 4) ((ys.length + 1) * 4) = ys.length * 4 by omega, take_at hA]
          refine ⟨by omega, by omega, ?_⟩
          have m1 : min 1 (ys.length + zs.length + 1 - ys.length) = 1 := by omega
          refine ⟨encR r, ?_, rfl, .inr ⟨_, rfl, StP.list ?_ rfl ?_⟩⟩
          · rw [m1]; exact Rd.keep (Sub.keep hle ((Sub.refl _).skip _)) (rdr [])
          · simp only [List.length_append, hT, encR_len]; omega
          · have k1 : (Tk ++ zs.flatMap encR ++ (ys.flatMap encR ++ (zs.flatMap encR ++ rest)).drop ((ys.length + 1) * 4 + zs.length * 4)).take (ys.length * 4) = ys.flatMap encR := by
              rw [List.append_assoc, List.take_append_of_le_length (by rw [hT]; omega), hT4]
            have k2 : (Tk ++ zs.flatMap encR ++ (ys.flatMap encR ++ (zs.flatMap encR ++ rest)).drop ((ys.length + 1) * 4 + zs.length * 4)).drop (ys.length * 4 + (encR r).length) = zs.flatMap encR ++ rest.drop 4 := by
              have k3 : (ys.flatMap encR ++ (zs.flatMap encR ++ rest)).drop ((ys.length + 1) * 4 + zs.length * 4) = rest.drop 4 := by
                rw [← List.append_assoc, show (ys.length + 1) * 4 + zs.length * 4 = (ys.length * 4 + zs.length * 4) + 4 by omega, ← List.drop_drop, drop_at (by rw [List.length_append, hA, hB])]
              rw [k3, List.append_assoc, drop_at (by rw [hT, encR_len]; omega)]
            rw [k1, k2]
            refine ⟨[_], .inr ⟨g, c, rest.drop 4, by rw [List.length_append, List.length_cons]; rfl, ?_, ?_, hcm⟩, ⟨[_], (List.perm_append_comm (l₁ := [_]) (l₂ := F)).cons _⟩⟩
            · simp [List.flatMap_append]
            · simp [hrest]; omega
end Go.Proofs.YthlkeokfmedjhaaGreat
/- Insertion into a zone, and what a zone has; the document's examples. -/
namespace Go.Proofs.YthlkeokfmedjhaaGreat
open Go.Px
set_option linter.unusedVariables false

abbrev Mono (xs : List Rc) (r : Rc) : Prop := ∀ (i j : Nat) (x y : Rc), i ≤ j → xs[i]? = some x → xs[j]? = some y → cmpR y r < 0 → cmpR x r < 0
theorem Has_runs {xs : List Rc} {a : Option Addr} {c : Nat} {r : Rc} {I : IMem} {S : SH} (hx : RowIn I S a xs.length 4 encR xs) (hl : xs.length ≤ 140737488355328) (hm : Mono xs r) :
    Runs Tryz.prog 50 #[.slice a xs.length c, vR r] I S fun v _ T => (∃ (k : Nat) (f : Bool), v = .bool f ∧ Below xs r k ∧ (f = true ↔ xs[k]? = some r)) ∧ T = S := by
  refine Runs.drop (zone_Has_fn _ _ _ _ _ _ _ _ _ _ ?_)
  unfold zone_Has
  intro b3
  refine ⟨_, Cell.at0 rfl, _, Cell.at0 rfl, _, Cell.at0 rfl, _, Cell.at0 rfl, ?_⟩
  refine (Search_runs (r := r) (hx.sub ((Sub.refl S).skip _)) hl hm).mono ?_
  rintro v J T hle ⟨⟨k, f, rfl, hb, hf⟩, rfl⟩
  exact ⟨_, _, rfl, S, (Sub.refl S).skip _, ⟨k, f, rfl, hb, hf⟩, rfl⟩
theorem ZInsert_runs {xs : List Rc} {a : Option Addr} {c : Nat} {r : Rc} {I : IMem} {S : SH} (hx : RowIn I S a xs.length 4 encR xs) (hl : (xs.length + 1) * 40 ≤ 140737488355328) (hm : Mono xs r) :
    Runs Tryz.prog 89 #[.slice a xs.length c, vR r] I S fun v _ T => ∃ k, Below xs r k ∧ ((xs[k]? = some r ∧ v = .tuple #[.slice none 0 0, .iface 123 (.int .i64 7)] ∧ Sub S T) ∨
      (xs[k]? ≠ some r ∧ ∃ p n d own', v = .tuple #[.slice p n d, .nilIface] ∧ OwnZ (.slice p n d) (xs.take k ++ r :: xs.drop k) own' ∧ Sub (own' ++ S) T)) := by
  refine zone_Insert_fn _ _ _ _ _ _ _ _ _ _ ?_
  unfold zone_Insert zone_Insert_b1 zone_Insert_b2
  intro b3
  refine ⟨_, Cell.at0 rfl, _, Cell.at0 rfl, _, Cell.at0 rfl, _, Cell.at0 rfl, ?_⟩
  have hsk : Sub S ((b3, Obj.cells #[.string r.1, .int .u16 r.2.1, .int .u32 r.2.2.1, .string r.2.2.2] 32 (0, 0)) :: S) := (Sub.refl S).skip _
  refine (Search_runs (r := r) (hx.sub hsk) (by omega) hm).mono ?_
  rintro v J T hle ⟨⟨k, f, rfl, hb, hf⟩, rfl⟩
  refine ⟨_, _, rfl, bcase_of (fun h => ⟨k, hb, .inl ⟨hf.1 h, rfl, hsk⟩⟩) (fun h => ?_)⟩
  have hne : xs[k]? ≠ some r := fun e => by rw [hf.2 e] at h; cases h
  refine ⟨_, Cell.at0 rfl, _, Cell.at0 rfl, _, Cell.at0 rfl, _, Cell.at0 rfl, ?_, ?_⟩
  · refine (Clone_runs ((hx.sub hsk).le hle) (by omega)).mono ?_
    rintro v J' T' hle' ⟨own1, ho, hsub⟩
    obtain ⟨p, c', rfl⟩ := ho.slice
    refine ⟨_, _, _, rfl, (hsub.right).keep hle', fun b20 => ?_⟩
    refine Runs.use (L := own1 ++ (b20, .cells (encR r).toArray 32 (0, 0)) :: S) ?_ (Insert_runs (r := r) ho hb.1 hl J' S) ?_
    · obtain ⟨G, hG⟩ := hsub
      exact ⟨(b3, Obj.cells #[.string r.1, .int .u16 r.2.1, .int .u32 r.2.2.1, .string r.2.2.2] 32 (0, 0)) :: G, by
        refine (hG.cons _).trans ?_
        simp only [List.append_assoc, List.cons_append]
        refine (List.perm_middle.symm).trans (List.Perm.append_left own1 (List.Perm.cons _ ?_))
        exact List.perm_middle.symm⟩
    · rintro v J'' T'' hle'' ⟨own', ho', hs'⟩
      obtain ⟨p', d, rfl⟩ := ho'.slice
      exact ⟨_, _, _, rfl, k, hb, .inr ⟨hne, _, _, _, own', rfl, ho', hs'⟩⟩
  · intro b20
    refine (Clone_runs ((hx.sub (hsk.skip _)).le hle) (by omega)).mono ?_
    rintro v J' T' hle' ⟨own1, ho, hsub⟩
    obtain ⟨p, c', rfl⟩ := ho.slice
    refine ⟨_, _, _, rfl, ((hsub.right).drop).keep hle', ?_⟩
    refine Runs.use (L := own1 ++ (b20, .cells (encR r).toArray 32 (0, 0)) :: S) ?_ (Insert_runs (r := r) ho hb.1 hl J' S) ?_
    · obtain ⟨G, hG⟩ := hsub
      exact ⟨(b3, Obj.cells #[.string r.1, .int .u16 r.2.1, .int .u32 r.2.2.1, .string r.2.2.2] 32 (0, 0)) :: G, by
        refine hG.trans ?_
        simp only [List.append_assoc, List.cons_append]
        refine List.Perm.append_left own1 (List.Perm.cons _ ?_)
        exact List.perm_middle.symm⟩
    · rintro v J'' T'' hle'' ⟨own', ho', hs'⟩
      obtain ⟨p', d, rfl⟩ := ho'.slice
      exact ⟨_, _, _, rfl, k, hb, .inr ⟨hne, _, _, _, own', rfl, ho', hs'⟩⟩

end Go.Proofs.YthlkeokfmedjhaaGreat
/- A zone's size; ZoneFits. -/
namespace Go.Proofs.YthlkeokfmedjhaaGreat
open Go.Px
set_option linter.unusedVariables false

theorem StP.rec {S : SH} {b : Nat} {x : Rc} {K : SH → Prop} (h : K ((b, .cells (encR x).toArray 32 (0, 0)) :: S)) :
    StP ((b, .cells #[.string ⟨#[]⟩, .int .u16 0, .int .u32 0, .string ⟨#[]⟩] 32 (0, 0)) :: S) ⟨b, 0, none⟩ [.string x.1, .int .u16 x.2.1, .int .u32 x.2.2.1, .string x.2.2.2] K :=
  StP.at0 (o := 0) (vs := encR x) (Nat.le_refl 4) rfl h
theorem get_lt {α : Type} {xs : List α} {k : Nat} (h : k < xs.length) : ∃ x, xs[k]? = some x := ⟨_, List.getElem?_eq_getElem h⟩
theorem lt_get {α : Type} {xs : List α} {k : Nat} {x : α} (h : xs[k]? = some x) : k < xs.length := by
  rcases Nat.lt_or_ge k xs.length with g | g
  · exact g
  · rw [List.getElem?_eq_none g] at h; cases h
theorem take_snoc {α : Type} {xs : List α} {k : Nat} {x : α} (h : xs[k]? = some x) : xs.take (k + 1) = xs.take k ++ [x] := by
  rw [List.take_add_one, h]; rfl

def szR (r : Rc) : Nat := 10 + r.1.size + r.2.2.2.size
def sizeR (xs : List Rc) : Nat := (xs.map szR).sum
theorem sizeR_app (xs ys : List Rc) : sizeR (xs ++ ys) = sizeR xs + sizeR ys := by simp [sizeR]
theorem sizeR_take {xs : List Rc} (k : Nat) : sizeR (xs.take k) ≤ sizeR xs := by
  have : sizeR (xs.take k ++ xs.drop k) = _ := sizeR_app _ _
  rw [List.take_append_drop] at this; omega
theorem Size_runs {xs : List Rc} {a : Option Addr} {c : Nat} {I : IMem} {S : SH} (hx : RowIn I S a xs.length 4 encR xs) (hl : xs.length ≤ 4611686018427387904) (hs : sizeR xs ≤ 4611686018427387904) :
    Runs Tryz.prog 109 #[.slice a xs.length c] I S fun v _ T => v = .int .i64 (sizeR xs : Int) ∧ T = S := by
  refine Runs.drop (zone_Size_fn _ _ _ _ _ _ ?_)
  unfold zone_Size zone_Size_b1 zone_Size_b2
  refine ⟨fun m n p n' c' q i J T => p = a ∧ n' = xs.length ∧ q = (xs.length : Int) ∧ Sub S T ∧ I.le J ∧ ∃ k : Nat, i = (k : Int) ∧ k ≤ xs.length ∧ m = xs.length - k ∧ n = (sizeR (xs.take k) : Int), xs.length,
    ⟨rfl, rfl, rfl, Sub.refl S, IMem.le.refl I, 0, rfl, Nat.zero_le _, by simp, by simp [sizeR]⟩, ?_⟩
  rintro m n p n' c' q i J T - ⟨rfl, rfl, rfl, hT, hle, k, rfl, hk, rfl, rfl⟩
  unfold zone_Size_l3 zone_Size_b4
  refine bcase_dec (fun h => ?_) (fun h => ?_)
  · obtain ⟨x, hxk⟩ := get_lt (xs := xs) (k := k) (by omega)
    obtain ⟨a', rfl, hc⟩ := ((hx.sub hT).le hle).cell hxk
    obtain ⟨c0, c1, c2, c3⟩ := CellsR hc
    have e : sizeR (xs.take (k + 1)) = sizeR (xs.take k) + szR x := by rw [take_snoc hxk, sizeR_app]; simp [sizeR]
    have hb := sizeR_take (xs := xs) (k + 1)
    have hz : szR x = 10 + x.1.size + x.2.2.2.size := rfl
    refine ⟨by omega, by omega, _, c0, _, c1, _, c2, _, c3, fun b5 => StP.rec ⟨_, Cell.at0 rfl, _, Cell.at0 rfl, xs.length - (k + 1), by omega, rfl, rfl, rfl, hT.skip _, hle, k + 1, ?_, by omega, rfl, ?_⟩⟩
    · rw [wrap_i64 (by omega) (by omega)]; rfl
    · rw [wrap_i64 (x := (10 : Int) + (x.1.size : Int)) (by omega) (by omega), wrap_i64 (x := (10 : Int) + (x.1.size : Int) + (x.2.2.2.size : Int)) (by omega) (by omega), wrap_i64 (by omega) (by omega)]
      omega
  · have : k = xs.length := by omega
    subst this
    rw [List.take_length]
    exact ⟨S, hT, rfl, rfl⟩
theorem Fits_runs {xs : List Rc} {a : Option Addr} {c : Nat} {I : IMem} {S : SH} (hx : RowIn I S a xs.length 4 encR xs) (hl : xs.length ≤ 4611686018427387904) (hs : sizeR xs ≤ 4611686018427387904) :
    Runs Tryz.prog 85 #[.slice a xs.length c] I S fun v _ T => v = .bool (decide (xs.length ≤ 256 ∧ sizeR xs ≤ 16384)) ∧ T = S := by
  refine zone_Fits_fn _ _ _ _ _ _ ?_
  unfold zone_Fits zone_Fits_b1
  refine bcase_dec (fun h => ?_) (fun h => ⟨?_, rfl⟩)
  · refine (Size_runs hx hl hs).mono ?_
    rintro v J T hle ⟨rfl, rfl⟩
    refine ⟨_, rfl, ?_, rfl⟩
    congr 1
    exact decide_eq_decide.2 ⟨fun g => ⟨by omega, by omega⟩, fun g => by omega⟩
  · rw [decide_eq_false (by omega)]

end Go.Proofs.YthlkeokfmedjhaaGreat
/- The law's data, and its records. -/
namespace Go.Proofs.YthlkeokfmedjhaaGreat
open Go.Px
set_option linter.unusedVariables false

def dA : ByteArray := ⟨#[1, 2, 3, 4]⟩
def dS : ByteArray := ⟨#[48, 49, 50, 51, 52, 53, 54, 55, 56, 57, 48, 49, 50, 51, 52, 53, 54, 55, 56, 57]⟩
def dQ : ByteArray := ⟨#[48, 49, 50, 51, 52, 53, 54, 55, 56, 57, 97, 98, 99, 100, 101, 102]⟩
def d0 : ByteArray := ⟨#[0]⟩
def dataF (m : Int) (x s : ByteArray) : Int × ByteArray :=
  if m = 0 ∨ m = 1 then (1, (s ++ dA).extract 0 4)
  else if m = 2 then (2, x)
  else if m = 3 then (5, x)
  else if m = 4 then (6, x ++ d0 ++ x ++ d0 ++ (s ++ dS).extract 0 20)
  else if m = 5 then (16, ⟨#[UInt8.ofNat (min 255 s.size)]⟩ ++ s.extract 0 (min 255 s.size))
  else if m = 6 then (28, (s ++ dQ).extract 0 16)
  else (99, s.extract 0 (min 512 s.size))
theorem ex_size (s : ByteArray) (a b : Nat) : (s.extract a b).size = min b s.size - a := ByteArray.size_extract
theorem dataF_size {m : Int} {x s : ByteArray} (hx : x.size ≤ 254) (hs : s.size ≤ 30) : (dataF m x s).2.size ≤ 600 := by
  have h1 : dA.size = 4 := rfl
  have h2 : dS.size = 20 := rfl
  have h3 : dQ.size = 16 := rfl
  have h4 : d0.size = 1 := rfl
  have h5 : ∀ u : UInt8, (⟨#[u]⟩ : ByteArray).size = 1 := fun _ => rfl
  unfold dataF
  repeat' split
  all_goals simp only [app_size, ex_size, h1, h2, h3, h4, h5]
  all_goals omega
theorem dataF_ty (m : Int) (x s : ByteArray) : 0 ≤ (dataF m x s).1 ∧ (dataF m x s).1 ≤ 99 := by
  unfold dataF
  repeat' split
  all_goals simp
theorem minI {a b : Nat} : (if ((a : Nat) : Int) < ((b : Nat) : Int) then ((a : Nat) : Int) else ((b : Nat) : Int)) = ((min a b : Nat) : Int) := by
  split <;> omega
theorem Data_runs {xs : List Int} {a : Option Addr} {c : Nat} {t : Int} {s : ByteArray} {I : IMem} {S : SH} (hx : RowIn I S a xs.length 1 elI8 xs) (hl : xs.length ≤ 9223372036854775807) (hp : ∀ x ∈ xs, 0 ≤ x) (hs : s.size ≤ 140737488355328) :
    Runs Tryz.prog 70 #[.int .u16 t, .slice a xs.length c, .string s] I S fun v _ T => v = .tuple #[.int .u16 (dataF (t.tmod 8) (nameW xs) s).1, .string (dataF (t.tmod 8) (nameW xs) s).2] ∧ T = S := by
  refine Runs.drop (bolterlaw04_Data_fn _ _ _ _ _ _ _ _ ?_)
  unfold bolterlaw04_Data bolterlaw04_Data_b1
  refine (Name_runs hx hl hp).mono ?_
  rintro v J T hle ⟨rfl, rfl⟩
  refine ⟨_, rfl, ?_⟩
  have hn := nameW_size xs
  generalize nameW xs = x at hn
  generalize t.tmod 8 = m
  have z1 : (⟨#[1, 2, 3, 4]⟩ : ByteArray).size = 4 := rfl
  have z2 : (⟨#[48, 49, 50, 51, 52, 53, 54, 55, 56, 57, 48, 49, 50, 51, 52, 53, 54, 55, 56, 57]⟩ : ByteArray).size = 20 := rfl
  have z3 : (⟨#[48, 49, 50, 51, 52, 53, 54, 55, 56, 57, 97, 98, 99, 100, 101, 102]⟩ : ByteArray).size = 16 := rfl
  have z4 : (⟨#[0]⟩ : ByteArray).size = 1 := rfl
  have z5 : ∀ u : UInt8, (⟨#[u]⟩ : ByteArray).size = 1 := fun _ => rfl
  unfold bolterlaw04_Data_b2
  have main : ∀ b : Bool, (b = true → m = 0 ∨ m = 1) → (b = false → ¬ (m = 0 ∨ m = 1)) → bolterlaw04_Data_b3 (fun v J T' => ∃ L, Sub L T' ∧ v = .tuple #[.int .u16 (dataF m x s).1, .string (dataF m x s).2] ∧ L = T) s x m b J T := by
    intro b hb1 hb2
    unfold bolterlaw04_Data_b3 bolterlaw04_Data_b4 bolterlaw04_Data_b5 bolterlaw04_Data_b6 bolterlaw04_Data_b7 bolterlaw04_Data_b8 bolterlaw04_Data_b9
    refine bcase_of (fun h => ?_) (fun h => bcase_beq (fun h2 => ?_) (fun h2 => bcase_beq (fun h3 => ?_) (fun h3 => bcase_beq (fun h4 => ?_) (fun h4 => bcase_beq (fun h5 => ?_) (fun h5 => ?_)))))
    · refine ⟨by rw [z1]; omega, by omega, by rw [app_size, z1]; omega, T, Sub.refl T, ?_, rfl⟩
      rw [dataF, if_pos (hb1 h)]; rfl
    · refine ⟨T, Sub.refl T, ?_, rfl⟩
      rw [dataF, if_neg (hb2 h), if_pos h2]
    · refine ⟨T, Sub.refl T, ?_, rfl⟩
      rw [dataF, if_neg (hb2 h), if_neg h2, if_pos h3]
    · simp only [app_size, z2, z4, ex_size]
      refine ⟨by omega, by omega, by omega, by omega, by omega, by omega, by simp; omega, T, Sub.refl T, ?_, rfl⟩
      rw [dataF, if_neg (hb2 h), if_neg h2, if_neg h3, if_pos h4]; rfl
    · unfold bolterlaw04_Data_b10 bolterlaw04_Data_b11
      have hm : (if (255 : Int) < (s.size : Int) then (255 : Int) else (s.size : Int)) = ((min 255 s.size : Nat) : Int) := minI (a := 255)
      rw [hm]
      have hu : IntKind.wrap .u8 ((min 255 s.size : Nat) : Int) = ((UInt8.ofNat (min 255 s.size)).toNat : Int) := by
        rw [wrap_u8 (by omega) (by omega), ofNatU (by omega)]
      rw [hu]
      refine ⟨by omega, by omega, fun b44 => ⟨⟨#[UInt8.ofNat (min 255 s.size)]⟩, ?_, ?_, T, (Sub.refl T).skip _, ?_, rfl⟩⟩
      · have := BytesAt.list (I := J) (S := T) (g := b44) (n := 1) (l := [UInt8.ofNat (min 255 s.size)]) (rest := []) (e := 5) (fz := (0, 0)) rfl
        exact this
      · rw [ex_size, z5]; omega
      · rw [dataF, if_neg (hb2 h), if_neg h2, if_neg h3, if_neg h4, if_pos h5, Int.toNat_natCast]
    · unfold bolterlaw04_Data_b12 bolterlaw04_Data_b13 bolterlaw04_Data_b14 bolterlaw04_Data_b15
      refine bcase_beq (fun h6 => ?_) (fun h6 => ?_)
      · refine ⟨by rw [z3]; omega, by omega, by rw [app_size, z3]; omega, T, Sub.refl T, ?_, rfl⟩
        rw [dataF, if_neg (hb2 h), if_neg h2, if_neg h3, if_neg h4, if_neg h5, if_pos h6]; rfl
      · have hm : (if (512 : Int) < (s.size : Int) then (512 : Int) else (s.size : Int)) = ((min 512 s.size : Nat) : Int) := minI (a := 512)
        rw [hm]
        refine ⟨by omega, by omega, T, Sub.refl T, ?_, rfl⟩
        rw [dataF, if_neg (hb2 h), if_neg h2, if_neg h3, if_neg h4, if_neg h5, if_neg h6, Int.toNat_natCast]
  refine bcase_beq (fun h => main _ (fun _ => .inl h) (fun g => ?_)) (fun h => main _ (fun g => .inr (eq_of_beq g)) (fun g => ?_))
  · rw [h] at g; cases g
  · rintro (h' | h')
    · exact h h'
    · rw [h'] at g; cases g

abbrev Sl := Option Addr × Nat × Nat
abbrev Ac := Sl × Int × Int × Sl × ByteArray
def encA (x : Ac) : List Value := [.slice x.1.1 x.1.2.1 x.1.2.2, .int .u8 x.2.1, .int .u32 x.2.2.1, .slice x.2.2.2.1.1 x.2.2.2.1.2.1 x.2.2.2.1.2.2, .string x.2.2.2.2]
structure Slb (I : IMem) (S : SH) (x : Sl) (xs : List Int) : Prop where
  row : RowIn I S x.1 xs.length 1 elI8 xs
  len : x.2.1 = xs.length
  small : xs.length ≤ 9223372036854775807
  pos : ∀ y ∈ xs, 0 ≤ y
theorem Slb.keep {I J : IMem} {S T : SH} {x : Sl} {xs : List Int} (hk : Keep I S J T) (h : Slb I S x xs) : Slb J T x xs := ⟨h.row.keep hk, h.len, h.small, h.pos⟩
def recF (nm dt : List Int) (x : Ac) : Rc := (nameW nm, (dataF ((IntKind.wrap .u16 x.2.1).tmod 8) (nameW dt) (x.2.2.2.2.extract 0 (min 30 x.2.2.2.2.size))).1, x.2.2.1, (dataF ((IntKind.wrap .u16 x.2.1).tmod 8) (nameW dt) (x.2.2.2.2.extract 0 (min 30 x.2.2.2.2.size))).2)
theorem Record_runs {x : Ac} {nm dt : List Int} {I : IMem} {S : SH} (hn : Slb I S x.1 nm) (hd : Slb I S x.2.2.2.1 dt) (hs : x.2.2.2.2.size ≤ 9223372036854775807) :
    Runs Tryz.prog 52 #[.agg #[.slice x.1.1 x.1.2.1 x.1.2.2, .int .u8 x.2.1, .int .u32 x.2.2.1, .slice x.2.2.2.1.1 x.2.2.2.1.2.1 x.2.2.2.1.2.2, .string x.2.2.2.2]] I S fun v _ T => v = vR (recF nm dt x) ∧ T = S := by
  refine Runs.drop (bolterlaw05_Record_fn _ _ _ _ _ _ _ _ _ _ _ _ ?_)
  unfold bolterlaw05_Record bolterlaw05_Record_b1 bolterlaw05_Record_b2 bolterlaw05_Record_b3
  intro b1 b2
  obtain ⟨⟨na, nn, nc⟩, kd, ttl, ⟨da, dn, dc⟩, tx⟩ := x
  obtain ⟨hn1, hn2, hn3, hn4⟩ := hn
  obtain ⟨hd1, hd2, hd3, hd4⟩ := hd
  dsimp only at hn1 hn2 hd1 hd2 hs ⊢
  subst hn2; subst hd2
  have hm : (if (30 : Int) < (tx.size : Int) then (30 : Int) else (tx.size : Int)) = ((min 30 tx.size : Nat) : Int) := minI (a := 30)
  refine ⟨_, Cell.tl (Cell.at0 rfl), _, _, _, Cell.tl (Cell.at0 rfl), _, Cell.tl (Cell.at0 rfl), _, Cell.tl (Cell.at0 rfl), ?_⟩
  rw [hm]
  refine ⟨by omega, by omega, ?_⟩
  have hsk : Sub S ((b2, Obj.cells #[.string ⟨#[]⟩, .int .u16 0, .int .u32 0, .string ⟨#[]⟩] 32 (0, 0)) :: ((b1, Obj.cells #[.slice na nm.length nc, .int .u8 kd, .int .u32 ttl, .slice da dt.length dc, .string tx] 107 (0, 0)) :: S)) := ((Sub.refl S).skip _).skip _
  refine (Data_runs (hd1.sub hsk) hd3 hd4 (by rw [ex_size]; omega)).mono ?_
  rintro v J T hle ⟨rfl, rfl⟩
  refine ⟨_, _, rfl, _, _, _, Cell.tl (Cell.at0 rfl), _, Cell.tl (Cell.at0 rfl), ?_⟩
  refine (Name_runs ((hn1.sub hsk).le hle) hn3 hn4).mono ?_
  rintro v J' T' hle' ⟨rfl, rfl⟩
  refine ⟨_, rfl, (Sub.refl _).keep hle', ?_⟩
  refine StP.at0 (o := 0) (vs := encR (recF nm dt ((na, nm.length, nc), kd, ttl, (da, dt.length, dc), tx))) (Nat.le_refl 4) rfl ?_
  exact ⟨_, Cell.at0 rfl, _, Cell.at0 rfl, _, Cell.at0 rfl, _, Cell.at0 rfl, S, ((Sub.refl S).skip _).skip _, rfl, rfl⟩

structure SmallR (r : Rc) : Prop where
  nm : r.1.size ≤ 254
  dt : r.2.2.2.size ≤ 600
  ty : 0 ≤ r.2.1 ∧ r.2.1 ≤ 99
theorem recF_small (nm dt : List Int) (x : Ac) : SmallR (recF nm dt x) :=
  ⟨nameW_size nm, dataF_size (nameW_size dt) (by rw [ex_size]; omega), dataF_ty _ _ _⟩
structure AcOK (I : IMem) (S : SH) (x : Ac) : Prop where
  nm : ∃ nm, Slb I S x.1 nm
  dt : ∃ dt, Slb I S x.2.2.2.1 dt
  tx : x.2.2.2.2.size ≤ 9223372036854775807
theorem AcOK.keep {I J : IMem} {S T : SH} {x : Ac} (hk : Keep I S J T) (h : AcOK I S x) : AcOK J T x :=
  ⟨let ⟨nm, h⟩ := h.nm; ⟨nm, h.keep hk⟩, let ⟨nm, h⟩ := h.dt; ⟨nm, h.keep hk⟩, h.tx⟩
theorem CellsA {I : IMem} {S : SH} {a : Addr} {x : Ac} (h : ∀ j v, (encA x)[j]? = some v → Cell I S (a.add j) v) :
    Cell I S a (.slice x.1.1 x.1.2.1 x.1.2.2) ∧ Cell I S (a.add 1) (.int .u8 x.2.1) ∧ Cell I S (a.add 2) (.int .u32 x.2.2.1) ∧ Cell I S (a.add 3) (.slice x.2.2.2.1.1 x.2.2.2.1.2.1 x.2.2.2.1.2.2) ∧ Cell I S (a.add 4) (.string x.2.2.2.2) :=
  ⟨by simpa [Addr.add] using h 0 _ rfl, h 1 _ rfl, h 2 _ rfl, h 3 _ rfl, h 4 _ rfl⟩
end Go.Proofs.YthlkeokfmedjhaaGreat
/- Names: their labels, whether they may be, what is ahead of them, what is below what; data that may be; records that may be. -/
namespace Go.Proofs.YthlkeokfmedjhaaGreat
open Go.Px
set_option linter.unusedVariables false

theorem at0 {s : ByteArray} (h : 0 < s.size) : ∃ c : UInt8, s[0]? = some c := ⟨_, getElem?_pos s 0 h⟩
theorem at_ok {s : ByteArray} {k : Nat} (h : k < s.size) : ∃ c : UInt8, s[k]? = some c := ⟨_, getElem?_pos s k h⟩
theorem at_none {s : ByteArray} {k : Nat} (h : s.size ≤ k) : s[k]? = none := getElem?_neg s k (by omega)
theorem u8_lt (c : UInt8) : c.toNat < 256 := c.toNat_lt
theorem wrap_c (c : UInt8) : IntKind.wrap .i64 (c.toNat : Int) = (c.toNat : Int) := by have := u8_lt c; exact wrap_i64 (by omega) (by omega)
theorem wrap_1c (c : UInt8) : IntKind.wrap .i64 ((1 : Int) + (c.toNat : Int)) = ((1 + c.toNat : Nat) : Int) := by have := u8_lt c; rw [wrap_i64 (by omega) (by omega)]; omega

/-- the labels of bytes, one behind the other; with so many steps -/
def splitN : Nat → ByteArray → Option (List ByteArray)
  | 0, s => if s.size = 0 then some [] else none
  | n + 1, s => match s[0]? with
    | none => some []
    | some c => if c.toNat < 1 ∨ c.toNat > 63 ∨ s.size ≤ c.toNat then none else (splitN n (s.extract (1 + c.toNat) s.size)).map (s.extract 1 (1 + c.toNat) :: ·)
theorem splitN_fuel : ∀ (n m : Nat) (s : ByteArray), s.size ≤ n → s.size ≤ m → splitN n s = splitN m s
  | 0, 0, s, _, _ => rfl
  | 0, m + 1, s, h, _ => by
    have h0 : s.size = 0 := by omega
    rw [splitN, if_pos h0, splitN, at_none (by omega)]
  | n + 1, 0, s, _, h => by
    have h0 : s.size = 0 := by omega
    show splitN (n + 1) s = splitN 0 s
    rw [show splitN 0 s = some [] from by rw [splitN, if_pos h0], splitN, at_none (by omega)]
  | n + 1, m + 1, s, h, g => by
    rw [splitN, splitN]
    cases hc : s[0]? with
    | none => rfl
    | some c =>
      dsimp only
      split
      · rfl
      · rw [splitN_fuel n m _ (by rw [ex_size]; omega) (by rw [ex_size]; omega)]
def labN (s : ByteArray) : Option (List ByteArray) := if s.size > 254 ∨ s.toList ≠ (foldB s).toList then none else splitN s.size s
theorem Labels_runs (n : ByteArray) (I : IMem) (S : SH) : Runs Tryz.prog 90 #[.string n] I S fun v _ T =>
    ∃ own, ((labN n = none ∧ v = .tuple #[.slice none 0 0, .bool false] ∧ own = []) ∨ ∃ ls p m c, labN n = some ls ∧ v = .tuple #[.slice p m c, .bool true] ∧ OwnR 9 1 elS (.slice p m c) ls own) ∧ Sub (own ++ S) T := by
  refine name_Labels_fn _ _ _ _ ?_
  unfold name_Labels name_Labels_b1 name_Labels_b2
  refine bcase_dec (fun h => bcase_t rfl ⟨[], .inl ⟨by rw [labN, if_pos (.inl (by omega))], rfl, rfl⟩, Sub.refl _⟩) (fun h => ?_)
  refine (folded_runs n (by omega) I S).mono ?_
  rintro v J T hle ⟨rfl, rfl⟩
  refine ⟨_, rfl, bcase_not (bcase_of (fun g => ?_) (fun g => ⟨[], .inl ⟨by rw [labN, if_pos (.inr (fun e => by rw [e] at g; simp at g))], rfl, rfl⟩, Sub.refl _⟩))⟩
  have hlab : labN n = splitN n.size n := by rw [labN, if_neg]; rintro (h' | h'); · omega
                                             · exact h' (eq_of_beq g)
  unfold name_Labels_b3
  refine ⟨fun m o on oc s J' T' => J.le J' ∧ ∃ (ls : List ByteArray) (own : SH), m = s.size ∧ s.size + ls.length ≤ n.size ∧ OwnR 9 1 elS (.slice o on oc) ls own ∧ Sub (own ++ T) T' ∧ labN n = (splitN s.size s).map (ls ++ ·), n.size,
    ⟨IMem.le.refl J, [], [], rfl, by simp, OwnR.nil, Sub.refl _, by rw [hlab]; simp⟩, ?_⟩
  rintro m o on oc s J' T' - ⟨hle', ls, own, rfl, hsl, ho, hs, hl⟩
  unfold name_Labels_l4 name_Labels_b5 name_Labels_b6 name_Labels_b7 name_Labels_b8 name_Labels_b9
  have bad : splitN s.size s = none → ∃ own, ((labN n = none ∧ Value.tuple #[.slice none 0 0, .bool false] = .tuple #[.slice none 0 0, .bool false] ∧ own = []) ∨ ∃ ls p m c, labN n = some ls ∧ Value.tuple #[.slice none 0 0, .bool false] = .tuple #[.slice p m c, .bool true] ∧ OwnR 9 1 elS (.slice p m c) ls own) ∧ Sub (own ++ T) T' := fun e =>
    ⟨[], .inl ⟨by rw [hl, e]; rfl, rfl, rfl⟩, hs.right⟩
  refine bcase_dec (fun hpos => ?_) (fun hpos => ?_)
  · obtain ⟨c, hc⟩ := at0 (s := s) (by omega)
    obtain ⟨sz, hsz⟩ : ∃ k, s.size = k + 1 := ⟨s.size - 1, by omega⟩
    have hsp : splitN s.size s = if c.toNat < 1 ∨ c.toNat > 63 ∨ s.size ≤ c.toNat then none else (splitN sz (s.extract (1 + c.toNat) s.size)).map (s.extract 1 (1 + c.toNat) :: ·) := by
      conv => lhs; rw [hsz]
      rw [splitN, hc]
    refine ⟨c, by omega, hc, ?_⟩
    rw [wrap_c, wrap_1c]
    refine bcase_dec (fun h1 => bcase_t rfl (bad (by rw [hsp, if_pos (.inl (by omega))]))) (fun h1 => bcase_dec (fun h2 => bcase_t rfl (bad (by rw [hsp, if_pos (.inr (.inl (by omega)))]))) (fun h2 => bcase_dec (fun h3 => bad (by rw [hsp, if_pos (.inr (.inr (by omega)))])) (fun h3 => ?_)))
    rw [if_neg (by omega)] at hsp
    have e1 : ((1 : Int)).toNat = 1 := rfl
    rw [e1, Int.toNat_natCast]
    refine ⟨by omega, by omega, by omega, by omega, fun b40 => ?_⟩
    obtain ⟨G, hG⟩ := hs
    refine AppG.own (xs := ls) (ys := [s.extract 1 (1 + c.toNat)]) (el := elS) (own := own) (F := (b40, .cells #[.string (s.extract 1 (1 + c.toNat))] 9 (0, 0)) :: (T ++ G)) (fun _ => rfl) (fun _ => rfl) rfl ((hG.cons _).trans (by rw [List.append_assoc]; exact perm_mid1)) ho ⟨?_, rfl⟩ ?_ ?_ ?_
    · exact Rd.list (L := elS (s.extract 1 (1 + c.toNat))) rfl (by simp [elS])
    · simp only [List.length_singleton, maxLen]; omega
    · simp only [List.length_singleton]; omega
    · intro p m d own2 ho2
      have hes : (s.extract (1 + c.toNat) s.size).size = s.size - (1 + c.toNat) := by rw [ex_size]; omega
      refine ⟨by omega, by omega, s.size - (1 + c.toNat), by omega, hle', ls ++ [s.extract 1 (1 + c.toNat)], own2, hes.symm, ?_, ho2, ?_, ?_⟩
      · rw [hes, List.length_append, List.length_singleton]; omega
      · exact ⟨(b40, _) :: G, by rw [List.append_assoc]; exact List.Perm.append_left own2 perm_mid1⟩
      · rw [hl, hsp, splitN_fuel sz (s.extract (1 + c.toNat) s.size).size _ (by omega) (Nat.le_refl _)]
        cases splitN (s.extract (1 + c.toNat) s.size).size (s.extract (1 + c.toNat) s.size) <;> simp
  · have h0 : s.size = 0 := by omega
    refine ⟨own, .inr ⟨ls, o, on, oc, ?_, rfl, ho⟩, hs⟩
    rw [hl, h0, splitN, if_pos h0]; simp
theorem May_runs (n : ByteArray) (I : IMem) (S : SH) : Runs Tryz.prog 71 #[.string n] I S fun v _ T => v = .bool (labN n).isSome ∧ T = S := by
  refine Runs.drop (name_May_fn _ _ _ _ ?_)
  unfold name_May
  refine (Labels_runs n I S).mono ?_
  rintro v J T hle ⟨own, (⟨h, rfl, rfl⟩ | ⟨ls, p, m, c, h, rfl, ho⟩), hs⟩
  · exact ⟨_, _, _, _, rfl, S, hs.right, by rw [h]; rfl, rfl⟩
  · exact ⟨_, _, _, _, rfl, S, hs.right, by rw [h]; rfl, rfl⟩
/-- a name without its first label -/
def parN (n : ByteArray) : ByteArray × Bool := match n[0]? with
  | none => (⟨#[]⟩, false)
  | some c => if (labN n).isSome then (n.extract (1 + c.toNat) n.size, true) else (⟨#[]⟩, false)
theorem labN_first {n : ByteArray} {c : UInt8} (h : (labN n).isSome = true) (hc : n[0]? = some c) : 1 ≤ c.toNat ∧ c.toNat < n.size ∧ n.size ≤ 254 := by
  unfold labN at h
  split at h
  · cases h
  · rename_i h1
    have hpos : 0 < n.size := by
      rcases Nat.eq_zero_or_pos n.size with e | e
      · rw [at_none (by omega)] at hc; cases hc
      · exact e
    obtain ⟨k, hk⟩ : ∃ k, n.size = k + 1 := ⟨n.size - 1, by omega⟩
    rw [hk, splitN, hc] at h
    dsimp only at h
    split at h
    · cases h
    · exact ⟨by omega, by omega, by omega⟩
theorem Parent_runs (n : ByteArray) (I : IMem) (S : SH) : Runs Tryz.prog 94 #[.string n] I S fun v _ T => v = .tuple #[.string (parN n).1, .bool (parN n).2] ∧ T = S := by
  refine name_Parent_fn _ _ _ _ ?_
  unfold name_Parent name_Parent_b1 name_Parent_b2 name_Parent_b3
  refine bcase_beq (fun h => bcase_t rfl ⟨by rw [parN, at_none (by omega)], rfl⟩) (fun h => (May_runs n I S).mono ?_)
  rintro v J T hle ⟨rfl, rfl⟩
  obtain ⟨c, hc⟩ := at0 (s := n) (by omega)
  refine ⟨_, rfl, bcase_not (bcase_of (fun g => ?_) (fun g => ⟨?_, rfl⟩))⟩
  · obtain ⟨h1, h2, h3⟩ := labN_first g hc
    refine ⟨c, by omega, hc, ?_⟩
    rw [wrap_c, wrap_1c]
    refine ⟨by omega, by omega, ?_, rfl⟩
    rw [Int.toNat_natCast, parN, hc]
    dsimp only
    rw [if_pos g]
  · rw [parN, hc]
    dsimp only
    rw [g]; rfl
theorem parN_size {n : ByteArray} (h : (parN n).2 = true) : (parN n).1.size < n.size := by
  unfold parN at h ⊢
  cases hc : n[0]? with
  | none => rw [hc] at h; cases h
  | some c =>
    rw [hc] at h
    dsimp only at h ⊢
    split at h
    · rename_i hg
      obtain ⟨h1, h2, h3⟩ := labN_first hg hc
      rw [if_pos hg]
      dsimp only
      rw [ex_size]; omega
    · cases h
def goB : Nat → ByteArray → ByteArray → Bool → Bool
  | 0, _, _, _ => false
  | f + 1, n, on, ok => if ok then (if n.toList == on.toList then true else goB f (parN n).1 on (parN n).2) else false
def belowB (n on : ByteArray) : Bool := goB (n.size + 2) n on ((labN n).isSome && (labN on).isSome)
theorem Below_runs (n on : ByteArray) (I : IMem) (S : SH) : Runs Tryz.prog 77 #[.string n, .string on] I S fun v _ T => v = .bool (belowB n on) ∧ T = S := by
  refine name_Below_fn _ _ _ _ _ ?_
  unfold name_Below name_Below_b1
  have main : ∀ (ok : Bool) (J : IMem), ok = ((labN n).isSome && (labN on).isSome) → name_Below_b2 (fun v _ T => v = .bool (belowB n on) ∧ T = S) n on ok J S := by
    intro ok J hok
    unfold name_Below_b2
    refine ⟨fun m n' on' ok' J' T' => on' = on ∧ T' = S ∧ 1 ≤ m ∧ (ok' = true → n'.size + 2 ≤ m) ∧ belowB n on = goB m n' on ok', n.size + 2, ⟨rfl, rfl, by omega, fun _ => Nat.le_refl _, by rw [belowB, hok]⟩, ?_⟩
    rintro m n' on' ok' J' T' - ⟨rfl, rfl, hm1, hm2, hg⟩
    unfold name_Below_l3 name_Below_b4
    obtain ⟨f, rfl⟩ : ∃ f, m = f + 1 := ⟨m - 1, by omega⟩
    rw [goB] at hg
    refine bcase_of (fun h => bcase_of (fun h1 => ⟨?_, rfl⟩) (fun h1 => ?_)) (fun h => ⟨?_, rfl⟩)
    · rw [hg, if_pos h, if_pos h1]
    · rw [if_pos h, if_neg (by rw [h1]; simp)] at hg
      have := hm2 h
      refine (Parent_runs n' J' T').mono ?_
      rintro v J3 T3 hle ⟨rfl, rfl⟩
      exact ⟨_, _, rfl, f, by omega, rfl, rfl, by omega, fun h2 => by have := parN_size h2; omega, hg⟩
    · rw [hg, h]; rfl
  refine (May_runs n I S).mono ?_
  rintro v J T hle ⟨rfl, rfl⟩
  refine ⟨_, rfl, bcase_of (fun h => ?_) (fun h => main false J (by rw [h]; rfl))⟩
  refine (May_runs on J T).mono ?_
  rintro v J' T' hle' ⟨rfl, rfl⟩
  exact ⟨_, rfl, main _ J' (by rw [h]; rfl)⟩

/-! ### names in data -/
def goC : Nat → ByteArray → Nat → ByteArray × ByteArray × Bool
  | 0, _, _ => (⟨#[]⟩, ⟨#[]⟩, false)
  | f + 1, s, p => match s[p]? with
    | none => (⟨#[]⟩, ⟨#[]⟩, false)
    | some c => if c.toNat = 0 then (if (labN (s.extract 0 p)).isSome then (s.extract 0 p, s.extract (p + 1) s.size, true) else (⟨#[]⟩, ⟨#[]⟩, false)) else goC f s (p + (1 + c.toNat))
def cutN (s : ByteArray) : ByteArray × ByteArray × Bool := goC (s.size + 1) s 0
theorem Cut_runs (s : ByteArray) (hs : s.size ≤ 4611686018427387904) (I : IMem) (S : SH) : Runs Tryz.prog 72 #[.string s] I S fun v _ T => v = .tuple #[.string (cutN s).1, .string (cutN s).2.1, .bool (cutN s).2.2] ∧ T = S := by
  refine point_Cut_fn _ _ _ _ ?_
  unfold point_Cut point_Cut_b1 point_Cut_b2
  refine ⟨fun m s' i J T => s' = s ∧ T = S ∧ ∃ p : Nat, i = (p : Int) ∧ 1 ≤ m ∧ (p < s.size → s.size + 1 ≤ m + p) ∧ p ≤ s.size + 300 ∧ cutN s = goC m s p, s.size + 1, ⟨rfl, rfl, 0, rfl, by omega, fun _ => by omega, by omega, rfl⟩, ?_⟩
  rintro m s' i J T - ⟨rfl, rfl, p, rfl, hm, hmp, hp, hg⟩
  unfold point_Cut_l3 point_Cut_b4 point_Cut_b5 point_Cut_b6 point_Cut_b7 point_Cut_b8 point_Cut_b9
  obtain ⟨f, rfl⟩ : ∃ f, m = f + 1 := ⟨m - 1, by omega⟩
  rw [goC] at hg
  refine bcase_dec (fun h => ?_) (fun h => ⟨?_, rfl⟩)
  · have hlt : p < s'.size := by omega
    obtain ⟨c, hc⟩ := at_ok hlt
    have hmp := hmp hlt
    rw [hc] at hg
    dsimp only at hg
    refine ⟨c, by omega, by rw [Int.toNat_natCast]; exact hc, bcase_beq (fun h0 => ?_) (fun h0 => ?_)⟩
    · rw [if_pos (by omega)] at hg
      rw [Int.toNat_natCast]
      refine ⟨by omega, by omega, (May_runs _ J T).mono ?_⟩
      rintro v J' T' hle ⟨rfl, rfl⟩
      refine ⟨_, rfl, bcase_not (bcase_of (fun g => ?_) (fun g => ⟨?_, rfl⟩))⟩
      · rw [if_pos g] at hg
        have : IntKind.wrap .i64 ((p : Int) + 1) = ((p + 1 : Nat) : Int) := by rw [wrap_i64 (by omega) (by omega)]; rfl
        rw [this, Int.toNat_natCast]
        exact ⟨by omega, by omega, by rw [hg], rfl⟩
      · rw [hg, g]; rfl
    · rw [if_neg (by omega)] at hg
      have hcl := u8_lt c
      refine ⟨c, by omega, by rw [Int.toNat_natCast]; exact hc, ?_⟩
      rw [wrap_c, wrap_1c]
      refine ⟨f, by omega, rfl, rfl, p + (1 + c.toNat), ?_, by omega, fun _ => by omega, by omega, hg⟩
      rw [wrap_i64 (by omega) (by omega)]; omega
  · rw [at_none (by omega)] at hg
    rw [hg]
def soaN (d : ByteArray) : Bool := (cutN d).2.2 && ((cutN (cutN d).2.1).2.2 && (cutN (cutN d).2.1).2.1.size == 20)
theorem goC_size : ∀ (f : Nat) (s : ByteArray) (p : Nat), (goC f s p).2.1.size ≤ s.size
  | 0, s, p => Nat.zero_le _
  | f + 1, s, p => by
    rw [goC]
    split
    · exact Nat.zero_le _
    · split
      · split
        · dsimp only; rw [ex_size]; omega
        · exact Nat.zero_le _
      · exact goC_size f s _
theorem soa_runs (d : ByteArray) (hs : d.size ≤ 4611686018427387904) (I : IMem) (S : SH) : Runs Tryz.prog 112 #[.string d] I S fun v _ T => (∃ a b l, v = .tuple #[.string a, .string b, .string l, .bool (soaN d)]) ∧ T = S := by
  refine rdata_soa_fn _ _ _ _ ?_
  unfold rdata_soa rdata_soa_b1 rdata_soa_b2 rdata_soa_b3
  refine (Cut_runs d hs I S).mono ?_
  rintro v J T hle ⟨rfl, rfl⟩
  refine ⟨_, _, _, rfl, (Cut_runs (cutN d).2.1 (Nat.le_trans (goC_size _ _ _) hs) J T).mono ?_⟩
  rintro v J' T' hle' ⟨rfl, rfl⟩
  have fin : ∀ (x y z : ByteArray) (b : Bool), soaN d = b → (∃ a b' l, Value.tuple #[.string x, .string y, .string z, .bool b] = .tuple #[.string a, .string b', .string l, .bool (soaN d)]) := fun x y z b h => ⟨x, y, z, by rw [h]⟩
  refine ⟨_, _, _, rfl, bcase_not (bcase_of (fun h1 => bcase_not (bcase_of (fun h2 => bcase_bne (fun h3 => ⟨fin _ _ _ _ ?_, rfl⟩) (fun h3 => ⟨fin _ _ _ _ ?_, rfl⟩)) (fun h2 => bcase_t rfl ⟨fin _ _ _ _ ?_, rfl⟩))) (fun h1 => bcase_t rfl ⟨fin _ _ _ _ ?_, rfl⟩))⟩
  · have : ((cutN (cutN d).2.1).2.1.size == 20) = false := by rw [beq_eq_false_iff_ne]; omega
    rw [soaN, h1, h2, this]; rfl
  · have : ((cutN (cutN d).2.1).2.1.size == 20) = true := by rw [beq_iff_eq]; omega
    rw [soaN, h1, h2, this]; rfl
  · rw [soaN, h1, h2]; rfl
  · rw [soaN, h1]; rfl
def goT : Nat → ByteArray → Nat → Bool
  | 0, _, _ => false
  | f + 1, d, p => match d[p]? with
    | none => decide (p = d.size ∧ 0 < p)
    | some c => goT f d (p + (1 + c.toNat))
def textsN (d : ByteArray) : Bool := goT (d.size + 1) d 0
theorem texts_runs (d : ByteArray) (hs : d.size ≤ 4611686018427387904) (I : IMem) (S : SH) : Runs Tryz.prog 113 #[.string d] I S fun v _ T => v = .bool (textsN d) ∧ T = S := by
  refine rdata_texts_fn _ _ _ _ ?_
  unfold rdata_texts rdata_texts_b1
  refine ⟨fun m s' i J T => s' = d ∧ T = S ∧ ∃ p : Nat, i = (p : Int) ∧ 1 ≤ m ∧ (p < d.size → d.size + 1 ≤ m + p) ∧ p ≤ d.size + 300 ∧ textsN d = goT m d p, d.size + 1, ⟨rfl, rfl, 0, rfl, by omega, fun _ => by omega, by omega, rfl⟩, ?_⟩
  rintro m s' i J T - ⟨rfl, rfl, p, rfl, hm, hmp, hp, hg⟩
  unfold rdata_texts_l2 rdata_texts_b3 rdata_texts_b4 rdata_texts_b5
  obtain ⟨f, rfl⟩ : ∃ f, m = f + 1 := ⟨m - 1, by omega⟩
  rw [goT] at hg
  refine bcase_dec (fun h => ?_) (fun h => ?_)
  · rw [at_none (by omega)] at hg
    refine bcase_beq (fun h1 => ⟨?_, rfl⟩) (fun h1 => ⟨?_, rfl⟩)
    · rw [hg]; congr 1
      exact decide_eq_decide.2 ⟨fun _ => ⟨by omega, by omega⟩, fun _ => by omega⟩
    · rw [hg]
      exact congrArg Value.bool (decide_eq_false (by omega)).symm
  · have hlt : p < s'.size := by omega
    obtain ⟨c, hc⟩ := at_ok hlt
    have hmp := hmp hlt
    rw [hc] at hg
    dsimp only at hg
    have hcl := u8_lt c
    refine ⟨c, by omega, by rw [Int.toNat_natCast]; exact hc, ?_⟩
    rw [wrap_c, wrap_1c]
    refine ⟨f, by omega, rfl, rfl, p + (1 + c.toNat), ?_, by omega, fun _ => by omega, by omega, hg⟩
    rw [wrap_i64 (by omega) (by omega)]; omega
/-- data that may be of a type -/
def mayD (t : Int) (d : ByteArray) : Bool :=
  if t = 1 then decide (d.size = 4) else if t = 28 then decide (d.size = 16) else if t = 2 ∨ t = 5 then (labN d).isSome else if t = 6 then soaN d else if t = 16 then textsN d && decide (d.size ≤ 512) else decide (d.size ≤ 512)
theorem MayD_runs (t : Int) (d : ByteArray) (hs : d.size ≤ 4611686018427387904) (I : IMem) (S : SH) : Runs Tryz.prog 93 #[.int .u16 t, .string d] I S fun v _ T => v = .bool (mayD t d) ∧ T = S := by
  refine rdata_May_fn _ _ _ _ _ ?_
  unfold rdata_May rdata_May_b1 rdata_May_b2 rdata_May_b3 rdata_May_b4
  have dd : ∀ {p q : Prop} [Decidable p] [Decidable q], (p ↔ q) → (decide p = decide q) := fun h => decide_eq_decide.2 h
  have bd : ∀ (a : Int) (k : Nat), (((a : Int) == (k : Int)) = decide (a = (k : Int))) := fun a k => by
    by_cases h : a = (k : Int)
    · rw [h]; simp
    · rw [decide_eq_false h]; exact beq_eq_false_iff_ne.2 h
  refine bcase_beq (fun h1 => ⟨?_, rfl⟩) (fun h1 => bcase_beq (fun h2 => ⟨?_, rfl⟩) (fun h2 => ?_))
  · rw [mayD, if_pos h1]; congr 1; exact (bd _ 4).trans (dd ⟨fun h => by omega, fun h => by omega⟩)
  · rw [mayD, if_neg h1, if_pos h2]; congr 1; exact (bd _ 16).trans (dd ⟨fun h => by omega, fun h => by omega⟩)
  · have main : ∀ b : Bool, (b = true ↔ (t = 2 ∨ t = 5)) → rdata_May_b5 (fun v _ T => v = .bool (mayD t d) ∧ T = S) d t b I S := by
      intro b hb
      unfold rdata_May_b5 rdata_May_b6 rdata_May_b7 rdata_May_b8 rdata_May_b9
      refine bcase_of (fun h => (May_runs d I S).mono ?_) (fun h => ?_)
      · rintro v J T hle ⟨rfl, rfl⟩
        refine ⟨_, rfl, ?_, rfl⟩
        rw [mayD, if_neg h1, if_neg h2, if_pos (hb.1 h)]
      · have hn : ¬ (t = 2 ∨ t = 5) := fun h' => by rw [hb.2 h'] at h; cases h
        refine bcase_beq (fun h6 => (soa_runs d hs I S).mono ?_) (fun h6 => bcase_beq (fun h16 => (texts_runs d hs I S).mono ?_) (fun h16 => ⟨?_, rfl⟩))
        · rintro v J T hle ⟨⟨a, b', l, rfl⟩, rfl⟩
          refine ⟨_, _, _, _, rfl, ?_, rfl⟩
          rw [mayD, if_neg h1, if_neg h2, if_neg hn, if_pos h6]
        · rintro v J T hle ⟨rfl, rfl⟩
          refine ⟨_, rfl, bcase_of (fun g => ⟨?_, rfl⟩) (fun g => ⟨?_, rfl⟩)⟩
          · rw [mayD, if_neg h1, if_neg h2, if_neg hn, if_neg h6, if_pos h16, g, Bool.true_and]
            exact congrArg Value.bool (dd ⟨fun h => by omega, fun h => by omega⟩)
          · rw [mayD, if_neg h1, if_neg h2, if_neg hn, if_neg h6, if_pos h16, g]; rfl
        · rw [mayD, if_neg h1, if_neg h2, if_neg hn, if_neg h6, if_neg h16]
          exact congrArg Value.bool (dd ⟨fun h => by omega, fun h => by omega⟩)
    refine bcase_beq (fun h => main _ ⟨fun _ => .inl h, fun _ => by rw [h]; rfl⟩) (fun h => main _ ⟨fun g => .inr (eq_of_beq g), fun g => ?_⟩)
    rcases g with g | g
    · exact absurd g h
    · rw [g]; rfl
def mayR (r : Rc) : Bool := (labN r.1).isSome && (decide (r.2.1 ≠ 41) && mayD r.2.1 r.2.2.2)
theorem MayRecord_runs (r : Rc) (hs : r.2.2.2.size ≤ 4611686018427387904) (I : IMem) (S : SH) : Runs Tryz.prog 76 #[vR r] I S fun v _ T => v = .bool (mayR r) ∧ T = S := by
  refine Runs.drop (message_MayRecord_fn _ _ _ _ _ _ _ ?_)
  unfold message_MayRecord message_MayRecord_b1
  intro b1
  refine ⟨_, Cell.at0 rfl, (May_runs _ _ _).mono ?_⟩
  rintro v J T hle ⟨rfl, rfl⟩
  refine ⟨_, rfl, bcase_of (fun h => ⟨_, Cell.at0 rfl, bcase_bne (fun h41 => ⟨_, Cell.at0 rfl, _, Cell.at0 rfl, (MayD_runs _ _ hs _ _).mono ?_⟩) (fun h41 => ⟨S, (Sub.refl S).skip _, ?_, rfl⟩)⟩) (fun h => ⟨S, (Sub.refl S).skip _, ?_, rfl⟩)⟩
  · rintro v J' T' hle' ⟨rfl, rfl⟩
    refine ⟨_, rfl, S, (Sub.refl S).skip _, ?_, rfl⟩
    rw [mayR, h, decide_eq_true h41]; rfl
  · rw [mayR, h, decide_eq_false (fun e => e h41)]; rfl
  · rw [mayR, h]; rfl
end Go.Proofs.YthlkeokfmedjhaaGreat
