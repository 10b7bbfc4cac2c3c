import Derived.Test.YtdajglfbbcbgpaaDoorProg
import Derived.Test.YtdajglfbbcbgpaaDoorPx6
set_option linter.unusedVariables false
set_option maxRecDepth 8000
set_option maxHeartbeats 2000000
namespace Go.Proofs.YtdajglfbbcbgpaaDoor
open Go.Px
/-! ### zone_Delete: function 17, bolter/zone.Delete -/
noncomputable def zone_Delete_code : Code := (Tryd.f17.body).getD .skip
def zone_Delete (R : Value → IMem → SH → Prop) (z_0 : Option Addr) (z_0n : Nat) (z_0c : Nat) (r_1_0 : ByteArray) (r_1_1 : Int) (r_1_2 : Int) (r_1_3 : ByteArray) (I : IMem) (S : SH) : Prop :=
  ∀ b3 : Nat,
  ∃ x10_0, Cell I ((b3, .cells #[.string r_1_0, .int .u16 r_1_1, .int .u32 r_1_2, .string r_1_3] 36 (0, 0)) :: S) ⟨b3, 0, none⟩ (.string x10_0) ∧
  ∃ x10_1, Cell I ((b3, .cells #[.string r_1_0, .int .u16 r_1_1, .int .u32 r_1_2, .string r_1_3] 36 (0, 0)) :: S) ⟨b3, 1, none⟩ (.int .u16 x10_1) ∧
  ∃ x10_2, Cell I ((b3, .cells #[.string r_1_0, .int .u16 r_1_1, .int .u32 r_1_2, .string r_1_3] 36 (0, 0)) :: S) ⟨b3, 2, none⟩ (.int .u32 x10_2) ∧
  ∃ x10_3, Cell I ((b3, .cells #[.string r_1_0, .int .u16 r_1_1, .int .u32 r_1_2, .string r_1_3] 36 (0, 0)) :: S) ⟨b3, 3, none⟩ (.string x10_3) ∧
  Runs Tryd.prog 33 #[.slice z_0 z_0n z_0c, .agg #[.string x10_0, .int .u16 x10_1, .int .u32 x10_2, .string x10_3], .func (.func 26) #[] #[]] I ((b3, .cells #[.string r_1_0, .int .u16 r_1_1, .int .u32 r_1_2, .string r_1_3] 36 (0, 0)) :: S) fun v I1 S1 => ∃ x11_0 x11_1, v = .tuple #[.int .i64 x11_0, .bool x11_1] ∧
  bcase (!x11_1)
    (R (.tuple #[.slice none 0 0, (.iface 43 (.int .i64 6))]) I1 S1)
    (Runs Tryd.prog 35 #[.slice z_0 z_0n z_0c] I1 S1 fun v' I1' S1' => ∃ x18 x18n x18c, v' = .slice x18 x18n x18c ∧
    Runs Tryd.prog 37 #[.slice x18 x18n x18c, .int .i64 x11_0, .int .i64 (IntKind.wrap .i64 (x11_0 + (1 : Int)))] I1' S1' fun v'' I1'' S1'' => ∃ x22 x22n x22c, v'' = .slice x22 x22n x22c ∧
    R (.tuple #[.slice x22 x22n x22c, .nilIface]) I1'' S1'')
theorem zone_Delete_fn (R : Value → IMem → SH → Prop) (z_0 : Option Addr) (z_0n : Nat) (z_0c : Nat) (r_1_0 : ByteArray) (r_1_1 : Int) (r_1_2 : Int) (r_1_3 : ByteArray) (I : IMem) (S : SH) (h : zone_Delete R z_0 z_0n z_0c r_1_0 r_1_1 r_1_2 r_1_3 I S) :
    Runs Tryd.prog 17 #[.slice z_0 z_0n z_0c, .agg #[.string r_1_0, .int .u16 r_1_1, .int .u32 r_1_2, .string r_1_3]] I S R := by
  refine Runs.of_wp (args := [.slice z_0 z_0n z_0c, .agg #[.string r_1_0, .int .u16 r_1_1, .int .u32 r_1_2, .string r_1_3]]) (c := zone_Delete_code) Tryd.func17 (by kernel_rfl) (by kernel_rfl) ?_
  exact Pre.sound _ _ _ _ _ (cast (by kernel_rfl) h)
/-! ### slices_Delete_api_Record: function 37, slices.Delete[bolter/zone.Zone,bolter/api.Record] -/
noncomputable def slices_Delete_api_Record_code : Code := (Tryd.f37.body).getD .skip
def slices_Delete_api_Record_b2 (R : Value → IMem → SH → Prop) (s_0 : Option Addr) (s_0n : Nat) (s_0c : Nat) (oldlen_7 : Int) (I : IMem) (S : SH) : Prop :=
  (0 : Int) ≤ oldlen_7 ∧ oldlen_7 ≤ ((s_0c : Nat) : Int) ∧
  (0 : Int) ≤ (s_0n : Int) ∧ (s_0n : Int) ≤ ((oldlen_7.toNat : Nat) : Int) ∧
  ClrP [.string ⟨#[]⟩, .int .u16 0, .int .u32 0, .string ⟨#[]⟩] S (slA s_0 s_0c ((s_0n : Int).toNat) 4) (oldlen_7.toNat - (s_0n : Int).toNat) fun S1 =>
  R (.slice s_0 s_0n s_0c) I S1
def slices_Delete_api_Record_b1 (R : Value → IMem → SH → Prop) (s_0 : Option Addr) (s_0n : Nat) (s_0c : Nat) (i_1 : Int) (j_2 : Int) (oldlen_7 : Int) (I : IMem) (S : SH) : Prop :=
  (0 : Int) ≤ i_1 ∧ i_1 ≤ ((s_0c : Nat) : Int) ∧
  (0 : Int) ≤ j_2 ∧ j_2 ≤ ((s_0n : Nat) : Int) ∧
  AppG 36 4 40 [.string ⟨#[]⟩, .int .u16 0, .int .u32 0, .string ⟨#[]⟩] (some (.slice 36)) I S (.slice (slA s_0 s_0c 0 4) (i_1.toNat - 0) (s_0c - 0)) (.slice (slA s_0 s_0c j_2.toNat 4) (s_0n - j_2.toNat) (s_0c - j_2.toNat)) fun x26 x26n x26c S1 =>
  slices_Delete_api_Record_b2 R x26 x26n x26c oldlen_7 I S1
def slices_Delete_api_Record (R : Value → IMem → SH → Prop) (s_0 : Option Addr) (s_0n : Nat) (s_0c : Nat) (i_1 : Int) (j_2 : Int) (I : IMem) (S : SH) : Prop :=
  (0 : Int) ≤ (s_0n : Int) ∧ (s_0n : Int) ≤ ((s_0c : Nat) : Int) ∧
  (0 : Int) ≤ j_2 ∧ j_2 ≤ (((s_0n : Int).toNat : Nat) : Int) ∧
  (0 : Int) ≤ i_1 ∧ i_1 ≤ ((j_2.toNat : Nat) : Int) ∧
  bcase (i_1 == j_2)
    (R (.slice s_0 s_0n s_0c) I S)
    (slices_Delete_api_Record_b1 R s_0 s_0n s_0c i_1 j_2 (s_0n : Int) I S)
theorem slices_Delete_api_Record_fn (R : Value → IMem → SH → Prop) (s_0 : Option Addr) (s_0n : Nat) (s_0c : Nat) (i_1 : Int) (j_2 : Int) (I : IMem) (S : SH) (h : slices_Delete_api_Record R s_0 s_0n s_0c i_1 j_2 I S) :
    Runs Tryd.prog 37 #[.slice s_0 s_0n s_0c, .int .i64 i_1, .int .i64 j_2] I S R := by
  refine Runs.of_wp (args := [.slice s_0 s_0n s_0c, .int .i64 i_1, .int .i64 j_2]) (c := slices_Delete_api_Record_code) Tryd.func37 (by kernel_rfl) (by kernel_rfl) ?_
  refine WP.cut 4 (fun l I S => asSl (l 0) fun s_0 s_0n s_0c => asI .i64 (l 1) fun i_1 => asI .i64 (l 2) fun j_2 => asI .i64 (l 7) fun oldlen_7 => slices_Delete_api_Record_b1 R s_0 s_0n s_0c i_1 j_2 oldlen_7 I S) (cast (by kernel_rfl) h) ?_
  clear h
  intro l I S _ h
  obtain ⟨s_0, s_0n, s_0c, e0, h⟩ := asSl_e h
  obtain ⟨i_1, e1, h⟩ := asI_e h
  obtain ⟨j_2, e2, h⟩ := asI_e h
  obtain ⟨oldlen_7, e7, h⟩ := asI_e h
  rw [upd_eta e0, upd_eta e1, upd_eta e2, upd_eta e7]
  refine WP.seqY (by kernel_rfl) (fun l I S => asSl (l 0) fun s_0 s_0n s_0c => asI .i64 (l 7) fun oldlen_7 => slices_Delete_api_Record_b2 R s_0 s_0n s_0c oldlen_7 I S) ?_ ?_
  ·
    exact WP.draw' (.take 0 (.take 1 (.take 2 (.take 3 (.take 4 (.take 5 (.step 6 (.take 7 .done)))))))) [6] (by kernel_rfl) (by kernel_rfl) (by kernel_rfl) (by kernel_rfl) (by kernel_rfl) (cast (by kernel_rfl) h)
  · clear h
    intro l I S _ h
    obtain ⟨s_0, s_0n, s_0c, e0, h⟩ := asSl_e h
    obtain ⟨oldlen_7, e7, h⟩ := asI_e h
    rw [upd_eta e0, upd_eta e7]
    exact Pre.sound _ _ _ _ _ (cast (by kernel_rfl) h)
/-! ### api_Number: function 15, bolter/api.Number -/
noncomputable def api_Number_code : Code := (Tryd.f15.body).getD .skip
def api_Number (R : Value → IMem → SH → Prop) (e_0 : Value) (I : IMem) (S : SH) : Prop :=
  ∀ b3 : Nat,
  Runs Tryd.prog 36 #[e_0, (.iface 78 (.pointer (some ⟨b3, 0, none⟩)))] I ((b3, .cells #[.int .i64 0] 43 (0, 0)) :: S) fun v I1 S1 => ∃ x6, v = .bool x6 ∧
  bcase x6
    (∃ x7, Cell I1 S1 ⟨b3, 0, none⟩ (.int .i64 x7) ∧
    R (.int .i64 x7) I1 S1)
    (R (.int .i64 0) I1 S1)
theorem api_Number_fn (R : Value → IMem → SH → Prop) (e_0 : Value) (I : IMem) (S : SH) (h : api_Number R e_0 I S) :
    Runs Tryd.prog 15 #[e_0] I S R := by
  refine Runs.of_wp (args := [e_0]) (c := api_Number_code) Tryd.func15 (by kernel_rfl) (by kernel_rfl) ?_
  exact Pre.sound _ _ _ _ _ (cast (by kernel_rfl) h)
end Go.Proofs.YtdajglfbbcbgpaaDoor
