/- The document's bytes of an event: bolterlaw25.bytes, in every order of its calls (this text is printed by tools/bytesgen.py). -/
import Derived.Test.YtkagfmlaolmdnaaDoorEv2
namespace Go.Proofs.YtkagfmlaolmdnaaDoor
open Go.Px
set_option linter.unusedVariables false
set_option linter.unusedSimpArgs false
set_option maxRecDepth 8000

/-- an event's bytes -/
noncomputable def relE (e : Ev) : ByteArray := (encF e.tr).getD ⟨#[]⟩
noncomputable def bytL_ (e : Ev) : List UInt8 := be32 (IntKind.wrap .u32 e.tm) ++ [u8o (e.cl.size : Int)] ++ e.cl.data.toList ++ [u8o (e.na.size : Int)] ++ e.na.data.toList ++ be16 e.ty ++ [u8o e.zn, u8o e.ac, u8o ((relE e).size : Int)] ++ (relE e).data.toList
noncomputable def bytE (e : Ev) : ByteArray := ⟨(bytL_ e).toArray⟩
theorem byt_eq (e : Ev) : (((((⟨(be32 (IntKind.wrap .u32 e.tm)).toArray⟩ : ByteArray) ++ txB e.cl) ++ txB e.na) ++ ⟨(be16 e.ty).toArray⟩) ++ ⟨#[u8o e.zn, u8o e.ac]⟩) ++ txB (relE e) = bytE e := by
  refine bext ?_
  simp [bytE, bytL_, txB, ByteArray.data_append]
theorem za_at {z a : Int} {b : Nat} {I : IMem} {S : SH} : BytesAt I ((b, .cells #[.int .u8 (IntKind.wrap .u8 z), .int .u8 (IntKind.wrap .u8 a)] 5 (0, 0)) :: S) (some ⟨b, 0, none⟩) 2 ⟨#[u8o z, u8o a]⟩ := by
  rw [← u8o_v z, ← u8o_v a]
  exact BytesAt.at0 _ rfl rfl
theorem bytes_b1 {e : Ev} {a : Addr} {I : IMem} {S S0 : SH} (hS0 : Sub S0 S) (c : EvC I S a e) (hcl : e.cl.size ≤ 1000000) (hna : e.na.size ≤ 1000000) (hre : (relE e).size ≤ 1000000) :
    bolterlaw25_bytes_b1 (fun v _ T => ∃ L, Sub L T ∧ v = .string (bytE e) ∧ L = S0) a (relE e) I S := by
  have scl : (txB e.cl).size = 1 + e.cl.size := by rw [txB, ByteArray.size_append]; rfl
  have sna : (txB e.na).size = 1 + e.na.size := by rw [txB, ByteArray.size_append]; rfl
  have sre : (txB (relE e)).size = 1 + (relE e).size := by rw [txB, ByteArray.size_append]; rfl
  have s32 : ∀ x : Int, (⟨(be32 x).toArray⟩ : ByteArray).size = 4 := fun x => rfl
  have s16 : ∀ x : Int, (⟨(be16 x).toArray⟩ : ByteArray).size = 2 := fun x => rfl
  have sza : ∀ x y : UInt8, (⟨#[x, y]⟩ : ByteArray).size = 2 := fun x y => rfl
  unfold bolterlaw25_bytes_b1
  refine ⟨_, c.c0, _, c.c1, _, c.c2, _, c.c3, _, c.c4, _, c.c9, ?_⟩
  refine ⟨?_, ?_, ?_⟩
  · intro b1
    refine ⟨Sub.keep (IMem.le.refl _) ((Sub.refl _).skip _), ?_⟩
    refine ⟨?_, ?_, ?_⟩
    · refine (Put32_runs (Cell.at0 rfl)).mono ?_
      rintro v J5 T6 hle2 ⟨ownhs4, ho3, hs4⟩
      obtain ⟨phs4, chs4, rfl⟩ := ho3.slice
      refine ⟨_, _, _, rfl, ?_⟩
      refine ⟨Sub.keep ((IMem.le.refl _).trans hle2) (((Sub.refl _).skip _).trans hs4.right), ?_⟩
      refine ⟨_, ho3.bytes hs4.left, ?_⟩
      refine ⟨_, fun J T _ => f1_runs _ (by first | exact hcl | exact hna | exact hre) J _, ?_⟩
      refine ⟨by simp only [ByteArray.size_append, List.nil_append, s32, s16, sza, scl, sna, sre]; omega, ?_⟩
      refine ⟨_, fun J T _ => f1_runs _ (by first | exact hcl | exact hna | exact hre) J _, ?_⟩
      refine ⟨by simp only [ByteArray.size_append, List.nil_append, s32, s16, sza, scl, sna, sre]; omega, ?_⟩
      refine ⟨?_, ?_⟩
      · intro b7
        refine ⟨Sub.keep (IMem.le.refl _) ((Sub.refl _).skip _), ?_⟩
        refine ⟨?_, ?_⟩
        · refine (Put16_runs (bs := []) (ownb := []) OwnR.nil (Sub.nil _) (Cell.at0 rfl) (by decide)).mono ?_
          rintro v J11 T12 hle8 ⟨ownhs10, ho9, hs10⟩
          obtain ⟨phs10, chs10, rfl⟩ := ho9.slice
          refine ⟨_, _, _, rfl, ?_⟩
          refine ⟨Sub.keep ((IMem.le.refl _).trans hle8) (((Sub.refl _).skip _).trans hs10.right), ?_⟩
          refine ⟨_, ho9.bytes hs10.left, ?_⟩
          refine ⟨by simp only [ByteArray.size_append, List.nil_append, s32, s16, sza, scl, sna, sre]; omega, ?_⟩
          refine ⟨_, fun J T _ => f1_runs _ (by first | exact hcl | exact hna | exact hre) J _, ?_⟩
          intro b13
          refine ⟨Sub.keep (IMem.le.refl _) ((Sub.refl _).skip _), ?_⟩
          refine ⟨_, za_at, ?_⟩
          refine ⟨by simp only [ByteArray.size_append, List.nil_append, s32, s16, sza, scl, sna, sre]; omega, ?_⟩
          refine ⟨by simp only [ByteArray.size_append, List.nil_append, s32, s16, sza, scl, sna, sre]; omega, ?_⟩
          unfold bolterlaw25_bytes_b2
          exact ⟨S0, hS0.trans ((((((Sub.refl _).skip _).trans hs4.right).skip _).trans hs10.right).skip _), congrArg Value.string (byt_eq e), rfl⟩
        · intro b14
          refine ⟨Sub.keep (IMem.le.refl _) (((Sub.refl _).skip _).skip _), ?_⟩
          refine ⟨_, za_at, ?_⟩
          refine (Put16_runs (bs := []) (ownb := []) OwnR.nil (Sub.nil _) ((Cell.at0 rfl).tl) (by decide)).mono ?_
          rintro v J18 T19 hle15 ⟨ownhs17, ho16, hs17⟩
          obtain ⟨phs17, chs17, rfl⟩ := ho16.slice
          refine ⟨_, _, _, rfl, ?_⟩
          refine ⟨Sub.keep ((IMem.le.refl _).trans hle15) ((Sub.refl _).trans hs17.right), ?_⟩
          refine ⟨_, ho16.bytes hs17.left, ?_⟩
          refine ⟨by simp only [ByteArray.size_append, List.nil_append, s32, s16, sza, scl, sna, sre]; omega, ?_⟩
          refine ⟨by simp only [ByteArray.size_append, List.nil_append, s32, s16, sza, scl, sna, sre]; omega, ?_⟩
          refine ⟨_, fun J T _ => f1_runs _ (by first | exact hcl | exact hna | exact hre) J _, ?_⟩
          refine ⟨by simp only [ByteArray.size_append, List.nil_append, s32, s16, sza, scl, sna, sre]; omega, ?_⟩
          unfold bolterlaw25_bytes_b2
          exact ⟨S0, hS0.trans ((((((Sub.refl _).skip _).trans hs4.right).skip _).skip _).trans hs17.right), congrArg Value.string (byt_eq e), rfl⟩
      · intro b20
        refine ⟨Sub.keep (IMem.le.refl _) ((Sub.refl _).skip _), ?_⟩
        refine ⟨_, za_at, ?_⟩
        intro b21
        refine ⟨Sub.keep (IMem.le.refl _) ((Sub.refl _).skip _), ?_⟩
        refine (Put16_runs (bs := []) (ownb := []) OwnR.nil (Sub.nil _) (Cell.at0 rfl) (by decide)).mono ?_
        rintro v J25 T26 hle22 ⟨ownhs24, ho23, hs24⟩
        obtain ⟨phs24, chs24, rfl⟩ := ho23.slice
        refine ⟨_, _, _, rfl, ?_⟩
        refine ⟨Sub.keep ((IMem.le.refl _).trans hle22) (((Sub.refl _).skip _).trans hs24.right), ?_⟩
        refine ⟨_, ho23.bytes hs24.left, ?_⟩
        refine ⟨by simp only [ByteArray.size_append, List.nil_append, s32, s16, sza, scl, sna, sre]; omega, ?_⟩
        refine ⟨by simp only [ByteArray.size_append, List.nil_append, s32, s16, sza, scl, sna, sre]; omega, ?_⟩
        refine ⟨_, fun J T _ => f1_runs _ (by first | exact hcl | exact hna | exact hre) J _, ?_⟩
        refine ⟨by simp only [ByteArray.size_append, List.nil_append, s32, s16, sza, scl, sna, sre]; omega, ?_⟩
        unfold bolterlaw25_bytes_b2
        exact ⟨S0, hS0.trans ((((((Sub.refl _).skip _).trans hs4.right).skip _).skip _).trans hs24.right), congrArg Value.string (byt_eq e), rfl⟩
    · intro b27
      refine ⟨Sub.keep (IMem.le.refl _) (((Sub.refl _).skip _).skip _), ?_⟩
      refine ⟨?_, ?_⟩
      · refine (Put32_runs ((Cell.at0 rfl).tl)).mono ?_
        rintro v J31 T32 hle28 ⟨ownhs30, ho29, hs30⟩
        obtain ⟨phs30, chs30, rfl⟩ := ho29.slice
        refine ⟨_, _, _, rfl, ?_⟩
        refine ⟨Sub.keep ((IMem.le.refl _).trans hle28) ((((Sub.refl _).skip _).skip _).trans hs30.right), ?_⟩
        refine ⟨_, ho29.bytes hs30.left, ?_⟩
        refine ⟨_, fun J T _ => f1_runs _ (by first | exact hcl | exact hna | exact hre) J _, ?_⟩
        refine ⟨by simp only [ByteArray.size_append, List.nil_append, s32, s16, sza, scl, sna, sre]; omega, ?_⟩
        refine ⟨_, fun J T _ => f1_runs _ (by first | exact hcl | exact hna | exact hre) J _, ?_⟩
        refine ⟨by simp only [ByteArray.size_append, List.nil_append, s32, s16, sza, scl, sna, sre]; omega, ?_⟩
        refine ⟨?_, ?_⟩
        · refine (Put16_runs (bs := []) (ownb := []) OwnR.nil (Sub.nil _) (hs30.right.cell hle28 (Cell.at0 rfl)) (by decide)).mono ?_
          rintro v J36 T37 hle33 ⟨ownhs35, ho34, hs35⟩
          obtain ⟨phs35, chs35, rfl⟩ := ho34.slice
          refine ⟨_, _, _, rfl, ?_⟩
          refine ⟨Sub.keep ((IMem.le.refl _).trans hle33) ((Sub.refl _).trans hs35.right), ?_⟩
          refine ⟨_, ho34.bytes hs35.left, ?_⟩
          refine ⟨by simp only [ByteArray.size_append, List.nil_append, s32, s16, sza, scl, sna, sre]; omega, ?_⟩
          refine ⟨_, fun J T _ => f1_runs _ (by first | exact hcl | exact hna | exact hre) J _, ?_⟩
          intro b38
          refine ⟨Sub.keep (IMem.le.refl _) ((Sub.refl _).skip _), ?_⟩
          refine ⟨_, za_at, ?_⟩
          refine ⟨by simp only [ByteArray.size_append, List.nil_append, s32, s16, sza, scl, sna, sre]; omega, ?_⟩
          refine ⟨by simp only [ByteArray.size_append, List.nil_append, s32, s16, sza, scl, sna, sre]; omega, ?_⟩
          unfold bolterlaw25_bytes_b2
          exact ⟨S0, hS0.trans ((((((Sub.refl _).skip _).skip _).trans hs30.right).trans hs35.right).skip _), congrArg Value.string (byt_eq e), rfl⟩
        · intro b39
          refine ⟨Sub.keep (IMem.le.refl _) ((Sub.refl _).skip _), ?_⟩
          refine ⟨_, za_at, ?_⟩
          refine (Put16_runs (bs := []) (ownb := []) OwnR.nil (Sub.nil _) ((hs30.right.cell hle28 (Cell.at0 rfl)).tl) (by decide)).mono ?_
          rintro v J43 T44 hle40 ⟨ownhs42, ho41, hs42⟩
          obtain ⟨phs42, chs42, rfl⟩ := ho41.slice
          refine ⟨_, _, _, rfl, ?_⟩
          refine ⟨Sub.keep ((IMem.le.refl _).trans hle40) ((Sub.refl _).trans hs42.right), ?_⟩
          refine ⟨_, ho41.bytes hs42.left, ?_⟩
          refine ⟨by simp only [ByteArray.size_append, List.nil_append, s32, s16, sza, scl, sna, sre]; omega, ?_⟩
          refine ⟨by simp only [ByteArray.size_append, List.nil_append, s32, s16, sza, scl, sna, sre]; omega, ?_⟩
          refine ⟨_, fun J T _ => f1_runs _ (by first | exact hcl | exact hna | exact hre) J _, ?_⟩
          refine ⟨by simp only [ByteArray.size_append, List.nil_append, s32, s16, sza, scl, sna, sre]; omega, ?_⟩
          unfold bolterlaw25_bytes_b2
          exact ⟨S0, hS0.trans ((((((Sub.refl _).skip _).skip _).trans hs30.right).skip _).trans hs42.right), congrArg Value.string (byt_eq e), rfl⟩
      · intro b45
        refine ⟨Sub.keep (IMem.le.refl _) ((((Sub.refl _).skip _).skip _).skip _), ?_⟩
        refine ⟨_, za_at, ?_⟩
        refine (Put32_runs (((Cell.at0 rfl).tl).tl)).mono ?_
        rintro v J49 T50 hle46 ⟨ownhs48, ho47, hs48⟩
        obtain ⟨phs48, chs48, rfl⟩ := ho47.slice
        refine ⟨_, _, _, rfl, ?_⟩
        refine ⟨Sub.keep ((IMem.le.refl _).trans hle46) ((Sub.refl _).trans hs48.right), ?_⟩
        refine ⟨_, ho47.bytes hs48.left, ?_⟩
        refine ⟨_, fun J T _ => f1_runs _ (by first | exact hcl | exact hna | exact hre) J _, ?_⟩
        refine ⟨by simp only [ByteArray.size_append, List.nil_append, s32, s16, sza, scl, sna, sre]; omega, ?_⟩
        refine ⟨_, fun J T _ => f1_runs _ (by first | exact hcl | exact hna | exact hre) J _, ?_⟩
        refine ⟨by simp only [ByteArray.size_append, List.nil_append, s32, s16, sza, scl, sna, sre]; omega, ?_⟩
        refine (Put16_runs (bs := []) (ownb := []) OwnR.nil (Sub.nil _) (hs48.right.cell hle46 ((Cell.at0 rfl).tl)) (by decide)).mono ?_
        rintro v J54 T55 hle51 ⟨ownhs53, ho52, hs53⟩
        obtain ⟨phs53, chs53, rfl⟩ := ho52.slice
        refine ⟨_, _, _, rfl, ?_⟩
        refine ⟨Sub.keep ((IMem.le.refl _).trans hle51) ((Sub.refl _).trans hs53.right), ?_⟩
        refine ⟨_, ho52.bytes hs53.left, ?_⟩
        refine ⟨by simp only [ByteArray.size_append, List.nil_append, s32, s16, sza, scl, sna, sre]; omega, ?_⟩
        refine ⟨by simp only [ByteArray.size_append, List.nil_append, s32, s16, sza, scl, sna, sre]; omega, ?_⟩
        refine ⟨_, fun J T _ => f1_runs _ (by first | exact hcl | exact hna | exact hre) J _, ?_⟩
        refine ⟨by simp only [ByteArray.size_append, List.nil_append, s32, s16, sza, scl, sna, sre]; omega, ?_⟩
        unfold bolterlaw25_bytes_b2
        exact ⟨S0, hS0.trans ((((((Sub.refl _).skip _).skip _).skip _).trans hs48.right).trans hs53.right), congrArg Value.string (byt_eq e), rfl⟩
    · intro b56
      refine ⟨Sub.keep (IMem.le.refl _) (((Sub.refl _).skip _).skip _), ?_⟩
      refine ⟨_, za_at, ?_⟩
      refine ⟨?_, ?_⟩
      · refine (Put32_runs ((Cell.at0 rfl).tl)).mono ?_
        rintro v J60 T61 hle57 ⟨ownhs59, ho58, hs59⟩
        obtain ⟨phs59, chs59, rfl⟩ := ho58.slice
        refine ⟨_, _, _, rfl, ?_⟩
        refine ⟨Sub.keep ((IMem.le.refl _).trans hle57) ((Sub.refl _).trans hs59.right), ?_⟩
        refine ⟨_, ho58.bytes hs59.left, ?_⟩
        refine ⟨_, fun J T _ => f1_runs _ (by first | exact hcl | exact hna | exact hre) J _, ?_⟩
        refine ⟨by simp only [ByteArray.size_append, List.nil_append, s32, s16, sza, scl, sna, sre]; omega, ?_⟩
        refine ⟨_, fun J T _ => f1_runs _ (by first | exact hcl | exact hna | exact hre) J _, ?_⟩
        refine ⟨by simp only [ByteArray.size_append, List.nil_append, s32, s16, sza, scl, sna, sre]; omega, ?_⟩
        intro b62
        refine ⟨Sub.keep (IMem.le.refl _) ((Sub.refl _).skip _), ?_⟩
        refine (Put16_runs (bs := []) (ownb := []) OwnR.nil (Sub.nil _) (Cell.at0 rfl) (by decide)).mono ?_
        rintro v J66 T67 hle63 ⟨ownhs65, ho64, hs65⟩
        obtain ⟨phs65, chs65, rfl⟩ := ho64.slice
        refine ⟨_, _, _, rfl, ?_⟩
        refine ⟨Sub.keep ((IMem.le.refl _).trans hle63) (((Sub.refl _).skip _).trans hs65.right), ?_⟩
        refine ⟨_, ho64.bytes hs65.left, ?_⟩
        refine ⟨by simp only [ByteArray.size_append, List.nil_append, s32, s16, sza, scl, sna, sre]; omega, ?_⟩
        refine ⟨by simp only [ByteArray.size_append, List.nil_append, s32, s16, sza, scl, sna, sre]; omega, ?_⟩
        refine ⟨_, fun J T _ => f1_runs _ (by first | exact hcl | exact hna | exact hre) J _, ?_⟩
        refine ⟨by simp only [ByteArray.size_append, List.nil_append, s32, s16, sza, scl, sna, sre]; omega, ?_⟩
        unfold bolterlaw25_bytes_b2
        exact ⟨S0, hS0.trans ((((((Sub.refl _).skip _).skip _).trans hs59.right).skip _).trans hs65.right), congrArg Value.string (byt_eq e), rfl⟩
      · intro b68
        refine ⟨Sub.keep (IMem.le.refl _) ((Sub.refl _).skip _), ?_⟩
        refine (Put32_runs (((Cell.at0 rfl).tl).tl)).mono ?_
        rintro v J72 T73 hle69 ⟨ownhs71, ho70, hs71⟩
        obtain ⟨phs71, chs71, rfl⟩ := ho70.slice
        refine ⟨_, _, _, rfl, ?_⟩
        refine ⟨Sub.keep ((IMem.le.refl _).trans hle69) (((Sub.refl _).skip _).trans hs71.right), ?_⟩
        refine ⟨_, ho70.bytes hs71.left, ?_⟩
        refine ⟨_, fun J T _ => f1_runs _ (by first | exact hcl | exact hna | exact hre) J _, ?_⟩
        refine ⟨by simp only [ByteArray.size_append, List.nil_append, s32, s16, sza, scl, sna, sre]; omega, ?_⟩
        refine ⟨_, fun J T _ => f1_runs _ (by first | exact hcl | exact hna | exact hre) J _, ?_⟩
        refine ⟨by simp only [ByteArray.size_append, List.nil_append, s32, s16, sza, scl, sna, sre]; omega, ?_⟩
        refine (Put16_runs (bs := []) (ownb := []) OwnR.nil (Sub.nil _) (hs71.right.cell hle69 (Cell.at0 rfl)) (by decide)).mono ?_
        rintro v J77 T78 hle74 ⟨ownhs76, ho75, hs76⟩
        obtain ⟨phs76, chs76, rfl⟩ := ho75.slice
        refine ⟨_, _, _, rfl, ?_⟩
        refine ⟨Sub.keep ((IMem.le.refl _).trans hle74) ((Sub.refl _).trans hs76.right), ?_⟩
        refine ⟨_, ho75.bytes hs76.left, ?_⟩
        refine ⟨by simp only [ByteArray.size_append, List.nil_append, s32, s16, sza, scl, sna, sre]; omega, ?_⟩
        refine ⟨by simp only [ByteArray.size_append, List.nil_append, s32, s16, sza, scl, sna, sre]; omega, ?_⟩
        refine ⟨_, fun J T _ => f1_runs _ (by first | exact hcl | exact hna | exact hre) J _, ?_⟩
        refine ⟨by simp only [ByteArray.size_append, List.nil_append, s32, s16, sza, scl, sna, sre]; omega, ?_⟩
        unfold bolterlaw25_bytes_b2
        exact ⟨S0, hS0.trans ((((((Sub.refl _).skip _).skip _).skip _).trans hs71.right).trans hs76.right), congrArg Value.string (byt_eq e), rfl⟩
  · intro b79
    refine ⟨Sub.keep (IMem.le.refl _) ((Sub.refl _).skip _), ?_⟩
    refine ⟨?_, ?_⟩
    · intro b80
      refine ⟨Sub.keep (IMem.le.refl _) (((Sub.refl _).skip _).skip _), ?_⟩
      refine ⟨?_, ?_⟩
      · refine (Put32_runs (Cell.at0 rfl)).mono ?_
        rintro v J84 T85 hle81 ⟨ownhs83, ho82, hs83⟩
        obtain ⟨phs83, chs83, rfl⟩ := ho82.slice
        refine ⟨_, _, _, rfl, ?_⟩
        refine ⟨Sub.keep ((IMem.le.refl _).trans hle81) ((((Sub.refl _).skip _).skip _).trans hs83.right), ?_⟩
        refine ⟨_, ho82.bytes hs83.left, ?_⟩
        refine ⟨_, fun J T _ => f1_runs _ (by first | exact hcl | exact hna | exact hre) J _, ?_⟩
        refine ⟨by simp only [ByteArray.size_append, List.nil_append, s32, s16, sza, scl, sna, sre]; omega, ?_⟩
        refine ⟨_, fun J T _ => f1_runs _ (by first | exact hcl | exact hna | exact hre) J _, ?_⟩
        refine ⟨by simp only [ByteArray.size_append, List.nil_append, s32, s16, sza, scl, sna, sre]; omega, ?_⟩
        refine ⟨?_, ?_⟩
        · refine (Put16_runs (bs := []) (ownb := []) OwnR.nil (Sub.nil _) (hs83.right.cell hle81 ((Cell.at0 rfl).tl)) (by decide)).mono ?_
          rintro v J89 T90 hle86 ⟨ownhs88, ho87, hs88⟩
          obtain ⟨phs88, chs88, rfl⟩ := ho87.slice
          refine ⟨_, _, _, rfl, ?_⟩
          refine ⟨Sub.keep ((IMem.le.refl _).trans hle86) ((Sub.refl _).trans hs88.right), ?_⟩
          refine ⟨_, ho87.bytes hs88.left, ?_⟩
          refine ⟨by simp only [ByteArray.size_append, List.nil_append, s32, s16, sza, scl, sna, sre]; omega, ?_⟩
          refine ⟨_, fun J T _ => f1_runs _ (by first | exact hcl | exact hna | exact hre) J _, ?_⟩
          intro b91
          refine ⟨Sub.keep (IMem.le.refl _) ((Sub.refl _).skip _), ?_⟩
          refine ⟨_, za_at, ?_⟩
          refine ⟨by simp only [ByteArray.size_append, List.nil_append, s32, s16, sza, scl, sna, sre]; omega, ?_⟩
          refine ⟨by simp only [ByteArray.size_append, List.nil_append, s32, s16, sza, scl, sna, sre]; omega, ?_⟩
          unfold bolterlaw25_bytes_b2
          exact ⟨S0, hS0.trans ((((((Sub.refl _).skip _).skip _).trans hs83.right).trans hs88.right).skip _), congrArg Value.string (byt_eq e), rfl⟩
        · intro b92
          refine ⟨Sub.keep (IMem.le.refl _) ((Sub.refl _).skip _), ?_⟩
          refine ⟨_, za_at, ?_⟩
          refine (Put16_runs (bs := []) (ownb := []) OwnR.nil (Sub.nil _) ((hs83.right.cell hle81 ((Cell.at0 rfl).tl)).tl) (by decide)).mono ?_
          rintro v J96 T97 hle93 ⟨ownhs95, ho94, hs95⟩
          obtain ⟨phs95, chs95, rfl⟩ := ho94.slice
          refine ⟨_, _, _, rfl, ?_⟩
          refine ⟨Sub.keep ((IMem.le.refl _).trans hle93) ((Sub.refl _).trans hs95.right), ?_⟩
          refine ⟨_, ho94.bytes hs95.left, ?_⟩
          refine ⟨by simp only [ByteArray.size_append, List.nil_append, s32, s16, sza, scl, sna, sre]; omega, ?_⟩
          refine ⟨by simp only [ByteArray.size_append, List.nil_append, s32, s16, sza, scl, sna, sre]; omega, ?_⟩
          refine ⟨_, fun J T _ => f1_runs _ (by first | exact hcl | exact hna | exact hre) J _, ?_⟩
          refine ⟨by simp only [ByteArray.size_append, List.nil_append, s32, s16, sza, scl, sna, sre]; omega, ?_⟩
          unfold bolterlaw25_bytes_b2
          exact ⟨S0, hS0.trans ((((((Sub.refl _).skip _).skip _).trans hs83.right).skip _).trans hs95.right), congrArg Value.string (byt_eq e), rfl⟩
      · intro b98
        refine ⟨Sub.keep (IMem.le.refl _) ((((Sub.refl _).skip _).skip _).skip _), ?_⟩
        refine ⟨_, za_at, ?_⟩
        refine (Put32_runs ((Cell.at0 rfl).tl)).mono ?_
        rintro v J102 T103 hle99 ⟨ownhs101, ho100, hs101⟩
        obtain ⟨phs101, chs101, rfl⟩ := ho100.slice
        refine ⟨_, _, _, rfl, ?_⟩
        refine ⟨Sub.keep ((IMem.le.refl _).trans hle99) ((Sub.refl _).trans hs101.right), ?_⟩
        refine ⟨_, ho100.bytes hs101.left, ?_⟩
        refine ⟨_, fun J T _ => f1_runs _ (by first | exact hcl | exact hna | exact hre) J _, ?_⟩
        refine ⟨by simp only [ByteArray.size_append, List.nil_append, s32, s16, sza, scl, sna, sre]; omega, ?_⟩
        refine ⟨_, fun J T _ => f1_runs _ (by first | exact hcl | exact hna | exact hre) J _, ?_⟩
        refine ⟨by simp only [ByteArray.size_append, List.nil_append, s32, s16, sza, scl, sna, sre]; omega, ?_⟩
        refine (Put16_runs (bs := []) (ownb := []) OwnR.nil (Sub.nil _) (hs101.right.cell hle99 (((Cell.at0 rfl).tl).tl)) (by decide)).mono ?_
        rintro v J107 T108 hle104 ⟨ownhs106, ho105, hs106⟩
        obtain ⟨phs106, chs106, rfl⟩ := ho105.slice
        refine ⟨_, _, _, rfl, ?_⟩
        refine ⟨Sub.keep ((IMem.le.refl _).trans hle104) ((Sub.refl _).trans hs106.right), ?_⟩
        refine ⟨_, ho105.bytes hs106.left, ?_⟩
        refine ⟨by simp only [ByteArray.size_append, List.nil_append, s32, s16, sza, scl, sna, sre]; omega, ?_⟩
        refine ⟨by simp only [ByteArray.size_append, List.nil_append, s32, s16, sza, scl, sna, sre]; omega, ?_⟩
        refine ⟨_, fun J T _ => f1_runs _ (by first | exact hcl | exact hna | exact hre) J _, ?_⟩
        refine ⟨by simp only [ByteArray.size_append, List.nil_append, s32, s16, sza, scl, sna, sre]; omega, ?_⟩
        unfold bolterlaw25_bytes_b2
        exact ⟨S0, hS0.trans ((((((Sub.refl _).skip _).skip _).skip _).trans hs101.right).trans hs106.right), congrArg Value.string (byt_eq e), rfl⟩
    · intro b109
      refine ⟨Sub.keep (IMem.le.refl _) (((Sub.refl _).skip _).skip _), ?_⟩
      refine ⟨_, za_at, ?_⟩
      intro b110
      refine ⟨Sub.keep (IMem.le.refl _) ((Sub.refl _).skip _), ?_⟩
      refine (Put32_runs (Cell.at0 rfl)).mono ?_
      rintro v J114 T115 hle111 ⟨ownhs113, ho112, hs113⟩
      obtain ⟨phs113, chs113, rfl⟩ := ho112.slice
      refine ⟨_, _, _, rfl, ?_⟩
      refine ⟨Sub.keep ((IMem.le.refl _).trans hle111) (((Sub.refl _).skip _).trans hs113.right), ?_⟩
      refine ⟨_, ho112.bytes hs113.left, ?_⟩
      refine ⟨_, fun J T _ => f1_runs _ (by first | exact hcl | exact hna | exact hre) J _, ?_⟩
      refine ⟨by simp only [ByteArray.size_append, List.nil_append, s32, s16, sza, scl, sna, sre]; omega, ?_⟩
      refine ⟨_, fun J T _ => f1_runs _ (by first | exact hcl | exact hna | exact hre) J _, ?_⟩
      refine ⟨by simp only [ByteArray.size_append, List.nil_append, s32, s16, sza, scl, sna, sre]; omega, ?_⟩
      refine (Put16_runs (bs := []) (ownb := []) OwnR.nil (Sub.nil _) (hs113.right.cell hle111 (((Cell.at0 rfl).tl).tl)) (by decide)).mono ?_
      rintro v J119 T120 hle116 ⟨ownhs118, ho117, hs118⟩
      obtain ⟨phs118, chs118, rfl⟩ := ho117.slice
      refine ⟨_, _, _, rfl, ?_⟩
      refine ⟨Sub.keep ((IMem.le.refl _).trans hle116) ((Sub.refl _).trans hs118.right), ?_⟩
      refine ⟨_, ho117.bytes hs118.left, ?_⟩
      refine ⟨by simp only [ByteArray.size_append, List.nil_append, s32, s16, sza, scl, sna, sre]; omega, ?_⟩
      refine ⟨by simp only [ByteArray.size_append, List.nil_append, s32, s16, sza, scl, sna, sre]; omega, ?_⟩
      refine ⟨_, fun J T _ => f1_runs _ (by first | exact hcl | exact hna | exact hre) J _, ?_⟩
      refine ⟨by simp only [ByteArray.size_append, List.nil_append, s32, s16, sza, scl, sna, sre]; omega, ?_⟩
      unfold bolterlaw25_bytes_b2
      exact ⟨S0, hS0.trans ((((((Sub.refl _).skip _).skip _).skip _).trans hs113.right).trans hs118.right), congrArg Value.string (byt_eq e), rfl⟩
  · intro b121
    refine ⟨Sub.keep (IMem.le.refl _) ((Sub.refl _).skip _), ?_⟩
    refine ⟨_, za_at, ?_⟩
    refine ⟨?_, ?_⟩
    · intro b122
      refine ⟨Sub.keep (IMem.le.refl _) ((Sub.refl _).skip _), ?_⟩
      refine ⟨?_, ?_⟩
      · refine (Put32_runs (Cell.at0 rfl)).mono ?_
        rintro v J126 T127 hle123 ⟨ownhs125, ho124, hs125⟩
        obtain ⟨phs125, chs125, rfl⟩ := ho124.slice
        refine ⟨_, _, _, rfl, ?_⟩
        refine ⟨Sub.keep ((IMem.le.refl _).trans hle123) (((Sub.refl _).skip _).trans hs125.right), ?_⟩
        refine ⟨_, ho124.bytes hs125.left, ?_⟩
        refine ⟨_, fun J T _ => f1_runs _ (by first | exact hcl | exact hna | exact hre) J _, ?_⟩
        refine ⟨by simp only [ByteArray.size_append, List.nil_append, s32, s16, sza, scl, sna, sre]; omega, ?_⟩
        refine ⟨_, fun J T _ => f1_runs _ (by first | exact hcl | exact hna | exact hre) J _, ?_⟩
        refine ⟨by simp only [ByteArray.size_append, List.nil_append, s32, s16, sza, scl, sna, sre]; omega, ?_⟩
        intro b128
        refine ⟨Sub.keep (IMem.le.refl _) ((Sub.refl _).skip _), ?_⟩
        refine (Put16_runs (bs := []) (ownb := []) OwnR.nil (Sub.nil _) (Cell.at0 rfl) (by decide)).mono ?_
        rintro v J132 T133 hle129 ⟨ownhs131, ho130, hs131⟩
        obtain ⟨phs131, chs131, rfl⟩ := ho130.slice
        refine ⟨_, _, _, rfl, ?_⟩
        refine ⟨Sub.keep ((IMem.le.refl _).trans hle129) (((Sub.refl _).skip _).trans hs131.right), ?_⟩
        refine ⟨_, ho130.bytes hs131.left, ?_⟩
        refine ⟨by simp only [ByteArray.size_append, List.nil_append, s32, s16, sza, scl, sna, sre]; omega, ?_⟩
        refine ⟨by simp only [ByteArray.size_append, List.nil_append, s32, s16, sza, scl, sna, sre]; omega, ?_⟩
        refine ⟨_, fun J T _ => f1_runs _ (by first | exact hcl | exact hna | exact hre) J _, ?_⟩
        refine ⟨by simp only [ByteArray.size_append, List.nil_append, s32, s16, sza, scl, sna, sre]; omega, ?_⟩
        unfold bolterlaw25_bytes_b2
        exact ⟨S0, hS0.trans ((((((Sub.refl _).skip _).skip _).trans hs125.right).skip _).trans hs131.right), congrArg Value.string (byt_eq e), rfl⟩
      · intro b134
        refine ⟨Sub.keep (IMem.le.refl _) (((Sub.refl _).skip _).skip _), ?_⟩
        refine (Put32_runs ((Cell.at0 rfl).tl)).mono ?_
        rintro v J138 T139 hle135 ⟨ownhs137, ho136, hs137⟩
        obtain ⟨phs137, chs137, rfl⟩ := ho136.slice
        refine ⟨_, _, _, rfl, ?_⟩
        refine ⟨Sub.keep ((IMem.le.refl _).trans hle135) ((((Sub.refl _).skip _).skip _).trans hs137.right), ?_⟩
        refine ⟨_, ho136.bytes hs137.left, ?_⟩
        refine ⟨_, fun J T _ => f1_runs _ (by first | exact hcl | exact hna | exact hre) J _, ?_⟩
        refine ⟨by simp only [ByteArray.size_append, List.nil_append, s32, s16, sza, scl, sna, sre]; omega, ?_⟩
        refine ⟨_, fun J T _ => f1_runs _ (by first | exact hcl | exact hna | exact hre) J _, ?_⟩
        refine ⟨by simp only [ByteArray.size_append, List.nil_append, s32, s16, sza, scl, sna, sre]; omega, ?_⟩
        refine (Put16_runs (bs := []) (ownb := []) OwnR.nil (Sub.nil _) (hs137.right.cell hle135 (Cell.at0 rfl)) (by decide)).mono ?_
        rintro v J143 T144 hle140 ⟨ownhs142, ho141, hs142⟩
        obtain ⟨phs142, chs142, rfl⟩ := ho141.slice
        refine ⟨_, _, _, rfl, ?_⟩
        refine ⟨Sub.keep ((IMem.le.refl _).trans hle140) ((Sub.refl _).trans hs142.right), ?_⟩
        refine ⟨_, ho141.bytes hs142.left, ?_⟩
        refine ⟨by simp only [ByteArray.size_append, List.nil_append, s32, s16, sza, scl, sna, sre]; omega, ?_⟩
        refine ⟨by simp only [ByteArray.size_append, List.nil_append, s32, s16, sza, scl, sna, sre]; omega, ?_⟩
        refine ⟨_, fun J T _ => f1_runs _ (by first | exact hcl | exact hna | exact hre) J _, ?_⟩
        refine ⟨by simp only [ByteArray.size_append, List.nil_append, s32, s16, sza, scl, sna, sre]; omega, ?_⟩
        unfold bolterlaw25_bytes_b2
        exact ⟨S0, hS0.trans ((((((Sub.refl _).skip _).skip _).skip _).trans hs137.right).trans hs142.right), congrArg Value.string (byt_eq e), rfl⟩
    · intro b145
      refine ⟨Sub.keep (IMem.le.refl _) ((Sub.refl _).skip _), ?_⟩
      intro b146
      refine ⟨Sub.keep (IMem.le.refl _) (((Sub.refl _).skip _).skip _), ?_⟩
      refine (Put32_runs (Cell.at0 rfl)).mono ?_
      rintro v J150 T151 hle147 ⟨ownhs149, ho148, hs149⟩
      obtain ⟨phs149, chs149, rfl⟩ := ho148.slice
      refine ⟨_, _, _, rfl, ?_⟩
      refine ⟨Sub.keep ((IMem.le.refl _).trans hle147) ((((Sub.refl _).skip _).skip _).trans hs149.right), ?_⟩
      refine ⟨_, ho148.bytes hs149.left, ?_⟩
      refine ⟨_, fun J T _ => f1_runs _ (by first | exact hcl | exact hna | exact hre) J _, ?_⟩
      refine ⟨by simp only [ByteArray.size_append, List.nil_append, s32, s16, sza, scl, sna, sre]; omega, ?_⟩
      refine ⟨_, fun J T _ => f1_runs _ (by first | exact hcl | exact hna | exact hre) J _, ?_⟩
      refine ⟨by simp only [ByteArray.size_append, List.nil_append, s32, s16, sza, scl, sna, sre]; omega, ?_⟩
      refine (Put16_runs (bs := []) (ownb := []) OwnR.nil (Sub.nil _) (hs149.right.cell hle147 ((Cell.at0 rfl).tl)) (by decide)).mono ?_
      rintro v J155 T156 hle152 ⟨ownhs154, ho153, hs154⟩
      obtain ⟨phs154, chs154, rfl⟩ := ho153.slice
      refine ⟨_, _, _, rfl, ?_⟩
      refine ⟨Sub.keep ((IMem.le.refl _).trans hle152) ((Sub.refl _).trans hs154.right), ?_⟩
      refine ⟨_, ho153.bytes hs154.left, ?_⟩
      refine ⟨by simp only [ByteArray.size_append, List.nil_append, s32, s16, sza, scl, sna, sre]; omega, ?_⟩
      refine ⟨by simp only [ByteArray.size_append, List.nil_append, s32, s16, sza, scl, sna, sre]; omega, ?_⟩
      refine ⟨_, fun J T _ => f1_runs _ (by first | exact hcl | exact hna | exact hre) J _, ?_⟩
      refine ⟨by simp only [ByteArray.size_append, List.nil_append, s32, s16, sza, scl, sna, sre]; omega, ?_⟩
      unfold bolterlaw25_bytes_b2
      exact ⟨S0, hS0.trans ((((((Sub.refl _).skip _).skip _).skip _).trans hs149.right).trans hs154.right), congrArg Value.string (byt_eq e), rfl⟩
theorem bytes_runs (e : Ev) (hcl : e.cl.size ≤ 1000000) (hna : e.na.size ≤ 1000000) (hre : (relE e).size ≤ 1000000) {I : IMem} (g : GL I) (S : SH) : Runs Tryd.prog 33 #[vE e] I S fun v _ T => v = .string (bytE e) ∧ T = S := by
  refine Runs.drop (bolterlaw25_bytes_fn _ _ _ _ _ _ _ _ _ _ _ _ _ ?_)
  unfold bolterlaw25_bytes
  intro b1
  have c := evC (I := I) (Sub.refl (Te b1 e :: S))
  refine ⟨_, c.c5, _, c.c6, _, c.c7, _, c.c8, (Encode_runs e.tr g _).mono ?_⟩
  rintro v J T hle ⟨rfl, rfl⟩
  refine ⟨_, _, mkV_is _, ?_⟩
  have c := evC (I := J) (Sub.refl (Te b1 e :: S))
  exact bytes_b1 ((Sub.refl S).skip _) c hcl hna hre
end Go.Proofs.YtkagfmlaolmdnaaDoor
