/- The rows on owners: long names. -/
import Derived.Test.YtkagfmlaolmdnaaDoorOw23
namespace Go.Proofs.YtkagfmlaolmdnaaDoor
open Go.Px
set_option linter.unusedVariables false
set_option linter.unusedSimpArgs false
set_option maxRecDepth 8000

def labOK (l : ByteArray) : Bool := decide (1 ≤ l.size) && decide (l.size ≤ 63) && decide (foldB l = l) && decide (kindOf l = none) && decide (l ≠ starB)
theorem labOK_p {l : ByteArray} (h : labOK l = true) : LabP l := by
  simp only [labOK, Bool.and_eq_true, decide_eq_true_eq] at h
  obtain ⟨⟨⟨⟨h1, h2⟩, h3⟩, h4⟩, h5⟩ := h
  exact ⟨⟨h1, h2, h3⟩, h4, h5⟩
theorem abc_ok : ∀ m : Fin 63, labOK (strT3_5b7e.extract 0 (m.val + 1)) = true := by decide +kernel
theorem abc_all : labOK strT3_5b7e = true := by decide +kernel
theorem tab4 {w x y z : Int} {j b : Nat} {I : IMem} {T : SH} {e : TypeId} (hj : j < 4) : Cell I ((b, .cells #[.int .i64 w, .int .i64 x, .int .i64 y, .int .i64 z] e (0, 0)) :: T) ((⟨b, 0, none⟩ : Addr).add (((j : Nat) : Int).toNat * 1)) (.int .i64 ([w, x, y, z].getD j 0)) := by
  rw [add_mk, Int.toNat_natCast, Nat.zero_add, Nat.mul_one]
  match j, hj with
  | 0, _ => exact Cell.at0 rfl
  | 1, _ => exact Cell.at0 rfl
  | 2, _ => exact Cell.at0 rfl
  | 3, _ => exact Cell.at0 rfl
def kdOf (j : Nat) : Int := [1, 2, 4, 5].getD j 0
def adOf (j : Nat) : Nat := [0, 2, 12, 14].getD j 0
theorem kd_ok {j : Nat} (hj : j < 4) : kdOf j = 1 ∨ kdOf j = 2 ∨ kdOf j = 4 ∨ kdOf j = 5 := by
  match j, hj with
  | 0, _ => exact .inl rfl
  | 1, _ => exact .inr (.inl rfl)
  | 2, _ => exact .inr (.inr (.inl rfl))
  | 3, _ => exact .inr (.inr (.inr rfl))
theorem ad_ok {j : Nat} (hj : j < 4) : (nm (preS (kdOf j))).size + (nm (sufS (kdOf j))).size = adOf j ∧ adOf j ≤ 14 ∧ ([0, 2, 12, 14] : List Int).getD j 0 = (adOf j : Int) := by
  match j, hj with
  | 0, _ => decide +kernel
  | 1, _ => decide +kernel
  | 2, _ => decide +kernel
  | 3, _ => decide +kernel
theorem OwnerLong_row (W : World) (g : GL (imW W)) (a : Option Addr) (len cap : Nat) (kind : Int) (w0 : U8W W (a, len, cap)) (z0 : len ≤ 140737488355328) (w1 : (Lit.int .u8 kind).wf = true) :
    Runs Tryd.prog 8 #[.slice a len cap, .int .u8 kind] (imW W) [] fun v _ _ => v = .bool true := by
  obtain ⟨ns, rfl, hx, hp⟩ := u8_open w0
  have hkb := u8_wf w1
  refine bolterlaw13_OwnerLong_fn _ _ _ _ _ _ _ ?_
  unfold bolterlaw13_OwnerLong
  refine (awake_runs g _).mono ?_
  rintro v J T hle ⟨rfl, rfl⟩
  refine ⟨_, rfl, bcase_f rfl (fun b16 => ?_)⟩
  have hm : kind.tmod 4 = ((kind.toNat % 4 : Nat) : Int) := by rw [Int.tmod_eq_emod_of_nonneg hkb.1]; omega
  have hj : kind.toNat % 4 < 4 := Nat.mod_lt _ (by decide)
  rw [hm]
  generalize kind.toNat % 4 = j at hm hj
  refine ⟨by omega, by omega, kdOf j, tab4 hj, fun b5 => StP.tg (x := t0) (t := (kdOf j, ⟨#[]⟩, ⟨#[]⟩, 0)) ?_⟩
  unfold bolterlaw13_OwnerLong_b1 bolterlaw13_OwnerLong_b2
  refine ⟨fun m s sn sc kd t l ln lc k J' T' => s = a ∧ sn = ns.length ∧ kd = kind ∧ t = ⟨b5, 0, none⟩ ∧ J.le J' ∧ ∃ (i : Nat) (ls : List ByteArray) (own : SH), k = (i : Int) ∧ i ≤ 4 ∧ m = 4 - i ∧ OwnS (.slice l ln lc) ls own ∧ ls.length = i ∧ (∀ x ∈ ls, LabP x) ∧ Sub (own ++ [Tt b5 (kdOf j, ⟨#[]⟩, ⟨#[]⟩, 0)]) T',
    4, ⟨rfl, rfl, rfl, rfl, IMem.le.refl _, 0, [], [], rfl, by decide, rfl, OwnR.nil, rfl, fun _ h => (by cases h), ⟨_, List.Perm.refl _⟩⟩, ?_⟩
  rintro m s sn sc kd t l ln lc k J' T' - ⟨rfl, rfl, rfl, rfl, hle', i, ls, own, rfl, hi, rfl, ho, hll, hlab, hs⟩
  unfold bolterlaw13_OwnerLong_l3
  have g2 := (g.le hle).le hle'
  refine bcase_dec (fun hlt => ?_) (fun hge => ?_)
  · have next : ∀ y : ByteArray, LabP y → bolterlaw13_OwnerLong_b5 (fun ns_0 ns_0n ns_0c kind_1 t_5 ls_6 ls_6n ls_6c k_7 I S => ∃ m', m' < 4 - i ∧ ns_0 = s ∧ ns_0n = ns.length ∧ kind_1 = kd ∧ t_5 = ⟨b5, 0, none⟩ ∧ J.le I ∧ ∃ (i : Nat) (ls : List ByteArray) (own : SH), k_7 = (i : Int) ∧ i ≤ 4 ∧ m' = 4 - i ∧ OwnS (.slice ls_6 ls_6n ls_6c) ls own ∧ ls.length = i ∧ (∀ x ∈ ls, LabP x) ∧ Sub (own ++ [Tt b5 (kdOf j, ⟨#[]⟩, ⟨#[]⟩, 0)]) S)
        (fun v _ _ => v = .bool true) s ns.length sc kd ⟨b5, 0, none⟩ l ln lc (i : Int) y J' T' := by
      intro y hy
      unfold bolterlaw13_OwnerLong_b5
      intro b41
      refine AppS1 hs ho (by omega) ?_
      intro p n c own' T2 ho2 hT2
      unfold bolterlaw13_OwnerLong_b6
      refine ⟨4 - (i + 1), by omega, rfl, rfl, rfl, rfl, hle', i + 1, ls ++ [y], own', by rw [wrap_i64 (by omega) (by omega)]; rfl, by omega, rfl, ho2, by rw [List.length_append, List.length_singleton, hll], fun x hx => ?_, hT2⟩
      rcases List.mem_append.1 hx with hx | hx
      · exact hlab x hx
      · rw [List.mem_singleton.1 hx]; exact hy
    unfold bolterlaw13_OwnerLong_b4
    refine bcase_dec (fun hlt2 => ?_) (fun _ => next _ (labOK_p abc_all))
    obtain ⟨x, hxk⟩ := get_lt (xs := ns) (k := i) (by omega)
    obtain ⟨a', rfl, hc⟩ := ((rowUp (S := T') hx (hle.trans hle'))).cell hxk
    have h0 := hc 0 (.int .u8 x) rfl
    have e0 : (a'.add (i * 1)).add 0 = a'.add (i * 1) := by simp [Addr.add]
    rw [e0] at h0
    have hxb := hp x (List.mem_of_getElem? hxk)
    have em : IntKind.wrap .i64 ((1 : Int) + ((IntKind.wrap .i64 x).tmod (63 : Int))) = ((x.toNat % 63 + 1 : Nat) : Int) := by
      rw [wrap_i64 (x := x) (by omega) (by omega), Int.tmod_eq_emod_of_nonneg hxb.1, wrap_i64 (by omega) (by omega)]
      omega
    have hm63 : x.toNat % 63 < 63 := Nat.mod_lt _ (by decide)
    refine ⟨by omega, by omega, x, by rw [Int.toNat_natCast]; exact h0, ?_⟩
    rw [em, Int.toNat_natCast]
    have hsz : strT3_5b7e.size = 63 := by decide
    exact ⟨by omega, by rw [hsz]; omega, next _ (labOK_p (abc_ok ⟨x.toNat % 63, hm63⟩))⟩
  · have hi4 : i = 4 := by omega
    unfold bolterlaw13_OwnerLong_b7
    obtain rfl : ln = ls.length := OwnR.len ho
    refine (Make_runs ((OwnS.row ho).sub hs.left) (by omega)).mono ?_
    rintro v J2 T hle2 ⟨rfl, rfl⟩
    cases hmk : makeN ls ByteArray.empty with
    | none => exact ⟨_, _, rfl, bcase_t rfl rfl⟩
    | some n =>
      obtain ⟨rfl, hnm⟩ := makeN_low (fun x hx => (hlab x hx).lab) hmk
      refine ⟨_, _, rfl, bcase_f rfl ?_⟩
      have hn : NameP ((kdOf j, nm ls, ⟨#[]⟩, 0) : Tg) ls := ⟨kd_ok hj, rfl, rfl, hlab, hnm, fun _ e => by rw [e] at hll; rw [hi4] at hll; cases hll⟩
      have hU : (nm (encU (kdOf j, nm ls, ⟨#[]⟩, 0))).size = (nm ls).size + adOf j := by
        rw [encU_n hn, nm_sum, nm_sum]
        have := (ad_ok hj).1
        dsimp only
        omega
      have hen := enc_n hn
      rw [hU] at hen
      refine StP.of_sub hs.right (StP.at0 (o := 1) (Nat.le_of_ble_eq_true rfl) rfl fun T2 h2 => ?_)
      have h2' : Sub [Tt b5 (kdOf j, nm ls, ⟨#[]⟩, 0)] T2 := h2
      intro b52
      rw [hm]
      obtain ⟨-, had, had2⟩ := ad_ok hj
      refine ⟨by omega, by omega, _, tab4 hj, ?_⟩
      obtain ⟨c0, c1, c2, c3⟩ := tgCell (I := J2) (h2'.skip (b52, .cells #[.int .i64 0, .int .i64 2, .int .i64 12, .int .i64 14] 3 (0, 0)))
      refine ⟨_, c0, _, c1, _, c2, _, c3, (Encode_runs (kdOf j, nm ls, ⟨#[]⟩, 0) (g2.le hle2) _).mono ?_⟩
      rintro v J3 T hle3 ⟨rfl, rfl⟩
      rw [hen, had2]
      have ew : IntKind.wrap .i64 (((nm ls).size : Int) + (adOf j : Int)) = (((nm ls).size + adOf j : Nat) : Int) := by
        rw [wrap_i64 (by omega) (by omega)]; omega
      rw [ew]
      by_cases hle254 : (nm ls).size + adOf j ≤ 254
      · rw [if_pos hle254]
        refine ⟨_, _, rfl, bcase_t (by rw [decide_eq_true (by omega)]; rfl) (bcase_t rfl (bcase_t (by rw [hU]; exact beq_self_eq_true _) ?_))⟩
        unfold bolterlaw13_OwnerLong_b8; rfl
      · rw [if_neg hle254]
        refine ⟨_, _, rfl, bcase_t (by rw [decide_eq_false (by omega)]; rfl) (bcase_f rfl (bcase_t rfl ?_))⟩
        unfold bolterlaw13_OwnerLong_b8; rw [tl_eq]
end Go.Proofs.YtkagfmlaolmdnaaDoor
