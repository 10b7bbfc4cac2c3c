/- The rows on owners: addresses by their labels. -/
import Derived.Test.YtkagfmlaolmdnaaDoorOw24
namespace Go.Proofs.YtkagfmlaolmdnaaDoor
open Go.Px
set_option linter.unusedVariables false
set_option linter.unusedSimpArgs false
set_option maxRecDepth 8000

theorem addr5 {again : Option Addr → Nat → Nat → Int → Int → IMem → SH → Prop} {b41 k cc : Nat} {L : List ByteArray} {p : Option Addr} {c : Nat} {I : IMem} {S : SH} (hk : k < 2) (hcell : Cell I S ((⟨b41, 0, none⟩ : Addr).add (k * 1)) (.slice p L.length c)) (g : GL I)
    (hr : RowIn I S p L.length 1 elS L) (hl : L.length * 16 ≤ 140737488355328) (hc : L.length ≤ c) (hsz : ∀ l ∈ L, l.size ≤ 281474976710656)
    (hag : ∀ (J : IMem) (T : SH), I.le J → Sub S T → bolterlaw13_OwnerAddress_b6 again RT (some ⟨b41, 0, none⟩) 2 cc 2 (k : Int) false J T) :
    bolterlaw13_OwnerAddress_b5 again RT (some ⟨b41, 0, none⟩) 2 cc 2 (k : Int) I S := by
  unfold bolterlaw13_OwnerAddress_b5
  refine ⟨by omega, by omega, p, L.length, c, by rw [Int.toNat_natCast]; exact hcell, (Address_runs g hr hl hc hsz).mono ?_⟩
  rintro v J T hle ⟨h, hT⟩
  have e := AdR_val h
  subst e
  cases ha : adrF L with
  | none =>
    refine ⟨_, _, _, rfl, fun b16 => StP.pf (bcase_f rfl (bcase_t rfl ?_))⟩
    obtain ⟨c0, c1⟩ := pfC (I := J) (Sub.refl ((b16, .cells #[.string ⟨#[]⟩, .int .i64 0] 24 (0, 0)) :: T))
    refine ⟨_, c0, _, c1, ?_⟩
    rw [show (!(((⟨#[]⟩ : ByteArray) == (⟨#[]⟩ : ByteArray)) && (((0 : Int) == (0 : Int)) && true))) = false by decide +kernel]
    exact hag _ _ hle (hT.skip _)
  | some q =>
    obtain ⟨hm, hL⟩ := adrF_some ha
    obtain ⟨a, n⟩ := q
    dsimp only at hm hL
    refine ⟨_, _, _, rfl, fun b16 => StP.pf (bcase_t rfl ?_)⟩
    obtain ⟨c0, c1⟩ := pfC (I := J) (Sub.refl ((b16, .cells #[.string a, .int .i64 n] 24 (0, 0)) :: T))
    refine ⟨_, c0, _, c1, (PMay_runs a n _ _).mono ?_⟩
    rintro v J2 T2 hle2 ⟨rfl, rfl⟩
    rw [mayB_iff.2 hm]
    refine ⟨_, rfl, bcase_f rfl ?_⟩
    obtain ⟨c0, c1⟩ := pfC (I := J2) (Sub.refl ((b16, .cells #[.string a, .int .i64 n] 24 (0, 0)) :: T))
    refine ⟨_, c0, _, c1, (lab2 hm _ _).mono ?_⟩
    rintro v J3 T3 hle3 ⟨own, ho, hs3⟩
    obtain ⟨pp, d, rfl⟩ := ownS_slice ho
    have hpl := pfx_len (a := a) (n := n)
    have hST : Sub S T3 := hT.trans hs3.right.drop
    refine ⟨_, _, _, rfl, (same_runs ((OwnS.row ho).sub hs3.left) ((hr.le ((hle.trans hle2).trans hle3)).sub hST) (by omega)).mono ?_⟩
    rintro v J4 T4 hle4 ⟨rfl, rfl⟩
    rw [decide_eq_true hL.symm]
    exact ⟨_, rfl, bcase_f rfl (bcase_f rfl (hag _ _ (((hle.trans hle2).trans hle3).trans hle4) hST))⟩
def adrT : List ByteArray := [⟨#[48]⟩, ⟨#[122, 122]⟩, ⟨#[49]⟩, ⟨#[48, 48]⟩, ⟨#[50, 53, 53]⟩, ⟨#[50, 53, 54]⟩, ⟨#[97]⟩, ⟨#[102, 102, 102, 102]⟩, ⟨#[45, 49]⟩, ⟨#[49, 50, 57]⟩]
theorem adrT_size : ∀ w ∈ adrT, w.size ≤ 4 := by decide +kernel
def SlS (W : World) (s : Option Addr × Nat × Nat) : Prop := s.2.1 ≤ s.2.2 ∧ s.2.2 ≤ maxLen ∧ s.2.1 * 16 ≤ 140737488351232 ∧ ∃ ys : List ByteArray, SlIn (imW W) s.1 s.2.1 1 (fun x => [.string x]) ys ∧ ∀ y ∈ ys, y.size ≤ 140737488351232
def SlU (W : World) (s : Option Addr × Nat × Nat) : Prop := s.2.1 ≤ s.2.2 ∧ s.2.2 ≤ maxLen ∧ s.2.1 * 1 ≤ 140737488351232 ∧ ∃ ys : List Int, SlIn (imW W) s.1 s.2.1 1 (fun x => [.int .u8 x]) ys ∧ ∀ y ∈ ys, (Lit.int .u8 y).wf = true
theorem SlU.u8 {W : World} {s : Option Addr × Nat × Nat} (h : SlU W s) : U8W W s := ⟨h.1, h.2.1, h.2.2.2⟩
theorem OwnerAddress_row (W : World) (g : GL (imW W)) (a : Option Addr) (len cap : Nat) (six : Bool) (a2 : Option Addr) (len2 cap2 : Nat) (bits at_ wth : Int)
    (w0 : SlS W (a, len, cap)) (w2 : SlU W (a2, len2, cap2)) (w3 : (Lit.int .u8 bits).wf = true) (w4 : (Lit.int .u8 at_).wf = true) (w5 : (Lit.int .u8 wth).wf = true) :
    Runs Tryd.prog 4 #[.slice a len cap, .bool six, .slice a2 len2 cap2, .int .u8 bits, .int .u8 at_, .int .u8 wth] (imW W) [] fun v _ _ => v = .bool true := by
  have hz2 := w2.2.2.1
  obtain ⟨ns, rfl, hx, hp⟩ := u8_open w2.u8
  obtain ⟨hlc, hcm, hl16, us, hus, husz⟩ := w0
  obtain ⟨rfl⟩ : us.length = len := hus.1
  have hu : RowIn (imW W) [] a us.length 1 elS us := RowIn.of_slin (el := elS) (fun _ => Nat.one_pos) hus
  dsimp only at hlc hcm hl16 hz2
  refine bolterlaw13_OwnerAddress_fn _ _ _ _ _ _ _ _ _ _ _ _ _ ?_
  unfold bolterlaw13_OwnerAddress
  refine (awake_runs g _).mono ?_
  rintro v J T hle ⟨rfl, rfl⟩
  refine ⟨_, rfl, bcase_f rfl ((Trig_runs six (rowUp hx hle) (by omega) hp (by decide) (u8_wf w3)).mono ?_)⟩
  rintro v J1 T1 hle1 ⟨⟨t, rfl, hk, hg⟩, hs1⟩
  have hP : GoodP t := by
    rcases hg with h | h
    · exact h
    · have := h.kind
      rw [show (0 : Int).tmod 7 = 0 by decide] at hk
      omega
  have hm := hP.may
  refine ⟨_, _, _, _, rfl, (lab2 hm _ _).mono ?_⟩
  rintro v J2 T2 hle2 ⟨own, ho, hs2⟩
  obtain ⟨p, c, rfl⟩ := ownS_slice ho
  have hpl := pfx_len (a := t.2.2.1) (n := t.2.2.2)
  refine ⟨_, _, _, rfl, AppSs (xs := []) (own := []) (F := []) ⟨T2, List.Perm.refl _⟩ OwnR.nil ((OwnS.row ho).sub hs2.left) (by rw [List.length_nil]; omega) ?_⟩
  intro p2 n2 c2 own2 T3 ho2 hs3
  rw [List.nil_append] at ho2
  rw [List.append_nil] at hs3
  obtain rfl : n2 = (pfxL t.2.2.1 t.2.2.2).length := OwnR.len ho2
  have hpos : 0 < (pfxL t.2.2.1 t.2.2.2).length := by rw [pfxL_may hm]; exact Nat.succ_pos _
  have hlab : ∀ l ∈ pfxL t.2.2.1 t.2.2.2, l.size ≤ 4 := fun l h => (pfx_lab hm l h).2
  generalize pfxL t.2.2.1 t.2.2.2 = L at ho2 hpl hpos hlab
  unfold bolterlaw13_OwnerAddress_b1
  refine bcase_f (decide_eq_false (by omega)) fun b33 => ?_
  have hwb := u8_wf w5
  have hab := u8_wf w4
  have ew : wth.tmod 10 = ((wth.toNat % 10 : Nat) : Int) := by rw [Int.tmod_eq_emod_of_nonneg hwb.1]; omega
  have hwl : wth.toNat % 10 < 10 := Nat.mod_lt _ (by decide)
  have ea : (IntKind.wrap .i64 at_).tmod (L.length : Int) = ((at_.toNat % L.length : Nat) : Int) := by
    rw [wrap_i64 (by omega) (by omega), Int.tmod_eq_emod_of_nonneg hab.1, Int.natCast_emod]
    congr 1; omega
  have hal : at_.toNat % L.length < L.length := Nat.mod_lt _ hpos
  rw [ew, ea]
  generalize at_.toNat % L.length = ix at hal
  generalize wth.toNat % 10 = iw at hwl
  obtain ⟨w, hw⟩ : ∃ w, adrT[iw]? = some w := ⟨_, List.getElem?_eq_getElem (by exact hwl)⟩
  obtain ⟨a'', e, hc⟩ := strRow (aw_row adrT (by decide) b33 J2 T3) hw
  injection e with e; subst e
  refine ⟨by omega, by omega, w, by rw [Int.toNat_natCast]; exact hc, ?_⟩
  have hwsz := adrT_size w (List.mem_of_getElem? hw)
  rcases OwnS.cases ho2 with ⟨_, h, _⟩ | ⟨gg, rest, rfl, _, rfl, hcap, hmx⟩
  · omega
  refine ⟨by omega, by omega, ?_⟩
  have eaddr : (⟨gg, 0, none⟩ : Addr).add (((ix : Nat) : Int).toNat * 1) = ⟨gg, ix, none⟩ := by rw [add_mk]; congr 1; omega
  rw [eaddr]
  refine StP.of_sub (hs3.skip _) (StP.list (o := ix) (by rw [List.length_append]; have : (strL L).length = L.length := by simp [strL]
                                                         simp only [List.length_singleton]; omega) rfl fun T4 hs4 => ?_)
  have hset := map_set_at (fun x : ByteArray => Value.string x) (xs := L) (i := ix) hal w rest
  have hs5 : Sub [(gg, .cells (strL (L.set ix w) ++ rest).toArray 9 (0, 0))] T4 := by
    rw [List.length_singleton] at hs4
    rw [show strL L = L.map fun x => Value.string x by rfl, hset] at hs4
    exact hs4
  have ho5 : OwnS (.slice (some ⟨gg, 0, none⟩) (L.set ix w).length c2) (L.set ix w) [(gg, .cells (strL (L.set ix w) ++ rest).toArray 9 (0, 0))] := OwnS.mk (by rw [List.length_set]; exact hcap) hmx
  have hlab2 : ∀ l ∈ L.set ix w, l.size ≤ 4 := fun l h => by
    rcases List.mem_or_eq_of_mem_set h with h | h
    · exact hlab l h
    · rw [h]; exact hwsz
  have hlen2 : (L.set ix w).length = L.length := List.length_set
  rw [← hlen2]
  rw [← hlen2] at hpl
  generalize L.set ix w = M at ho5 hs5 hlab2 hpl
  unfold bolterlaw13_OwnerAddress_b2 bolterlaw13_OwnerAddress_b3
  intro b41
  have hJ2 := (hle.trans hle1).trans hle2
  refine ⟨fun mm x n c q i J' T' => x = some ⟨b41, 0, none⟩ ∧ n = 2 ∧ q = 2 ∧ J2.le J' ∧ Sub ((b41, .cells #[.slice a us.length cap, .slice (some ⟨gg, 0, none⟩) M.length c2] 31 (0, 0)) :: [(gg, .cells (strL M ++ rest).toArray 9 (0, 0))]) T' ∧ ∃ k : Nat, i = (k : Int) ∧ k ≤ 2 ∧ mm = 2 - k, 2, ⟨rfl, rfl, rfl, IMem.le.refl _, hs5.cons _, 0, rfl, by decide, rfl⟩, ?_⟩
  rintro mm x n cc q i J' T' - ⟨rfl, rfl, rfl, hle', hs', k, rfl, hk, rfl⟩
  unfold bolterlaw13_OwnerAddress_l4
  refine bcase_dec (fun hlt => ?_) (fun _ => rfl)
  have g2 := (g.le hJ2).le hle'
  have ag : ∀ (J : IMem) (T : SH), J'.le J → Sub T' T → bolterlaw13_OwnerAddress_b6 (fun x41 x41n x41c x42 x43 I S => ∃ m', m' < 2 - k ∧ x41 = some ⟨b41, 0, none⟩ ∧ x41n = 2 ∧ x42 = 2 ∧ J2.le I ∧ Sub ((b41, .cells #[.slice a us.length cap, .slice (some ⟨gg, 0, none⟩) M.length c2] 31 (0, 0)) :: [(gg, .cells (strL M ++ rest).toArray 9 (0, 0))]) S ∧ ∃ k : Nat, x43 = (k : Int) ∧ k ≤ 2 ∧ m' = 2 - k) RT (some ⟨b41, 0, none⟩) 2 cc 2 (k : Int) false J T := by
    intro J T h1 h2
    unfold bolterlaw13_OwnerAddress_b6 bolterlaw13_OwnerAddress_b7
    exact bcase_f rfl ⟨2 - (k + 1), by omega, rfl, rfl, rfl, hle'.trans h1, hs'.trans h2, k + 1, by rw [wrap_i64 (by omega) (by omega)]; rfl, by omega, rfl⟩
  have hk2 : k = 0 ∨ k = 1 := by omega
  rcases hk2 with rfl | rfl
  · refine addr5 (by decide) ?_ g2 (rowUp hu (hJ2.trans hle')) (by omega) hlc (fun l h => by have := husz l h; omega) ag
    rw [add_mk]
    exact hs'.cell' (Cell.at0 rfl)
  · refine addr5 (by decide) ?_ g2 ((OwnS.row ho5).sub hs'.drop) (by omega) (OwnS.cap ho5) (fun l h => by have := hlab2 l h; omega) ag
    rw [add_mk]
    exact hs'.cell' (Cell.at0 rfl)
end Go.Proofs.YtkagfmlaolmdnaaDoor
