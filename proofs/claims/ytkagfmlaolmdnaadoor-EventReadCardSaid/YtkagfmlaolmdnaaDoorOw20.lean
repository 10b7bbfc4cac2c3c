/- Which triggers have a name, and which: plain laws. -/
import Derived.Test.YtkagfmlaolmdnaaDoorOw18
import Derived.Test.YtkagfmlaolmdnaaDoorPx9
namespace Go.Proofs.YtkagfmlaolmdnaaDoor
open Go.Px
set_option linter.unusedVariables false
set_option linter.unusedSimpArgs false
set_option maxRecDepth 8000

theorem dgt_low : ∀ d : Fin 16, foldU (dgt d.val) = dgt d.val := by decide +kernel
theorem numL_dgt {b : Nat} (hb : b ≤ 16) (hb2 : 0 < b) : ∀ (f n : Nat), ∀ c ∈ numL f b n, foldU c = c
  | 0, n, c, h => by cases h
  | f + 1, n, c, h => by
    rw [numL] at h
    split at h
    · rename_i hn
      rw [List.mem_singleton.1 h]; exact dgt_low ⟨n, by omega⟩
    · rcases List.mem_append.1 h with h | h
      · exact numL_dgt hb hb2 f _ c h
      · rw [List.mem_singleton.1 h]; exact dgt_low ⟨n % b, by have := Nat.mod_lt n hb2; omega⟩
theorem low_of {l : List UInt8} (h : ∀ c ∈ l, foldU c = c) : foldB ⟨l.toArray⟩ = ⟨l.toArray⟩ := by
  refine bext ?_
  rw [fold_list]
  show List.map foldU l = l
  conv => rhs; rw [← List.map_id l]
  exact List.map_congr_left h
theorem dec_lab {m : Nat} (h : m ≤ 255) : IsLab (decB m) ∧ (decB m).size ≤ 4 := by
  have := decB_len h
  exact ⟨⟨by omega, by omega, low_of (numL_dgt (by decide) (by decide) 3 m)⟩, by omega⟩
theorem hex_lab (w : Nat) : IsLab (hexB w) ∧ (hexB w).size ≤ 4 := by
  have := hexB_len w
  exact ⟨⟨by omega, by omega, low_of (numL_dgt (by decide) (by decide) 4 w)⟩, by omega⟩
theorem zz_lab : IsLab zzB ∧ zzB.size ≤ 4 := ⟨⟨by decide, by decide, by decide +kernel⟩, by decide⟩
theorem addr_lab {a : ByteArray} : ∀ l ∈ addrL a, IsLab l ∧ l.size ≤ 4 := by
  intro l h
  rw [addrL] at h
  split at h
  · simp only [fourL, List.mem_cons, List.not_mem_nil, or_false] at h
    rcases h with rfl | rfl | rfl | rfl
    all_goals exact dec_lab (bat_le a _)
  · obtain ⟨o, _, rfl⟩ := List.mem_map.1 h
    cases o with
    | none => exact zz_lab
    | some k => exact hex_lab _
theorem pfx_lab {a : ByteArray} {n : Int} (h : mayP a n) : ∀ l ∈ pfxL a n, IsLab l ∧ l.size ≤ 4 := by
  rw [pfxL_may h]
  intro l hl
  rcases List.mem_cons.1 hl with rfl | hl
  · exact dec_lab (by obtain ⟨⟨h1, h2, h3⟩, _⟩ := h; omega)
  · exact addr_lab l hl
theorem pfx_len {a : ByteArray} {n : Int} : (pfxL a n).length ≤ 9 := by
  rw [pfxL]
  split
  · rw [addrL]
    split
    · simp [fourL]
    · have := sixL_len a
      simpa using this
  · simp
theorem word_lab {k : Int} (h : k = 0 ∨ k = 3 ∨ k = 6) : IsLab (wordK k) ∧ (wordK k).size ≤ 13 ∧ kindOf (wordK k) = some k ∧ wordK k ≠ ⟨#[]⟩ := by
  have hne : ∀ x : ByteArray, x.size ≠ 0 → x ≠ ⟨#[]⟩ := fun x h e => h (by rw [e]; rfl)
  rcases h with rfl | rfl | rfl
  all_goals exact ⟨⟨by decide +kernel, by decide +kernel, by decide +kernel⟩, by decide +kernel, by decide +kernel, hne _ (by decide +kernel)⟩
theorem encU_p {t : Tg} (h : GoodP t) : encU t = pfxL t.2.2.1 t.2.2.2 ++ [wordK t.1] := by
  have e : encW t = wordK t.1 := by rw [encW, if_neg (by have := h.kind; omega)]
  rw [encU, e, if_neg (word_lab h.kind).2.2.2, encL, if_pos h.kind]
theorem enc_p {t : Tg} (h : GoodP t) : (∀ l ∈ encU t, IsLab l) ∧ (nm (encU t)).size ≤ 254 ∧ encF t = some (nm (encU t)) := by
  have hw := word_lab h.kind
  have hlab : ∀ l ∈ encU t, IsLab l ∧ l.size ≤ 13 := by
    rw [encU_p h]
    intro l hl
    rcases List.mem_append.1 hl with hl | hl
    · have := pfx_lab h.may l hl; exact ⟨this.1, by omega⟩
    · rw [List.mem_singleton.1 hl]; exact ⟨hw.1, hw.2.1⟩
  have hs : (nm (encU t)).size ≤ 254 := by
    have h1 := nm_bound (b := 13) fun l hl => (hlab l hl).2
    have h2 : (encU t).length ≤ 10 := by rw [encU_p h, List.length_append, List.length_singleton]; have := pfx_len (a := t.2.2.1) (n := t.2.2.2); omega
    omega
  refine ⟨fun l hl => (hlab l hl).1, hs, enc_ok (ls := []) (by rw [h.name]; exact labN_empty) (fun l hl => (hlab l hl).1) hs ?_⟩
  rw [encU_p h, decL, List.getLast?_concat]
  dsimp only
  rw [hw.2.2.1]
  dsimp only
  rw [if_neg (by have := h.kind; omega), List.dropLast_concat, adrF_pfx h.may]
  obtain ⟨t1, t2, t3, t4⟩ := t
  have := h.name
  dsimp only at this ⊢
  rw [this]; rfl

/-- a label that is no word of owner's -/
structure LabP (l : ByteArray) : Prop where
  lab : IsLab l
  kind : kindOf l = none
  star : l ≠ starB
def preS (k : Int) : List ByteArray := if k = 2 ∨ k = 5 then [starB] else []
def sufS (k : Int) : List ByteArray := if k = 4 ∨ k = 5 then [ndB] else []
structure NameP (t : Tg) (ls : List ByteArray) : Prop where
  kind : t.1 = 1 ∨ t.1 = 2 ∨ t.1 = 4 ∨ t.1 = 5
  addr : t.2.2 = (⟨#[]⟩, 0)
  name : t.2.1 = nm ls
  labs : ∀ l ∈ ls, LabP l
  size : (nm ls).size ≤ 254
  some_ : t.1 = 1 ∨ t.1 = 4 → ls ≠ []
theorem star_lab : IsLab starB := ⟨by decide, by decide, by decide +kernel⟩
theorem nd_lab : IsLab ndB := ⟨by decide, by decide, by decide +kernel⟩
theorem nd_ne : ndB ≠ ⟨#[]⟩ := fun e => by have := congrArg ByteArray.size e; revert this; decide
theorem kind_star : kindOf starB = none := by decide +kernel
theorem encU_n {t : Tg} {ls : List ByteArray} (h : NameP t ls) : encU t = preS t.1 ++ ls ++ sufS t.1 := by
  have hl : labN t.2.1 = some ls := by rw [h.name]; exact labN_nm (fun l hl => (h.labs l hl).lab) h.size
  have e2 : encL t = preS t.1 ++ ls := by
    rw [encL, if_neg (by have := h.kind; omega), hl, preS]
    split <;> rfl
  rw [encU, e2]
  rcases h.kind with e | e | e | e
  · rw [show encW t = ⟨#[]⟩ by rw [encW, e]; rfl, if_pos rfl, show sufS t.1 = [] by rw [e]; rfl, List.append_nil]
  · rw [show encW t = ⟨#[]⟩ by rw [encW, e]; rfl, if_pos rfl, show sufS t.1 = [] by rw [e]; rfl, List.append_nil]
  · rw [show encW t = ndB by rw [encW, e]; rfl, if_neg nd_ne, show sufS t.1 = [ndB] by rw [e]; rfl]
  · rw [show encW t = ndB by rw [encW, e]; rfl, if_neg nd_ne, show sufS t.1 = [ndB] by rw [e]; rfl]
theorem pre_lab {k : Int} : ∀ l ∈ preS k, IsLab l := by
  intro l h
  rw [preS] at h
  split at h
  · rw [List.mem_singleton.1 h]; exact star_lab
  · cases h
theorem suf_lab {k : Int} : ∀ l ∈ sufS k, IsLab l := by
  intro l h
  rw [sufS] at h
  split at h
  · rw [List.mem_singleton.1 h]; exact nd_lab
  · cases h
theorem encU_nlab {t : Tg} {ls : List ByteArray} (h : NameP t ls) : ∀ l ∈ encU t, IsLab l := by
  rw [encU_n h]
  intro l hl
  rcases List.mem_append.1 hl with hl | hl
  · rcases List.mem_append.1 hl with hl | hl
    · exact pre_lab l hl
    · exact (h.labs l hl).lab
  · exact suf_lab l hl
theorem nm_sum (a b : List ByteArray) : (nm (a ++ b)).size = (nm a).size + (nm b).size := by
  rw [nm_size, nm_size, nm_size, wire_app, List.length_append]
theorem named_ex {ls : List ByteArray} {ex wild : Int} (hl : ∀ l ∈ ls, LabP l) (hs : (nm ls).size ≤ 254) (hne : ls ≠ []) : namedF ls ex wild = some (ex, nm ls, ⟨#[]⟩, 0) := by
  cases ls with
  | nil => exact absurd rfl hne
  | cons l r =>
    rw [namedF, if_neg (hl l (List.mem_cons_self ..)).star, makeN_ok (fun x hx => (hl x hx).lab) hs]; rfl
theorem named_wild {ls : List ByteArray} {ex wild : Int} (hl : ∀ l ∈ ls, LabP l) (hs : (nm ls).size ≤ 254) : namedF (starB :: ls) ex wild = some (wild, nm ls, ⟨#[]⟩, 0) := by
  rw [namedF, if_pos rfl, makeN_ok (fun x hx => (hl x hx).lab) hs]; rfl
theorem last_kind {ls : List ByteArray} (hl : ∀ l ∈ ls, kindOf l = none) (hne : ls ≠ []) : ∃ w, ls.getLast? = some w ∧ kindOf w = none :=
  ⟨ls.getLast hne, List.getLast?_eq_some_getLast hne, hl _ (List.getLast_mem hne)⟩
theorem dec_n {t : Tg} {ls : List ByteArray} (h : NameP t ls) : decL (encU t) = some t := by
  have ht : t = (t.1, nm ls, ⟨#[]⟩, 0) := by
    obtain ⟨t1, t2, t3, t4⟩ := t
    have h1 := h.name; have h2 := h.addr
    dsimp only at h1 h2 ⊢
    rw [h1, h2]
  rw [encU_n h]
  rcases h.kind with e | e | e | e
  · have hne := h.some_ (.inl e)
    rw [show preS t.1 = [] by rw [e]; rfl, show sufS t.1 = [] by rw [e]; rfl, List.append_nil, List.nil_append, decL]
    obtain ⟨w, hw, hk⟩ := last_kind (fun l hl => (h.labs l hl).kind) hne
    rw [hw]; dsimp only
    rw [hk]; dsimp only
    rw [named_ex h.labs h.size hne]
    conv => rhs; rw [ht, e]
  · rw [show preS t.1 = [starB] by rw [e]; rfl, show sufS t.1 = [] by rw [e]; rfl, List.append_nil, decL]
    obtain ⟨w, hw, hk⟩ := last_kind (ls := [starB] ++ ls) (fun l hl => by
      rcases List.mem_cons.1 hl with rfl | hl
      · exact kind_star
      · exact (h.labs l hl).kind) (by simp)
    rw [hw]; dsimp only
    rw [hk]; dsimp only
    rw [show [starB] ++ ls = starB :: ls by rfl, named_wild h.labs h.size]
    conv => rhs; rw [ht, e]
  · rw [show preS t.1 = [] by rw [e]; rfl, show sufS t.1 = [ndB] by rw [e]; rfl, List.nil_append, decL, List.getLast?_concat]
    dsimp only
    rw [kind_nd]; dsimp only
    rw [if_pos rfl, List.dropLast_concat, named_ex h.labs h.size (h.some_ (.inr e))]
    conv => rhs; rw [ht, e]
  · rw [show preS t.1 = [starB] by rw [e]; rfl, show sufS t.1 = [ndB] by rw [e]; rfl, decL, List.getLast?_concat]
    dsimp only
    rw [kind_nd]; dsimp only
    rw [if_pos rfl, List.dropLast_concat, show [starB] ++ ls = starB :: ls by rfl, named_wild h.labs h.size]
    conv => rhs; rw [ht, e]
theorem enc_n {t : Tg} {ls : List ByteArray} (h : NameP t ls) : encF t = if (nm (encU t)).size ≤ 254 then some (nm (encU t)) else none := by
  split
  · rename_i hs
    exact enc_ok (ls := ls) (by rw [h.name]; exact labN_nm (fun l hl => (h.labs l hl).lab) h.size) (encU_nlab h) hs (dec_n h)
  · exact enc_long (encU_nlab h) (by omega)
theorem wrd_p {l : ByteArray} (h : l ∈ wrdL) : LabP l := by
  have hne : ∀ x y : ByteArray, x.data.toList ≠ y.data.toList → x ≠ y := fun x y h e => h (by rw [e])
  refine ⟨(wrd_lab h).1, ?_, ?_⟩
  all_goals
    simp only [wrdL, List.mem_cons, List.not_mem_nil, or_false] at h
    rcases h with rfl | rfl | rfl | rfl | rfl
  all_goals first | decide +kernel | exact hne _ _ (by decide +kernel)
theorem good_name {t : Tg} (h : GoodN t) : ∃ ls, NameP t ls ∧ ls.length ≤ 5 ∧ ∀ l ∈ ls, l ∈ wrdL := by
  obtain ⟨ls, h1, h2, h3, h4⟩ := h.name
  refine ⟨ls, ⟨h.kind, h.addr, h3, fun l hl => wrd_p (h1 l hl), ?_, h4⟩, h2, h1⟩
  have := nm_bound (b := 3) fun l hm => (wrd_lab (h1 l hm)).2
  omega
theorem enc_good {t : Tg} (h : GoodP t ∨ GoodN t) : encF t = some (nm (encU t)) ∧ (∀ l ∈ encU t, IsLab l) ∧ (nm (encU t)).size ≤ 254 := by
  rcases h with h | h
  · obtain ⟨h1, h2, h3⟩ := enc_p h; exact ⟨h3, h1, h2⟩
  · obtain ⟨ls, hn, hl, hw⟩ := good_name h
    have hs : (nm (encU t)).size ≤ 254 := by
      rw [encU_n hn, nm_sum, nm_sum]
      have h1 := nm_bound (b := 3) fun l hm => (wrd_lab (hw l hm)).2
      have h2 : (nm (preS t.1)).size ≤ 2 := by rw [preS]; split <;> decide
      have h3 : (nm (sufS t.1)).size ≤ 12 := by rw [sufS]; split <;> decide
      omega
    exact ⟨by rw [enc_n hn, if_pos hs], encU_nlab hn, hs⟩

/-! ### bytes that come in; triggers of codes -/
def U8W (W : World) (s : Option Addr × Nat × Nat) : Prop := s.2.1 ≤ s.2.2 ∧ s.2.2 ≤ maxLen ∧ ∃ ys : List Int, SlIn (imW W) s.1 s.2.1 1 (fun x => [.int .u8 x]) ys ∧ ∀ y ∈ ys, (Lit.int .u8 y).wf = true
theorem u8_wf {x : Int} (h : (Lit.int .u8 x).wf = true) : 0 ≤ x ∧ x ≤ 255 := by
  simp only [Lit.wf, Bool.and_eq_true, decide_eq_true_eq] at h
  exact h
theorem u8_open {W : World} {a : Option Addr} {len cap : Nat} (h : U8W W (a, len, cap)) : ∃ ns : List Int, ns.length = len ∧ RowIn (imW W) [] a ns.length 1 elI8 ns ∧ ∀ x ∈ ns, 0 ≤ x ∧ x ≤ 255 := by
  obtain ⟨_, _, ns, hs, hw⟩ := h
  exact ⟨ns, hs.1, RowIn.of_slin (el := elI8) (fun _ => Nat.one_pos) hs, fun x hx => u8_wf (hw x hx)⟩
theorem rowUp {α : Type} {el : α → List Value} {sz : Nat} {I J : IMem} {S : SH} {a : Option Addr} {len : Nat} {xs : List α} (h : RowIn I [] a len sz el xs) (hle : I.le J) : RowIn J S a len sz el xs :=
  (h.le hle).sub ⟨S, List.Perm.refl _⟩
theorem CTrig_runs {ns : List Int} {a : Option Addr} {c : Nat} {kind bits : Int} (six : Bool) {I : IMem} {S : SH} (hx : RowIn I [] a ns.length 1 elI8 ns) (hl : ns.length ≤ 9223372036854775807) (hp : ∀ x ∈ ns, 0 ≤ x ∧ x ≤ 255) (hk : 0 ≤ kind ∧ kind ≤ 255) (hb : 0 ≤ bits ∧ bits ≤ 255) :
    Runs Tryd.prog 24 #[.agg #[.int .u8 kind, .slice a ns.length c, .bool six, .int .u8 bits]] I S fun v _ T => (∃ t : Tg, v = vT t ∧ (GoodP t ∨ GoodN t)) ∧ Sub S T := by
  refine bolterlaw13_Code_Trigger_fn _ _ _ _ _ _ _ _ _ ?_
  unfold bolterlaw13_Code_Trigger
  intro b1 b2
  refine ⟨_, (Cell.at0 rfl).tl, _, _, _, (Cell.at0 rfl).tl, _, (Cell.at0 rfl).tl, _, (Cell.at0 rfl).tl, (Trig_runs six (rowUp hx (IMem.le.refl I)) hl hp hk hb).mono ?_⟩
  rintro v J T hle ⟨⟨t, rfl, _, hg⟩, hs⟩
  exact ⟨_, _, _, _, rfl, setT (K := fun v T => (∃ t : Tg, v = vT t ∧ (GoodP t ∨ GoodN t)) ∧ Sub S T) (x := t0) hs fun T' hT => ⟨⟨t, rfl, hg⟩, hT.drop⟩⟩
end Go.Proofs.YtkagfmlaolmdnaaDoor
