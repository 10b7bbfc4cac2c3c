/- Names are labels, each with its length ahead. -/
import Derived.Lib.Overlaps
import Derived.Test.YtoiilcdaldnjfaaGreatDoorProg
import Derived.Test.YtoiilcdaldnjfaaGreatDoorM1EngineMany
import Derived.Test.YtoiilcdaldnjfaaGreatDoorM2EngineMany
import Derived.Test.YtoiilcdaldnjfaaGreatDoorM3EngineMany
namespace Go.Proofs.YtoiilcdaldnjfaaGreatDoor
open Go.Px
set_option linter.unusedVariables false
set_option linter.unusedSimpArgs false

def wl (l : ByteArray) : List UInt8 := UInt8.ofNat l.size :: l.data.toList
def wire (ls : List ByteArray) : List UInt8 := ls.flatMap wl
def nm (ls : List ByteArray) : ByteArray := ⟨(wire ls).toArray⟩
structure IsLab (l : ByteArray) : Prop where
  lo : 1 ≤ l.size
  hi : l.size ≤ 63
  low : foldB l = l
theorem dlen (l : ByteArray) : l.data.toList.length = l.size := Array.length_toList
theorem nm_size (ls : List ByteArray) : (nm ls).size = (wire ls).length := by simp [nm, ByteArray.size]
theorem wire_cons (l : ByteArray) (ls : List ByteArray) : wire (l :: ls) = UInt8.ofNat l.size :: (l.data.toList ++ wire ls) := rfl
theorem wire_app (a b : List ByteArray) : wire (a ++ b) = wire a ++ wire b := List.flatMap_append
theorem nm_app (a b : List ByteArray) : nm a ++ nm b = nm (a ++ b) := by
  apply ByteArray.ext
  rw [ByteArray.data_append]
  simp [nm, wire_app]
theorem ext_list {a b : ByteArray} (h : a.data.toList = b.data.toList) : a = b := ByteArray.ext (Array.toList_inj.1 h)
theorem ex_list (s : ByteArray) (a b : Nat) : (s.extract a b).data.toList = (s.data.toList.drop a).take (b - a) := by
  rw [ByteArray.data_extract, Array.toList_extract]

theorem nm_list (ls : List ByteArray) : (nm ls).data.toList = wire ls := by simp [nm]
theorem nm_first (l : ByteArray) (ls : List ByteArray) : (nm (l :: ls))[0]? = some (UInt8.ofNat l.size) := by
  have h : 0 < (nm (l :: ls)).size := by rw [nm_size, wire_cons]; simp
  rw [getElem?_pos _ 0 h]
  congr 1
theorem nm_rest (l : ByteArray) (ls : List ByteArray) : (nm (l :: ls)).extract (1 + l.size) (nm (l :: ls)).size = nm ls := by
  apply ext_list
  rw [ex_list, nm_list, nm_list, nm_size, wire_cons, Nat.add_comm 1, List.drop_succ_cons, drop_at (dlen l)]
  rw [List.take_of_length_le]
  simp only [List.length_cons, List.length_append, dlen]; omega
theorem nm_lab (l : ByteArray) (ls : List ByteArray) : (nm (l :: ls)).extract 1 (1 + l.size) = l := by
  apply ext_list
  rw [ex_list, nm_list, wire_cons, List.drop_succ_cons, List.drop_zero, Nat.add_sub_cancel_left, take_at (dlen l)]
theorem nm_cons_size (l : ByteArray) (ls : List ByteArray) : (nm (l :: ls)).size = 1 + l.size + (nm ls).size := by
  rw [nm_size, nm_size, wire_cons]
  simp only [List.length_cons, List.length_append, dlen]; omega
theorem nm_nil : nm [] = ⟨#[]⟩ := rfl
theorem splitN_nm : ∀ (ls : List ByteArray) (f : Nat), (nm ls).size ≤ f → (∀ l ∈ ls, 1 ≤ l.size ∧ l.size ≤ 63) → splitN f (nm ls) = some ls
  | [], f, _, _ => by
    cases f with
    | zero => rfl
    | succ f => rw [splitN, at_none (by rw [nm_nil]; exact Nat.le_refl _)]
  | l :: ls, f, hf, hl => by
    have hs := nm_cons_size l ls
    obtain ⟨h1, h2⟩ := hl l (List.mem_cons_self ..)
    obtain ⟨f, rfl⟩ : ∃ g, f = g + 1 := ⟨f - 1, by omega⟩
    rw [splitN, nm_first]
    have hc : (UInt8.ofNat l.size).toNat = l.size := ofNatU (by omega)
    simp only [hc]
    rw [if_neg (by omega), nm_rest, nm_lab, splitN_nm ls f (by omega) fun x hx => hl x (List.mem_cons_of_mem _ hx)]
    rfl
theorem fold_list (s : ByteArray) : (foldB s).data.toList = s.data.toList.map foldU := by simp [foldB]
theorem foldU_small {n : Nat} (h : n ≤ 63) : foldU (UInt8.ofNat n) = UInt8.ofNat n := by
  have : (UInt8.ofNat n).toNat = n := ofNatU (by omega)
  rw [foldU, if_neg (by omega)]
theorem fold_nm : ∀ (ls : List ByteArray), (∀ l ∈ ls, l.size ≤ 63) → foldB (nm ls) = nm (ls.map foldB)
  | [], _ => rfl
  | l :: ls, h => by
    apply ext_list
    have ih := congrArg (fun s : ByteArray => s.data.toList) (fold_nm ls fun x hx => h x (List.mem_cons_of_mem _ hx))
    rw [fold_list, nm_list, nm_list] at ih
    rw [fold_list, nm_list, nm_list, wire_cons, List.map_cons, List.map_cons, wire_cons, List.map_append, ih, foldU_small (h l (List.mem_cons_self ..)), foldB_size, fold_list]
theorem labN_nm {ls : List ByteArray} (h : ∀ l ∈ ls, IsLab l) (hs : (nm ls).size ≤ 254) : labN (nm ls) = some ls := by
  have hf : foldB (nm ls) = nm ls := by
    rw [fold_nm ls fun l hl => (h l hl).hi]
    congr 1
    have : ls.map foldB = ls.map id := List.map_congr_left fun l hl => (h l hl).low
    rw [this, List.map_id]
  rw [labN, if_neg (by
    rw [hf]
    rintro (h | h)
    · omega
    · exact h rfl)]
  exact splitN_nm ls _ (Nat.le_refl _) fun l hl => ⟨(h l hl).lo, (h l hl).hi⟩
theorem splitN_some : ∀ (f : Nat) (s : ByteArray) (ls : List ByteArray), s.size ≤ f → splitN f s = some ls → s = nm ls ∧ ∀ l ∈ ls, 1 ≤ l.size ∧ l.size ≤ 63
  | 0, s, ls, hf, h => by
    rw [splitN, if_pos (by omega)] at h
    injection h with h; subst h
    refine ⟨ext_list ?_, fun l h => by cases h⟩
    rw [nm_list]
    exact List.eq_nil_of_length_eq_zero (by rw [dlen]; omega)
  | f + 1, s, ls, hf, h => by
    rw [splitN] at h
    cases hc : s[0]? with
    | none =>
      rw [hc] at h
      injection h with h; subst h
      refine ⟨ext_list ?_, fun l h => by cases h⟩
      rw [nm_list]
      refine List.eq_nil_of_length_eq_zero ?_
      rw [dlen]
      rcases Nat.eq_zero_or_pos s.size with e | e
      · exact e
      · rw [getElem?_pos s 0 e] at hc; cases hc
    | some c =>
      rw [hc] at h
      dsimp only at h
      split at h
      · cases h
      · rename_i hg
        have hsz : c.toNat < s.size := by omega
        cases hr : splitN f (s.extract (1 + c.toNat) s.size) with
        | none => rw [hr] at h; cases h
        | some ms =>
          rw [hr] at h
          injection h with h; subst h
          obtain ⟨h1, h2⟩ := splitN_some f _ ms (by rw [ex_size]; omega) hr
          have hl : (s.extract 1 (1 + c.toNat)).size = c.toNat := by rw [ex_size]; omega
          refine ⟨ext_list ?_, fun l hm => ?_⟩
          · have h3 : (s.extract (1 + c.toNat) s.size).data.toList = wire ms := by rw [h1, nm_list]
            rw [ex_list, List.take_of_length_le (by rw [List.length_drop, dlen]; omega)] at h3
            have hpos : 0 < s.data.toList.length := by rw [dlen]; omega
            have h0 : s.data.toList = c :: s.data.toList.drop 1 := by
              have e : s.data.toList[0]? = some c := by
                rw [getElem?_pos s 0 (by omega)] at hc
                rw [List.getElem?_eq_getElem hpos]
                exact hc
              rw [List.getElem?_eq_getElem hpos] at e
              injection e with e
              conv => lhs; rw [← List.drop_zero (l := s.data.toList), List.drop_eq_getElem_cons hpos]
              rw [e]
            have hcc : UInt8.ofNat c.toNat = c := by simp
            rw [nm_list, wire_cons, hl, hcc, ← h3, ex_list, Nat.add_sub_cancel_left, ← List.drop_drop, List.take_append_drop]
            exact h0
          · rcases List.mem_cons.1 hm with rfl | hm
            · rw [hl]; omega
            · exact h2 l hm
theorem map_fix {f : UInt8 → UInt8} : ∀ {l : List UInt8}, l.map f = l → ∀ x ∈ l, f x = x
  | [], _, x, h => by cases h
  | y :: l, h, x, hx => by
    rw [List.map_cons] at h
    injection h with h1 h2
    rcases List.mem_cons.1 hx with rfl | hx
    · exact h1
    · exact map_fix h2 x hx
theorem labN_some {s : ByteArray} {ls : List ByteArray} (h : labN s = some ls) : s = nm ls ∧ (∀ l ∈ ls, IsLab l) ∧ s.size ≤ 254 := by
  unfold labN at h
  split at h
  · cases h
  · rename_i hg
    obtain ⟨h1, h2⟩ := splitN_some _ _ _ (Nat.le_refl _) h
    have hf : foldB s = s := Classical.byContradiction fun e => hg (.inr fun e' => e (toList_inj e').symm)
    refine ⟨h1, fun l hl => ⟨(h2 l hl).1, (h2 l hl).2, ext_list ?_⟩, by omega⟩
    have hb : ∀ b ∈ wire ls, foldU b = b := map_fix (by rw [← nm_list, ← fold_list, ← h1, hf])
    rw [fold_list]
    have : l.data.toList.map foldU = l.data.toList.map id := List.map_congr_left fun b hbm => hb b (List.mem_flatMap.2 ⟨l, hl, List.mem_cons_of_mem _ hbm⟩)
    rw [this, List.map_id]
theorem foldU_idem (u : UInt8) : foldU (foldU u) = foldU u := by
  have hu := u.toNat_lt
  by_cases h : 65 ≤ u.toNat ∧ u.toNat ≤ 90
  · have e : foldU u = UInt8.ofNat (u.toNat + 32) := by rw [foldU, if_pos h]
    have : (UInt8.ofNat (u.toNat + 32)).toNat = u.toNat + 32 := ofNatU (by omega)
    rw [e, foldU, if_neg (by omega)]
  · have e : foldU u = u := by rw [foldU, if_neg h]
    rw [e, e]
theorem foldB_idem (s : ByteArray) : foldB (foldB s) = foldB s := by
  apply ext_list
  rw [fold_list, fold_list, List.map_map]
  exact List.map_congr_left fun u _ => foldU_idem u
theorem makeN_nm : ∀ {ls : List ByteArray} {acc n : ByteArray}, makeN ls acc = some n → n = acc ++ nm (ls.map foldB) ∧ ∀ l ∈ ls, IsLab (foldB l)
  | [], acc, n, h => by
    simp [makeN] at h; subst h
    refine ⟨?_, fun l h => by cases h⟩
    apply ext_list
    rw [ByteArray.data_append]; simp [nm, wire]
  | l :: ls, acc, n, h => by
    unfold makeN at h
    split at h
    · cases h
    · rename_i hg
      obtain ⟨h1, h2⟩ := makeN_nm h
      refine ⟨?_, fun x hx => ?_⟩
      · rw [h1]
        apply ext_list
        simp [ByteArray.data_append, nm, wire_cons, ByteArray.data_push, foldB_size]
      · rcases List.mem_cons.1 hx with rfl | hx
        · exact ⟨by rw [foldB_size]; omega, by rw [foldB_size]; omega, foldB_idem _⟩
        · exact h2 x hx
/-- a name -/
def IsName (s : ByteArray) : Prop := ∃ ls, s = nm ls ∧ (∀ l ∈ ls, IsLab l) ∧ s.size ≤ 254
theorem isName_iff {s : ByteArray} : IsName s ↔ (labN s).isSome = true := by
  constructor
  · rintro ⟨ls, rfl, h1, h2⟩
    rw [labN_nm h1 h2]; rfl
  · intro h
    obtain ⟨ls, h⟩ := Option.isSome_iff_exists.1 h
    exact ⟨ls, labN_some h⟩
/-- a name below another one -/
theorem parN_nm {l : ByteArray} {ls : List ByteArray} (h : ∀ x ∈ l :: ls, IsLab x) (hs : (nm (l :: ls)).size ≤ 254) : parN (nm (l :: ls)) = (nm ls, true) := by
  have hl := h l (List.mem_cons_self ..)
  have hh := hl.hi
  have hc : (UInt8.ofNat l.size).toNat = l.size := ofNatU (by omega)
  unfold parN
  rw [nm_first]
  simp only [labN_nm h hs, Option.isSome_some, if_true, hc, nm_rest]
theorem goB_nm : ∀ (a b : List ByteArray) (f : Nat), a.length < f → (∀ l ∈ a ++ b, IsLab l) → (nm (a ++ b)).size ≤ 254 → goB f (nm (a ++ b)) (nm b) true = true
  | [], b, f, hf, hl, hs => by
    obtain ⟨f, rfl⟩ : ∃ g, f = g + 1 := ⟨f - 1, by omega⟩
    rw [List.nil_append, goB, if_pos rfl, if_pos (by simp)]
  | l :: a, b, f, hf, hl, hs => by
    obtain ⟨f, rfl⟩ : ∃ g, f = g + 1 := ⟨f - 1, by omega⟩
    rw [goB, if_pos rfl]
    split
    · rfl
    · have hp := parN_nm (l := l) (ls := a ++ b) hl hs
      have hz := nm_cons_size l (a ++ b)
      rw [List.cons_append, hp]
      exact goB_nm a b f (by simpa using hf) (fun x hx => hl x (List.mem_cons_of_mem _ hx)) (by rw [List.cons_append] at hs; omega)
theorem wire_len : ∀ ls : List ByteArray, ls.length ≤ (wire ls).length
  | [] => Nat.le_refl _
  | l :: ls => by
    have := wire_len ls
    rw [wire_cons]
    simp only [List.length_cons, List.length_append]; omega
theorem belowB_nm {a b : List ByteArray} (h : ∀ l ∈ a ++ b, IsLab l) (hs : (nm (a ++ b)).size ≤ 254) : belowB (nm (a ++ b)) (nm b) = true := by
  have hb : (nm b).size ≤ 254 := by
    rw [nm_size, wire_app, List.length_append] at hs
    rw [nm_size]; omega
  unfold belowB
  rw [labN_nm h hs, labN_nm (fun l hl => h l (List.mem_append_right _ hl)) hb]
  refine goB_nm a b _ ?_ h hs
  have h1 := wire_len (a ++ b)
  rw [nm_size]
  rw [List.length_append] at h1; omega
theorem below_app {x o : ByteArray} (hx : IsName x) (ho : IsName o) (hs : x.size + o.size ≤ 254) : IsName (x ++ o) ∧ belowB (x ++ o) o = true := by
  obtain ⟨a, rfl, ha, _⟩ := hx
  obtain ⟨b, rfl, hb, _⟩ := ho
  have hl : ∀ l ∈ a ++ b, IsLab l := fun l h => (List.mem_append.1 h).elim (ha l) (hb l)
  have hz : (nm (a ++ b)).size ≤ 254 := by rw [← nm_app, app_size]; exact hs
  rw [nm_app]
  exact ⟨⟨_, rfl, hl, hz⟩, belowB_nm hl hz⟩
end Go.Proofs.YtoiilcdaldnjfaaGreatDoor
/- A prefix's labels: owner.four, owner.six, owner.Prefix. -/
namespace Go.Proofs.YtoiilcdaldnjfaaGreatDoor
open Go.Px
set_option linter.unusedVariables false
set_option linter.unusedSimpArgs false
set_option maxRecDepth 8000

abbrev OwnS (v : Value) (xs : List ByteArray) (own : SH) : Prop := OwnR 9 1 elS v xs own
abbrev strL (xs : List ByteArray) : List Value := xs.map Value.string
theorem flat_elS : ∀ xs : List ByteArray, xs.flatMap elS = strL xs
  | [] => rfl
  | x :: xs => by rw [List.flatMap_cons, flat_elS xs]; rfl
theorem map_set_at {α : Type} (f : α → Value) {xs : List α} {i : Nat} (h : i < xs.length) (y : α) (rest : List Value) :
    (xs.map f ++ rest).take i ++ [f y] ++ (xs.map f ++ rest).drop (i + 1) = (xs.set i y).map f ++ rest := by
  rw [List.take_append_of_le_length (by simp; omega), List.drop_append_of_le_length (by simp; omega), List.set_eq_take_append_cons_drop, if_pos h]
  simp
theorem AppS1 {xs : List ByteArray} {l : ByteArray} {b : Nat} {v : Value} {S F own : SH} {I : IMem} {K : Option Addr → Nat → Nat → SH → Prop} (hs : Sub (own ++ F) S) (hv : OwnS v xs own) (hl : xs.length ≤ 1000000000)
    (hK : ∀ p n c own' T, OwnS (.slice p n c) (xs ++ [l]) own' → Sub (own' ++ F) T → K p n c T) :
    AppG 9 1 16 [.string ⟨#[]⟩] (some (.slice 9)) I ((b, .cells #[.string l] 9 (0, 0)) :: S) v (.slice (some ⟨b, 0, none⟩) 1 1) K := by
  obtain ⟨G, hG⟩ := hs
  refine AppG.own (xs := xs) (ys := [l]) (el := elS) (own := own) (F := (b, .cells #[.string l] 9 (0, 0)) :: (F ++ G)) (fun _ => rfl) (fun _ => rfl) rfl ((hG.cons _).trans (by rw [List.append_assoc]; exact perm_mid1)) hv ⟨?_, rfl⟩ ?_ ?_ ?_
  · exact Rd.list (L := elS l) rfl (by simp [elS])
  · simp only [List.length_singleton, maxLen]; omega
  · simp only [List.length_singleton]; omega
  · intro p n c own' ho
    exact hK p n c own' _ ho ⟨(b, .cells #[.string l] 9 (0, 0)) :: G, by rw [List.append_assoc]; exact List.Perm.append_left own' perm_mid1⟩
theorem AppSs {xs ys : List ByteArray} {a : Option Addr} {c : Nat} {v : Value} {S F own : SH} {I : IMem} {K : Option Addr → Nat → Nat → SH → Prop} (hs : Sub (own ++ F) S) (hv : OwnS v xs own) (hy : RowIn I S a ys.length 1 elS ys) (hl : (xs.length + ys.length) * 16 ≤ 140737488355328)
    (hK : ∀ p n c own' T, OwnS (.slice p n c) (xs ++ ys) own' → Sub (own' ++ F) T → K p n c T) :
    AppG 9 1 16 [.string ⟨#[]⟩] (some (.slice 9)) I S v (.slice a ys.length c) K := by
  obtain ⟨G, hG⟩ := hs
  refine AppG.own (xs := xs) (ys := ys) (el := elS) (own := own) (F := F ++ G) (fun _ => rfl) (fun _ => rfl) rfl (by rw [← List.append_assoc]; exact hG) hv ⟨RowIn.rd (el := elS) (sz := 1) (fun _ => rfl) Nat.one_pos hy, flatMap_one (el := elS) (fun _ => rfl) _⟩ ?_ ?_ ?_
  · simp only [maxLen]; omega
  · omega
  · intro p n c own' ho
    exact hK p n c own' _ ho ⟨G, by rw [List.append_assoc]⟩
theorem OwnS.mk {xs : List ByteArray} {g cap : Nat} {rest : List Value} (h : xs.length + rest.length = cap) (hm : cap ≤ maxLen) : OwnS (.slice (some ⟨g, 0, none⟩) xs.length cap) xs [(g, .cells (strL xs ++ rest).toArray 9 (0, 0))] :=
  .inr ⟨g, cap, rest, rfl, by rw [flat_elS], by omega, hm⟩
theorem OwnS.cases {a : Option Addr} {n c : Nat} {xs : List ByteArray} {own : SH} (h : OwnS (.slice a n c) xs own) : (a = none ∧ n = 0 ∧ c = 0 ∧ xs = [] ∧ own = []) ∨
    ∃ g rest, a = some ⟨g, 0, none⟩ ∧ n = xs.length ∧ own = [(g, .cells (strL xs ++ rest).toArray 9 (0, 0))] ∧ xs.length + rest.length = c ∧ c ≤ maxLen := by
  rcases h with ⟨hv, rfl, rfl⟩ | ⟨g, cap, rest, hv, rfl, hc, hm⟩
  · injection hv with h1 h2 h3; exact .inl ⟨h1, h2, h3, rfl, rfl⟩
  · injection hv with h1 h2 h3; subst h3
    exact .inr ⟨g, rest, h1, h2, by rw [flat_elS], by omega, hm⟩
theorem OwnS.row {I : IMem} {a : Option Addr} {n c : Nat} {xs : List ByteArray} {own : SH} (h : OwnS (.slice a n c) xs own) : RowIn I own a n 1 elS xs := OwnR.row (el := elS) (sz := 1) (fun _ => rfl) h

/-! ### four -/
def bat (a : ByteArray) (k : Nat) : Nat := (a[k]?.map (·.toNat)).getD 0
theorem bat_of {a : ByteArray} {k : Nat} {c : UInt8} (h : a[k]? = some c) : bat a k = c.toNat := by rw [bat, h]; rfl
theorem bat_lt (a : ByteArray) (k : Nat) : bat a k < 256 := by
  rw [bat]
  cases a[k]? with
  | none => decide
  | some c => exact c.toNat_lt
def fourL (a : ByteArray) : List ByteArray := [decB (bat a 3), decB (bat a 2), decB (bat a 1), decB (bat a 0)]
theorem fourL_at (a : ByteArray) {j : Nat} (h : j < 4) : (fourL a)[j]? = some (decB (bat a (3 - j))) := by
  rcases j with _ | _ | _ | _ | j
  · rfl
  · rfl
  · rfl
  · rfl
  · omega
theorem four_runs {a : ByteArray} (ha : a.size = 4) {I : IMem} (g : GL I) (S : SH) : Runs Tryz.prog 103 #[.string a] I S fun v _ T => ∃ own, OwnS v (fourL a) own ∧ Sub (own ++ S) T := by
  refine owner_four_fn _ _ _ _ ?_
  unfold owner_four owner_four_b1 owner_four_b2
  refine ⟨fun m s o on oc k J T => s = a ∧ I.le J ∧ ∃ (j : Nat) (own : SH), j ≤ 4 ∧ k = 3 - (j : Int) ∧ m = 4 - j ∧ OwnS (.slice o on oc) ((fourL a).take j) own ∧ Sub (own ++ S) T, 4, ⟨rfl, IMem.le.refl I, 0, [], by omega, rfl, rfl, OwnR.nil, Sub.refl _⟩, ?_⟩
  rintro m s o on oc k J T - ⟨rfl, hle, j, own, hj, rfl, rfl, ho, hs⟩
  unfold owner_four_l3 owner_four_b4
  refine bcase_dec (fun h => ?_) (fun h => ?_)
  · have hk : (3 - (j : Int)).toNat = 3 - j := by omega
    rw [hk]
    obtain ⟨c, hc⟩ := at_ok (s := s) (k := 3 - j) (by omega)
    refine ⟨c, by omega, hc, ?_⟩
    rw [wrap_c]
    refine (Itoa_runs (n := c.toNat) (by have := c.toNat_lt; omega) (g.le hle) T).mono ?_
    rintro v J1 T1 hle1 ⟨rfl, rfl⟩
    refine ⟨_, rfl, fun b15 => AppS1 hs ho (by rw [List.length_take]; simp [fourL]; omega) ?_⟩
    intro p n c' own' T' ho' hs'
    refine ⟨4 - (j + 1), by omega, rfl, hle.trans hle1, j + 1, own', by omega, ?_, rfl, ?_, hs'⟩
    · rw [wrap_i64 (by omega) (by omega)]; omega
    · rw [take_snoc (fourL_at s (j := j) (by omega)), bat_of hc]; exact ho'
  · have : j = 4 := by omega
    subst this
    exact ⟨own, ho, hs⟩

/-! ### reversed -/
theorem Rev_runs {xs : List ByteArray} {g c : Nat} {rest : List Value} {e : TypeId} (hl : xs.length ≤ 4611686018427387904) (I : IMem) (F : SH) :
    Runs Tryz.prog 125 #[.slice (some ⟨g, 0, none⟩) xs.length c] I ((g, .cells (strL xs ++ rest).toArray e (0, 0)) :: F) fun v _ T => v = .tuple #[] ∧ T = (g, .cells (strL xs.reverse ++ rest).toArray e (0, 0)) :: F := by
  refine slices_Reverse__string_string_fn _ _ _ _ _ _ ?_
  unfold slices_Reverse__string_string slices_Reverse__string_string_b1
  rw [wrap_i64 (x := (xs.length : Int) - 1) (by omega) (by omega)]
  refine ⟨fun m s sn sc i j J T => s = some ⟨g, 0, none⟩ ∧ sn = xs.length ∧ ∃ (k : Nat) (ys : List ByteArray), i = (k : Int) ∧ j = (xs.length : Int) - 1 - (k : Int) ∧ m = xs.length - k ∧ k ≤ xs.length ∧ ys.length = xs.length ∧
      (∀ t, t < xs.length → ys[t]? = if t < k ∨ xs.length - 1 - k < t then xs[xs.length - 1 - t]? else xs[t]?) ∧ T = (g, .cells (strL ys ++ rest).toArray e (0, 0)) :: F,
    xs.length, ⟨rfl, rfl, 0, xs, rfl, by omega, rfl, Nat.zero_le _, rfl, fun t ht => by rw [if_neg (by omega)], rfl⟩, ?_⟩
  rintro m s sn sc i j J T - ⟨rfl, rfl, k, ys, rfl, rfl, rfl, hk, hyl, hy, rfl⟩
  unfold slices_Reverse__string_string_l2
  refine bcase_dec (fun h => ?_) (fun h => ⟨rfl, ?_⟩)
  · unfold slices_Reverse__string_string_b3 slices_Reverse__string_string_b4
    have hj : ((xs.length : Int) - 1 - (k : Int)).toNat = xs.length - 1 - k := by omega
    obtain ⟨x, hx⟩ := get_lt (xs := ys) (k := xs.length - 1 - k) (by omega)
    obtain ⟨y, hyk⟩ := get_lt (xs := ys) (k := k) (by omega)
    have ea : ∀ t : Nat, (⟨g, 0, none⟩ : Addr).add (t * 1) = ⟨g, t, none⟩ := fun t => by rw [add_mk]; congr 1; omega
    have cell : ∀ (zs : List ByteArray) (t : Nat) (z : ByteArray), zs[t]? = some z → Cell J ((g, .cells (strL zs ++ rest).toArray e (0, 0)) :: F) ⟨g, t, none⟩ (.string z) := fun zs t z hz => by
      refine Cell.at0 ?_
      rw [List.getElem?_toArray, List.getElem?_append_left (by rw [List.length_map]; exact lt_get hz), List.getElem?_map, hz]; rfl
    refine ⟨by omega, by omega, x, by rw [hj, ea]; exact cell _ _ _ hx, by omega, by omega, y, by rw [Int.toNat_natCast, ea]; exact cell _ _ _ hyk, by omega, by omega, ?_⟩
    rw [Int.toNat_natCast, ea]
    refine StP.list (o := k) (by simp; omega) rfl ?_
    rw [List.length_singleton, map_set_at Value.string (by omega : k < ys.length)]
    refine ⟨by omega, by omega, ?_⟩
    rw [hj, ea]
    refine StP.list (o := xs.length - 1 - k) (by simp; omega) rfl ?_
    rw [List.length_singleton, map_set_at Value.string (by rw [List.length_set]; omega)]
    refine ⟨xs.length - (k + 1), by omega, rfl, rfl, k + 1, (ys.set k x).set (xs.length - 1 - k) y, by rw [wrap_i64 (by omega) (by omega)]; rfl, by rw [wrap_i64 (by omega) (by omega)]; omega, rfl, by omega, by simp [hyl], fun t ht => ?_, rfl⟩
    have hxk : ys[xs.length - 1 - k]? = xs[xs.length - 1 - k]? := by rw [hy _ (by omega), if_neg (by omega)]
    have hyk' : ys[k]? = xs[k]? := by rw [hy _ (by omega), if_neg (by omega)]
    rw [List.getElem?_set, List.getElem?_set]
    by_cases h1 : xs.length - 1 - k = t
    · rw [if_pos h1, if_pos (by rw [List.length_set]; omega), if_pos (by omega), ← hyk, hyk', ← h1]
      congr 1; omega
    · rw [if_neg h1]
      by_cases h2 : k = t
      · rw [if_pos h2, if_pos (by omega), if_pos (by omega), ← hx, hxk, h2]
      · rw [if_neg h2, hy t ht]
        by_cases h3 : t < k ∨ xs.length - 1 - k < t
        · rw [if_pos h3, if_pos (by omega)]
        · rw [if_neg h3, if_neg (by omega)]
  · have : ys = xs.reverse := by
      apply List.ext_getElem?
      intro t
      by_cases ht : t < xs.length
      · rw [hy t ht, List.getElem?_reverse ht]
        by_cases h3 : t < k ∨ xs.length - 1 - k < t
        · rw [if_pos h3]
        · rw [if_neg h3]; congr 1; omega
      · rw [List.getElem?_eq_none (by omega), List.getElem?_eq_none (by simp; omega)]
    rw [this]
theorem RevO_runs {xs : List ByteArray} {p : Option Addr} {n c : Nat} {own : SH} (h : OwnS (.slice p n c) xs own) (hl : xs.length ≤ 4611686018427387904) (I : IMem) (F : SH) :
    Runs Tryz.prog 125 #[.slice p n c] I (own ++ F) fun v _ T => v = .tuple #[] ∧ ∃ own', OwnS (.slice p n c) xs.reverse own' ∧ T = own' ++ F := by
  rcases h with ⟨hv, rfl, rfl⟩ | ⟨g, cap, rest, hv, rfl, hc, hm⟩
  · injection hv with h1 h2 h3; subst h1; subst h2; subst h3
    refine slices_Reverse__string_string_fn _ _ _ _ _ _ ?_
    unfold slices_Reverse__string_string slices_Reverse__string_string_b1 slices_Reverse__string_string_l2
    refine ⟨fun m s sn sc i j J T => i = 0 ∧ j < 0 ∧ T = [] ++ F, 0, ⟨rfl, by decide, rfl⟩, ?_⟩
    rintro m s sn sc i j J T - ⟨rfl, hj, rfl⟩
    exact bcase_f (decide_eq_false (by omega)) ⟨rfl, [], .inl ⟨rfl, rfl, rfl⟩, rfl⟩
  · injection hv with h1 h2 h3; subst h1; subst h2; subst h3
    rw [flat_elS]
    refine (Rev_runs hl I F).mono ?_
    rintro v J T _ ⟨rfl, rfl⟩
    refine ⟨rfl, _, .inr ⟨g, c, rest, by rw [List.length_reverse], rfl, by rw [List.length_reverse]; exact hc, hm⟩, ?_⟩
    rw [flat_elS]; rfl
end Go.Proofs.YtoiilcdaldnjfaaGreatDoor
/- A prefix's labels: owner.six, owner.Prefix. -/
namespace Go.Proofs.YtoiilcdaldnjfaaGreatDoor
open Go.Px
set_option linter.unusedVariables false
set_option linter.unusedSimpArgs false
set_option maxRecDepth 8000

def wordsB (a : ByteArray) : List Nat := (List.range 8).map fun k => bat a (2 * k) * 256 + bat a (2 * k + 1)
theorem wordsB_ws (a : ByteArray) : Ws (wordsB a) := by
  refine ⟨by simp [wordsB], fun w hw => ?_⟩
  obtain ⟨k, _, rfl⟩ := List.mem_map.1 hw
  have h1 := bat_lt a (2 * k); have h2 := bat_lt a (2 * k + 1)
  omega
theorem wordsB_at (a : ByteArray) {k : Nat} (h : k < 8) : (wordsB a)[k]? = some (bat a (2 * k) * 256 + bat a (2 * k + 1)) := by
  rw [wordsB, List.getElem?_map, List.getElem?_range h]; rfl
theorem ior8 {x y : Nat} (hx : x < 256) (hy : y < 256) : ior .i64 (IntKind.wrap .i64 ((x : Int) * 2 ^ (min (8 : Int).toNat (IntKind.bits .i64)))) (y : Int) = ((x * 256 + y : Nat) : Int) := by
  have e0 : (2 : Int) ^ (min (8 : Int).toNat (IntKind.bits .i64)) = 256 := by decide
  rw [e0, wrap_i64 (by omega) (by omega)]
  have h1 : (BitVec.ofInt (IntKind.bits .i64) ((x : Int) * 256) ||| BitVec.ofInt (IntKind.bits .i64) (y : Int)).toNat = x * 256 + y := by
    rw [BitVec.toNat_or, show ((x : Int) * 256) = ((x * 256 : Nat) : Int) by omega, BitVec.ofInt_natCast, BitVec.ofInt_natCast]
    have e1 : (BitVec.ofNat (IntKind.bits .i64) (x * 256)).toNat = x * 256 := by rw [BitVec.toNat_ofNat]; exact Nat.mod_eq_of_lt (by show x * 256 < 2 ^ 64; omega)
    have e2 : (BitVec.ofNat (IntKind.bits .i64) y).toNat = y := by rw [BitVec.toNat_ofNat]; exact Nat.mod_eq_of_lt (by show y < 2 ^ 64; omega)
    rw [e1, e2]
    have := Nat.two_pow_add_eq_or_of_lt (i := 8) (b := y) (by omega) x
    rw [Nat.mul_comm x 256]
    exact this.symm
  unfold ior
  rw [h1]
  exact wrap_i64 (by omega) (by omega)
def intV (n : Nat) : Value := .int .i64 (n : Int)
theorem zr_cons (b : Bool) (z : List Bool) : zr (b :: z) = if b then 1 + zr z else 0 := by
  cases b <;> simp [zr, Nat.add_comm]
theorem six_runs {a : ByteArray} (ha : a.size = 16) {I : IMem} (g : GL I) (S : SH) : Runs Tryz.prog 104 #[.string a] I S fun v _ T => ∃ own, OwnS v (sixL (wordsB a)) own ∧ Sub (own ++ S) T := by
  have hws := wordsB_ws a
  have hg := good_of hws.zlen
  simp only [goodZ, Bool.and_eq_true, decide_eq_true_eq] at hg
  obtain ⟨⟨⟨⟨⟨⟨⟨⟨⟨⟨⟨⟨⟨⟨-, -⟩, -⟩, -⟩, -⟩, hfl⟩, -⟩, -⟩, ha1⟩, hm1⟩, hm2⟩, -⟩, -⟩, -⟩, -⟩ := hg
  refine owner_six_fn _ _ _ _ ?_
  unfold owner_six owner_six_b1 owner_six_b2
  refine ⟨by decide, by decide, by decide, by decide, fun b11 => ?_⟩
  refine ⟨fun m s w wn wc q i J T => s = a ∧ w = some ⟨b11, 0, none⟩ ∧ wn = 8 ∧ q = 8 ∧ I.le J ∧ ∃ (k : Nat) (ys : List Nat), i = (k : Int) ∧ k ≤ 8 ∧ m = 8 - k ∧ ys.length = 8 ∧ (∀ t, t < k → ys[t]? = (wordsB a)[t]?) ∧
      T = (b11, .cells (ys.map intV).toArray 3 (0, 0)) :: S, 8, ⟨rfl, rfl, rfl, rfl, IMem.le.refl I, 0, [0, 0, 0, 0, 0, 0, 0, 0], rfl, by omega, rfl, rfl, fun t ht => by omega, rfl⟩, ?_⟩
  rintro m s w wn wc q i J T - ⟨rfl, rfl, rfl, rfl, hle, k, ys, rfl, hk, rfl, hyl, hy, rfl⟩
  have ea : ∀ t : Nat, (⟨b11, 0, none⟩ : Addr).add (t * 1) = ⟨b11, t, none⟩ := fun t => by rw [add_mk]; congr 1; omega
  unfold owner_six_l3
  refine bcase_dec (fun h => ?_) (fun h => ?_)
  · unfold owner_six_b4 owner_six_b5 owner_six_b6
    rw [wrap_i64 (x := 2 * (k : Int)) (by omega) (by omega), wrap_i64 (x := 2 * (k : Int) + 1) (by omega) (by omega)]
    obtain ⟨c, hc⟩ := at_ok (s := s) (k := 2 * k) (by omega)
    obtain ⟨d, hd⟩ := at_ok (s := s) (k := 2 * k + 1) (by omega)
    rw [show (2 * (k : Int)).toNat = 2 * k by omega, show (2 * (k : Int) + 1).toNat = 2 * k + 1 by omega]
    refine ⟨c, by omega, hc, d, by omega, hd, by omega, by omega, ?_⟩
    rw [wrap_c, wrap_c, ior8 (by have := c.toNat_lt; omega) (by have := d.toNat_lt; omega), Int.toNat_natCast, ea]
    refine StP.list (o := k) (by simp; omega) rfl ?_
    have hset := map_set_at intV (xs := ys) (i := k) (by omega) (c.toNat * 256 + d.toNat) []
    rw [List.append_nil, List.append_nil] at hset
    rw [List.length_singleton, show [Value.int .i64 ((c.toNat * 256 + d.toNat : Nat) : Int)] = [intV (c.toNat * 256 + d.toNat)] from rfl, hset]
    refine ⟨8 - (k + 1), by omega, rfl, rfl, rfl, rfl, hle, k + 1, ys.set k (c.toNat * 256 + d.toNat), by rw [wrap_i64 (by omega) (by omega)]; rfl, by omega, rfl, by simp [hyl], fun t ht => ?_, rfl⟩
    rw [List.getElem?_set]
    by_cases e : k = t
    · rw [if_pos e, if_pos (by omega), ← e, wordsB_at s (by omega), bat_of hc, bat_of hd]
    · rw [if_neg e]; exact hy t (by omega)
  have hk8 : k = 8 := by omega
  have hys : ys = wordsB s := by
    apply List.ext_getElem?
    intro t
    by_cases ht : t < 8
    · exact hy t (by omega)
    · rw [List.getElem?_eq_none (by omega), List.getElem?_eq_none (by rw [hws.len]; omega)]
  subst hys
  have hlen := hws.len
  have cell : ∀ (J : IMem) (G : SH) (t : Nat), t < 8 → ∃ w, (wordsB s)[t]? = some w ∧ w < 65536 ∧ (zs (wordsB s))[t]? = some (w == 0) ∧ Cell J ((b11, .cells ((wordsB s).map intV).toArray 3 (0, 0)) :: G) ⟨b11, t, none⟩ (.int .i64 (w : Int)) := by
    intro J G t ht
    obtain ⟨w, hw⟩ := get_lt (xs := wordsB s) (k := t) (by omega)
    refine ⟨w, hw, hws.lt w (List.mem_of_getElem? hw), by rw [zs, List.getElem?_map, hw]; rfl, Cell.at0 ?_⟩
    rw [List.getElem?_toArray, List.getElem?_map, hw]; rfl
  generalize hz : zs (wordsB s) = z at *
  have hzl : z.length = 8 := by rw [← hz]; exact hws.zlen
  have hbnd : ∀ k, k ≤ 8 → -1 ≤ (bp z k).1 ∧ (bp z k).1 ≤ 8 ∧ 1 ≤ (bp z k).2 ∧ (bp z k).2 ≤ 8 := by
    intro k
    induction k with
    | zero => intro _; simp [bp]
    | succ k ih =>
      intro h
      have h1 := ih (by omega)
      have h2 := zr_le (z.drop k)
      rw [List.length_drop, hzl] at h2
      simp only [bp, stp]
      split
      · exact ⟨by dsimp only; omega, by dsimp only; omega, by dsimp only; omega, by dsimp only; omega⟩
      · exact h1
  unfold owner_six_b7 owner_six_b8 owner_six_b9
  refine ⟨fun m w wn wc fr mo i J1 T => w = some ⟨b11, 0, none⟩ ∧ wn = 8 ∧ J.le J1 ∧ T = (b11, .cells ((wordsB s).map intV).toArray 3 (0, 0)) :: S ∧ ∃ k : Nat, i = (k : Int) ∧ k ≤ 8 ∧ m = 8 - k ∧ fr = (bp z k).1 ∧ mo = (bp z k).2,
    8, ⟨rfl, rfl, IMem.le.refl J, rfl, 0, rfl, by omega, rfl, rfl, rfl⟩, ?_⟩
  rintro m w wn wc fr mo i J1 T - ⟨rfl, rfl, hle1, rfl, k, rfl, hk, rfl, rfl, rfl⟩
  unfold owner_six_l10
  refine bcase_dec (fun h => ?_) (fun h => ?_)
  · unfold owner_six_b11 owner_six_b12
    refine ⟨fun m w wn wc fr mo i n J2 T => w = some ⟨b11, 0, none⟩ ∧ wn = 8 ∧ fr = (bp z k).1 ∧ mo = (bp z k).2 ∧ i = (k : Int) ∧ J1.le J2 ∧ T = (b11, .cells ((wordsB s).map intV).toArray 3 (0, 0)) :: S ∧ ∃ j : Nat, n = (j : Int) ∧ k + j ≤ 8 ∧ m = 8 - j ∧ zr (z.drop k) = j + zr (z.drop (k + j)),
      8, ⟨rfl, rfl, rfl, rfl, rfl, IMem.le.refl J1, rfl, 0, rfl, by omega, rfl, by simp⟩, ?_⟩
    rintro m w wn wc fr mo i n J2 T - ⟨rfl, rfl, rfl, rfl, rfl, hle2, rfl, j, rfl, hj, rfl, hzr⟩
    unfold owner_six_l13
    have hw : IntKind.wrap .i64 ((k : Int) + (j : Int)) = ((k + j : Nat) : Int) := by rw [wrap_i64 (by omega) (by omega)]; omega
    rw [hw]
    have stop : zr (z.drop (k + j)) = 0 → owner_six_b16 (fun words_3 words_3n words_3c at_5 most_6 k_7 I_1 S_1 => ∃ m', m' < 8 - k ∧ words_3 = some ⟨b11, 0, none⟩ ∧ words_3n = 8 ∧ J.le I_1 ∧ S_1 = (b11, .cells ((wordsB s).map intV).toArray 3 (0, 0)) :: S ∧ ∃ k : Nat, k_7 = (k : Int) ∧ k ≤ 8 ∧ m' = 8 - k ∧ at_5 = (bp z k).1 ∧ most_6 = (bp z k).2)
        (fun v _ T => ∃ own, OwnS v (sixL (wordsB s)) own ∧ Sub (own ++ S) T) (some ⟨b11, 0, none⟩) 8 wc (bp z k).1 (bp z k).2 (k : Int) (j : Int) J2 ((b11, .cells ((wordsB s).map intV).toArray 3 (0, 0)) :: S) := by
      intro h0
      have hn : zr (z.drop k) = j := by omega
      unfold owner_six_b16 owner_six_b17
      refine bcase_dec (fun g1 => ?_) (fun g1 => ?_)
      · refine ⟨8 - (k + 1), by omega, rfl, rfl, hle1.trans hle2, rfl, k + 1, by rw [wrap_i64 (by omega) (by omega)]; rfl, by omega, rfl, ?_, ?_⟩
        · rw [bp, stp, if_pos (by rw [hn]; omega)]
        · rw [bp, stp, if_pos (by rw [hn]; omega), hn]
      · refine ⟨8 - (k + 1), by omega, rfl, rfl, hle1.trans hle2, rfl, k + 1, by rw [wrap_i64 (by omega) (by omega)]; rfl, by omega, rfl, ?_, ?_⟩
        · rw [bp, stp, if_neg (by rw [hn]; omega)]
        · rw [bp, stp, if_neg (by rw [hn]; omega)]
    refine bcase_dec (fun h1 => ?_) (fun h1 => ?_)
    · obtain ⟨w, hw1, hw2, hw3, hw4⟩ := cell J2 S (k + j) (by omega)
      refine ⟨by omega, by omega, w, by rw [Int.toNat_natCast, ea]; exact hw4, ?_⟩
      have hd : z.drop (k + j) = (w == 0) :: z.drop (k + j + 1) := by
        rw [List.drop_eq_getElem_cons (by omega)]
        rw [List.getElem?_eq_getElem (by omega)] at hw3
        rw [Option.some.inj hw3]
      unfold owner_six_b14
      refine bcase_beq (fun e => ?_) (fun e => stop ?_)
      · have ew : w = 0 := by omega
        subst ew
        unfold owner_six_b15
        refine ⟨8 - (j + 1), by omega, rfl, rfl, rfl, rfl, rfl, hle2, rfl, j + 1, by rw [wrap_i64 (by omega) (by omega)]; rfl, by omega, rfl, ?_⟩
        rw [hzr, hd, zr_cons, if_pos (by decide), Nat.add_assoc k j 1]; omega
      · rw [hd, zr_cons, if_neg (by simp; omega)]
    · unfold owner_six_b14
      refine bcase_f rfl (stop ?_)
      rw [List.drop_of_length_le (by omega)]; rfl
  · have hk8 : k = 8 := by omega
    subst hk8
    unfold owner_six_b18 owner_six_b19 owner_six_b20
    have hren : ∀ t, ren (wordsB s) t = ren (wordsB s) t := fun _ => rfl
    refine ⟨fun m w wn wc fr mo o on oc i J2 T => w = some ⟨b11, 0, none⟩ ∧ wn = 8 ∧ fr = (bp z 8).1 ∧ mo = (bp z 8).2 ∧ J.le J2 ∧ ∃ (k f : Nat) (os : List (Option Nat)) (own : SH), i = (k : Int) ∧ k ≤ 16 ∧ m = f ∧ 9 ≤ f + k ∧ fwd z = os ++ emP (bp z 8).1 (bp z 8).2 f k ∧
        OwnS (.slice o on oc) (os.map (ren (wordsB s))) own ∧ Sub (own ++ (b11, .cells ((wordsB s).map intV).toArray 3 (0, 0)) :: S) T,
      9, ⟨rfl, rfl, rfl, rfl, hle1, 0, 9, [], [], rfl, by omega, rfl, by omega, rfl, OwnR.nil, Sub.refl _⟩, ?_⟩
    rintro m w wn wc fr mo o on oc i J2 T - ⟨rfl, rfl, rfl, rfl, hle2, k, f, os, own, rfl, hk, rfl, hf, hos, ho, hs⟩
    have hol : os.length ≤ 8 := by
      have := congrArg List.length hos
      rw [List.length_append] at this; omega
    unfold owner_six_l21
    refine bcase_dec (fun h8 => ?_) (fun h8 => ?_)
    · obtain ⟨f, rfl⟩ : ∃ f', m = f' + 1 := ⟨m - 1, by omega⟩
      rw [emP, if_pos (by omega)] at hos
      refine bcase_beq (fun e => ?_) (fun e => ?_)
      · rw [if_pos e] at hos
        intro b66
        refine AppS1 hs ho (by rw [List.length_map]; omega) ?_
        intro p n c own' T' ho' hs'
        unfold owner_six_b22
        have hkm : (k : Int) + (bp z 8).2 = (((k : Int) + (bp z 8).2).toNat : Int) := by omega
        refine ⟨f, by omega, rfl, rfl, rfl, rfl, hle2, ((k : Int) + (bp z 8).2).toNat, f, os ++ [none], own', ?_, by omega, rfl, by omega, by rw [hos]; simp, ?_, hs'⟩
        · rw [wrap_i64 (x := (bp z 8).2 - 1) (by omega) (by omega), wrap_i64 (x := (k : Int) + ((bp z 8).2 - 1)) (by omega) (by omega), wrap_i64 (by omega) (by omega)]; omega
        · rw [List.map_append]; exact ho'
      · rw [if_neg e] at hos
        obtain ⟨w, hw1, hw2, hw3, hw4⟩ := cell J2 S k (by omega)
        refine ⟨by omega, by omega, w, by rw [Int.toNat_natCast, ea]; exact hs.right.cell' hw4, (FmtI_runs (n := w) hw2 (g.le (hle.trans hle2)) T).mono ?_⟩
        rintro v J3 T3 hle3 ⟨rfl, rfl⟩
        refine ⟨_, rfl, fun b78 => AppS1 hs ho (by rw [List.length_map]; omega) ?_⟩
        intro p n c own' T' ho' hs'
        unfold owner_six_b22
        refine ⟨f, by omega, rfl, rfl, rfl, rfl, hle2.trans hle3, k + 1, f, os ++ [some k], own', by rw [wrap_i64 (by omega) (by omega)]; rfl, by omega, rfl, by omega, by rw [hos]; simp, ?_, hs'⟩
        rw [List.map_append]
        have : ren (wordsB s) (some k) = hexB w := by rw [ren, List.getD_eq_getElem?_getD, hw1]; rfl
        rw [List.map_singleton, this]; exact ho'
    · have hend : emP (bp z 8).1 (bp z 8).2 m k = [] := by
        cases m with
        | zero => rfl
        | succ m => rw [emP, if_neg (by omega)]
      rw [hend, List.append_nil] at hos
      unfold owner_six_b23
      refine Runs.use hs (RevO_runs ho (by rw [List.length_map]; omega) J2 _) ?_
      rintro v J3 T3 _ ⟨rfl, own', ho', rfl⟩
      refine ⟨rfl, own', ?_, (Sub.refl _).re (by intro a; simp only [cnt_cons, cnt_app, cnt_nil]; omega)⟩
      have hrev := six_rev hws
      rw [hz, hos] at hrev
      rw [← hrev, List.reverse_reverse] at ho'
      exact ho'
def addrL (a : ByteArray) : List ByteArray := if a.size = 4 then fourL a else sixL (wordsB a)
def pfxL (a : ByteArray) (n : Int) : List ByteArray := if mayB a n then decB n.toNat :: addrL a else []
theorem sixL_len (a : ByteArray) : (sixL (wordsB a)).length ≤ 8 := by
  have hws := wordsB_ws a
  have hg := good_of hws.zlen
  simp only [goodZ, Bool.and_eq_true, decide_eq_true_eq] at hg
  obtain ⟨⟨⟨⟨⟨⟨⟨⟨⟨⟨⟨⟨⟨⟨-, -⟩, -⟩, -⟩, -⟩, hfl⟩, -⟩, -⟩, -⟩, -⟩, -⟩, -⟩, -⟩, -⟩, -⟩ := hg
  have := congrArg List.length (six_rev hws)
  rw [List.length_reverse, List.length_map] at this
  omega
theorem Prefix_runs {I : IMem} (g : GL I) (a : ByteArray) (n : Int) (S : SH) : Runs Tryz.prog 67 #[.agg #[.string a, .int .i64 n]] I S fun v _ T => ∃ own, OwnS v (pfxL a n) own ∧ Sub (own ++ S) T := by
  refine owner_Prefix_fn _ _ _ _ _ ?_
  unfold owner_Prefix
  intro b1
  refine ⟨_, Cell.at0 rfl, _, Cell.at0 rfl, (PMay_runs a n I _).mono ?_⟩
  rintro v J T hle ⟨rfl, rfl⟩
  refine ⟨_, rfl, bcase_not (bcase_of (fun hm => ?_) (fun hm => ?_))⟩
  · obtain ⟨⟨hsz, hn0, hn1⟩, hcut⟩ := mayB_iff.1 hm
    obtain ⟨n, rfl⟩ : ∃ k : Nat, n = (k : Int) := ⟨n.toNat, by omega⟩
    refine ⟨_, Cell.at0 rfl, (Itoa_runs (n := n) (by omega) (g.le hle) _).mono ?_⟩
    rintro v J1 T1 hle1 ⟨rfl, rfl⟩
    refine ⟨_, rfl, fun b10 => ⟨_, (Cell.at0 rfl).tl, ?_⟩⟩
    have hp : pfxL a (n : Int) = [decB n] ++ addrL a := by rw [pfxL, if_pos hm, Int.toNat_natCast]; rfl
    have ho0 : OwnS (.slice (some ⟨b10, 0, none⟩) 1 1) [decB n] [(b10, .cells #[.string (decB n)] 9 (0, 0))] := .inr ⟨b10, 1, [], rfl, rfl, rfl, by decide⟩
    refine bcase_beq (fun h4 => ⟨_, (Cell.at0 rfl).tl, ?_⟩) (fun h4 => ⟨_, (Cell.at0 rfl).tl, ?_⟩)
    · have ha : a.size = 4 := by omega
      refine (four_runs ha ((g.le hle).le hle1) _).mono ?_
      rintro v J2 T2 hle2 ⟨own, ho, hs⟩
      obtain ⟨p, c, rfl⟩ := ho.slice
      refine ⟨_, _, _, rfl, AppSs (xs := [decB n]) (ys := fourL a) (F := S) (hs.re (by intro a; simp only [cnt_cons, cnt_app, cnt_nil]; omega)) ho0 ((OwnS.row ho).sub hs.left) (by simp [fourL]) ?_⟩
      intro p' n' c' own' T' ho' hs'
      refine ⟨own', ?_, hs'⟩
      rw [hp, addrL, if_pos ha]; exact ho'
    · have ha : a.size = 16 := by omega
      refine (six_runs ha ((g.le hle).le hle1) _).mono ?_
      rintro v J2 T2 hle2 ⟨own, ho, hs⟩
      obtain ⟨p, c, rfl⟩ := ho.slice
      have h8 := sixL_len a
      refine ⟨_, _, _, rfl, AppSs (xs := [decB n]) (ys := sixL (wordsB a)) (F := S) (hs.re (by intro a; simp only [cnt_cons, cnt_app, cnt_nil]; omega)) ho0 ((OwnS.row ho).sub hs.left) (by simp only [List.length_singleton]; omega) ?_⟩
      intro p' n' c' own' T' ho' hs'
      refine ⟨own', ?_, hs'⟩
      rw [hp, addrL, if_neg (by omega)]; exact ho'
  · refine ⟨[], ?_, (Sub.refl _).skip _⟩
    rw [pfxL, if_neg (by rw [hm]; simp)]
    exact OwnR.nil
end Go.Proofs.YtoiilcdaldnjfaaGreatDoor
/- Lists of words: equal, found, cloned, repeated, replaced. -/
namespace Go.Proofs.YtoiilcdaldnjfaaGreatDoor
open Go.Px
set_option linter.unusedVariables false
set_option linter.unusedSimpArgs false
set_option maxRecDepth 8000

theorem strRow {I : IMem} {S : SH} {a : Option Addr} {xs : List ByteArray} (h : RowIn I S a xs.length 1 elS xs) {k : Nat} {x : ByteArray} (hx : xs[k]? = some x) : ∃ a', a = some a' ∧ Cell I S (a'.add (k * 1)) (.string x) := by
  obtain ⟨a', ha, hc⟩ := h.cell hx
  refine ⟨a', ha, ?_⟩
  have := hc 0 (.string x) rfl
  have e0 : (a'.add (k * 1)).add 0 = a'.add (k * 1) := by simp [Addr.add]
  rwa [e0] at this
theorem ba_dec {a b : ByteArray} : (a.toList == b.toList) = decide (a = b) := by
  by_cases h : a = b
  · rw [h, tl_eq]; simp
  · rw [tl_ne h]; simp [h]
theorem Equal_runs {xs ys : List ByteArray} {a b : Option Addr} {ca cb : Nat} {I : IMem} {S : SH} (hx : RowIn I S a xs.length 1 elS xs) (hy : RowIn I S b ys.length 1 elS ys) (hl : xs.length ≤ 4611686018427387904) :
    Runs Tryz.prog 115 #[.slice a xs.length ca, .slice b ys.length cb] I S fun v _ T => v = .bool (decide (xs = ys)) ∧ T = S := by
  refine slices_Equal__string_string_fn _ _ _ _ _ _ _ _ _ ?_
  unfold slices_Equal__string_string slices_Equal__string_string_b1 slices_Equal__string_string_b2
  refine bcase_bne (fun h => ⟨?_, rfl⟩) (fun h => ?_)
  · rw [decide_eq_false (fun e => h (by rw [e]))]
  refine ⟨fun m p pn pc q qn qc x i J T => p = a ∧ pn = xs.length ∧ q = b ∧ qn = ys.length ∧ x = (xs.length : Int) ∧ I.le J ∧ T = S ∧ ∃ k : Nat, i = (k : Int) ∧ k ≤ xs.length ∧ m = xs.length - k ∧ ∀ t, t < k → xs[t]? = ys[t]?,
    xs.length, ⟨rfl, rfl, rfl, rfl, rfl, IMem.le.refl I, rfl, 0, rfl, Nat.zero_le _, rfl, fun t ht => by omega⟩, ?_⟩
  rintro m p pn pc q qn qc x i J T - ⟨rfl, rfl, rfl, rfl, rfl, hle, rfl, k, rfl, hk, rfl, hp⟩
  unfold slices_Equal__string_string_l3
  refine bcase_dec (fun h1 => ?_) (fun h1 => ?_)
  · unfold slices_Equal__string_string_b4 slices_Equal__string_string_b5 slices_Equal__string_string_b6 slices_Equal__string_string_b7
    obtain ⟨x, hxk⟩ := get_lt (xs := xs) (k := k) (by omega)
    obtain ⟨y, hyk⟩ := get_lt (xs := ys) (k := k) (by omega)
    obtain ⟨a', rfl, hca⟩ := strRow (hx.le hle) hxk
    obtain ⟨b', rfl, hcb⟩ := strRow (hy.le hle) hyk
    refine ⟨by omega, by omega, x, hca, by omega, by omega, y, hcb, ?_⟩
    rw [ba_dec]
    refine bcase_not (bcase_dec (fun e => ?_) (fun e => ⟨?_, rfl⟩))
    · refine ⟨xs.length - (k + 1), by omega, rfl, rfl, rfl, rfl, rfl, hle, rfl, k + 1, by rw [wrap_i64 (by omega) (by omega)]; rfl, by omega, rfl, fun t ht => ?_⟩
      rcases Nat.lt_or_ge t k with g | g
      · exact hp t g
      · have : t = k := by omega
        subst this; rw [hxk, hyk, e]
    · rw [decide_eq_false (fun h => e (by rw [h, hyk] at hxk; exact (Option.some.inj hxk).symm))]
  · unfold slices_Equal__string_string_b8
    refine ⟨?_, rfl⟩
    have : xs = ys := by
      apply List.ext_getElem?
      intro t
      by_cases ht : t < k
      · exact hp t ht
      · rw [List.getElem?_eq_none (by omega), List.getElem?_eq_none (by omega)]
    rw [decide_eq_true this]
/-- the first place of a word -/
def idxS (xs : List ByteArray) (v : ByteArray) : Int := match xs.findIdx? (fun x => decide (v = x)) with
  | some k => (k : Int)
  | none => -1
theorem Index_runs {xs : List ByteArray} {a : Option Addr} {c : Nat} (v : ByteArray) {I : IMem} {S : SH} (hx : RowIn I S a xs.length 1 elS xs) (hl : xs.length ≤ 4611686018427387904) :
    Runs Tryz.prog 131 #[.slice a xs.length c, .string v] I S fun r _ T => r = .int .i64 (idxS xs v) ∧ T = S := by
  refine slices_Index__string_string_fn _ _ _ _ _ _ _ ?_
  unfold slices_Index__string_string slices_Index__string_string_b1 slices_Index__string_string_b2
  refine ⟨fun m p pn pc w x i J T => p = a ∧ pn = xs.length ∧ w = v ∧ x = (xs.length : Int) ∧ I.le J ∧ T = S ∧ ∃ k : Nat, i = (k : Int) ∧ k ≤ xs.length ∧ m = xs.length - k ∧ ∀ t y, t < k → xs[t]? = some y → v ≠ y,
    xs.length, ⟨rfl, rfl, rfl, rfl, IMem.le.refl I, rfl, 0, rfl, Nat.zero_le _, rfl, fun t y ht => by omega⟩, ?_⟩
  rintro m p pn pc w x i J T - ⟨rfl, rfl, rfl, rfl, hle, rfl, k, rfl, hk, rfl, hp⟩
  unfold slices_Index__string_string_l3 slices_Index__string_string_b4
  refine bcase_dec (fun h1 => ?_) (fun h1 => ?_)
  · obtain ⟨x, hxk⟩ := get_lt (xs := xs) (k := k) (by omega)
    obtain ⟨a', rfl, hca⟩ := strRow (hx.le hle) hxk
    refine ⟨by omega, by omega, x, hca, ?_⟩
    rw [ba_dec]
    refine bcase_dec (fun e => ⟨?_, rfl⟩) (fun e => ?_)
    · have : xs.findIdx? (fun x => decide (w = x)) = some k := by
        rw [List.findIdx?_eq_some_iff_getElem]
        refine ⟨lt_get hxk, ?_, fun j hj => ?_⟩
        · rw [List.getElem?_eq_getElem (lt_get hxk)] at hxk
          rw [Option.some.inj hxk, decide_eq_true e]
        · have := hp j xs[j] hj (List.getElem?_eq_getElem (by omega))
          simp [this]
      rw [idxS, this]
    · refine ⟨xs.length - (k + 1), by omega, rfl, rfl, rfl, rfl, hle, rfl, k + 1, by rw [wrap_i64 (by omega) (by omega)]; rfl, by omega, rfl, fun t y ht hy => ?_⟩
      rcases Nat.lt_or_ge t k with g | g
      · exact hp t y g hy
      · have : t = k := by omega
        subst this; rw [hxk] at hy; rw [← Option.some.inj hy]; exact e
  · refine ⟨?_, rfl⟩
    have : xs.findIdx? (fun x => decide (w = x)) = none := by
      rw [List.findIdx?_eq_none_iff]
      intro y hy
      obtain ⟨t, ht⟩ := List.getElem?_of_mem hy
      have h3 := lt_get ht
      simp [hp t y (by omega) ht]
    rw [idxS, this]
def hasS (xs : List ByteArray) (v : ByteArray) : Bool := xs.any fun x => decide (v = x)
theorem Contains_runs {xs : List ByteArray} {a : Option Addr} {c : Nat} (v : ByteArray) {I : IMem} {S : SH} (hx : RowIn I S a xs.length 1 elS xs) (hl : xs.length ≤ 4611686018427387904) :
    Runs Tryz.prog 130 #[.slice a xs.length c, .string v] I S fun r _ T => r = .bool (hasS xs v) ∧ T = S := by
  refine slices_Contains__string_string_fn _ _ _ _ _ _ _ ?_
  unfold slices_Contains__string_string
  refine (Index_runs v hx hl).mono ?_
  rintro r J T _ ⟨rfl, rfl⟩
  refine ⟨_, rfl, ?_, rfl⟩
  rw [idxS]
  cases h : xs.findIdx? (fun x => decide (v = x)) with
  | none =>
    rw [List.findIdx?_eq_none_iff] at h
    have : hasS xs v = false := by rw [hasS, List.any_eq_false]; intro y hy; rw [h y hy]; simp
    rw [this]; simp
  | some k =>
    rw [List.findIdx?_eq_some_iff_getElem] at h
    obtain ⟨h1, h2, _⟩ := h
    have : hasS xs v = true := by rw [hasS, List.any_eq_true]; exact ⟨_, List.getElem_mem h1, h2⟩
    rw [this]; simp
theorem ClS_runs {xs : List ByteArray} {a : Option Addr} {c : Nat} {I : IMem} {S : SH} (hx : RowIn I S a xs.length 1 elS xs) (hl : xs.length * 16 ≤ 140737488355328) :
    Runs Tryz.prog 129 #[.slice a xs.length c] I S fun v _ T => ∃ own', OwnS v xs own' ∧ Sub (own' ++ S) T := by
  refine slices_Clone__string_string_fn _ _ _ _ _ _ ?_
  unfold slices_Clone__string_string
  refine bcase_of (fun h => ?_) (fun h => ?_)
  · have hxs : xs = [] := by
      cases xs with
      | nil => rfl
      | cons x xs =>
        obtain ⟨a', rfl, _⟩ := hx.cell (i := 0) (x := x) rfl
        cases h
    subst hxs
    exact ⟨[], OwnR.nil, Sub.refl _⟩
  · intro b5
    refine AppSs (xs := []) (ys := xs) (own := [(b5, .cells #[] 9 (0, 0))]) (F := S) (Sub.refl _) (.inr ⟨b5, 0, [], rfl, rfl, rfl, Nat.zero_le _⟩) (hx.sub ((Sub.refl S).skip _)) (by simpa using hl) ?_
    intro p n c own' T ho hs
    exact ⟨own', ho, hs⟩

theorem Pre.sound' {P : Program} {n : Nat} (c : Code) (Q : Exit → Fr → IMem → SH → Prop) (l : Fr) (I : IMem) (S : SH) (A : Prop) (e : A = Pre P n c Q l I S) (h : A) : WP P n c Q l I S := Pre.sound c Q l I S (by rw [← e]; exact h)
noncomputable def mulC : Code := (Tryz.f156.body).getD .skip
theorem Mul64_2e (R : Value → IMem → SH → Prop) (I : IMem) (S : SH) : R (.tuple #[.int .u64 0, .int .u64 2]) I S = Pre Tryz.prog Tryz.f156.ntmps mulC (QRet Tryz.prog Tryz.f156.results.toList R) (fr0 [.int .u64 1, .int .u64 2]) I S := by kernel_rfl
theorem Mul64_2 (R : Value → IMem → SH → Prop) (I : IMem) (S : SH) (h : R (.tuple #[.int .u64 0, .int .u64 2]) I S) : Runs Tryz.prog 156 #[.int .u64 1, .int .u64 2] I S R := by
  exact Runs.of_wp (args := [.int .u64 1, .int .u64 2]) (c := mulC) Tryz.func156 (by kernel_rfl) (by kernel_rfl) (Pre.sound' _ _ _ _ _ _ (Mul64_2e R I S) h)
theorem Mul64_3e (R : Value → IMem → SH → Prop) (I : IMem) (S : SH) : R (.tuple #[.int .u64 0, .int .u64 3]) I S = Pre Tryz.prog Tryz.f156.ntmps mulC (QRet Tryz.prog Tryz.f156.results.toList R) (fr0 [.int .u64 1, .int .u64 3]) I S := by kernel_rfl
theorem Mul64_3 (R : Value → IMem → SH → Prop) (I : IMem) (S : SH) (h : R (.tuple #[.int .u64 0, .int .u64 3]) I S) : Runs Tryz.prog 156 #[.int .u64 1, .int .u64 3] I S R := by
  exact Runs.of_wp (args := [.int .u64 1, .int .u64 3]) (c := mulC) Tryz.func156 (by kernel_rfl) (by kernel_rfl) (Pre.sound' _ _ _ _ _ _ (Mul64_3e R I S) h)
theorem Mul64_4e (R : Value → IMem → SH → Prop) (I : IMem) (S : SH) : R (.tuple #[.int .u64 0, .int .u64 4]) I S = Pre Tryz.prog Tryz.f156.ntmps mulC (QRet Tryz.prog Tryz.f156.results.toList R) (fr0 [.int .u64 1, .int .u64 4]) I S := by kernel_rfl
theorem Mul64_4 (R : Value → IMem → SH → Prop) (I : IMem) (S : SH) (h : R (.tuple #[.int .u64 0, .int .u64 4]) I S) : Runs Tryz.prog 156 #[.int .u64 1, .int .u64 4] I S R := by
  exact Runs.of_wp (args := [.int .u64 1, .int .u64 4]) (c := mulC) Tryz.func156 (by kernel_rfl) (by kernel_rfl) (Pre.sound' _ _ _ _ _ _ (Mul64_4e R I S) h)
theorem Mul64_5e (R : Value → IMem → SH → Prop) (I : IMem) (S : SH) : R (.tuple #[.int .u64 0, .int .u64 5]) I S = Pre Tryz.prog Tryz.f156.ntmps mulC (QRet Tryz.prog Tryz.f156.results.toList R) (fr0 [.int .u64 1, .int .u64 5]) I S := by kernel_rfl
theorem Mul64_5 (R : Value → IMem → SH → Prop) (I : IMem) (S : SH) (h : R (.tuple #[.int .u64 0, .int .u64 5]) I S) : Runs Tryz.prog 156 #[.int .u64 1, .int .u64 5] I S R := by
  exact Runs.of_wp (args := [.int .u64 1, .int .u64 5]) (c := mulC) Tryz.func156 (by kernel_rfl) (by kernel_rfl) (Pre.sound' _ _ _ _ _ _ (Mul64_5e R I S) h)
theorem Mul64_6e (R : Value → IMem → SH → Prop) (I : IMem) (S : SH) : R (.tuple #[.int .u64 0, .int .u64 6]) I S = Pre Tryz.prog Tryz.f156.ntmps mulC (QRet Tryz.prog Tryz.f156.results.toList R) (fr0 [.int .u64 1, .int .u64 6]) I S := by kernel_rfl
theorem Mul64_6 (R : Value → IMem → SH → Prop) (I : IMem) (S : SH) (h : R (.tuple #[.int .u64 0, .int .u64 6]) I S) : Runs Tryz.prog 156 #[.int .u64 1, .int .u64 6] I S R := by
  exact Runs.of_wp (args := [.int .u64 1, .int .u64 6]) (c := mulC) Tryz.func156 (by kernel_rfl) (by kernel_rfl) (Pre.sound' _ _ _ _ _ _ (Mul64_6e R I S) h)
theorem Mul64_7e (R : Value → IMem → SH → Prop) (I : IMem) (S : SH) : R (.tuple #[.int .u64 0, .int .u64 7]) I S = Pre Tryz.prog Tryz.f156.ntmps mulC (QRet Tryz.prog Tryz.f156.results.toList R) (fr0 [.int .u64 1, .int .u64 7]) I S := by kernel_rfl
theorem Mul64_7 (R : Value → IMem → SH → Prop) (I : IMem) (S : SH) (h : R (.tuple #[.int .u64 0, .int .u64 7]) I S) : Runs Tryz.prog 156 #[.int .u64 1, .int .u64 7] I S R := by
  exact Runs.of_wp (args := [.int .u64 1, .int .u64 7]) (c := mulC) Tryz.func156 (by kernel_rfl) (by kernel_rfl) (Pre.sound' _ _ _ _ _ _ (Mul64_7e R I S) h)
theorem Mul64_8e (R : Value → IMem → SH → Prop) (I : IMem) (S : SH) : R (.tuple #[.int .u64 0, .int .u64 8]) I S = Pre Tryz.prog Tryz.f156.ntmps mulC (QRet Tryz.prog Tryz.f156.results.toList R) (fr0 [.int .u64 1, .int .u64 8]) I S := by kernel_rfl
theorem Mul64_8 (R : Value → IMem → SH → Prop) (I : IMem) (S : SH) (h : R (.tuple #[.int .u64 0, .int .u64 8]) I S) : Runs Tryz.prog 156 #[.int .u64 1, .int .u64 8] I S R := by
  exact Runs.of_wp (args := [.int .u64 1, .int .u64 8]) (c := mulC) Tryz.func156 (by kernel_rfl) (by kernel_rfl) (Pre.sound' _ _ _ _ _ _ (Mul64_8e R I S) h)
theorem Mul64_runs {c : Nat} (h1 : 2 ≤ c) (h2 : c ≤ 8) (I : IMem) (S : SH) : Runs Tryz.prog 156 #[.int .u64 1, .int .u64 (c : Int)] I S fun v _ T => v = .tuple #[.int .u64 0, .int .u64 (c : Int)] ∧ T = S := by
  rcases (show c = 2 ∨ c = 3 ∨ c = 4 ∨ c = 5 ∨ c = 6 ∨ c = 7 ∨ c = 8 by omega) with rfl | rfl | rfl | rfl | rfl | rfl | rfl
  · exact Mul64_2 _ I S ⟨rfl, rfl⟩
  · exact Mul64_3 _ I S ⟨rfl, rfl⟩
  · exact Mul64_4 _ I S ⟨rfl, rfl⟩
  · exact Mul64_5 _ I S ⟨rfl, rfl⟩
  · exact Mul64_6 _ I S ⟨rfl, rfl⟩
  · exact Mul64_7 _ I S ⟨rfl, rfl⟩
  · exact Mul64_8 _ I S ⟨rfl, rfl⟩
theorem repV_str (n : Nat) : repV n [Value.string ⟨#[]⟩] = strL (List.replicate n ⟨#[]⟩) := by
  induction n with
  | zero => rfl
  | succ n ih => rw [repV, ih]; rfl
theorem slAd {b c k : Nat} (h : k < c) : slA (some ⟨b, 0, none⟩) c k 1 = some ⟨b, k, none⟩ := by
  unfold slA
  rw [if_neg (by omega)]
  show some ((⟨b, 0, none⟩ : Addr).add (k * 1)) = _
  rw [add_mk, Nat.zero_add, Nat.mul_one]
theorem Repeat_runs {x : ByteArray} {a : Option Addr} {cx cnt : Nat} (h1 : 2 ≤ cnt) (h2 : cnt ≤ 8) {I : IMem} {S : SH} (hx : RowIn I S a 1 1 elS [x]) :
    Runs Tryz.prog 132 #[.slice a 1 cx, .int .i64 (cnt : Int)] I S fun v _ T => ∃ g, v = .slice (some ⟨g, 0, none⟩) cnt cnt ∧ T = (g, .cells (strL (List.replicate cnt x)).toArray 9 (0, 0)) :: S := by
  refine slices_Repeat__string_string_fn _ _ _ _ _ _ _ ?_
  unfold slices_Repeat__string_string slices_Repeat__string_string_b1 slices_Repeat__string_string_b2 slices_Repeat__string_string_b3 slices_Repeat__string_string_b4
  refine bcase_f (decide_eq_false (by omega)) ?_
  rw [wrap_u64 (x := ((1 : Nat) : Int)) (by decide) (by decide), wrap_u64 (x := (cnt : Int)) (by omega) (by omega)]
  refine Runs.mono (R := fun v _ T => v = .tuple #[.int .u64 0, .int .u64 (cnt : Int)] ∧ T = S) ?_ ?_
  · refine bits_Mul_fn _ _ _ _ _ ?_
    unfold bits_Mul
    refine (Mul64_runs h1 h2 I S).mono ?_
    rintro v J T _ ⟨rfl, rfl⟩
    exact ⟨_, _, rfl, rfl, rfl⟩
  rintro v J T hle ⟨rfl, rfl⟩
  refine ⟨0, cnt, rfl, bcase_f rfl (bcase_f (decide_eq_false (by omega)) ?_)⟩
  rw [wrap_i64 (x := (cnt : Int)) (by omega) (by omega)]
  refine ⟨by omega, by omega, by omega, by omega, fun b30 => ?_⟩
  simp only [Int.toNat_natCast]
  rw [repV_str]
  have hmin : min 1 cnt = 1 := by omega
  refine ⟨[.string x], ?_, rfl, .inr ⟨⟨b30, 0, none⟩, rfl, StP.list (o := 0) (by simp; omega) rfl ?_⟩⟩
  · rw [hmin]
    exact (RowIn.rd (el := elS) (sz := 1) (fun _ => rfl) Nat.one_pos ((hx.sub ((Sub.refl T).skip _)).le hle))
  have hs0 := map_set_at Value.string (xs := List.replicate cnt (⟨#[]⟩ : ByteArray)) (i := 0) (by simp; omega) x []
  rw [List.append_nil, List.append_nil] at hs0
  rw [List.length_singleton, hs0, hmin]
  unfold slices_Repeat__string_string_b5
  refine ⟨fun m p pn pc n J1 T1 => p = some ⟨b30, 0, none⟩ ∧ pn = cnt ∧ pc = cnt ∧ J.le J1 ∧ ∃ (k : Nat) (ys : List ByteArray), n = (k : Int) ∧ 1 ≤ k ∧ k ≤ cnt ∧ m = cnt - k ∧ ys.length = cnt ∧ ys.take k = List.replicate k x ∧ T1 = (b30, .cells (strL ys).toArray 9 (0, 0)) :: T,
    cnt - 1, ⟨rfl, rfl, rfl, IMem.le.refl J, 1, _, rfl, Nat.le_refl _, by omega, rfl, by simp, ?_, rfl⟩, ?_⟩
  · obtain ⟨d, rfl⟩ : ∃ d, cnt = d + 1 := ⟨cnt - 1, by omega⟩
    simp [List.replicate_succ]
  rintro m p pn pc n J1 T1 - ⟨rfl, rfl, rfl, hle1, k, ys, rfl, hk1, hk2, rfl, hyl, hyt, rfl⟩
  unfold slices_Repeat__string_string_l6
  refine bcase_dec (fun h => ?_) (fun h => ?_)
  · unfold slices_Repeat__string_string_b7
    refine ⟨by omega, by omega, by omega, by omega, ?_⟩
    simp only [Int.toNat_natCast, Nat.sub_zero]
    rw [slAd (by omega), slA_zero]
    have hone : (strL (List.replicate (min k (pc - k)) x)).all one = true := by rw [← flat_elS]; exact flatMap_one (el := elS) (fun _ => rfl) _
    refine ⟨strL (List.replicate (min k (pc - k)) x), Rd.list ?_ (by simp; omega), hone, .inr ⟨_, rfl, StP.list (by simp; omega) hone ?_⟩⟩
    · rw [List.drop_zero, Nat.mul_one, ← List.map_take]
      have : ys.take (min k (pc - k)) = (ys.take k).take (min k (pc - k)) := by rw [List.take_take]; congr 1; omega
      rw [this, hyt, List.take_replicate]; congr 2; omega
    · have hL : (strL ys).take k ++ strL (List.replicate (min k (pc - k)) x) ++ (strL ys).drop (k + (strL (List.replicate (min k (pc - k)) x)).length) = strL (ys.take k ++ List.replicate (min k (pc - k)) x ++ ys.drop (k + min k (pc - k))) := by
        simp [List.map_take, List.map_drop]
      rw [hL]
      refine ⟨pc - (k + min k (pc - k)), by omega, trivial, trivial, trivial, hle1, k + min k (pc - k), _, by rw [wrap_i64 (by omega) (by omega)]; omega, by omega, by omega, rfl, by simp; omega, ?_, rfl⟩
      rw [hyt, List.replicate_append_replicate, List.take_append_of_le_length (by simp), List.take_of_length_le (by simp)]
  · unfold slices_Repeat__string_string_b8
    have : k = pc := by omega
    subst this
    rw [List.take_of_length_le (by omega)] at hyt
    exact ⟨b30, rfl, by rw [hyt]⟩
end Go.Proofs.YtoiilcdaldnjfaaGreatDoor
/- A word replaced by words in a list. -/
namespace Go.Proofs.YtoiilcdaldnjfaaGreatDoor
open Go.Px
set_option linter.unusedVariables false
set_option linter.unusedSimpArgs false
set_option maxRecDepth 8000

theorem ovlS_runs {I : IMem} {S : SH} {a b : Addr} {la ca lb cb : Nat} {csA csB : Array Value} {eA eB : TypeId} (hne : a.block ≠ b.block) (hA : (a.block, Obj.cells csA eA (0, 0)) ∈ S) (hB : (b.block, Obj.cells csB eB (0, 0)) ∈ S) (hB0 : csB.size ≠ 0) :
    RunsX Tryz.prog 141 #[.slice (some a) la ca, .slice (some b) lb cb] I S fun v _ T => v = .bool false ∧ T = S := by
  intro w hw
  refine ⟨.bool false, w, I, S, ?_, IMem.le.refl I, hw, rfl, rfl⟩
  have h1 := hw.own _ hA
  have h2 := hw.own _ hB
  obtain ⟨i, hi, _⟩ := info_of_underlying (P := Tryz.prog) (t := 9) Tryz.underlying9
  rw [run_callFunc_extern Tryz.func141 (by kernel_rfl) (by kernel_rfl) (by kernel_rfl) (e := Extern.SlicesOverlaps.overlaps #[51, 51] #[4]) (by kernel_rfl)]
  rw [Lib.run_overlaps_apart w 51 4 9 Tryz.underlying51 i.size (fun w => run_sizeOf hi) a b la ca lb cb hne eA eB csA.size csB.size ?_ ?_ hB0 ?_ ?_]
  · rfl
  · simp only [World.shape?]; rw [h1]
  · simp only [World.shape?]; rw [h2]
  · simp only [World.frozen?]; rw [h1]; simp
  · simp only [World.frozen?]; rw [h1]; simp
theorem strL_len (xs : List ByteArray) : (strL xs).length = xs.length := List.length_map ..
theorem strL_one (xs : List ByteArray) : (strL xs).all one = true := by rw [← flat_elS]; exact flatMap_one (el := elS) (fun _ => rfl) _
theorem strL_app (xs ys : List ByteArray) : strL (xs ++ ys) = strL xs ++ strL ys := List.map_append
set_option maxHeartbeats 2000000 in
theorem Replace_runs {ys vs ws : List ByteArray} {z : ByteArray} {g h c d : Nat} {rest : List Value} (hv : 2 ≤ vs.length) (hc : (ys ++ z :: ws).length + rest.length = c) (hcm : c ≤ maxLen) (hl : ys.length + vs.length + ws.length ≤ 1000) (I : IMem) (F : SH) :
    Runs Tryz.prog 133 #[.slice (some ⟨g, 0, none⟩) (ys ++ z :: ws).length c, .int .i64 (ys.length : Int), .int .i64 ((ys.length : Int) + 1), .slice (some ⟨h, 0, none⟩) vs.length d] I
      ((g, .cells (strL (ys ++ z :: ws) ++ rest).toArray 9 (0, 0)) :: (h, .cells (strL vs).toArray 9 (0, 0)) :: F) fun v _ T => ∃ own', OwnS v (ys ++ vs ++ ws) own' ∧ Sub (own' ++ F) T := by
  refine slices_Replace__string_string_fn _ _ _ _ _ _ _ _ _ _ _ ?_
  have hlen : (ys ++ z :: ws).length = ys.length + (ws.length + 1) := by rw [List.length_append, List.length_cons]
  have hYl := strL_len ys; have hVl := strL_len vs; have hWl := strL_len ws
  have hL : strL (ys ++ z :: ws) ++ rest = strL ys ++ (Value.string z :: (strL ws ++ rest)) := by rw [strL_app, List.append_assoc]; rfl
  have e1 : ((ys.length : Int) + 1).toNat = ys.length + 1 := by omega
  unfold slices_Replace__string_string slices_Replace__string_string_b1 slices_Replace__string_string_b2
  rw [hlen, hL]
  simp only [e1, Int.toNat_natCast, Nat.sub_zero, slA_zero]
  rw [hlen] at hc
  refine ⟨by omega, by omega, by omega, by omega, bcase_beq (fun e => by omega) (fun _ => bcase_beq (fun e => ?_) (fun e => ?_))⟩
  · -- the last one
    have hw0 : ws = [] := List.eq_nil_of_length_eq_zero (by omega)
    subst hw0
    refine ⟨by omega, by omega, AppSs (xs := ys) (ys := vs) (own := [(g, .cells (strL ys ++ (Value.string z :: (strL [] ++ rest))).toArray 9 (0, 0))]) (F := F) ((Sub.refl _).re (by intro a; simp only [cnt_cons, cnt_app, cnt_nil]; omega)) ?_ ?_ (by omega) ?_⟩
    · refine OwnS.mk ?_ hcm
      simp only [List.length_cons, List.length_append, strL_len, List.length_nil] at hc ⊢; omega
    · have := OwnS.row (I := I) (OwnS.mk (xs := vs) (g := h) (cap := vs.length) (rest := []) rfl (by simp only [maxLen]; omega))
      rw [List.append_nil] at this
      exact this.sub ((Sub.refl _).re (by intro a; simp only [cnt_cons, cnt_app, cnt_nil]; omega))
    · intro p n c' own' T ho hs
      have hn := ho.len
      rw [List.length_append] at hn
      unfold slices_Replace__string_string_b3
      refine bcase_f (decide_eq_false (by simp only [List.length_nil] at *; omega)) ⟨own', ?_, hs⟩
      rw [List.append_nil]; exact ho
  unfold slices_Replace__string_string_b4 slices_Replace__string_string_b5 slices_Replace__string_string_b6
  simp only [e1, Int.toNat_natCast, Nat.sub_zero, slA_zero]
  have hw1 : 0 < ws.length := by omega
  have wt : IntKind.wrap .i64 (IntKind.wrap .i64 (((ys.length : Nat) : Int) + (vs.length : Int)) + ((ys.length + (ws.length + 1) - (ys.length + 1) : Nat) : Int)) = ((ys.length + vs.length + ws.length : Nat) : Int) := by
    rw [wrap_i64 (x := ((ys.length : Nat) : Int) + (vs.length : Int)) (by omega) (by omega), wrap_i64 (by omega) (by omega)]; omega
  have wi : IntKind.wrap .i64 ((ys.length : Int) + (vs.length : Int)) = ((ys.length + vs.length : Nat) : Int) := by rw [wrap_i64 (by omega) (by omega)]; omega
  have wd : IntKind.wrap .i64 (((ys.length + vs.length + ws.length : Nat) : Int) - (ys.length : Int)) = ((vs.length + ws.length : Nat) : Int) := by rw [wrap_i64 (by omega) (by omega)]; omega
  rw [wt]
  refine ⟨by omega, by omega, by omega, by omega, bcase_dec (fun hg => ?_) (fun hg => ?_)⟩
  · -- no room: a new row
    rw [wd]
    refine ⟨by omega, by omega, ?_⟩
    refine ⟨_, [], _, some ⟨g, 0, none⟩, ys.length, c, vs.length + ws.length, strL ys, repV (vs.length + ws.length) [.string ⟨#[]⟩], List.Perm.refl _, List.Perm.refl _, rfl, ⟨.i64, rfl, rfl⟩, ?_, ?_, fun h => by omega, fun _ => ⟨?_, fun g' d' hd hdm => ?_⟩⟩
    · simp only [maxLen]; omega
    · omega
    · refine Rd.list (L := strL ys ++ (Value.string z :: (strL ws ++ rest))) ?_ ?_
      · rw [List.drop_zero, Nat.mul_one, take_at hYl]
      · rw [List.length_append, hYl]; omega
    have hZ : (repV (vs.length + ws.length) [Value.string ⟨#[]⟩] ++ repV (d' - (ys.length + (vs.length + ws.length))) [.string ⟨#[]⟩]).length = d' - ys.length := by
      rw [List.length_append, repV_length, repV_length]; simp only [List.length_singleton]; omega
    generalize hZe : repV (vs.length + ws.length) [Value.string ⟨#[]⟩] ++ repV (d' - (ys.length + (vs.length + ws.length))) [.string ⟨#[]⟩] = Z at hZ
    have hL1 : strL ys ++ repV (vs.length + ws.length) [Value.string ⟨#[]⟩] ++ repV (d' - (ys.length + (vs.length + ws.length))) [Value.string ⟨#[]⟩] = strL ys ++ Z := by rw [← hZe, List.append_assoc]
    rw [hL1]
    unfold slices_Replace__string_string_b7 slices_Replace__string_string_b8
    simp only [e1, Int.toNat_natCast, wi]
    refine ⟨by omega, by omega, ?_⟩
    rw [slAd (by omega)]
    have m1 : min vs.length (ys.length + (vs.length + ws.length) - ys.length) = vs.length := by omega
    refine ⟨strL vs, ?_, strL_one vs, .inr ⟨_, rfl, StP.list (L := strL ys ++ Z) ?_ (strL_one vs) ?_⟩⟩
    · rw [m1]
      exact Rd.keep (Sub.keep (IMem.le.refl I) ((Sub.refl _).re (by intro a; simp only [cnt_cons, cnt_app, cnt_nil]; omega))) (Rd.list (S := []) (e := 9) (fz := (0, 0)) (L := strL vs) (g := h) (o := 0) (by rw [List.drop_zero, Nat.mul_one, List.take_of_length_le (by rw [hVl]; exact Nat.le_refl _)]) (by rw [hVl]; omega))
    · rw [List.length_append, hYl, hZ, hVl]; omega
    rw [take_at hYl, ← List.drop_drop, drop_at hYl, hVl]
    refine ⟨by omega, by omega, by omega, by omega, ?_⟩
    rw [slAd (by omega), slAd (by omega)]
    have m2 : min (ys.length + (ws.length + 1) - (ys.length + 1)) (ys.length + (vs.length + ws.length) - (ys.length + vs.length)) = ws.length := by omega
    have hP : (strL ys ++ strL vs).length = ys.length + vs.length := by rw [List.length_append, hYl, hVl]
    refine ⟨strL ws, ?_, strL_one ws, .inr ⟨_, rfl, StP.list ?_ (strL_one ws) ?_⟩⟩
    · rw [m2]
      refine Rd.keep (Sub.keep (IMem.le.refl I) ((Sub.refl _).re (by intro a; simp only [cnt_cons, cnt_app, cnt_nil]; omega))) (Rd.list (S := []) (e := 9) (fz := (0, 0)) (L := strL ys ++ (Value.string z :: (strL ws ++ rest))) (g := g) (o := ys.length + 1) ?_ ?_)
      · rw [← List.drop_drop, drop_at hYl, List.drop_succ_cons, List.drop_zero, Nat.mul_one, take_at hWl]
      · simp only [List.length_append, List.length_cons, hYl, hWl]; omega
    · rw [List.length_append, hP, List.length_drop, hZ, hWl]; omega
    rw [take_at hP, ← List.drop_drop, drop_at hP, hWl]
    have hfin := OwnS.mk (xs := ys ++ vs ++ ws) (g := g') (cap := d') (rest := (Z.drop vs.length).drop ws.length) (by simp only [List.length_append, List.length_drop, hZ]; omega) hdm
    have hlen2 : (ys ++ vs ++ ws).length = ys.length + (vs.length + ws.length) := by simp only [List.length_append]; omega
    rw [hlen2] at hfin
    refine ⟨_, hfin, ?_⟩
    rw [strL_app, strL_app]
    exact (Sub.refl _).re (by intro a; simp only [cnt_cons, cnt_app, cnt_nil]; omega)
  · -- room: in place
    have hc1 : ys.length + vs.length + ws.length ≤ c := by omega
    unfold slices_Replace__string_string_b9 slices_Replace__string_string_b10 slices_Replace__string_string_b11 slices_Replace__string_string_b14
    simp only [e1, Int.toNat_natCast, Nat.sub_zero, slA_zero, wi]
    refine ⟨by omega, by omega, bcase_f (decide_eq_false (by omega)) ⟨by omega, by omega, ?_⟩⟩
    rw [slAd (by omega)]
    have hrest : rest.length = c - (ys.length + (ws.length + 1)) := by omega
    have m2 : min (ys.length + (ws.length + 1) - (ys.length + 1)) (ys.length + vs.length + ws.length - (ys.length + vs.length)) = ws.length := by omega
    have m1 : min vs.length (ys.length + vs.length + ws.length - ys.length) = vs.length := by omega
    have hlen2 : (ys ++ vs ++ ws).length = ys.length + vs.length + ws.length := by simp only [List.length_append]
    have hlen3 : (ys ++ vs ++ ws).length + (c - (ys.length + vs.length + ws.length)) = c := by rw [hlen2]; omega
    intro w hw
    have hgh : g ≠ h := by
      have := hw.nodup
      simp only [List.map_cons, List.nodup_cons, List.mem_cons, not_or] at this
      exact this.1.1
    obtain ⟨v, w', J, T, hr, hle, hs, rfl, rfl⟩ := ovlS_runs (I := I) (a := ⟨g, ys.length + vs.length, none⟩) (b := ⟨h, 0, none⟩) (la := ys.length + vs.length + ws.length - (ys.length + vs.length)) (ca := c - (ys.length + vs.length)) (lb := vs.length) (cb := d) hgh
      (csA := (strL ys ++ (Value.string z :: (strL ws ++ rest))).toArray) (csB := (strL vs).toArray) (eA := 9) (eB := 9) (S := (g, .cells (strL ys ++ (Value.string z :: (strL ws ++ rest))).toArray 9 (0, 0)) :: (h, .cells (strL vs).toArray 9 (0, 0)) :: F) (by simp) (by simp) (by rw [List.size_toArray, hVl]; omega) w hw
    refine ⟨_, w', J, _, hr, hle, hs, false, rfl, ?_⟩
    clear hr hs hw w'
    unfold slices_Replace__string_string_b15 slices_Replace__string_string_b16
    simp only [e1, Int.toNat_natCast, Nat.sub_zero, slA_zero, wi]
    refine bcase_t rfl ⟨by omega, by omega, by omega, by omega, ?_⟩
    rw [slAd (by omega), slAd (by omega)]
    refine ⟨strL ws, ?_, strL_one ws, .inr ⟨_, rfl, StP.list ?_ (strL_one ws) ?_⟩⟩
    · rw [m2]
      refine Rd.list ?_ ?_
      · rw [← List.drop_drop, drop_at hYl, List.drop_succ_cons, List.drop_zero, Nat.mul_one, take_at hWl]
      · simp only [List.length_append, List.length_cons, hYl, hWl]; omega
    · simp only [List.length_append, List.length_cons, hYl, hWl, hrest]; omega
    · rw [hWl]
      have hT : ((strL ys ++ (Value.string z :: (strL ws ++ rest))).take (ys.length + vs.length)).length = ys.length + vs.length := by
        rw [List.length_take]; simp only [List.length_append, List.length_cons, hYl, hWl, hrest]; omega
      have hT4 : ((strL ys ++ (Value.string z :: (strL ws ++ rest))).take (ys.length + vs.length)).take ys.length = strL ys := by
        rw [List.take_take, show min ys.length (ys.length + vs.length) = ys.length by omega, take_at hYl]
      generalize hTe : (strL ys ++ (Value.string z :: (strL ws ++ rest))).take (ys.length + vs.length) = Tk at hT hT4
      have hD : ((strL ys ++ (Value.string z :: (strL ws ++ rest))).drop (ys.length + vs.length + ws.length)).length = c - (ys.length + vs.length + ws.length) := by
        rw [List.length_drop]; simp only [List.length_append, List.length_cons, hYl, hWl, hrest]; omega
      generalize hDe : (strL ys ++ (Value.string z :: (strL ws ++ rest))).drop (ys.length + vs.length + ws.length) = D at hD
      refine ⟨by omega, by omega, ?_⟩
      rw [slAd (by omega)]
      refine ⟨strL vs, ?_, strL_one vs, .inr ⟨_, rfl, StP.list ?_ (strL_one vs) ?_⟩⟩
      · rw [m1]
        exact Rd.keep (Sub.keep hle ((Sub.refl _).re (by intro a; simp only [cnt_cons, cnt_app, cnt_nil]; omega))) (Rd.list (I := I) (S := []) (e := 9) (fz := (0, 0)) (L := strL vs) (g := h) (o := 0) (by rw [List.drop_zero, Nat.mul_one, List.take_of_length_le (by rw [hVl]; exact Nat.le_refl _)]) (by rw [hVl]; omega))
      · simp only [List.length_append, hT, hVl, hWl]; omega
      · have k1 : (Tk ++ strL ws ++ D).take ys.length = strL ys := by
          rw [List.append_assoc, List.take_append_of_le_length (by rw [hT]; omega), hT4]
        have k2 : (Tk ++ strL ws ++ D).drop (ys.length + (strL vs).length) = strL ws ++ D := by
          rw [List.append_assoc, hVl, drop_at hT]
        rw [k1, k2]
        have hfin := OwnS.mk (xs := ys ++ vs ++ ws) (g := g) (cap := c) (rest := D) (by rw [hD]; exact hlen3) hcm
        rw [hlen2] at hfin
        refine ⟨_, hfin, ?_⟩
        rw [strL_app, strL_app, List.append_assoc (strL ys ++ strL vs)]
        exact (Sub.refl _).re (by intro a; simp only [cnt_cons, cnt_app, cnt_nil]; omega)
end Go.Proofs.YtoiilcdaldnjfaaGreatDoor
/- Labels read as an address, and as a prefix: owner.address, owner.Address. -/
namespace Go.Proofs.YtoiilcdaldnjfaaGreatDoor
open Go.Px
set_option linter.unusedVariables false
set_option linter.unusedSimpArgs false
set_option maxRecDepth 8000

abbrev OwnB (v : Value) (bs : List UInt8) (own : SH) : Prop := OwnR 5 1 elB v bs own
theorem BytesAt.sub {I : IMem} {S T : SH} {p : Option Addr} {n : Nat} {s : ByteArray} (h : BytesAt I S p n s) (hs : Sub S T) : BytesAt I T p n s := by
  cases p with
  | none => exact h
  | some a => exact ⟨h.1, fun i c hc => hs.cell' (h.2 i c hc)⟩
theorem OwnB.bytes {I : IMem} {T own : SH} {p : Option Addr} {n c : Nat} {bs : List UInt8} (h : OwnB (.slice p n c) bs own) (hs : Sub own T) : BytesAt I T p n ⟨bs.toArray⟩ := by
  refine BytesAt.sub ?_ hs
  rcases h with ⟨hv, rfl, rfl⟩ | ⟨g, cap, rest, hv, rfl, _, _⟩
  · injection hv with h1 h2 h3; subst h1; rfl
  · injection hv with h1 h2 h3; subst h1
    rw [flat_elB]
    exact BytesAt.list h2
theorem AppBs {xs ys : List UInt8} {b : Nat} {v : Value} {S F own : SH} {I : IMem} {K : Option Addr → Nat → Nat → SH → Prop} (hs : Sub (own ++ F) S) (hv : OwnB v xs own) (hl : xs.length + ys.length ≤ 1000000000)
    (hK : ∀ p n c own' T, OwnB (.slice p n c) (xs ++ ys) own' → Sub (own' ++ F) T → K p n c T) :
    AppG 5 1 1 [.int .u8 0] (some (.slice 5)) I ((b, .cells (bytL ys).toArray 5 (0, 0)) :: S) v (.slice (some ⟨b, 0, none⟩) ys.length ys.length) K := by
  obtain ⟨G, hG⟩ := hs
  refine AppG.own (xs := xs) (ys := ys) (el := elB) (own := own) (F := (b, .cells (bytL ys).toArray 5 (0, 0)) :: (F ++ G)) (fun _ => rfl) (fun _ => rfl) rfl ((hG.cons _).trans (by rw [List.append_assoc]; exact perm_mid1)) hv ⟨?_, flatMap_one (el := elB) (fun _ => rfl) _⟩ ?_ ?_ ?_
  · rw [flat_elB]
    exact Rd.list (L := bytL ys) (o := 0) (by rw [List.drop_zero, Nat.mul_one, List.take_of_length_le (by rw [bytL_len]; exact Nat.le_refl _)]) (by rw [bytL_len, Nat.zero_add, Nat.mul_one]; exact Nat.le_refl _)
  · simp only [maxLen]; omega
  · omega
  · intro p n c own' ho
    exact hK p n c own' _ ho ⟨(b, .cells (bytL ys).toArray 5 (0, 0)) :: G, by rw [List.append_assoc]; exact List.Perm.append_left own' perm_mid1⟩
def u8o (v : Int) : UInt8 := UInt8.ofNat (IntKind.wrap .u8 v).toNat
theorem u8o_v (v : Int) : ((u8o v).toNat : Int) = IntKind.wrap .u8 v := by
  have h : 0 ≤ IntKind.wrap .u8 v ∧ IntKind.wrap .u8 v < 256 := by rw [wrap_u8_eq]; omega
  unfold u8o
  rw [ofNatU (by omega)]; omega
theorem u8o_eq {v : Int} {c : UInt8} (h : IntKind.wrap .u8 v = (c.toNat : Int)) : u8o v = c := by
  apply UInt8.toNat_inj.1
  have := u8o_v v
  omega
def adX (ls : List ByteArray) (P : ByteArray → Prop) : Prop := ∀ ad : ByteArray, ad.size = 4 ∨ ad.size = 16 → ls = addrL ad → P ad
def zB : ByteArray := ⟨#[48]⟩
def repl (rs : List ByteArray) : List ByteArray := match rs.findIdx? (fun x => decide (zzB = x)) with
  | some k => if rs.length ≤ 7 then rs.take k ++ List.replicate (9 - rs.length) zB ++ rs.drop (k + 1) else rs
  | none => rs
theorem dec_zz {m : Nat} (h : m ≤ 255) : decB m ≠ zzB := fun e => by
  have h1 : numL 3 10 m = [122, 122] := by
    have := congrArg (fun s : ByteArray => s.data.toList) e
    simpa [decB, zzB] using this
  have h2 := aF_dec ⟨m, by omega⟩
  dsimp only at h2
  rw [h1] at h2
  have h3 : aF [122, 122] 0 = none := by decide
  rw [h3] at h2; cases h2
theorem bat_le (a : ByteArray) (k : Nat) : bat a k ≤ 255 := by have := bat_lt a k; omega
theorem four_rev (a : ByteArray) : (fourL a).reverse = [decB (bat a 0), decB (bat a 1), decB (bat a 2), decB (bat a 3)] := rfl
theorem four_has (a : ByteArray) : hasS (fourL a).reverse zzB = false := by
  rw [four_rev, hasS]
  simp only [List.any_cons, List.any_nil, Bool.or_false, Bool.or_eq_false_iff, decide_eq_false_iff_not]
  exact ⟨fun e => dec_zz (bat_le a 0) e.symm, fun e => dec_zz (bat_le a 1) e.symm, fun e => dec_zz (bat_le a 2) e.symm, fun e => dec_zz (bat_le a 3) e.symm⟩
theorem fourR_at (a : ByteArray) {k : Nat} (h : k < 4) : (fourL a).reverse[k]? = some (decB (bat a k)) := by
  rw [four_rev]
  rcases k with _ | _ | _ | _ | k
  · rfl
  · rfl
  · rfl
  · rfl
  · omega
theorem ren_zz' {ws : List Nat} (h : Ws ws) : (fun x => decide (zzB = x)) ∘ ren ws = fun o => o.isNone := by
  funext o
  simp only [Function.comp]
  cases o with
  | none => simp [ren]
  | some k =>
    have : zzB ≠ ren ws (some k) := fun e => by have := (ren_zz h (some k)).1 e.symm; cases this
    simp [this]
theorem six_repl (a : ByteArray) : repl (sixL (wordsB a)).reverse = (wordsB a).map hexB := by
  have hws := wordsB_ws a
  have hg := good_of hws.zlen
  simp only [goodZ, Bool.and_eq_true, decide_eq_true_eq, Bool.or_eq_true] at hg
  obtain ⟨⟨⟨⟨⟨⟨⟨⟨⟨⟨⟨⟨⟨⟨-, -⟩, -⟩, -⟩, h7⟩, -⟩, -⟩, -⟩, -⟩, -⟩, -⟩, -⟩, -⟩, -⟩, -⟩ := hg
  rw [six_rev hws, ← six_exp hws, repl, expd, List.findIdx?_map, ren_zz' hws]
  cases hf : (fwd (zs (wordsB a))).findIdx? (fun o => o.isNone) with
  | none => rfl
  | some k =>
    have hlen : (fwd (zs (wordsB a))).length ≤ 7 := by
      rcases h7 with h | h
      · exact h
      · rw [List.findIdx?_eq_some_iff_getElem] at hf
        obtain ⟨h1, h2, _⟩ := hf
        have : (fwd (zs (wordsB a))).any (fun x => x.isNone) = true := by rw [List.any_eq_true]; exact ⟨_, List.getElem_mem h1, h2⟩
        rw [this] at h; simp at h
    have h8 : ren (wordsB a) (some 8) = zB := by
      have : (wordsB a).getD 8 0 = 0 := by
        rw [List.getD_eq_getElem?_getD, List.getElem?_eq_none (by rw [hws.len]; exact Nat.le_refl _)]; rfl
      rw [ren, this]; rfl
    dsimp only
    rw [List.length_map, if_pos hlen, List.map_append, List.map_append, List.map_take, List.map_drop, List.map_replicate, h8, List.append_assoc]
theorem six_has (a : ByteArray) (h4 : (sixL (wordsB a)).reverse.length = 4) : hasS (sixL (wordsB a)).reverse zzB = true := by
  have hws := wordsB_ws a
  have hg := good_of hws.zlen
  simp only [goodZ, Bool.and_eq_true, decide_eq_true_eq, Bool.or_eq_true] at hg
  obtain ⟨⟨⟨⟨⟨⟨⟨⟨⟨⟨⟨⟨⟨⟨-, -⟩, -⟩, ha⟩, -⟩, -⟩, -⟩, -⟩, -⟩, -⟩, -⟩, -⟩, -⟩, -⟩, -⟩ := hg
  rw [six_rev hws] at h4 ⊢
  rw [List.length_map] at h4
  rcases ha with h | h
  · exact absurd h4 h
  · rw [hasS, List.any_map, ren_zz' hws]; exact h
def adRes (ls : List ByteArray) (S : SH) (v : Value) (T : SH) : Prop := ∃ (s : ByteArray) (b : Bool), v = .tuple #[.string s, .bool b] ∧ adX ls (fun ad => s = ad ∧ b = true) ∧ Sub S T
theorem adRes.no {ls : List ByteArray} {S T : SH} (h : adX ls (fun _ => False)) (hs : Sub S T) : adRes ls S (.tuple #[.string ⟨#[]⟩, .bool false]) T :=
  ⟨_, _, rfl, fun ad h1 h2 => (h ad h1 h2).elim, hs⟩
theorem ba_of (a : ByteArray) : (⟨a.data.toList.toArray⟩ : ByteArray) = a := bext rfl
theorem decs_runs {ls us : List ByteArray} {p : Option Addr} {c : Nat} {I : IMem} (g : GL I) {S T0 : SH} (hS : Sub S T0) (hu : RowIn I S p us.length 1 elS us) (h4 : us.length = 4) (hsz : ∀ l ∈ us, l.size ≤ 281474976710656) {F : SH} (hF : Sub F S)
    (hX : adX ls fun ad => ad.size = 4 ∧ ∀ k, k < 4 → us[k]? = some (decB (bat ad k))) :
    owner_address_b3 (fun v _ T => adRes ls F v T) none 0 0 p us.length c (us.length : Int) 0 I T0 := by
  unfold owner_address_b3
  refine ⟨fun m o on oc x xn xc q i J T => x = p ∧ xn = us.length ∧ q = (us.length : Int) ∧ I.le J ∧ ∃ (k : Nat) (bs : List UInt8) (own : SH), i = (k : Int) ∧ k ≤ us.length ∧ m = us.length - k ∧ bs.length = k ∧ OwnB (.slice o on oc) bs own ∧ Sub (own ++ S) T ∧ adX ls (fun ad => bs = ad.data.toList.take k),
    us.length, ⟨rfl, rfl, rfl, IMem.le.refl I, 0, [], [], rfl, Nat.zero_le _, rfl, rfl, OwnR.nil, hS, fun ad _ _ => rfl⟩, ?_⟩
  rintro m o on oc x xn xc q i J T - ⟨rfl, rfl, rfl, hle, k, bs, own, rfl, hk, rfl, hbl, ho, hs, hB⟩
  unfold owner_address_l4
  refine bcase_dec (fun h => ?_) (fun h => ?_)
  · obtain ⟨u, huk⟩ := get_lt (xs := us) (k := k) (by omega)
    obtain ⟨a', rfl, hc⟩ := strRow ((hu.sub hs.right).le hle) huk
    refine ⟨by omega, by omega, u, hc, (dec_runs (g.le hle) u (hsz u (List.mem_of_getElem? huk)) 255 (Nat.le_refl _) T).mono ?_⟩
    rintro v J1 T1 hle1 ⟨n, b, rfl, hx, hs1⟩
    refine ⟨n, b, rfl, bcase_not (bcase_of (fun hb => ?_) (fun hb => adRes.no (fun ad h1 h2 => ?_) ((hF.trans hs.right).trans hs1)))⟩
    · intro b43
      have := AppBs (b := b43) (I := J1) (xs := bs) (ys := [u8o n]) (F := S) (hs.trans hs1) ho (by simp; omega) (K := fun x44 x44n x44c S1' => ∃ m', m' < us.length - k ∧ (some a' = some a' ∧ us.length = us.length ∧ (us.length : Int) = (us.length : Int) ∧ I.le J1 ∧ ∃ (k' : Nat) (bs : List UInt8) (own : SH), IntKind.wrap .i64 ((k : Int) + 1) = (k' : Int) ∧ k' ≤ us.length ∧ m' = us.length - k' ∧ bs.length = k' ∧ OwnB (.slice x44 x44n x44c) bs own ∧ Sub (own ++ S) S1' ∧ adX ls (fun ad => bs = ad.data.toList.take k'))) ?_
      · rw [show bytL [u8o n] = [.int .u8 (IntKind.wrap .u8 n)] by rw [bytL, List.map_singleton, u8o_v]] at this
        exact this
      · intro p n' c' own' T' ho' hs'
        refine ⟨us.length - (k + 1), by omega, rfl, rfl, rfl, hle.trans hle1, k + 1, bs ++ [u8o n], own', by rw [wrap_i64 (by omega) (by omega)]; rfl, by omega, rfl, by simp; omega, ho', hs', fun ad h1 h2 => ?_⟩
        obtain ⟨h3, h5⟩ := hX ad h1 h2
        have h6 := h5 k (by omega)
        rw [huk] at h6
        obtain ⟨h7, _⟩ := hx (bat ad k) (bat_le ad k) (Option.some.inj h6)
        obtain ⟨d, hd⟩ := at_ok (s := ad) (k := k) (by omega)
        have hd2 : ad.data.toList[k]? = some d := by rw [← ba_get]; exact hd
        rw [hB ad h1 h2, take_snoc hd2]
        congr 2
        apply u8o_eq
        have := d.toNat_lt
        rw [h7, bat_of hd, wrap_u8 (by omega) (by omega)]
    · obtain ⟨h3, h5⟩ := hX ad h1 h2
      have h6 := h5 k (by omega)
      rw [huk] at h6
      obtain ⟨_, h7⟩ := hx (bat ad k) (bat_le ad k) (Option.some.inj h6)
      rw [h7] at hb; cases hb
  · unfold owner_address_b5
    refine ⟨_, ho.bytes hs.left, _, _, rfl, fun ad h1 h2 => ⟨?_, rfl⟩, hF.trans hs.right⟩
    have hk4 : k = 4 := by omega
    have h3 := (hX ad h1 h2).1
    rw [hB ad h1 h2, hk4, List.take_of_length_le (by rw [Array.length_toList]; have : ad.data.size = ad.size := rfl; omega), ba_of]
theorem hexs_runs {ls us : List ByteArray} {p : Option Addr} {c : Nat} {I : IMem} (g : GL I) {S T0 : SH} (hS : Sub S T0) (hu : RowIn I S p us.length 1 elS us) (h8 : us.length = 8) (hsz : ∀ l ∈ us, l.size ≤ 281474976710656) {F : SH} (hF : Sub F S)
    (hX : adX ls fun ad => ad.size = 16 ∧ us = (wordsB ad).map hexB) :
    owner_address_b10 (fun v _ T => adRes ls F v T) none 0 0 p us.length c (us.length : Int) 0 I T0 := by
  unfold owner_address_b10
  refine ⟨fun m o on oc x xn xc q i J T => x = p ∧ xn = us.length ∧ q = (us.length : Int) ∧ I.le J ∧ ∃ (k : Nat) (bs : List UInt8) (own : SH), i = (k : Int) ∧ k ≤ us.length ∧ m = us.length - k ∧ bs.length = 2 * k ∧ OwnB (.slice o on oc) bs own ∧ Sub (own ++ S) T ∧ adX ls (fun ad => bs = ad.data.toList.take (2 * k)),
    us.length, ⟨rfl, rfl, rfl, IMem.le.refl I, 0, [], [], rfl, Nat.zero_le _, rfl, rfl, OwnR.nil, hS, fun ad _ _ => rfl⟩, ?_⟩
  rintro m o on oc x xn xc q i J T - ⟨rfl, rfl, rfl, hle, k, bs, own, rfl, hk, rfl, hbl, ho, hs, hB⟩
  have hFT : Sub F T := hF.trans hs.right
  unfold owner_address_l11
  have hXk : ∀ u, us[k]? = some u → k < 8 → adX ls (fun ad => ad.size = 16 ∧ u = hexB (bat ad (2 * k) * 256 + bat ad (2 * k + 1))) := by
    intro u huk hk8 ad h1 h2
    obtain ⟨h3, h4⟩ := hX ad h1 h2
    rw [h4, List.getElem?_map, wordsB_at ad hk8] at huk
    exact ⟨h3, (Option.some.inj huk).symm⟩
  refine bcase_dec (fun h => ?_) (fun h => ?_)
  · obtain ⟨u, huk⟩ := get_lt (xs := us) (k := k) (by omega)
    obtain ⟨a', rfl, hc⟩ := strRow ((hu.sub hs.right).le hle) huk
    have hXu := hXk u huk (by omega)
    refine ⟨by omega, by omega, u, hc, (hex_runs (g.le hle) u (hsz u (List.mem_of_getElem? huk)) T).mono ?_⟩
    rintro v J1 T1 hle1 ⟨n, b, rfl, hx, hs1⟩
    refine ⟨n, b, rfl, bcase_not (bcase_of (fun hb => ?_) (fun hb => adRes.no (fun ad h1 h2 => ?_) (hFT.trans hs1)))⟩
    · intro b90
      have := AppBs (b := b90) (I := J1) (xs := bs) (ys := [u8o (n.fdiv (2 ^ (min (8 : Int).toNat (IntKind.bits .i64)))), u8o n]) (F := S) (hs.trans hs1) ho (by simp; omega) (K := fun x44 x44n x44c S1' => ∃ m', m' < us.length - k ∧ (some a' = some a' ∧ us.length = us.length ∧ (us.length : Int) = (us.length : Int) ∧ I.le J1 ∧ ∃ (k' : Nat) (bs : List UInt8) (own : SH), IntKind.wrap .i64 ((k : Int) + 1) = (k' : Int) ∧ k' ≤ us.length ∧ m' = us.length - k' ∧ bs.length = 2 * k' ∧ OwnB (.slice x44 x44n x44c) bs own ∧ Sub (own ++ S) S1' ∧ adX ls (fun ad => bs = ad.data.toList.take (2 * k')))) ?_
      · rw [show bytL [u8o (n.fdiv (2 ^ (min (8 : Int).toNat (IntKind.bits .i64)))), u8o n] = [.int .u8 (IntKind.wrap .u8 (n.fdiv (2 ^ (min (8 : Int).toNat (IntKind.bits .i64))))), .int .u8 (IntKind.wrap .u8 n)] by rw [bytL, List.map_cons, List.map_singleton, u8o_v, u8o_v]] at this
        exact this
      · intro p n' c' own' T' ho' hs'
        refine ⟨us.length - (k + 1), by omega, rfl, rfl, rfl, hle.trans hle1, k + 1, bs ++ [u8o (n.fdiv (2 ^ (min (8 : Int).toNat (IntKind.bits .i64)))), u8o n], own', by rw [wrap_i64 (by omega) (by omega)]; rfl, by omega, rfl, by simp; omega, ho', hs', fun ad h1 h2 => ?_⟩
        obtain ⟨h3, h5⟩ := hXu ad h1 h2
        have hb1 := bat_lt ad (2 * k); have hb2 := bat_lt ad (2 * k + 1)
        obtain ⟨h7, _⟩ := hx _ (by omega) h5
        obtain ⟨d, hd⟩ := at_ok (s := ad) (k := 2 * k) (by omega)
        obtain ⟨e, he⟩ := at_ok (s := ad) (k := 2 * k + 1) (by omega)
        have hd2 : ad.data.toList[2 * k]? = some d := by rw [← ba_get]; exact hd
        have he2 : ad.data.toList[2 * k + 1]? = some e := by rw [← ba_get]; exact he
        rw [bat_of hd, bat_of he] at h7
        have hdl := d.toNat_lt; have hel := e.toNat_lt
        have e1 : u8o (n.fdiv (2 ^ (min (8 : Int).toNat (IntKind.bits .i64)))) = d := by
          apply u8o_eq
          have : (2 : Int) ^ (min (8 : Int).toNat (IntKind.bits .i64)) = 256 := by decide
          rw [this, h7, Int.fdiv_eq_ediv_of_nonneg _ (by decide), wrap_u8_eq]; omega
        have e2 : u8o n = e := by
          apply u8o_eq
          rw [h7, wrap_u8_eq]; omega
        rw [hB ad h1 h2, e1, e2, show 2 * (k + 1) = (2 * k + 1) + 1 by omega, take_snoc he2, take_snoc hd2, List.append_assoc]; rfl
    · obtain ⟨h3, h5⟩ := hXu ad h1 h2
      have hb1 := bat_lt ad (2 * k); have hb2 := bat_lt ad (2 * k + 1)
      obtain ⟨_, h7⟩ := hx _ (by omega) h5
      rw [h7] at hb; cases hb
  · unfold owner_address_b12
    refine ⟨_, ho.bytes hs.left, _, _, rfl, fun ad h1 h2 => ⟨?_, rfl⟩, hFT⟩
    have hk4 : k = 8 := by omega
    have h3 := (hX ad h1 h2).1
    rw [hB ad h1 h2, hk4, List.take_of_length_le (by rw [Array.length_toList]; have : ad.data.size = ad.size := rfl; omega), ba_of]
end Go.Proofs.YtoiilcdaldnjfaaGreatDoor
/- owner.address and owner.Address, of all lists of words. -/
namespace Go.Proofs.YtoiilcdaldnjfaaGreatDoor
open Go.Px
set_option linter.unusedVariables false
set_option linter.unusedSimpArgs false
set_option maxRecDepth 8000

theorem addr_rev4 {ad : ByteArray} (h : ad.size = 4) : (addrL ad).reverse = (fourL ad).reverse := by rw [addrL, if_pos h]
theorem addr_rev16 {ad : ByteArray} (h : ad.size = 16) : (addrL ad).reverse = (sixL (wordsB ad)).reverse := by rw [addrL, if_neg (by omega)]
theorem six_b8 {ls us : List ByteArray} {p : Option Addr} {c : Nat} {I : IMem} (g : GL I) {S T0 : SH} (hS : Sub S T0) (hu : RowIn I S p us.length 1 elS us) (hsz : ∀ l ∈ us, l.size ≤ 281474976710656) {F : SH} (hF : Sub F S)
    (hX : adX ls fun ad => ad.size = 16 ∧ us = (wordsB ad).map hexB) :
    owner_address_b8 (fun v _ T => adRes ls F v T) p us.length c none 0 0 I T0 := by
  unfold owner_address_b8 owner_address_b9
  refine bcase_bne (fun h => adRes.no (fun ad h1 h2 => ?_) (hF.trans hS)) (fun h => hexs_runs g hS hu (by omega) hsz hF hX)
  have h3 := congrArg List.length (hX ad h1 h2).2
  rw [List.length_map, (wordsB_ws ad).len] at h3
  omega
theorem address_runs {ls : List ByteArray} {a : Option Addr} {c : Nat} {I : IMem} (g : GL I) {S : SH} (hx : RowIn I S a ls.length 1 elS ls) (hl : ls.length * 16 ≤ 140737488355328) (hsz : ∀ l ∈ ls, l.size ≤ 281474976710656) :
    Runs Tryz.prog 114 #[.slice a ls.length c] I S fun v _ T => adRes ls S v T := by
  refine owner_address_fn _ _ _ _ _ _ ?_
  unfold owner_address
  refine (ClS_runs hx hl).mono ?_
  rintro v J T hle ⟨own, ho, hs⟩
  obtain ⟨p, d, rfl⟩ := ho.slice
  refine ⟨_, _, _, rfl, Runs.use hs (RevO_runs ho (by omega) J S) ?_⟩
  rintro v J1 T1 hle1 ⟨rfl, own1, ho1, rfl⟩
  refine ⟨rfl, ?_⟩
  have hlen : ls.reverse.length = ls.length := List.length_reverse
  have hsz' : ∀ l ∈ ls.reverse, l.size ≤ 281474976710656 := fun l h => hsz l (List.mem_reverse.1 h)
  have g1 := (g.le hle).le hle1
  rw [← hlen] at ho1
  rw [← hlen]
  generalize hrs : ls.reverse = rs at ho1 hsz' hlen
  have hrow : ∀ {K : IMem} {T : SH}, Sub (own1 ++ S) T → RowIn K T p rs.length 1 elS rs := fun hs => (OwnS.row ho1).sub hs.left
  have isix : adX ls (fun ad => ad.size = 16) → adX ls (fun ad => ad.size = 16 ∧ repl rs = (wordsB ad).map hexB) := by
    intro h ad h1 h2
    have h3 := h ad h1 h2
    refine ⟨h3, ?_⟩
    rw [← hrs, h2, addr_rev16 h3, six_repl]
  have six : ∀ (J : IMem) (T : SH), GL J → Sub (own1 ++ S) T → adX ls (fun ad => ad.size = 16) → owner_address_b6 (fun v _ T => adRes ls S v T) p rs.length d none 0 0 J T := by
    intro J T g hs hX
    unfold owner_address_b6
    refine (Index_runs zzB (hrow hs) (by omega)).mono ?_
    rintro v J1 T1 hle1 ⟨rfl, rfl⟩
    have hr0 := isix hX
    rw [idxS]
    have plain : repl rs = rs → owner_address_b8 (fun v _ T => adRes ls S v T) p rs.length d none 0 0 J1 T1 := by
      intro e
      refine six_b8 (S := own1 ++ S) (g.le hle1) hs (hrow (Sub.refl _)) hsz' (Sub.right (Sub.refl _)) ?_
      rw [← e]; exact hr0
    cases hi : rs.findIdx? (fun x => decide (zzB = x)) with
    | none =>
      unfold owner_address_b7
      exact ⟨_, rfl, bcase_f rfl (bcase_f rfl (plain (by rw [repl, hi])))⟩
    | some k =>
      have hi' := hi
      rw [List.findIdx?_eq_some_iff_getElem] at hi
      obtain ⟨hk, hzk, _⟩ := hi
      refine ⟨_, rfl, bcase_t (decide_eq_true (by dsimp only; omega)) ?_⟩
      dsimp only
      unfold owner_address_b7
      refine bcase_dec (fun h7 => ?_) (fun h7 => plain (by rw [repl, hi']; dsimp only; rw [if_neg (by omega)]))
      intro b57
      have hcnt : IntKind.wrap .i64 (9 - (rs.length : Int)) = ((9 - rs.length : Nat) : Int) := by rw [wrap_i64 (by omega) (by omega)]; omega
      rw [hcnt]
      have hz1 : RowIn J1 ((b57, .cells #[.string zB] 9 (0, 0)) :: T1) (some ⟨b57, 0, none⟩) 1 1 elS [zB] :=
        (OwnS.row (I := J1) (OwnS.mk (xs := [zB]) (g := b57) (cap := 1) (rest := []) rfl (by decide))).sub ((Sub.refl _).re (by intro a; simp only [cnt_cons, cnt_app, cnt_nil]; exact Nat.le_add_right _ _))
      refine (Repeat_runs (cnt := 9 - rs.length) (by omega) (by omega) hz1).mono ?_
      rintro v J2 T2 hle2 ⟨h, rfl, rfl⟩
      have hk1 : IntKind.wrap .i64 ((k : Int) + 1) = (k : Int) + 1 := wrap_i64 (by omega) (by omega)
      rw [hk1]
      rcases OwnS.cases ho1 with ⟨_, _, _, hnil, _⟩ | ⟨gb, rest, rfl, _, rfl, hcap, hcm⟩
      · rw [hnil] at hk; simp at hk
      have hsplit : rs = rs.take k ++ zzB :: rs.drop (k + 1) := by
        conv => lhs; rw [← List.take_append_drop k rs, List.drop_eq_getElem_cons hk]
        rw [← of_decide_eq_true hzk]
      have hyl : (rs.take k).length = k := by rw [List.length_take]; omega
      have hrep := Replace_runs (ys := rs.take k) (vs := List.replicate (9 - rs.length) zB) (ws := rs.drop (k + 1)) (z := zzB) (g := gb) (h := h) (c := d) (d := 9 - rs.length) (rest := rest)
        (by simp; omega) (by rw [← hsplit]; exact hcap) hcm (by rw [hyl]; simp; omega) J2 S
      rw [← hsplit, hyl, List.length_replicate] at hrep
      refine ⟨_, _, _, rfl, Runs.use ?_ hrep ?_⟩
      · have hst : Sub ([(gb, .cells (strL rs ++ rest).toArray 9 (0, 0))] ++ S) T1 := hs
        exact ((hst.skip (b57, .cells #[.string zB] 9 (0, 0))).cons (h, .cells (strL (List.replicate (9 - rs.length) zB)).toArray 9 (0, 0))).re (by intro a; simp only [cnt_cons, cnt_app, cnt_nil]; omega)
      · rintro v J3 T3 hle3 ⟨own3, ho3, hs3⟩
        obtain ⟨p3, c3, rfl⟩ := ho3.slice
        refine ⟨_, _, _, rfl, ?_⟩
        have e : repl rs = rs.take k ++ List.replicate (9 - rs.length) zB ++ rs.drop (k + 1) := by
          rw [repl, hi']; dsimp only; rw [if_pos (by omega)]
        rw [← e] at ho3 ⊢
        refine six_b8 (S := own3 ++ S) (((g.le hle1).le hle2).le hle3) hs3 ((OwnS.row ho3).sub (Sub.left (Sub.refl _))) ?_ (Sub.right (Sub.refl _)) hr0
        intro l hl
        rw [e] at hl
        rcases List.mem_append.1 hl with hl | hl
        · rcases List.mem_append.1 hl with hl | hl
          · exact hsz' l (List.mem_of_mem_take hl)
          · rw [(List.mem_replicate.1 hl).2]; decide
        · exact hsz' l (List.mem_of_mem_drop hl)
  unfold owner_address_b1
  refine bcase_beq (fun h4 => ?_) (fun h4 => ?_)
  · refine (Contains_runs zzB (hrow (Sub.refl _)) (by omega)).mono ?_
    rintro v J2 T2 hle2 ⟨rfl, rfl⟩
    refine ⟨_, rfl, ?_⟩
    unfold owner_address_b2
    refine bcase_not (bcase_of (fun hz => ?_) (fun hz => ?_))
    · refine six _ _ (g1.le hle2) (Sub.refl _) (fun ad h1 h2 => ?_)
      rcases h1 with h1 | h1
      · rw [← hrs, h2, addr_rev4 h1, four_has] at hz; cases hz
      · exact h1
    · refine decs_runs (S := own1 ++ S) (g1.le hle2) (Sub.refl _) (hrow (Sub.refl _)) (by omega) hsz' (Sub.right (Sub.refl _)) (fun ad h1 h2 => ?_)
      rcases h1 with h1 | h1
      · refine ⟨h1, fun k hk => ?_⟩
        rw [← hrs, h2, addr_rev4 h1]; exact fourR_at ad hk
      · have h5 := six_has ad
        rw [← addr_rev16 h1, ← h2, hrs] at h5
        rw [h5 (by omega)] at hz; cases hz
  · unfold owner_address_b2
    refine bcase_f rfl (six _ _ g1 (Sub.refl _) (fun ad h1 h2 => ?_))
    rcases h1 with h1 | h1
    · have := congrArg List.length hrs
      rw [h2, addr_rev4 h1] at this
      rw [four_rev] at this
      simp at this; omega
    · exact h1

/-! ### Address -/
def AdR (ls : List ByteArray) (v : Value) : Prop :=
  (∃ (a : ByteArray) (n : Int), mayP a n ∧ ls = pfxL a n ∧ v = .tuple #[.agg #[.string a, .int .i64 n], .bool true]) ∨ ((∀ a n, mayP a n → ls ≠ pfxL a n) ∧ v = .tuple #[.agg #[.string ⟨#[]⟩, .int .i64 0], .bool false])
theorem pfxL_may {a : ByteArray} {n : Int} (h : mayP a n) : pfxL a n = decB n.toNat :: addrL a := by rw [pfxL, if_pos (mayB_iff.2 h)]
theorem addrL_len (a : ByteArray) : 1 ≤ (addrL a).length := by
  rw [addrL]
  split
  · simp [fourL]
  · have hws := wordsB_ws a
    have hg := good_of hws.zlen
    simp only [goodZ, Bool.and_eq_true, decide_eq_true_eq] at hg
    obtain ⟨⟨⟨⟨⟨⟨⟨⟨⟨⟨⟨⟨⟨⟨-, -⟩, -⟩, -⟩, -⟩, -⟩, h1⟩, -⟩, -⟩, -⟩, -⟩, -⟩, -⟩, -⟩, -⟩ := hg
    have := congrArg List.length (six_rev hws)
    rw [List.length_reverse, List.length_map] at this
    omega
theorem Address_runs {ls : List ByteArray} {a : Option Addr} {c : Nat} {I : IMem} (g : GL I) {S : SH} (hx : RowIn I S a ls.length 1 elS ls) (hl : ls.length * 16 ≤ 140737488355328) (hlc : ls.length ≤ c) (hsz : ∀ l ∈ ls, l.size ≤ 281474976710656) :
    Runs Tryz.prog 88 #[.slice a ls.length c] I S fun v _ T => AdR ls v ∧ Sub S T := by
  refine owner_Address_fn _ _ _ _ _ _ ?_
  unfold owner_Address
  intro b2
  refine bcase_dec (fun h => ?_) (fun h => ?_)
  · refine StP.at0 (by decide) rfl ⟨_, Cell.at0 rfl, _, Cell.at0 rfl, .inr ⟨fun a n hm e => ?_, rfl⟩, (Sub.refl _).skip _⟩
    have h1 := congrArg List.length e
    have h2 := addrL_len a
    rw [pfxL_may hm, List.length_cons] at h1
    omega
  · obtain ⟨l0, hl0⟩ := get_lt (xs := ls) (k := 0) (by omega)
    obtain ⟨a', rfl, hc⟩ := strRow (hx.sub ((Sub.refl S).skip (b2, .cells #[.string ⟨#[]⟩, .int .i64 0] 42 (0, 0)))) hl0
    obtain ⟨l1, lr, rfl⟩ : ∃ l1 lr, ls = l1 :: lr := by
      cases ls with
      | nil => simp at hl0
      | cons x xs => exact ⟨x, xs, rfl⟩
    have e0 : l1 = l0 := Option.some.inj hl0
    subst e0
    refine ⟨by omega, by rw [List.length_cons]; omega, l1, hc, (dec_runs g l1 (hsz l1 (List.mem_cons_self ..)) 128 (by decide) _).mono ?_⟩
    rintro v J T hle ⟨n, ok, rfl, hn, hs⟩
    refine ⟨n, ok, rfl, by omega, by rw [List.length_cons]; omega, ?_⟩
    have e1 : (1 : Int).toNat = 1 := rfl
    rw [e1]
    have hrow2 := (hx.drop (j := 1) (by rw [List.length_cons]; omega) hlc)
    rw [List.drop_succ_cons, List.drop_zero, List.length_cons, Nat.add_sub_cancel] at hrow2
    rw [List.length_cons, Nat.add_sub_cancel]
    rw [List.length_cons] at hl hlc
    have hST : Sub S T := hs.drop
    refine (address_runs (g.le hle) ((hrow2.sub hST).le hle) (by omega) (fun l h => hsz l (List.mem_cons_of_mem _ h))).mono ?_
    rintro v J1 T1 hle1 ⟨s, is, rfl, hX, hs1⟩
    have hs2 : Sub ((b2, .cells #[.string ⟨#[]⟩, .int .i64 0] 42 (0, 0)) :: S) T1 := hs.trans hs1
    refine ⟨s, is, rfl, fun b8 => StP.at0 (Nat.le_refl 2) rfl ?_⟩
    have key : ∀ a m, mayP a m → l1 :: lr = pfxL a m → n = m ∧ ok = true ∧ s = a ∧ is = true := by
      intro a m hm e
      rw [pfxL_may hm] at e
      injection e with e2 e3
      obtain ⟨⟨h1, h2, h3⟩, _⟩ := hm
      obtain ⟨h4, h5⟩ := hn m.toNat (by omega) e2
      obtain ⟨h6, h7⟩ := hX a h1 e3
      exact ⟨by omega, h5, h6, h7⟩
    have no : (∀ a m, mayP a m → l1 :: lr ≠ pfxL a m) → ∀ (J2 : IMem) (T2 : SH), Sub ((b8, .cells #[.string s, .int .i64 n] 42 (0, 0)) :: (b2, .cells #[.string ⟨#[]⟩, .int .i64 0] 42 (0, 0)) :: S) T2 →
        owner_Address_b2 (fun v _ T => AdR (l1 :: lr) v ∧ Sub S T) ⟨b2, 0, none⟩ ⟨b8, 0, none⟩ true J2 T2 := by
      intro hno J2 T2 hs3
      unfold owner_Address_b2
      refine bcase_t rfl (StP.of_sub (hs3.drop) (StP.at0 (by decide) rfl ?_))
      intro T3 hs4
      exact ⟨_, hs4.cell' (Cell.at0 rfl), _, hs4.cell' (by rw [add_mk]; exact Cell.at0 rfl), .inr ⟨hno, rfl⟩, hs4.drop⟩
    have hs5 : Sub ((b8, .cells #[.string s, .int .i64 n] 42 (0, 0)) :: (b2, .cells #[.string ⟨#[]⟩, .int .i64 0] 42 (0, 0)) :: S) ((b8, .cells #[.string s, .int .i64 n] 42 (0, 0)) :: T1) := hs2.cons _
    unfold owner_Address_b1
    refine bcase_not (bcase_of (fun hok => bcase_not (bcase_of (fun his => ?_) (fun his => no (fun a m hm e => ?_) J1 _ hs5))) (fun hok => no (fun a m hm e => ?_) J1 _ hs5))
    · refine ⟨_, Cell.at0 rfl, _, Cell.at0 rfl, (Prefix_runs ((g.le hle).le hle1) s n _).mono ?_⟩
      rintro v J2 T2 hle2 ⟨own, ho, hs6⟩
      obtain ⟨p, d, rfl⟩ := ho.slice
      have hST2 : Sub ((b8, .cells #[.string s, .int .i64 n] 42 (0, 0)) :: (b2, .cells #[.string ⟨#[]⟩, .int .i64 0] 42 (0, 0)) :: S) T2 := hs5.trans hs6.right
      have hrow3 : RowIn J2 T2 (some a') (l1 :: lr).length 1 elS (l1 :: lr) := (((hx.le hle).le hle1).le hle2).sub (hST2.drop.drop)
      have hlp : (pfxL s n).length ≤ 4611686018427387904 := by
        rw [pfxL]
        split
        · rw [List.length_cons, addrL]
          split
          · simp [fourL]
          · have := sixL_len s; omega
        · simp
      refine ⟨_, _, _, rfl, (Equal_runs ((OwnS.row ho).sub hs6.left) hrow3 hlp).mono ?_⟩
      rintro v J3 T3 hle3 ⟨rfl, rfl⟩
      refine ⟨_, rfl, ?_⟩
      by_cases he : pfxL s n = l1 :: lr
      · rw [decide_eq_true he]
        have hm : mayP s n := by
          refine mayB_iff.1 ?_
          cases hb : mayB s n
          · rw [pfxL, hb] at he; simp at he
          · rfl
        unfold owner_Address_b2 owner_Address_b3
        refine bcase_f rfl ⟨_, hST2.cell' (Cell.at0 rfl), _, hST2.cell' (by rw [add_mk]; exact Cell.at0 rfl), ?_⟩
        refine StP.of_sub (hST2.drop) (StP.at0 (Nat.le_refl 2) rfl ?_)
        intro T4 hs7
        exact ⟨_, hs7.cell' (Cell.at0 rfl), _, hs7.cell' (by rw [add_mk]; exact Cell.at0 rfl), .inl ⟨s, n, hm, he.symm, rfl⟩, hs7.drop⟩
      · rw [decide_eq_false he]
        refine no (fun a m hm e => he ?_) J3 T3 hST2
        obtain ⟨k1, _, k2, _⟩ := key a m hm e
        rw [k1, k2]; exact e.symm
    · obtain ⟨_, _, _, k⟩ := key a m hm e
      rw [k] at his; cases his
    · obtain ⟨_, k, _, _⟩ := key a m hm e
      rw [k] at hok; cases hok
end Go.Proofs.YtoiilcdaldnjfaaGreatDoor
/- Names as triggers: owner.kinds, owner.named, owner.Decode. -/
namespace Go.Proofs.YtoiilcdaldnjfaaGreatDoor
open Go.Px
set_option linter.unusedVariables false
set_option linter.unusedSimpArgs false
set_option maxRecDepth 8000

/-! ### a prefix by its labels -/
theorem addr_inj {a b : ByteArray} (ha : a.size = 4 ∨ a.size = 16) (hb : b.size = 4 ∨ b.size = 16) (h : addrL a = addrL b) : a = b := by
  have key : ∀ x y : ByteArray, x.size = y.size → (∀ k, k < x.size → bat x k = bat y k) → x = y := by
    intro x y hs hk
    refine bext (List.ext_getElem? fun i => ?_)
    rw [← ba_get, ← ba_get]
    by_cases hi : i < x.size
    · obtain ⟨c, hc⟩ := at_ok hi
      obtain ⟨d, hd⟩ := at_ok (s := y) (k := i) (by omega)
      have := hk i hi
      rw [bat_of hc, bat_of hd] at this
      rw [hc, hd, UInt8.toNat_inj.1 this]
    · rw [at_none (by omega), at_none (by omega)]
  rcases ha with ha | ha <;> rcases hb with hb | hb
  · rw [addrL, addrL, if_pos ha, if_pos hb, fourL, fourL] at h
    simp only [List.cons.injEq, and_true] at h
    obtain ⟨h3, h2, h1, h0⟩ := h
    refine key a b (by omega) fun k hk => ?_
    rcases (show k = 0 ∨ k = 1 ∨ k = 2 ∨ k = 3 by omega) with rfl | rfl | rfl | rfl
    · exact decB_inj (bat_le _ _) (bat_le _ _) h0
    · exact decB_inj (bat_le _ _) (bat_le _ _) h1
    · exact decB_inj (bat_le _ _) (bat_le _ _) h2
    · exact decB_inj (bat_le _ _) (bat_le _ _) h3
  · have h1 := congrArg List.reverse h
    rw [addr_rev4 ha, addr_rev16 hb] at h1
    have h2 := four_has a
    rw [h1, six_has b (by rw [← h1]; rfl)] at h2; cases h2
  · have h1 := congrArg List.reverse h
    rw [addr_rev16 ha, addr_rev4 hb] at h1
    have h2 := four_has b
    rw [← h1, six_has a (by rw [h1]; rfl)] at h2; cases h2
  · have h1 := congrArg List.reverse h
    rw [addr_rev16 ha, addr_rev16 hb] at h1
    have h2 := congrArg repl h1
    rw [six_repl, six_repl] at h2
    refine key a b (by omega) fun k hk => ?_
    have hkk : k / 2 < 8 := by omega
    have h3 := congrArg (fun l : List ByteArray => l[k / 2]?) h2
    simp only [List.getElem?_map, wordsB_at a hkk, wordsB_at b hkk, Option.map_some, Option.some.injEq] at h3
    have b1 := bat_lt a (2 * (k / 2)); have b2 := bat_lt a (2 * (k / 2) + 1); have b3 := bat_lt b (2 * (k / 2)); have b4 := bat_lt b (2 * (k / 2) + 1)
    have h4 := hexB_inj (by omega) (by omega) h3
    rcases (show k = 2 * (k / 2) ∨ k = 2 * (k / 2) + 1 by omega) with e | e
    · rw [e]; omega
    · rw [e]; omega
theorem pfx_inj {a b : ByteArray} {n m : Int} (ha : mayP a n) (hb : mayP b m) (h : pfxL a n = pfxL b m) : a = b ∧ n = m := by
  rw [pfxL_may ha, pfxL_may hb] at h
  injection h with h1 h2
  obtain ⟨⟨ha1, ha2, ha3⟩, _⟩ := ha
  obtain ⟨⟨hb1, hb2, hb3⟩, _⟩ := hb
  have := decB_inj (by omega) (by omega) h1
  exact ⟨addr_inj ha1 hb1 h2, by omega⟩
open Classical in
noncomputable def adrF (ls : List ByteArray) : Option (ByteArray × Int) := if h : ∃ p : ByteArray × Int, mayP p.1 p.2 ∧ ls = pfxL p.1 p.2 then some h.choose else none
theorem adrF_pfx {a : ByteArray} {n : Int} (h : mayP a n) : adrF (pfxL a n) = some (a, n) := by
  have hx : ∃ p : ByteArray × Int, mayP p.1 p.2 ∧ pfxL a n = pfxL p.1 p.2 := ⟨(a, n), h, rfl⟩
  rw [adrF, dif_pos hx]
  obtain ⟨h1, h2⟩ := hx.choose_spec
  obtain ⟨h3, h4⟩ := pfx_inj h h1 h2
  congr 1
  exact Prod.ext h3.symm h4.symm
theorem adrF_some {ls : List ByteArray} {p : ByteArray × Int} (h : adrF ls = some p) : mayP p.1 p.2 ∧ ls = pfxL p.1 p.2 := by
  rw [adrF] at h
  split at h
  · rename_i hx
    rw [← Option.some.inj h]; exact hx.choose_spec
  · cases h
def adV : Option (ByteArray × Int) → Value
  | some p => .tuple #[.agg #[.string p.1, .int .i64 p.2], .bool true]
  | none => .tuple #[.agg #[.string ⟨#[]⟩, .int .i64 0], .bool false]
theorem AdR_val {ls : List ByteArray} {v : Value} (h : AdR ls v) : v = adV (adrF ls) := by
  rcases h with ⟨a, n, hm, rfl, rfl⟩ | ⟨h, rfl⟩
  · rw [adrF_pfx hm]; rfl
  · cases hx : adrF ls with
    | none => rfl
    | some p => exact absurd (adrF_some hx).2 (h _ _ (adrF_some hx).1)

/-! ### triggers -/
abbrev Tg := Int × ByteArray × ByteArray × Int
def t0 : Tg := (0, ⟨#[]⟩, ⟨#[]⟩, 0)
def vT (t : Tg) : Value := .agg #[.int .i64 t.1, .string t.2.1, .string t.2.2.1, .int .i64 t.2.2.2]
def elT (t : Tg) : List Value := [.int .i64 t.1, .string t.2.1, .string t.2.2.1, .int .i64 t.2.2.2]
def resT : Option Tg → Value
  | some t => .tuple #[vT t, .bool true]
  | none => .tuple #[vT t0, .bool false]
def starB : ByteArray := ⟨#[42]⟩
def cB : ByteArray := ⟨#[114, 112, 122, 45, 99, 108, 105, 101, 110, 116, 45, 105, 112]⟩
def ipB : ByteArray := ⟨#[114, 112, 122, 45, 105, 112]⟩
def ndB : ByteArray := ⟨#[114, 112, 122, 45, 110, 115, 100, 110, 97, 109, 101]⟩
def niB : ByteArray := ⟨#[114, 112, 122, 45, 110, 115, 105, 112]⟩
def kE (b : Nat) (k : Int) (w : ByteArray) : MapEntry := { key := .int .i64 k, val := .string w, born := b }
def kindsE : Array MapEntry := #[kE 0 0 cB, kE 1 3 ipB, kE 2 4 ndB, kE 3 6 niB]
theorem kinds_runs (I : IMem) (S : SH) : Runs Tryz.prog 66 #[] I S fun v _ T => ∃ r, v = .map (some r) ∧ T = (r, .map kindsE 4) :: S := by
  refine owner_kinds_fn _ _ _ ?_
  unfold owner_kinds
  intro r1
  exact ⟨r1, 0, _, _, _, _, rfl, rfl, rfl, r1, 0, _, _, _, _, rfl, rfl, rfl, r1, 0, _, _, _, _, rfl, rfl, rfl, r1, 0, _, _, _, _, rfl, rfl, rfl, r1, rfl, rfl⟩
def namedF (ls : List ByteArray) (ex wild : Int) : Option Tg := match ls with
  | [] => none
  | l :: r => if l = starB then (makeN r ByteArray.empty).map fun n => (wild, n, ⟨#[]⟩, 0) else (makeN (l :: r) ByteArray.empty).map fun n => (ex, n, ⟨#[]⟩, 0)
theorem StP.tg {S : SH} {b : Nat} {x t : Tg} {K : SH → Prop} (h : K ((b, .cells (elT t).toArray 44 (0, 0)) :: S)) :
    StP ((b, .cells (elT x).toArray 44 (0, 0)) :: S) ⟨b, 0, none⟩ [.int .i64 t.1, .string t.2.1, .string t.2.2.1, .int .i64 t.2.2.2] K :=
  StP.at0 (Nat.le_refl 4) rfl h
theorem tgC {I : IMem} {S : SH} {b : Nat} {t : Tg} : Cell I ((b, .cells (elT t).toArray 44 (0, 0)) :: S) ⟨b, 0, none⟩ (.int .i64 t.1) ∧ Cell I ((b, .cells (elT t).toArray 44 (0, 0)) :: S) ((⟨b, 0, none⟩ : Addr).add 1) (.string t.2.1) ∧
    Cell I ((b, .cells (elT t).toArray 44 (0, 0)) :: S) ((⟨b, 0, none⟩ : Addr).add 2) (.string t.2.2.1) ∧ Cell I ((b, .cells (elT t).toArray 44 (0, 0)) :: S) ((⟨b, 0, none⟩ : Addr).add 3) (.int .i64 t.2.2.2) :=
  ⟨Cell.at0 rfl, by rw [add_mk]; exact Cell.at0 rfl, by rw [add_mk]; exact Cell.at0 rfl, by rw [add_mk]; exact Cell.at0 rfl⟩
theorem named_runs {ls : List ByteArray} {a : Option Addr} {c : Nat} {ex wild : Int} (hew : wild ≠ ex) {I : IMem} {S : SH} (hx : RowIn I S a ls.length 1 elS ls) (hl : ls.length ≤ 1000000) (hlc : ls.length ≤ c) :
    Runs Tryz.prog 87 #[.slice a ls.length c, .int .i64 ex, .int .i64 wild] I S fun v _ T => v = resT (namedF ls ex wild) ∧ T = S := by
  refine Runs.drop (owner_named_fn _ _ _ _ _ _ _ _ ?_)
  unfold owner_named owner_named_b1
  intro b6
  have hx' := hx.sub ((Sub.refl S).skip (b6, .cells (elT t0).toArray 44 (0, 0)))
  have body : ∀ (us : List ByteArray) (p : Option Addr) (d : Nat) (kind : Int) (n : Nat), n = us.length → RowIn I ((b6, .cells (elT t0).toArray 44 (0, 0)) :: S) p us.length 1 elS us → us.length ≤ 1000000 →
      namedF ls ex wild = (if us = [] ∧ kind = ex then none else (makeN us ByteArray.empty).map fun n => (kind, n, ⟨#[]⟩, 0)) →
      owner_named_b3 (fun v J T => ∃ L, Sub L T ∧ v = resT (namedF ls ex wild) ∧ L = S) p n d ex ⟨b6, 0, none⟩ kind I ((b6, .cells (elT t0).toArray 44 (0, 0)) :: S) := by
    rintro us p d kind n rfl hu hul hnf
    unfold owner_named_b3 owner_named_b4
    refine (Make_runs hu (by omega)).mono ?_
    rintro v J T hle ⟨rfl, rfl⟩
    have bad : namedF ls ex wild = none → owner_named_b5 (fun v J T => ∃ L, Sub L T ∧ v = resT (namedF ls ex wild) ∧ L = S) ⟨b6, 0, none⟩ kind (match makeN us ByteArray.empty with | some n => n | none => ⟨#[]⟩) true J ((b6, .cells (elT t0).toArray 44 (0, 0)) :: S) := by
      intro h
      unfold owner_named_b5
      refine bcase_t rfl (StP.tg (x := t0) (t := t0) ?_)
      obtain ⟨c0, c1, c2, c3⟩ := tgC (I := J) (S := S) (b := b6) (t := t0)
      exact ⟨_, c0, _, c1, _, c2, _, c3, S, (Sub.refl _).skip _, by rw [h]; rfl, rfl⟩
    cases hm : makeN us ByteArray.empty with
    | none =>
      rw [hm] at hnf bad
      exact ⟨_, _, rfl, bcase_t rfl (bad (by rw [hnf]; split <;> rfl))⟩
    | some n =>
      rw [hm] at hnf bad
      have ok : ¬ (us = [] ∧ kind = ex) → owner_named_b5 (fun v J T => ∃ L, Sub L T ∧ v = resT (namedF ls ex wild) ∧ L = S) ⟨b6, 0, none⟩ kind n false J ((b6, .cells (elT t0).toArray 44 (0, 0)) :: S) := by
        intro h
        unfold owner_named_b5 owner_named_b6
        refine bcase_f rfl (StP.tg (x := t0) (t := (kind, n, ⟨#[]⟩, 0)) ?_)
        obtain ⟨c0, c1, c2, c3⟩ := tgC (I := J) (S := S) (b := b6) (t := ((kind, n, ⟨#[]⟩, 0) : Tg))
        exact ⟨_, c0, _, c1, _, c2, _, c3, S, (Sub.refl _).skip _, by rw [hnf, if_neg h]; rfl, rfl⟩
      refine ⟨_, _, rfl, bcase_f rfl (bcase_beq (fun h => ?_) (fun h => ok (fun e => h (by rw [e.1]; rfl))))⟩
      have hus : us = [] := List.eq_nil_of_length_eq_zero (by omega)
      by_cases hk : kind = ex
      · rw [show (kind == ex) = true by rw [hk]; simp]
        exact bad (by rw [hnf, if_pos ⟨hus, hk⟩])
      · rw [show (kind == ex) = false by simpa using hk]
        exact ok (fun e => hk e.2)
  refine bcase_dec (fun h => ?_) (fun h => ?_)
  · cases ls with
    | nil => simp at h
    | cons l r =>
      obtain ⟨a', rfl, hc⟩ := strRow hx' (k := 0) (x := l) rfl
      refine ⟨by omega, by omega, l, hc, ?_⟩
      unfold owner_named_b2
      rw [show (⟨#[42]⟩ : ByteArray) = starB from rfl, ba_dec]
      refine bcase_dec (fun e => ?_) (fun e => ?_)
      · refine ⟨by omega, by rw [List.length_cons]; omega, ?_⟩
        have hd := hx'.drop (j := 1) (by rw [List.length_cons]; omega) hlc
        rw [List.drop_succ_cons, List.drop_zero, List.length_cons, Nat.add_sub_cancel] at hd
        refine body r _ _ wild _ (by rw [List.length_cons]; rfl) hd (by rw [List.length_cons] at hl; omega) ?_
        rw [namedF, if_pos e, if_neg (fun h => hew h.2)]
      · refine body (l :: r) _ _ ex _ rfl hx' hl ?_
        rw [namedF, if_neg e, if_neg (fun h => by cases h.1)]
  · have hls : ls = [] := List.eq_nil_of_length_eq_zero (by omega)
    unfold owner_named_b2
    refine bcase_f rfl (body ls _ _ ex _ rfl hx' hl ?_)
    rw [hls, namedF, if_pos ⟨rfl, rfl⟩]
end Go.Proofs.YtoiilcdaldnjfaaGreatDoor
/- Names as triggers, triggers as names: owner.Decode, owner.Encode. -/
namespace Go.Proofs.YtoiilcdaldnjfaaGreatDoor
open Go.Px
set_option linter.unusedVariables false
set_option linter.unusedSimpArgs false
set_option maxRecDepth 8000

def kindOf (w : ByteArray) : Option Int := if w = cB then some 0 else if w = ipB then some 3 else if w = ndB then some 4 else if w = niB then some 6 else none
noncomputable def decL (ls : List ByteArray) : Option Tg := match ls.getLast? with
  | none => none
  | some w => match kindOf w with
    | none => namedF ls 1 2
    | some k => if k = 4 then namedF ls.dropLast 4 5 else (adrF ls.dropLast).map fun p => (k, ⟨#[]⟩, p.1, p.2)
noncomputable def decF (n : ByteArray) : Option Tg := match labN n with
  | none => none
  | some ls => decL ls
theorem setT {b : Nat} {S T : SH} {I : IMem} {t x : Tg} {K : Value → SH → Prop} (hs : Sub ((b, .cells (elT x).toArray 44 (0, 0)) :: S) T) (h : ∀ T', Sub S T' → K (vT t) T') :
    StP T ⟨b, 0, none⟩ [.int .i64 t.1, .string t.2.1, .string t.2.2.1, .int .i64 t.2.2.2] fun S1 =>
      ∃ r0, Cell I S1 ⟨b, 0, none⟩ (.int .i64 r0) ∧ ∃ r1, Cell I S1 ((⟨b, 0, none⟩ : Addr).add 1) (.string r1) ∧ ∃ r2, Cell I S1 ((⟨b, 0, none⟩ : Addr).add 2) (.string r2) ∧ ∃ r3, Cell I S1 ((⟨b, 0, none⟩ : Addr).add 3) (.int .i64 r3) ∧
      K (.agg #[.int .i64 r0, .string r1, .string r2, .int .i64 r3]) S1 := by
  refine StP.of_sub hs (StP.tg (x := x) (t := t) ?_)
  intro T' hs'
  obtain ⟨c0, c1, c2, c3⟩ := tgC (I := I) (S := S) (b := b) (t := t)
  exact ⟨_, hs'.cell' c0, _, hs'.cell' c1, _, hs'.cell' c2, _, hs'.cell' c3, h T' hs'.drop⟩
theorem kE_mem {e : MapEntry} (h : e ∈ kindsE) : e = kE 0 0 cB ∨ e = kE 1 3 ipB ∨ e = kE 2 4 ndB ∨ e = kE 3 6 niB := by
  simpa [kindsE] using h
theorem labs_ok {n : ByteArray} {ls : List ByteArray} (h : labN n = some ls) : ls.length ≤ 254 ∧ ∀ l ∈ ls, l.size ≤ 63 := by
  obtain ⟨h1, h2, h3⟩ := labN_some h
  refine ⟨?_, fun l hl => (h2 l hl).hi⟩
  have := wire_len ls
  rw [h1, nm_size] at h3
  omega
theorem OwnS.cap {a : Option Addr} {n c : Nat} {xs : List ByteArray} {own : SH} (h : OwnS (.slice a n c) xs own) : xs.length ≤ c := by
  rcases OwnS.cases h with ⟨_, _, rfl, rfl, _⟩ | ⟨_, rest, _, _, _, hc, _⟩
  · exact Nat.le_refl 0
  · omega
theorem kind_not {w : ByteArray} (h1 : cB ≠ w) (h2 : ipB ≠ w) (h3 : ndB ≠ w) (h4 : niB ≠ w) : kindOf w = none := by
  rw [kindOf, if_neg (fun e => h1 e.symm), if_neg (fun e => h2 e.symm), if_neg (fun e => h3 e.symm), if_neg (fun e => h4 e.symm)]
theorem kind_c : kindOf cB = some 0 := by decide +kernel
theorem kind_ip : kindOf ipB = some 3 := by decide +kernel
theorem kind_nd : kindOf ndB = some 4 := by decide +kernel
theorem kind_ni : kindOf niB = some 6 := by decide +kernel
/-- how many kinds were not looked at -/
def unseen (seen : Array Nat) : Nat := (kindsE.toList.filter fun e => !seen.contains e.born).length
theorem unseen_lt {seen : Array Nat} {e : MapEntry} (he : e ∈ kindsE) (hn : seen.contains e.born = false) : unseen (seen.push e.born) < unseen seen := by
  have hsub : ∀ l : List MapEntry, (l.filter fun x => !(seen.push e.born).contains x.born).length ≤ (l.filter fun x => !seen.contains x.born).length ∧
      (e ∈ l → (l.filter fun x => !(seen.push e.born).contains x.born).length < (l.filter fun x => !seen.contains x.born).length) := by
    intro l
    induction l with
    | nil => exact ⟨Nat.le_refl _, fun h => by cases h⟩
    | cons x l ih =>
      have hx : (seen.push e.born).contains x.born = (seen.contains x.born || x.born == e.born) := by
        rw [Bool.eq_iff_iff]; simp [or_comm]
      rw [List.filter_cons, List.filter_cons, hx]
      by_cases h1 : seen.contains x.born = true
      · rw [h1]
        simp only [Bool.true_or, Bool.not_true, Bool.false_eq_true, if_false]
        refine ⟨ih.1, fun h => ?_⟩
        rcases List.mem_cons.1 h with rfl | h
        · rw [hn] at h1; cases h1
        · exact ih.2 h
      · have h1 : seen.contains x.born = false := by simpa using h1
        rw [h1]
        simp only [Bool.false_or, Bool.not_false, if_true, List.length_cons]
        by_cases h2 : x.born = e.born
        · rw [show (x.born == e.born) = true by simp [h2]]
          simp only [Bool.not_true, Bool.false_eq_true, if_false]
          exact ⟨by have := ih.1; omega, fun _ => by have := ih.1; omega⟩
        · rw [show (x.born == e.born) = false by simp [h2]]
          simp only [Bool.not_false, if_true, List.length_cons]
          refine ⟨by have := ih.1; omega, fun h => ?_⟩
          rcases List.mem_cons.1 h with rfl | h
          · exact absurd rfl h2
          · have := ih.2 h; omega
  exact (hsub kindsE.toList).2 (by simpa using he)
theorem Decode_runs (n : ByteArray) {I : IMem} (g : GL I) (S : SH) : Runs Tryz.prog 54 #[.string n] I S fun v _ T => v = resT (decF n) ∧ T = S := by
  refine Runs.drop (owner_Decode_fn _ _ _ _ ?_)
  unfold owner_Decode
  intro b2
  refine (Labels_runs n I _).mono ?_
  rintro v J T hle ⟨own, hcase, hs⟩
  have hsB : Sub ((b2, .cells (elT t0).toArray 44 (0, 0)) :: S) T := hs.right
  have none_ : ∀ (p : Option Addr) (m c : Nat), decF n = none → owner_Decode_b2 (fun v J T => ∃ L, Sub L T ∧ v = resT (decF n) ∧ L = S) ⟨b2, 0, none⟩ p m c true J T := by
    intro p m c h
    unfold owner_Decode_b2
    refine bcase_t rfl (setT (t := t0) (K := fun v T => ∃ L, Sub L T ∧ Value.tuple #[v, .bool false] = resT (decF n) ∧ L = S) hsB ?_)
    intro T' hs'
    exact ⟨S, hs', by rw [h]; rfl, rfl⟩
  unfold owner_Decode_b1
  rcases hcase with ⟨hl, rfl, rfl⟩ | ⟨ls, p, m, c, hl, rfl, ho⟩
  · exact ⟨_, _, _, _, rfl, bcase_t rfl (none_ _ _ _ (by rw [decF, hl]))⟩
  · refine ⟨_, _, _, _, rfl, bcase_f rfl ?_⟩
    have hdf : decF n = decL ls := by rw [decF, hl]
    obtain ⟨hll, hsz⟩ := labs_ok hl
    have hm := ho.len
    subst hm
    have hcap := OwnS.cap ho
    by_cases h0 : ls.length = 0
    · have : ls = [] := List.eq_nil_of_length_eq_zero h0
      rw [show ((ls.length : Int) == 0) = true by rw [h0]; rfl]
      exact none_ _ _ _ (by rw [hdf, this]; rfl)
    have hne : ((ls.length : Int) == 0) = false := by
      rw [beq_eq_false_iff_ne]; omega
    rw [hne]
    obtain ⟨w, hw⟩ := get_lt (xs := ls) (k := ls.length - 1) (by omega)
    have hlast : ls.getLast? = some w := by rw [List.getLast?_eq_getElem?]; exact hw
    have hrow : ∀ {K : IMem} {T : SH}, Sub (own ++ (b2, .cells (elT t0).toArray 44 (0, 0)) :: S) T → RowIn K T p ls.length 1 elS ls := fun hs => (OwnS.row ho).sub hs.left
    unfold owner_Decode_b2 owner_Decode_b3
    refine bcase_f rfl ?_
    rw [wrap_i64 (x := (ls.length : Int) - 1) (by omega) (by omega)]
    have e1 : ((ls.length : Int) - 1).toNat = ls.length - 1 := by omega
    rw [e1, slA_zero]
    obtain ⟨a', rfl, hc⟩ := strRow (hrow (K := J) hs) hw
    refine ⟨by omega, by omega, w, hc, by omega, by omega, ?_⟩
    rw [Nat.sub_zero, Nat.sub_zero]
    have hdl : ls.dropLast = ls.take (ls.length - 1) := List.dropLast_eq_take
    have hdll : ls.dropLast.length = ls.length - 1 := List.length_dropLast
    have hrow2 : ∀ {K : IMem} {T : SH}, Sub (own ++ (b2, .cells (elT t0).toArray 44 (0, 0)) :: S) T → RowIn K T (some a') ls.dropLast.length 1 elS ls.dropLast := by
      intro K T hs
      rw [hdll, hdl]
      exact (hrow hs).take (by omega)
    rw [← hdll]
    unfold owner_Decode_b4
    refine (kinds_runs J T).mono ?_
    rintro v J1 T1 hle1 ⟨r, rfl, rfl⟩
    refine ⟨_, rfl, kindsE, 4, .inr (List.mem_cons_self ..), fun b37 => ?_⟩
    unfold owner_Decode_b5
    refine ⟨fun m x2 l4 l4n l4c la re ren rec it J2 T2 => x2 = ⟨b2, 0, none⟩ ∧ l4 = some a' ∧ l4n = ls.length ∧ l4c = c ∧ la = w ∧ re = some a' ∧ ren = ls.dropLast.length ∧ rec = c ∧ it = ⟨b37, 0, none⟩ ∧ J1.le J2 ∧
        ∃ seen : Array Nat, m = unseen seen ∧ (∀ e ∈ kindsE, seen.contains e.born = true → e.val ≠ .string w) ∧ T2 = (b37, .mapIter (some r) 4 seen 4) :: (r, .map kindsE 4) :: T,
      unseen #[], ⟨rfl, rfl, rfl, rfl, rfl, rfl, rfl, rfl, rfl, IMem.le.refl J1, #[], rfl, fun e _ h => by simp at h, rfl⟩, ?_⟩
    rintro m x2 l4 l4n l4c la re ren rec it J2 T2 - ⟨rfl, rfl, rfl, rfl, rfl, rfl, rfl, rfl, rfl, hle2, seen, rfl, hseen, rfl⟩
    unfold owner_Decode_l6
    have hsT : ∀ sn : Array Nat, Sub (own ++ (b2, .cells (elT t0).toArray 44 (0, 0)) :: S) ((b37, .mapIter (some r) 4 sn 4) :: (r, .map kindsE 4) :: T) := fun sn => (hs.skip _).skip _
    refine ⟨0, r, 4, seen, 4, kindsE, 4, rfl, rfl, .inr (List.mem_cons_of_mem _ (List.mem_cons_self ..)), Nat.le_refl 4, fun e he => ?_, fun hall => ?_, fun e he hun => ?_⟩
    · rcases kE_mem he with rfl | rfl | rfl | rfl <;> decide
    · -- of no kind
      have hk : kindOf la = none := by
        refine kind_not ?_ ?_ ?_ ?_
        · exact fun e => hseen (kE 0 0 cB) (by simp [kindsE]) (hall _ (by simp [kindsE])) (by rw [← e]; rfl)
        · exact fun e => hseen (kE 1 3 ipB) (by simp [kindsE]) (hall _ (by simp [kindsE])) (by rw [← e]; rfl)
        · exact fun e => hseen (kE 2 4 ndB) (by simp [kindsE]) (hall _ (by simp [kindsE])) (by rw [← e]; rfl)
        · exact fun e => hseen (kE 3 6 niB) (by simp [kindsE]) (hall _ (by simp [kindsE])) (by rw [← e]; rfl)
      have hd : decF n = namedF ls 1 2 := by rw [hdf, decL, hlast]; dsimp only; rw [hk]
      unfold owner_Decode_b7
      refine (named_runs (ex := 1) (wild := 2) (by decide) (hrow (hsT seen)) (by omega) hcap).mono ?_
      rintro v J3 T3 hle3 ⟨rfl, rfl⟩
      rw [hd]
      have hsB3 : Sub ((b2, .cells (elT t0).toArray 44 (0, 0)) :: S) ((b37, .mapIter (some r) 4 seen 4) :: (r, .map kindsE 4) :: T) := (hsB.skip _).skip _
      cases hn : namedF ls 1 2 with
      | none => exact ⟨_, _, _, _, _, rfl, setT (t := t0) (K := fun v T => ∃ L, Sub L T ∧ Value.tuple #[v, .bool false] = resT none ∧ L = S) hsB3 fun T' hs' => ⟨S, hs', rfl, rfl⟩⟩
      | some t => exact ⟨_, _, _, _, _, rfl, setT (t := t) (K := fun v T => ∃ L, Sub L T ∧ Value.tuple #[v, .bool true] = resT (some t) ∧ L = S) hsB3 fun T' hs' => ⟨S, hs', rfl, rfl⟩⟩
    · unfold owner_Decode_b8
      have hlt := unseen_lt he hun
      have hsB3 : ∀ sn : Array Nat, Sub ((b2, .cells (elT t0).toArray 44 (0, 0)) :: S) ((b37, .mapIter (some r) 4 sn 4) :: (r, .map kindsE 4) :: T) := fun sn => (hsB.skip _).skip _
      have step : ∀ (k : Int) (x : ByteArray), e = kE e.born k x → kindOf x = some k → owner_Decode_b9 (fun x2 ls_4 ls_4n ls_4c last_6 rest_7 rest_7n rest_7c x37 I_1 S_1 => ∃ m', m' < unseen seen ∧ (x2 = ⟨b2, 0, none⟩ ∧ ls_4 = some a' ∧ ls_4n = ls.length ∧ ls_4c = rec ∧ last_6 = la ∧ rest_7 = some a' ∧ rest_7n = ls.dropLast.length ∧ rest_7c = rec ∧ x37 = ⟨b37, 0, none⟩ ∧ J1.le I_1 ∧
            ∃ seen : Array Nat, m' = unseen seen ∧ (∀ e ∈ kindsE, seen.contains e.born = true → e.val ≠ .string la) ∧ S_1 = (b37, .mapIter (some r) 4 seen 4) :: (r, .map kindsE 4) :: T))
          (fun v J T => ∃ L, Sub L T ∧ v = resT (decF n) ∧ L = S) ⟨b2, 0, none⟩ (some a') ls.length rec la (some a') ls.dropLast.length rec k x ⟨b37, 0, none⟩ J2 ((b37, .mapIter (some r) 4 (seen.push e.born) 4) :: (r, .map kindsE 4) :: T) := by
        intro k x hek hkx
        unfold owner_Decode_b9
        rw [ba_dec]
        refine bcase_not (bcase_dec (fun e2 => ?_) (fun e2 => ?_))
        · subst e2
          refine bcase_beq (fun h4 => ?_) (fun h4 => ?_)
          · subst h4
            have hd : decF n = namedF ls.dropLast 4 5 := by rw [hdf, decL, hlast]; dsimp only; rw [hkx]; rfl
            refine (named_runs (ex := 4) (wild := 5) (by decide) (hrow2 (hsT _)) (by omega) (by omega)).mono ?_
            rintro v J3 T3 hle3 ⟨rfl, rfl⟩
            rw [hd]
            cases hn : namedF ls.dropLast 4 5 with
            | none => exact ⟨_, _, _, _, _, rfl, setT (t := t0) (K := fun v T => ∃ L, Sub L T ∧ Value.tuple #[v, .bool false] = resT none ∧ L = S) (hsB3 _) fun T' hs' => ⟨S, hs', rfl, rfl⟩⟩
            | some t => exact ⟨_, _, _, _, _, rfl, setT (t := t) (K := fun v T => ∃ L, Sub L T ∧ Value.tuple #[v, .bool true] = resT (some t) ∧ L = S) (hsB3 _) fun T' hs' => ⟨S, hs', rfl, rfl⟩⟩
          · have hd : decF n = (adrF ls.dropLast).map fun p => (k, ⟨#[]⟩, p.1, p.2) := by rw [hdf, decL, hlast]; dsimp only; rw [hkx]; dsimp only; rw [if_neg h4]
            refine (Address_runs (((g.le hle).le hle1).le hle2) (hrow2 (hsT _)) (by omega) (by omega) (fun l h => by have := hsz l (List.dropLast_subset _ h); omega)).mono ?_
            rintro v J3 T3 hle3 ⟨hv, hs3⟩
            have hv := AdR_val hv
            subst hv
            rw [hd]
            have hs4 := (hsB3 (seen.push e.born)).trans hs3
            cases ha : adrF ls.dropLast with
            | none =>
              refine ⟨_, _, _, rfl, fun b10 => StP.at0 (by decide) rfl (bcase_t rfl ?_)⟩
              exact setT (t := t0) (K := fun v T => ∃ L, Sub L T ∧ Value.tuple #[v, .bool false] = resT none ∧ L = S) (hs4.skip _) fun T' hs' => ⟨S, hs', rfl, rfl⟩
            | some q =>
              refine ⟨_, _, _, rfl, fun b10 => StP.at0 (Nat.le_refl 2) rfl (bcase_f rfl ⟨_, Cell.at0 rfl, _, Cell.at0 rfl, ?_⟩)⟩
              exact setT (t := ((k, ⟨#[]⟩, q.1, q.2) : Tg)) (K := fun v T => ∃ L, Sub L T ∧ Value.tuple #[v, .bool true] = resT (some (k, ⟨#[]⟩, q.1, q.2)) ∧ L = S) (hs4.skip _) fun T' hs' => ⟨S, hs', rfl, rfl⟩
        · refine ⟨_, hlt, rfl, rfl, rfl, rfl, rfl, rfl, rfl, rfl, rfl, hle2, seen.push e.born, rfl, fun e' he' hc' => ?_, rfl⟩
          by_cases h5 : seen.contains e'.born = true
          · exact hseen e' he' h5
          · have h6 : e'.born = e.born := by
              have : e'.born ∈ seen.push e.born := by simpa using hc'
              rcases Array.mem_push.1 this with h | h
              · exact absurd (by simpa using h) h5
              · exact h
            have h7 : e' = e := by
              rcases kE_mem he with rfl | rfl | rfl | rfl <;> rcases kE_mem he' with rfl | rfl | rfl | rfl <;> first | rfl | (simp [kE] at h6; done)
            rw [h7, hek]
            intro h8
            exact e2 (Value.string.inj h8)
      rcases kE_mem he with rfl | rfl | rfl | rfl
      · exact ⟨r, 4, seen.push 0, 0, kindsE, 4, _, rfl, List.mem_cons_self .., by simp, .inr (List.mem_cons_of_mem _ (List.mem_cons_self ..)), rfl, step 0 cB rfl kind_c⟩
      · exact ⟨r, 4, seen.push 1, 1, kindsE, 4, _, rfl, List.mem_cons_self .., by simp, .inr (List.mem_cons_of_mem _ (List.mem_cons_self ..)), rfl, step 3 ipB rfl kind_ip⟩
      · exact ⟨r, 4, seen.push 2, 2, kindsE, 4, _, rfl, List.mem_cons_self .., by simp, .inr (List.mem_cons_of_mem _ (List.mem_cons_self ..)), rfl, step 4 ndB rfl kind_nd⟩
      · exact ⟨r, 4, seen.push 3, 3, kindsE, 4, _, rfl, List.mem_cons_self .., by simp, .inr (List.mem_cons_of_mem _ (List.mem_cons_self ..)), rfl, step 6 niB rfl kind_ni⟩
end Go.Proofs.YtoiilcdaldnjfaaGreatDoor
/- Triggers as names: owner.Encode. -/
namespace Go.Proofs.YtoiilcdaldnjfaaGreatDoor
open Go.Px
set_option linter.unusedVariables false
set_option linter.unusedSimpArgs false
set_option maxRecDepth 8000

def wordK (k : Int) : ByteArray := if k = 0 then cB else if k = 3 then ipB else if k = 4 then ndB else if k = 6 then niB else ⟨#[]⟩
theorem kinds_at {I : IMem} {S : SH} {r : Nat} (h : (r, Obj.map kindsE 4) ∈ S) (k : Int) : ∃ b : Bool, MapAt I S (some r) (.int .i64) (.int .i64 k) (.string ⟨#[]⟩) (.string (wordK k)) b := by
  have key : ∀ b : Bool, ((∃ i, Instr.findNow (.int .i64) (.int .i64 k) kindsE.toList 0 = some (some (i, .string (wordK k))) ∧ b = true) ∨ (Instr.findNow (.int .i64) (.int .i64 k) kindsE.toList 0 = some none ∧ Value.string (wordK k) = .string ⟨#[]⟩ ∧ b = false)) →
      ∃ b : Bool, MapAt I S (some r) (.int .i64) (.int .i64 k) (.string ⟨#[]⟩) (.string (wordK k)) b := fun b hb => ⟨b, kindsE, ⟨4, .inr h⟩, hb⟩
  by_cases h0 : k = 0
  · subst h0; exact key true (.inl ⟨0, rfl, rfl⟩)
  by_cases h3 : k = 3
  · subst h3; exact key true (.inl ⟨1, rfl, rfl⟩)
  by_cases h4 : k = 4
  · subst h4; exact key true (.inl ⟨2, rfl, rfl⟩)
  by_cases h6 : k = 6
  · subst h6; exact key true (.inl ⟨3, rfl, rfl⟩)
  refine key false (.inr ⟨?_, ?_, rfl⟩)
  · have e : ∀ j : Int, k ≠ j → (k == j) = false := fun j hj => by simpa using hj
    simp [kindsE, kE, Instr.findNow, Instr.sameNow, e 0 h0, e 3 h3, e 4 h4, e 6 h6]
  · rw [wordK, if_neg h0, if_neg h3, if_neg h4, if_neg h6]
open Classical in
/-- the name of a trigger, by labels ahead of its word -/
noncomputable def encX (t : Tg) (xs : List ByteArray) (w : ByteArray) : Option ByteArray := match labN t.2.1 with
  | none => none
  | some _ => match makeN (if w = ⟨#[]⟩ then xs else xs ++ [w]) ByteArray.empty with
    | none => none
    | some m => if decF m = some t then some m else none
def encW (t : Tg) : ByteArray := if t.1 = 5 then ndB else wordK t.1
def encL (t : Tg) : List ByteArray := if t.1 = 0 ∨ t.1 = 3 ∨ t.1 = 6 then pfxL t.2.2.1 t.2.2.2 else if t.1 = 2 ∨ t.1 = 5 then starB :: (labN t.2.1).getD [] else (labN t.2.1).getD []
noncomputable def encF (t : Tg) : Option ByteArray := encX t (encL t) (encW t)
theorem tgCell {I : IMem} {S T : SH} {b : Nat} {t : Tg} (hs : Sub ((b, .cells (elT t).toArray 44 (0, 0)) :: S) T) : Cell I T ⟨b, 0, none⟩ (.int .i64 t.1) ∧ Cell I T ((⟨b, 0, none⟩ : Addr).add 1) (.string t.2.1) ∧
    Cell I T ((⟨b, 0, none⟩ : Addr).add 2) (.string t.2.2.1) ∧ Cell I T ((⟨b, 0, none⟩ : Addr).add 3) (.int .i64 t.2.2.2) := by
  obtain ⟨c0, c1, c2, c3⟩ := tgC (I := I) (S := S) (b := b) (t := t)
  exact ⟨hs.cell' c0, hs.cell' c1, hs.cell' c2, hs.cell' c3⟩
theorem tg_eq {a b : Tg} : (((a.1 : Int) == b.1) && ((a.2.1 == b.2.1) && ((((a.2.2.1 == b.2.2.1) && ((a.2.2.2 == b.2.2.2) && true)) && true)))) = true ↔ a = b := by
  obtain ⟨a1, a2, a3, a4⟩ := a
  obtain ⟨b1, b2, b3, b4⟩ := b
  simp only [Bool.and_eq_true, Bool.and_true, beq_iff_eq, ba_beq, Prod.mk.injEq]
theorem Encode_runs (t : Tg) {I : IMem} (g : GL I) (S : SH) : Runs Tryz.prog 35 #[vT t] I S fun v _ T => v = mkV (encF t) ∧ T = S := by
  refine Runs.drop (owner_Encode_fn _ _ _ _ _ _ _ ?_)
  unfold owner_Encode
  intro b1
  refine ⟨t.2.1, Cell.at0 rfl, (Labels_runs t.2.1 I _).mono ?_⟩
  rintro v J T hle ⟨own, hcase, hs⟩
  obtain ⟨ls, p, m, c, ok, rfl, ho, hll, hok, hls⟩ : ∃ (ls : List ByteArray) (p : Option Addr) (m c : Nat) (ok : Bool), v = .tuple #[.slice p m c, .bool ok] ∧ OwnS (.slice p m c) ls own ∧ ls.length ≤ 254 ∧ ok = (labN t.2.1).isSome ∧ ls = (labN t.2.1).getD [] := by
    rcases hcase with ⟨hl, rfl, rfl⟩ | ⟨ls, p, m, c, hl, rfl, ho⟩
    · exact ⟨[], none, 0, 0, false, rfl, OwnR.nil, by simp, by rw [hl]; rfl, by rw [hl]; rfl⟩
    · exact ⟨ls, p, m, c, true, rfl, ho, (labs_ok hl).1, by rw [hl]; rfl, by rw [hl]; rfl⟩
  have g1 := g.le hle
  refine ⟨_, _, _, _, rfl, ?_⟩
  -- the end
  have b7 : ∀ (xs : List ByteArray) (w : ByteArray) (us : List ByteArray) (p : Option Addr) (n c : Nat) (own : SH) (J : IMem) (T : SH), GL J → OwnS (.slice p n c) us own → us.length ≤ 1000 → us = (if w = ⟨#[]⟩ then xs else xs ++ [w]) → Sub (own ++ (b1, .cells (elT t).toArray 44 (0, 0)) :: S) T → encF t = encX t xs w →
      owner_Encode_b7 (fun v J T => ∃ L, Sub L T ∧ v = mkV (encF t) ∧ L = S) ⟨b1, 0, none⟩ p n c ok J T := by
    intro xs w us p n c own J T g ho hul hus hs he
    have hn := ho.len
    subst hn
    unfold owner_Encode_b7
    refine (Make_runs ((OwnS.row ho).sub hs.left) (by omega)).mono ?_
    rintro v J1 T1 hle1 ⟨rfl, rfl⟩
    have hsS : Sub S T1 := hs.right.drop
    have no : ∀ m : ByteArray, encF t = none → owner_Encode_b9 (fun v J T => ∃ L, Sub L T ∧ v = mkV (encF t) ∧ L = S) ⟨b1, 0, none⟩ m true J1 T1 := by
      intro m h
      unfold owner_Encode_b9
      exact bcase_t rfl ⟨S, hsS, by rw [h]; rfl, rfl⟩
    unfold owner_Encode_b8
    cases hl : labN t.2.1 with
    | none =>
      have h0 : encF t = none := by rw [he, encX, hl]
      have hokf : ok = false := by rw [hok, hl]; rfl
      subst hokf
      cases hm : makeN us ByteArray.empty with
      | none => exact ⟨_, _, rfl, bcase_t rfl (no _ h0)⟩
      | some m => exact ⟨_, _, rfl, bcase_t rfl (no _ h0)⟩
    | some ls0 =>
      have hokt : ok = true := by rw [hok, hl]; rfl
      subst hokt
      cases hm : makeN us ByteArray.empty with
      | none =>
        have h0 : encF t = none := by rw [he, encX, hl]; dsimp only; rw [← hus, hm]
        exact ⟨_, _, rfl, bcase_f rfl (no _ h0)⟩
      | some m =>
        refine ⟨_, _, rfl, bcase_f rfl ?_⟩
        unfold owner_Encode_b9 owner_Encode_b10
        refine bcase_f rfl ((Decode_runs m (g.le hle1) T1).mono ?_)
        rintro v J2 T2 hle2 ⟨rfl, rfl⟩
        cases hd : decF m with
        | none =>
          have h0 : encF t = none := by rw [he, encX, hl]; dsimp only; rw [← hus, hm]; dsimp only; rw [hd, if_neg (by simp)]
          refine ⟨_, _, _, _, _, rfl, fun b9 => StP.tg (x := t0) (t := t0) (bcase_t rfl ?_)⟩
          unfold owner_Encode_b11
          exact bcase_t rfl ⟨S, hsS.skip _, by rw [h0]; rfl, rfl⟩
        | some t' =>
          have h0 : encF t = if t' = t then some m else none := by
            rw [he, encX, hl]; dsimp only; rw [← hus, hm]; dsimp only; rw [hd]
            by_cases e : t' = t
            · rw [if_pos e, if_pos (by rw [e])]
            · rw [if_neg e, if_neg (fun h => e (Option.some.inj h))]
          refine ⟨_, _, _, _, _, rfl, fun b9 => StP.tg (x := t0) (t := t') (bcase_f rfl ?_)⟩
          obtain ⟨d0, d1, d2, d3⟩ := tgC (I := J2) (S := T2) (b := b9) (t := t')
          rw [add_mk] at d1 d2 d3
          have hs9 : Sub ((b1, .cells (elT t).toArray 44 (0, 0)) :: S) ((b9, .cells (elT t').toArray 44 (0, 0)) :: T2) := hs.right.skip _
          obtain ⟨c0, c1, c2, c3⟩ := tgCell (I := J2) hs9
          refine ⟨_, d0, _, d1, _, d2, _, d3, _, c0, _, c1, _, c2, _, c3, ?_⟩
          unfold owner_Encode_b11 owner_Encode_b12
          refine bcase_not (bcase_of (fun e => ⟨S, hs9.drop, ?_, rfl⟩) (fun e => ⟨S, hs9.drop, ?_, rfl⟩))
          · rw [h0, if_pos (tg_eq.1 e)]; rfl
          · rw [h0, if_neg (fun h => by rw [tg_eq.2 h] at e; cases e)]; rfl
  have b6 : ∀ (xs : List ByteArray) (w : ByteArray) (p : Option Addr) (n c : Nat) (own : SH) (J : IMem) (T : SH), GL J → OwnS (.slice p n c) xs own → xs.length ≤ 500 → Sub (own ++ (b1, .cells (elT t).toArray 44 (0, 0)) :: S) T → encF t = encX t xs w →
      owner_Encode_b6 (fun v J T => ∃ L, Sub L T ∧ v = mkV (encF t) ∧ L = S) ⟨b1, 0, none⟩ p n c ok w J T := by
    intro xs w p n c own J T g ho hxl hs he
    unfold owner_Encode_b6
    rw [ba_dec]
    refine bcase_not (bcase_dec (fun e => b7 xs w xs p n c own J T g ho (by omega) (by rw [if_pos e]) hs he) (fun e => ?_))
    intro b45
    refine AppS1 hs ho (by omega) ?_
    intro p' n' c' own' T' ho' hs'
    exact b7 xs w (xs ++ [w]) p' n' c' own' J T' g ho' (by simp; omega) (by rw [if_neg e]) hs' he
  have b5 : ∀ (xs : List ByteArray) (p : Option Addr) (n c : Nat) (own : SH) (J : IMem) (T : SH), GL J → OwnS (.slice p n c) xs own → xs.length ≤ 500 → Sub (own ++ (b1, .cells (elT t).toArray 44 (0, 0)) :: S) T → encL t = xs →
      owner_Encode_b5 (fun v J T => ∃ L, Sub L T ∧ v = mkV (encF t) ∧ L = S) ⟨b1, 0, none⟩ p n c ok (wordK t.1) J T := by
    intro xs p n c own J T g ho hxl hs he
    unfold owner_Encode_b5
    obtain ⟨c0, c1, c2, c3⟩ := tgCell (I := J) hs.right
    refine ⟨_, c0, bcase_beq (fun h5 => ?_) (fun h5 => ?_)⟩
    · refine (kinds_runs J T).mono ?_
      rintro v J1 T1 hle1 ⟨r, rfl, rfl⟩
      obtain ⟨b, hb⟩ := kinds_at (I := J1) (S := (r, .map kindsE 4) :: T) (List.mem_cons_self ..) 4
      refine ⟨_, rfl, ndB, b, hb, b6 xs ndB p n c own J1 _ (g.le hle1) ho hxl (hs.skip _) ?_⟩
      rw [encF, he, encW, if_pos h5]
    · refine b6 xs (wordK t.1) p n c own J _ g ho hxl hs ?_
      rw [encF, he, encW, if_neg h5]
  unfold owner_Encode_b1
  obtain ⟨c0, c1, c2, c3⟩ := tgCell (I := J) hs.right
  refine ⟨_, c0, (kinds_runs J T).mono ?_⟩
  rintro v J1 T1 hle1 ⟨r, rfl, rfl⟩
  obtain ⟨b, hb⟩ := kinds_at (I := J1) (S := (r, .map kindsE 4) :: T) (List.mem_cons_self ..) t.1
  have g2 := g1.le hle1
  have hs1 : Sub (own ++ (b1, .cells (elT t).toArray 44 (0, 0)) :: S) ((r, .map kindsE 4) :: T) := hs.skip _
  refine ⟨_, rfl, ⟨hle1, [(r, .map kindsE 4)], List.Perm.refl _⟩, _, b, hb, ?_⟩
  unfold owner_Encode_b2 owner_Encode_b3
  obtain ⟨d0, d1, d2, d3⟩ := tgCell (I := J1) hs1.right
  refine ⟨_, d0, ?_⟩
  have pre : (t.1 = 0 ∨ t.1 = 3 ∨ t.1 = 6) → owner_Encode_b4 (fun v J T => ∃ L, Sub L T ∧ v = mkV (encF t) ∧ L = S) ⟨b1, 0, none⟩ p m c ok (wordK t.1) t.1 true J1 ((r, .map kindsE 4) :: T) := by
    intro hk
    unfold owner_Encode_b4
    refine bcase_t rfl ⟨_, d2, _, by rw [add_mk] at d3 ⊢; rw [add_mk]; exact d3, (Prefix_runs g2 t.2.2.1 t.2.2.2 _).mono ?_⟩
    rintro v J2 T2 hle2 ⟨own2, ho2, hs2⟩
    obtain ⟨p2, c2, rfl⟩ := ho2.slice
    have hlp : (pfxL t.2.2.1 t.2.2.2).length ≤ 500 := by
      rw [pfxL]
      split
      · rw [List.length_cons, addrL]
        split
        · simp [fourL]
        · have := sixL_len t.2.2.1; omega
      · simp
    refine ⟨_, _, _, rfl, b5 _ p2 _ c2 own2 J2 T2 (g2.le hle2) ho2 hlp ?_ (by rw [encL, if_pos hk])⟩
    exact hs2.re (fun a => by have := hs1.right.cnt a; simp only [cnt_app, cnt_cons] at *; omega)
  have plain : ¬ (t.1 = 0 ∨ t.1 = 3 ∨ t.1 = 6) → owner_Encode_b4 (fun v J T => ∃ L, Sub L T ∧ v = mkV (encF t) ∧ L = S) ⟨b1, 0, none⟩ p m c ok (wordK t.1) t.1 false J1 ((r, .map kindsE 4) :: T) := by
    intro hk
    unfold owner_Encode_b4
    have star : (t.1 = 2 ∨ t.1 = 5) → owner_Encode_b13 (fun v J T => ∃ L, Sub L T ∧ v = mkV (encF t) ∧ L = S) ⟨b1, 0, none⟩ p m c ok (wordK t.1) true J1 ((r, .map kindsE 4) :: T) := by
      intro h2
      unfold owner_Encode_b13
      refine bcase_t rfl ?_
      intro b33
      have hm := ho.len
      subst hm
      have ho0 : OwnS (.slice (some ⟨b33, 0, none⟩) 1 1) [starB] [(b33, .cells #[.string starB] 9 (0, 0))] := OwnS.mk (xs := [starB]) (rest := []) rfl (by decide)
      refine AppSs (xs := [starB]) (ys := ls) (own := [(b33, .cells #[.string starB] 9 (0, 0))]) (F := (b1, .cells (elT t).toArray 44 (0, 0)) :: S) ((hs1.right).cons _) ho0 (((OwnS.row ho).sub hs1.left).sub ((Sub.refl _).skip _)) (by simp; omega) ?_
      intro p' n' c' own' T' ho' hs'
      refine b5 _ p' n' c' own' J1 T' g2 ho' (by simp; omega) hs' ?_
      rw [encL, if_neg hk, if_pos h2, ← hls]; rfl
    have rest : ¬ (t.1 = 2 ∨ t.1 = 5) → owner_Encode_b13 (fun v J T => ∃ L, Sub L T ∧ v = mkV (encF t) ∧ L = S) ⟨b1, 0, none⟩ p m c ok (wordK t.1) false J1 ((r, .map kindsE 4) :: T) := by
      intro h2
      unfold owner_Encode_b13
      refine bcase_f rfl (b5 ls p m c own J1 _ g2 ho (by omega) hs1 ?_)
      rw [encL, if_neg hk, if_neg h2, ← hls]
    refine bcase_f rfl (bcase_beq (fun e => ?_) (fun e => ?_))
    · rw [show (t.1 == (2 : Int)) = true by rw [e]; rfl]; exact star (.inl e)
    · by_cases e5 : t.1 = 5
      · rw [show (t.1 == (5 : Int)) = true by rw [e5]; rfl]; exact star (.inr e5)
      · rw [show (t.1 == (5 : Int)) = false by simpa using e5]; exact rest (by rintro (h | h); exact e h; exact e5 h)
  refine bcase_beq (fun e => ?_) (fun e => bcase_beq (fun e3 => ?_) (fun e3 => ?_))
  · rw [show (t.1 == (0 : Int)) = true by rw [e]; rfl]; exact pre (.inl e)
  · rw [show (t.1 == (3 : Int)) = true by rw [e3]; rfl]; exact pre (.inr (.inl e3))
  · by_cases e6 : t.1 = 6
    · rw [show (t.1 == (6 : Int)) = true by rw [e6]; rfl]; exact pre (.inr (.inr e6))
    · rw [show (t.1 == (6 : Int)) = false by simpa using e6]; exact plain (by rintro (h | h | h); exact e h; exact e3 h; exact e6 h)
end Go.Proofs.YtoiilcdaldnjfaaGreatDoor
/- Triggers and names lead to each other: plain laws. -/
namespace Go.Proofs.YtoiilcdaldnjfaaGreatDoor
open Go.Px
set_option linter.unusedVariables false
set_option linter.unusedSimpArgs false
set_option maxRecDepth 8000

theorem makeN_fwd : ∀ (ls : List ByteArray) (acc : ByteArray), (∀ l ∈ ls, IsLab l) → acc.size + (nm ls).size ≤ 254 → makeN ls acc = some (acc ++ nm ls)
  | [], acc, _, _ => by
    rw [makeN]
    congr 1
    exact bext (by simp [nm, wire])
  | l :: ls, acc, h, hs => by
    have h1 := h l (List.mem_cons_self ..)
    have hsz := nm_cons_size l ls
    have hlo := h1.lo; have hhi := h1.hi
    rw [makeN, if_neg (by omega)]
    have hp : (acc.push (UInt8.ofNat l.size)).size = acc.size + 1 := ByteArray.size_push
    rw [h1.low, makeN_fwd ls _ (fun x hx => h x (List.mem_cons_of_mem _ hx)) (by rw [app_size, hp]; omega)]
    congr 1
    refine bext ?_
    simp [nm_list, wire_cons, ByteArray.data_push]
theorem makeN_ok {ls : List ByteArray} (h : ∀ l ∈ ls, IsLab l) (hs : (nm ls).size ≤ 254) : makeN ls ByteArray.empty = some (nm ls) := by
  have := makeN_fwd ls ByteArray.empty h (by have : ByteArray.empty.size = 0 := rfl; omega)
  rw [this]
  congr 1
theorem makeN_low {ls : List ByteArray} {m : ByteArray} (h : ∀ l ∈ ls, IsLab l) (hm : makeN ls ByteArray.empty = some m) : m = nm ls ∧ (nm ls).size ≤ 254 := by
  have h1 := (makeN_nm hm).1
  have h2 : ls.map foldB = ls := by
    have : ls.map foldB = ls.map id := List.map_congr_left fun l hl => (h l hl).low
    rw [this, List.map_id]
  rw [h2] at h1
  have h3 : m = nm ls := by rw [h1]; exact bext (by simp)
  exact ⟨h3, by rw [← h3]; exact makeN_size (by decide) hm⟩
theorem labN_empty : labN ⟨#[]⟩ = some [] := by
  have := labN_nm (ls := []) (fun l h => by cases h) (by decide)
  exact this
/-- the whole name's labels -/
def encU (t : Tg) : List ByteArray := if encW t = ⟨#[]⟩ then encL t else encL t ++ [encW t]
theorem enc_ok {t : Tg} {ls : List ByteArray} (hn : labN t.2.1 = some ls) (hu : ∀ l ∈ encU t, IsLab l) (hs : (nm (encU t)).size ≤ 254) (hd : decL (encU t) = some t) : encF t = some (nm (encU t)) := by
  rw [encF, encX, hn]
  dsimp only
  have e : (if encW t = ⟨#[]⟩ then encL t else encL t ++ [encW t]) = encU t := rfl
  rw [e, makeN_ok hu hs]
  dsimp only
  rw [if_pos]
  rw [decF, labN_nm hu hs]
  exact hd
theorem enc_dec {t : Tg} {m : ByteArray} (h : encF t = some m) : decF m = some t := by
  rw [encF, encX] at h
  split at h
  · cases h
  · split at h
    · cases h
    · split at h
      · rename_i hd
        rw [← Option.some.inj h]; exact hd
      · cases h
theorem kind_word {w : ByteArray} {k : Int} (h : kindOf w = some k) : wordK k = w ∧ (k = 0 ∨ k = 3 ∨ k = 4 ∨ k = 6) ∧ w ≠ ⟨#[]⟩ := by
  have hne : ∀ x : ByteArray, x.size ≠ 0 → x ≠ ⟨#[]⟩ := fun x h e => h (by rw [e]; rfl)
  rw [kindOf] at h
  split at h
  · rename_i e; rw [← Option.some.inj h, e]; exact ⟨rfl, .inl rfl, hne _ (by decide)⟩
  · split at h
    · rename_i e; rw [← Option.some.inj h, e]; exact ⟨rfl, .inr (.inl rfl), hne _ (by decide)⟩
    · split at h
      · rename_i e; rw [← Option.some.inj h, e]; exact ⟨rfl, .inr (.inr (.inl rfl)), hne _ (by decide)⟩
      · split at h
        · rename_i e; rw [← Option.some.inj h, e]; exact ⟨rfl, .inr (.inr (.inr rfl)), hne _ (by decide)⟩
        · cases h
theorem last_split {α : Type} {ls : List α} {w : α} (h : ls.getLast? = some w) : ls = ls.dropLast ++ [w] := by
  rw [List.getLast?_eq_some_iff] at h
  obtain ⟨ys, rfl⟩ := h
  simp
theorem named_some {ls : List ByteArray} {ex wild : Int} {t : Tg} (hl : ∀ l ∈ ls, IsLab l) (h : namedF ls ex wild = some t) :
    (∃ r, ls = starB :: r ∧ t = (wild, nm r, ⟨#[]⟩, 0) ∧ labN (nm r) = some r) ∨ (t = (ex, nm ls, ⟨#[]⟩, 0) ∧ labN (nm ls) = some ls) := by
  cases ls with
  | nil => cases h
  | cons l r =>
    rw [namedF] at h
    split at h
    · rename_i e
      obtain ⟨m, hm, rfl⟩ := Option.map_eq_some_iff.1 h
      have hr : ∀ x ∈ r, IsLab x := fun x hx => hl x (List.mem_cons_of_mem _ hx)
      obtain ⟨h1, h2⟩ := makeN_low hr hm
      exact .inl ⟨r, by rw [e], by rw [h1], labN_nm hr h2⟩
    · obtain ⟨m, hm, rfl⟩ := Option.map_eq_some_iff.1 h
      obtain ⟨h1, h2⟩ := makeN_low hl hm
      exact .inr ⟨by rw [h1], labN_nm hl h2⟩
theorem dec_enc {n : ByteArray} {t : Tg} (h : decF n = some t) : encF t = some n := by
  have hdn := h
  rw [decF] at h
  cases hl : labN n with
  | none => rw [hl] at h; cases h
  | some ls =>
    rw [hl] at h
    dsimp only at h
    obtain ⟨hn, hlab, hsz⟩ := labN_some hl
    have fin : encU t = ls → (∃ l0, labN t.2.1 = some l0) → encF t = some n := by
      rintro he ⟨l0, h0⟩
      rw [hn, ← he]
      rw [hn] at hsz
      exact enc_ok h0 (by rw [he]; exact hlab) (by rw [he]; exact hsz) (by rw [he]; exact h)
    rw [decL] at h
    cases hw : ls.getLast? with
    | none => rw [hw] at h; cases h
    | some w =>
      rw [hw] at h
      dsimp only at h
      have hsp := last_split hw
      cases hk : kindOf w with
      | none =>
        rw [hk] at h
        rcases named_some hlab h with ⟨r, hr, rfl, hlr⟩ | ⟨rfl, hlr⟩
        · exact fin (by rw [encU, if_pos (by rfl), encL, if_neg (by simp), if_pos (.inl rfl)]; dsimp only; rw [hlr, hr]; rfl) ⟨_, hlr⟩
        · exact fin (by rw [encU, if_pos (by rfl), encL, if_neg (by simp), if_neg (by simp)]; dsimp only; rw [hlr]; rfl) ⟨_, hlr⟩
      | some k =>
        rw [hk] at h
        dsimp only at h
        obtain ⟨hwk, hk4, hwne⟩ := kind_word hk
        have hlab2 : ∀ l ∈ ls.dropLast, IsLab l := fun l hl => hlab l (List.dropLast_subset _ hl)
        by_cases h4 : k = 4
        · rw [if_pos h4] at h
          subst h4
          have hnd : w = ndB := hwk.symm
          have ndne : ndB ≠ ⟨#[]⟩ := by rw [← hnd]; exact hwne
          rcases named_some hlab2 h with ⟨r, hr, rfl, hlr⟩ | ⟨rfl, hlr⟩
          · refine fin ?_ ⟨_, hlr⟩
            have e : encW ((5, nm r, ⟨#[]⟩, 0) : Tg) = ndB := rfl
            rw [encU, e, if_neg ndne, encL, if_neg (by simp), if_pos (.inr rfl)]; dsimp only
            rw [hlr]
            conv => rhs; rw [hsp, hr, hnd]
            rfl
          · refine fin ?_ ⟨_, hlr⟩
            have e : encW ((4, nm ls.dropLast, ⟨#[]⟩, 0) : Tg) = ndB := rfl
            rw [encU, e, if_neg ndne, encL, if_neg (by simp), if_neg (by simp)]; dsimp only
            rw [hlr]
            conv => rhs; rw [hsp, hnd]
            rfl
        · rw [if_neg h4] at h
          obtain ⟨p, hp, rfl⟩ := Option.map_eq_some_iff.1 h
          obtain ⟨hm, hpl⟩ := adrF_some hp
          refine fin ?_ ⟨_, labN_empty⟩
          have hk3 : k = 0 ∨ k = 3 ∨ k = 6 := by omega
          have e : encW ((k, ⟨#[]⟩, p.1, p.2) : Tg) = w := by
            rw [encW, if_neg (by dsimp only; omega)]; exact hwk
          rw [encU, e, if_neg hwne, encL, if_pos hk3]; dsimp only
          conv => rhs; rw [hsp]
          rw [← hpl]
end Go.Proofs.YtoiilcdaldnjfaaGreatDoor
/- The law's triggers by numbers; the document's examples. -/
namespace Go.Proofs.YtoiilcdaldnjfaaGreatDoor
open Go.Px
set_option linter.unusedVariables false
set_option linter.unusedSimpArgs false
set_option maxRecDepth 8000

/-! ### triggers by numbers -/
def wrdL : List ByteArray := [⟨#[97]⟩, ⟨#[98]⟩, ⟨#[119, 119, 119]⟩, ⟨#[101, 120]⟩, ⟨#[111, 114, 103]⟩]
structure GoodP (t : Tg) : Prop where
  kind : t.1 = 0 ∨ t.1 = 3 ∨ t.1 = 6
  name : t.2.1 = ⟨#[]⟩
  may : mayP t.2.2.1 t.2.2.2
structure GoodN (t : Tg) : Prop where
  kind : t.1 = 1 ∨ t.1 = 2 ∨ t.1 = 4 ∨ t.1 = 5
  addr : t.2.2 = (⟨#[]⟩, 0)
  name : ∃ ls : List ByteArray, (∀ l ∈ ls, l ∈ wrdL) ∧ ls.length ≤ 5 ∧ t.2.1 = nm ls ∧ (t.1 = 1 ∨ t.1 = 4 → ls ≠ [])
end Go.Proofs.YtoiilcdaldnjfaaGreatDoor
/- The law's arguments: acts as they come; the zone's SOA. -/
namespace Go.Proofs.YtoiilcdaldnjfaaGreatDoor
open Go.Px
set_option linter.unusedVariables false

end Go.Proofs.YtoiilcdaldnjfaaGreatDoor
/- Imports alone. -/
/- Records in order; the records of a name; the same records; ZoneAt. -/
namespace Go.Proofs.YtoiilcdaldnjfaaGreatDoor
open Go.Px
set_option linter.unusedVariables false

theorem OwnR.cap {α : Type} {el : α → List Value} {sz : Nat} (hsz : 0 < sz) {e : TypeId} {A : Option Addr} {n c : Nat} {xs : List α} {own : SH} (h : OwnR e sz el (.slice A n c) xs own) : xs.length ≤ c := by
  rcases h with ⟨hv, rfl, _⟩ | ⟨g, cap, rest, hv, _, hcap, _⟩
  · exact Nat.zero_le _
  · injection hv with h1 h2 h3
    subst h3
    have : xs.length * sz ≤ c * sz := by omega
    exact Nat.le_of_mul_le_mul_right this hsz
def ofN (n : ByteArray) (r : Rc) : Bool := r.1.toList == n.toList
theorem filter_snoc {xs : List Rc} {k : Nat} {x : Rc} (p : Rc → Bool) (h : xs[k]? = some x) : (xs.take (k + 1)).filter p = (xs.take k).filter p ++ (if p x then [x] else []) := by
  rw [take_snoc h, List.filter_append]
  congr 1
  cases hp : p x <;> simp [List.filter, hp]
theorem At_runs {xs : List Rc} {a : Option Addr} {c : Nat} {n : ByteArray} {I : IMem} {S : SH} (hx : RowIn I S a xs.length 4 encR xs) (hl : xs.length ≤ 1000000) :
    Runs Tryz.prog 70 #[.slice a xs.length c, .string n] I S fun v _ T => ∃ own, OwnZ v (xs.filter (ofN n)) own ∧ Sub (own ++ S) T := by
  refine zone_At_fn _ _ _ _ _ _ _ ?_
  unfold zone_At zone_At_b1 zone_At_b2
  refine ⟨fun m n' o on oc x xn xc q i J T => n' = n ∧ x = a ∧ xn = xs.length ∧ q = (xs.length : Int) ∧ I.le J ∧ ∃ (k : Nat) (own : SH), i = (k : Int) ∧ k ≤ xs.length ∧ m = xs.length - k ∧ OwnZ (.slice o on oc) ((xs.take k).filter (ofN n)) own ∧ Sub (own ++ S) T,
    xs.length, ⟨rfl, rfl, rfl, rfl, IMem.le.refl I, 0, [], rfl, Nat.zero_le _, rfl, OwnR.nil, Sub.refl _⟩, ?_⟩
  rintro m n' o on oc x xn xc q i J T - ⟨rfl, rfl, rfl, rfl, hle, k, own, rfl, hk, rfl, ho, hs⟩
  unfold zone_At_l3 zone_At_b4 zone_At_b5
  refine bcase_dec (fun h => ?_) (fun h => ?_)
  · obtain ⟨r, hrk⟩ := get_lt (xs := xs) (k := k) (by omega)
    obtain ⟨a', rfl, hc⟩ := ((hx.sub hs.right).le hle).cell hrk
    obtain ⟨c0, c1, c2, c3⟩ := CellsR hc
    have hsn := filter_snoc (ofN n') hrk
    have hfl : ((xs.take k).filter (ofN n')).length ≤ k := by
      have := List.length_filter_le (ofN n') (xs.take k)
      rw [List.length_take] at this; omega
    have hnext : IntKind.wrap .i64 ((k : Int) + 1) = ((k + 1 : Nat) : Int) := by rw [wrap_i64 (by omega) (by omega)]; rfl
    refine ⟨by omega, by omega, _, c0, _, c1, _, c2, _, c3, fun b7 => StP.rec ⟨_, Cell.at0 rfl, bcase_of (fun g => ?_) (fun g => ?_)⟩⟩
    · refine ⟨_, Cell.at0 rfl, _, Cell.at0 rfl, _, Cell.at0 rfl, _, Cell.at0 rfl, fun b20 => ?_⟩
      have hof : ofN n' r = true := g
      obtain ⟨G, hG⟩ := hs
      refine AppG.own (xs := (xs.take k).filter (ofN n')) (ys := [r]) (el := encR) (own := own) (F := (b20, .cells (encR r).toArray 84 (0, 0)) :: (b7, Obj.cells (encR r).toArray 84 (0, 0)) :: (S ++ G)) encR_len encR_one rfl ?_ ho ⟨?_, rfl⟩ ?_ ?_ ?_
      · exact ((hG.cons _).cons _).trans (by rw [List.append_assoc]; exact perm_mid2)
      · exact Rd.list (L := encR r) rfl (by simp [encR_len])
      · simp only [List.length_singleton, maxLen]; omega
      · simp only [List.length_singleton]; omega
      · intro p m d own2 ho2
        refine ⟨xs.length - (k + 1), by omega, rfl, rfl, rfl, rfl, hle, k + 1, own2, hnext, by omega, rfl, ?_, ?_⟩
        · rw [hsn, hof]; exact ho2
        · exact ⟨(b20, _) :: (b7, _) :: G, by rw [List.append_assoc]; exact List.Perm.append_left own2 perm_mid2⟩
    · have hof : ofN n' r = false := g
      refine ⟨xs.length - (k + 1), by omega, rfl, rfl, rfl, rfl, hle, k + 1, own, hnext, by omega, rfl, ?_, hs.skip _⟩
      rw [hsn, hof]; simpa using ho
  · have : k = xs.length := by omega
    subst this
    rw [List.take_length] at ho
    exact ⟨own, ho, hs⟩
end Go.Proofs.YtoiilcdaldnjfaaGreatDoor
/- Records in order: each once, the same ones just if they are the same; what is put in, and what is taken out. -/
namespace Go.Proofs.YtoiilcdaldnjfaaGreatDoor
open Go.Px
set_option linter.unusedVariables false

abbrev SS (xs : List Rc) : Prop := xs.Pairwise (fun a b => cmpR a b < 0)
theorem lt_irr {a : Rc} (h : cmpR a a < 0) : False := by rw [cmR.refl] at h; omega
theorem lt_asy {a b : Rc} (h : cmpR a b < 0) (g : cmpR b a < 0) : False := lt_irr (cmR.trans _ _ _ h g)
theorem SS.ext : ∀ {xs ys : List Rc}, SS xs → SS ys → (∀ x, x ∈ xs ↔ x ∈ ys) → xs = ys
  | [], [], _, _, _ => rfl
  | [], y :: ys, _, _, h => by have := (h y).2 (List.mem_cons_self ..); cases this
  | x :: xs, [], _, _, h => by have := (h x).1 (List.mem_cons_self ..); cases this
  | x :: xs, y :: ys, hx, hy, h => by
    have hx' := List.pairwise_cons.1 hx
    have hy' := List.pairwise_cons.1 hy
    have hxy : x = y := by
      rcases List.mem_cons.1 ((h x).1 (List.mem_cons_self ..)) with e | e
      · exact e
      · rcases List.mem_cons.1 ((h y).2 (List.mem_cons_self ..)) with e' | e'
        · exact e'.symm
        · exact (lt_asy (hx'.1 y e') (hy'.1 x e)).elim
    subst hxy
    congr 1
    refine SS.ext hx'.2 hy'.2 fun z => ⟨fun hz => ?_, fun hz => ?_⟩
    · rcases List.mem_cons.1 ((h z).1 (List.mem_cons_of_mem _ hz)) with e | e
      · subst e; exact (lt_irr (hx'.1 z hz)).elim
      · exact e
    · rcases List.mem_cons.1 ((h z).2 (List.mem_cons_of_mem _ hz)) with e | e
      · subst e; exact (lt_irr (hy'.1 z hz)).elim
      · exact e
theorem SS.get {xs : List Rc} (h : SS xs) {i j : Nat} {x y : Rc} (hij : i < j) (hx : xs[i]? = some x) (hy : xs[j]? = some y) : cmpR x y < 0 := by
  have hi := lt_get hx
  have hj := lt_get hy
  have := List.pairwise_iff_getElem.1 h i j hi hj hij
  rw [List.getElem?_eq_getElem hi] at hx
  rw [List.getElem?_eq_getElem hj] at hy
  injection hx with hx; injection hy with hy
  rw [hx, hy] at this; exact this
theorem SS.mono {xs : List Rc} (h : SS xs) (r : Rc) : Mono xs r := fun i j x y hij hi hj hy => by
  rcases Nat.lt_or_ge i j with g | g
  · exact cmR.trans _ _ _ (h.get g hi hj) hy
  · obtain rfl : i = j := by omega
    rw [hi] at hj; injection hj with hj; subst hj; exact hy
theorem mem_at {zs : List Rc} {r : Rc} {k : Nat} (h : SS zs) (hb : Below zs r k) : r ∈ zs ↔ zs[k]? = some r := by
  constructor
  · intro hm
    obtain ⟨i, hi⟩ := List.getElem?_of_mem hm
    have h1 : ¬ i < k := fun e => lt_irr ((hb.2 i r hi).1 e)
    rcases Nat.lt_or_ge k i with g | g
    · obtain ⟨y, hy⟩ := get_lt (xs := zs) (k := k) (by have := lt_get hi; omega)
      have := (hb.2 k y hy).2 (h.get g hy hi); omega
    · obtain rfl : i = k := by omega
      exact hi
  · exact fun e => List.mem_of_getElem? e
/-- what a deletion makes -/
def recB (x r : Rc) : Bool := ((x.1 : ByteArray) == (r.1 : ByteArray)) && (((x.2.1 : Int) == (r.2.1 : Int)) && (((x.2.2.1 : Int) == (r.2.2.1 : Int)) && (((x.2.2.2 : ByteArray) == (r.2.2.2 : ByteArray)) && true)))
theorem recB_iff {a b : Rc} : recB a b = true ↔ a = b := recEq
def without (xs : List Rc) (r : Rc) : List Rc := xs.filter fun x => !recB x r
theorem SS.without {xs : List Rc} (h : SS xs) (r : Rc) : SS (without xs r) := h.sublist List.filter_sublist
end Go.Proofs.YtoiilcdaldnjfaaGreatDoor
/- Stores into a block whose cells are written out; a pointer that is not nil. -/
namespace Go.Px
set_option linter.unusedVariables false
theorem StP.cells {S : SH} {g o : Nat} {L L' : List Value} {e : TypeId} {vs : List Value} {K : SH → Prop} (hl : o + vs.length ≤ L.length) (ho : vs.all one = true) (he : L.take o ++ vs ++ L.drop (o + vs.length) = L') (h : K ((g, .cells L'.toArray e (0, 0)) :: S)) :
    StP ((g, .cells L.toArray e (0, 0)) :: S) ⟨g, o, none⟩ vs K := StP.list hl ho (he ▸ h)
theorem StP.all {S : SH} {b : Nat} {cs vs : List Value} {e : TypeId} {K : SH → Prop} (hc : vs.length = cs.length) (ho : vs.all one = true) (h : K ((b, .cells vs.toArray e (0, 0)) :: S)) : StP ((b, .cells cs.toArray e (0, 0)) :: S) ⟨b, 0, none⟩ vs K := by
  refine StP.list (by omega) ho ?_
  rw [List.take_zero, List.drop_of_length_le (by omega), List.append_nil, List.nil_append]
  exact h
/-- a store into a block that is owned among others -/
theorem StP.among {T F : SH} {g o : Nat} {L L' : List Value} {e : TypeId} {vs : List Value} {K : SH → Prop} (hs : Sub ((g, .cells L.toArray e (0, 0)) :: F) T) (hl : o + vs.length ≤ L.length) (ho : vs.all one = true) (he : L.take o ++ vs ++ L.drop (o + vs.length) = L')
    (h : ∀ T', Sub ((g, .cells L'.toArray e (0, 0)) :: F) T' → K T') : StP T ⟨g, o, none⟩ vs K := StP.of_sub hs (StP.cells hl ho he h)
theorem Cell.among {I : IMem} {T F : SH} {g o : Nat} {cs : Array Value} {e : TypeId} {fz : Nat × Nat} {v : Value} (hs : Sub ((g, .cells cs e fz) :: F) T) (h : cs[o]? = some v) : Cell I T ⟨g, o, none⟩ v := hs.cell' (Cell.at0 h)
theorem StP.at_ {T : SH} {a a' : Addr} {vs : List Value} {K : SH → Prop} (e : a = a') (h : StP T a' vs K) : StP T a vs K := e ▸ h
theorem Cell.at_ {I : IMem} {T : SH} {a a' : Addr} {v : Value} (e : a = a') (h : Cell I T a' v) : Cell I T a v := e ▸ h
theorem Sub.both {A B C D : SH} (h : Sub A B) (g : Sub C D) : Sub (A ++ C) (B ++ D) := by
  refine sub_of fun a => ?_
  have := h.cnt a
  have := g.cnt a
  rw [cnt_app, cnt_app]
  omega
end Go.Px
set_option linter.unusedVariables false
set_option maxRecDepth 8000
set_option maxHeartbeats 2000000
namespace Go.Proofs.YtoiilcdaldnjfaaGreatDoor
open Go.Px
def search_Node_b4 (R : RT) (x4 x5 : Addr) (x6 : Bool) (I : IMem) (S : SH) : Prop :=
  ∃ u0, Cell I S x4 (.int .i64 u0) ∧
  ∃ u1, Cell I S (x4.add 1) (.string u1) ∧
  ∃ u2, Cell I S (x4.add 2) (.string u2) ∧
  ∃ u3, Cell I S (x4.add 3) (.int .i64 u3) ∧
  ∃ u4, Cell I S x5 (.int .i64 u4) ∧
  ∃ u5, Cell I S (x5.add 1) (.string u5) ∧
  ∃ u6, Cell I S (x5.add 2) (.bool u6) ∧
  ∃ u7 u7n u7c, Cell I S (x5.add 3) (.slice u7 u7n u7c) ∧
  R (.tuple #[.agg #[.int .i64 u0, .string u1, .string u2, .int .i64 u3], .agg #[.int .i64 u4, .string u5, .bool u6, .slice u7 u7n u7c], .bool x6]) I S
def search_Node_b3 (R : RT) (x2 x4 x5 x9 x11 : Addr) (I : IMem) (S : SH) : Prop :=
  ∃ u0, Cell I S x9 (.int .i64 u0) ∧
  ∃ u1, Cell I S (x9.add 1) (.string u1) ∧
  ∃ u2, Cell I S (x9.add 2) (.string u2) ∧
  ∃ u3, Cell I S (x9.add 3) (.int .i64 u3) ∧
  ∃ u4, Cell I S x11 (.int .i64 u4) ∧
  ∃ u5, Cell I S (x11.add 1) (.string u5) ∧
  ∃ u6, Cell I S (x11.add 2) (.bool u6) ∧
  ∃ u7 u7n u7c, Cell I S (x11.add 3) (.slice u7 u7n u7c) ∧
  ∃ u8, Cell I S (x2.add 3) (.int .i64 u8) ∧
  Runs Tryz.prog 71 #[.agg #[.int .i64 u4, .string u5, .bool u6, .slice u7 u7n u7c], .int .i64 u8] I S fun v I1 S1 => ∃ u9 ua ub uc ucn ucc, v = .agg #[.int .i64 u9, .string ua, .bool ub, .slice uc ucn ucc] ∧
  Keep I S I1 S1 ∧
  StP S1 x4 [.int .i64 u0, .string u1, .string u2, .int .i64 u3] fun S1' =>
  StP S1' x5 [.int .i64 u9, .string ua, .bool ub, .slice uc ucn ucc] fun S1'' =>
  search_Node_b4 R x4 x5 true I1 S1''
def search_Node_b2 (R : RT) (x2 x4 x5 x9 x11 : Addr) (x42 : Bool) (I : IMem) (S : SH) : Prop :=
  bcase x42
    (StP S x4 [.int .i64 0, .string ⟨#[]⟩, .string ⟨#[]⟩, .int .i64 0] fun S1 =>
    StP S1 x5 [.int .i64 0, .string ⟨#[]⟩, .bool false, .slice none 0 0] fun S1' =>
    ∃ u0, Cell I S1' x4 (.int .i64 u0) ∧
    ∃ u1, Cell I S1' (x4.add 1) (.string u1) ∧
    ∃ u2, Cell I S1' (x4.add 2) (.string u2) ∧
    ∃ u3, Cell I S1' (x4.add 3) (.int .i64 u3) ∧
    ∃ u4, Cell I S1' x5 (.int .i64 u4) ∧
    ∃ u5, Cell I S1' (x5.add 1) (.string u5) ∧
    ∃ u6, Cell I S1' (x5.add 2) (.bool u6) ∧
    ∃ u7 u7n u7c, Cell I S1' (x5.add 3) (.slice u7 u7n u7c) ∧
    R (.tuple #[.agg #[.int .i64 u0, .string u1, .string u2, .int .i64 u3], .agg #[.int .i64 u4, .string u5, .bool u6, .slice u7 u7n u7c], .bool false]) I S1')
    (search_Node_b3 R x2 x4 x5 x9 x11 I S)
def search_Node_b1 (R : RT) (x2 x4 x5 : Addr) (x8 : Bool) (x9 : Addr) (x10 : Bool) (x11 : Addr) (x12 : Bool) (I : IMem) (S : SH) : Prop :=
  bcase (!x8)
    (search_Node_b2 R x2 x4 x5 x9 x11 true I S)
    (bcase (!x10)
      (search_Node_b2 R x2 x4 x5 x9 x11 true I S)
      (search_Node_b2 R x2 x4 x5 x9 x11 (!x12) I S))
def search_Node (R : RT) (u0 : ByteArray) (u1 : OA) (u1n u1c : Nat) (u2 : Bool) (u3 : Int) (u4 : ByteArray) (I : IMem) (S : SH) : Prop :=
  ∀ b2 : Nat,
  ∀ b4 : Nat,
  ∀ b5 : Nat,
  ∃ u5, Cell I ((b5, .cells #[.int .i64 0, .string ⟨#[]⟩, .bool false, .slice none 0 0] 46 (0, 0)) :: ((b4, .cells #[.int .i64 0, .string ⟨#[]⟩, .string ⟨#[]⟩, .int .i64 0] 44 (0, 0)) :: ((b2, .cells #[.string u0, .slice u1 u1n u1c, .bool u2, .int .i64 u3] 65 (0, 0)) :: S))) ⟨b2, 0, none⟩ (.string u5) ∧
  Runs Tryz.prog 53 #[.string u4, .string u5] I ((b5, .cells #[.int .i64 0, .string ⟨#[]⟩, .bool false, .slice none 0 0] 46 (0, 0)) :: ((b4, .cells #[.int .i64 0, .string ⟨#[]⟩, .string ⟨#[]⟩, .int .i64 0] 44 (0, 0)) :: ((b2, .cells #[.string u0, .slice u1 u1n u1c, .bool u2, .int .i64 u3] 65 (0, 0)) :: S))) fun v I1 S1 => ∃ u6 u7, v = .tuple #[.string u6, .bool u7] ∧
  Runs Tryz.prog 54 #[.string u6] I1 S1 fun v' I1' S1' => ∃ u8 u9 ua ub uc, v' = .tuple #[.agg #[.int .i64 u8, .string u9, .string ua, .int .i64 ub], .bool uc] ∧
  ∀ b9 : Nat,
  StP ((b9, .cells #[.int .i64 0, .string ⟨#[]⟩, .string ⟨#[]⟩, .int .i64 0] 44 (0, 0)) :: S1') ⟨b9, 0, none⟩ [.int .i64 u8, .string u9, .string ua, .int .i64 ub] fun S1'' =>
  ∃ ud udn udc, Cell I1' S1'' ⟨b2, 1, none⟩ (.slice ud udn udc) ∧
  Runs Tryz.prog 70 #[.slice ud udn udc, .string u4] I1' S1'' fun v'' I1'' S1_r3 => ∃ ue uen uec, v'' = .slice ue uen uec ∧
  Runs Tryz.prog 69 #[.slice ue uen uec] I1'' S1_r3 fun v_r3 I1_r3 S1_r4 => ∃ uf ug uh ui uin uic uj, v_r3 = .tuple #[.agg #[.int .i64 uf, .string ug, .bool uh, .slice ui uin uic], .bool uj] ∧
  ∀ b11 : Nat,
  StP ((b11, .cells #[.int .i64 0, .string ⟨#[]⟩, .bool false, .slice none 0 0] 46 (0, 0)) :: S1_r4) ⟨b11, 0, none⟩ [.int .i64 uf, .string ug, .bool uh, .slice ui uin uic] fun S1_r5 =>
  search_Node_b1 R ⟨b2, 0, none⟩ ⟨b4, 0, none⟩ ⟨b5, 0, none⟩ u7 ⟨b9, 0, none⟩ uc ⟨b11, 0, none⟩ uj I1_r3 S1_r5
theorem search_Node_fn (R : RT) (u0 : ByteArray) (u1 : OA) (u1n u1c : Nat) (u2 : Bool) (u3 : Int) (u4 : ByteArray) (I : IMem) (S : SH) (h : search_Node R u0 u1 u1n u1c u2 u3 u4 I S) : Runs Tryz.prog 37 #[.agg #[.string u0, .slice u1 u1n u1c, .bool u2, .int .i64 u3], .string u4] I S R := by
  refine Runs.of_wp (c := cd Tryz.f37) Tryz.func37 (by kernel_rfl) (by kernel_rfl) ?_
  refine cO 4 [kA 2, kA 4, kA 5, kB 8, kA 9, kB 10, kA 11, kB 12] (search_Node_b1 R) h fun _ _ _ _ _ _ _ _ _ _ _ _ h => ?_
  refine sO [kA 2, kA 4, kA 5, kA 9, kA 11] (search_Node_b3 R) ?_ fun _ _ _ _ _ _ _ _ _ h => ?_
  · refine cO 1 [kA 2, kA 4, kA 5, kA 9, kA 11, kB 42] (search_Node_b2 R) h fun _ _ _ _ _ _ _ _ _ _ h => ?_
    exact pS h
  refine sO [kA 4, kA 5, kB 6] (search_Node_b4 R) (dR (tk 4 0 (.step 4 (.step 5 (.step 6 (.take 7 .done))))) [4, 5, 6] h) fun _ _ _ _ _ _ _ h => ?_
  exact pS h
def search_Less (R : RT) (u0 : Int) (u1 u2 : ByteArray) (u3 u4 : Int) (u5 u6 : ByteArray) (u7 : Int) (I : IMem) (S : SH) : Prop :=
  ∀ b2 : Nat,
  ∀ b3 : Nat,
  ∃ u8, Cell I ((b3, .cells #[.int .i64 u4, .string u5, .string u6, .int .i64 u7] 44 (0, 0)) :: ((b2, .cells #[.int .i64 u0, .string u1, .string u2, .int .i64 u3] 44 (0, 0)) :: S)) ⟨b2, 1, none⟩ (.string u8) ∧
  ∃ u9, Cell I ((b3, .cells #[.int .i64 u4, .string u5, .string u6, .int .i64 u7] 44 (0, 0)) :: ((b2, .cells #[.int .i64 u0, .string u1, .string u2, .int .i64 u3] 44 (0, 0)) :: S)) ⟨b3, 1, none⟩ (.string u9) ∧
  bcase (!(u8.toList == u9.toList))
    (∃ ua, Cell I ((b3, .cells #[.int .i64 u4, .string u5, .string u6, .int .i64 u7] 44 (0, 0)) :: ((b2, .cells #[.int .i64 u0, .string u1, .string u2, .int .i64 u3] 44 (0, 0)) :: S)) ⟨b2, 1, none⟩ (.string ua) ∧
    ∃ ub, Cell I ((b3, .cells #[.int .i64 u4, .string u5, .string u6, .int .i64 u7] 44 (0, 0)) :: ((b2, .cells #[.int .i64 u0, .string u1, .string u2, .int .i64 u3] 44 (0, 0)) :: S)) ⟨b3, 1, none⟩ (.string ub) ∧
    R (.bool (Op.bytesLess ua.toList ub.toList)) I ((b3, .cells #[.int .i64 u4, .string u5, .string u6, .int .i64 u7] 44 (0, 0)) :: ((b2, .cells #[.int .i64 u0, .string u1, .string u2, .int .i64 u3] 44 (0, 0)) :: S)))
    (∃ uc, Cell I ((b3, .cells #[.int .i64 u4, .string u5, .string u6, .int .i64 u7] 44 (0, 0)) :: ((b2, .cells #[.int .i64 u0, .string u1, .string u2, .int .i64 u3] 44 (0, 0)) :: S)) ⟨b2, 2, none⟩ (.string uc) ∧
    ∃ ud, Cell I ((b3, .cells #[.int .i64 u4, .string u5, .string u6, .int .i64 u7] 44 (0, 0)) :: ((b2, .cells #[.int .i64 u0, .string u1, .string u2, .int .i64 u3] 44 (0, 0)) :: S)) ⟨b3, 2, none⟩ (.string ud) ∧
    R (.bool (Op.bytesLess uc.toList ud.toList)) I ((b3, .cells #[.int .i64 u4, .string u5, .string u6, .int .i64 u7] 44 (0, 0)) :: ((b2, .cells #[.int .i64 u0, .string u1, .string u2, .int .i64 u3] 44 (0, 0)) :: S)))
theorem search_Less_fn (R : RT) (u0 : Int) (u1 u2 : ByteArray) (u3 u4 : Int) (u5 u6 : ByteArray) (u7 : Int) (I : IMem) (S : SH) (h : search_Less R u0 u1 u2 u3 u4 u5 u6 u7 I S) : Runs Tryz.prog 34 #[.agg #[.int .i64 u0, .string u1, .string u2, .int .i64 u3], .agg #[.int .i64 u4, .string u5, .string u6, .int .i64 u7]] I S R := by
  refine Runs.of_wp (c := cd Tryz.f34) Tryz.func34 (by kernel_rfl) (by kernel_rfl) ?_
  exact pS h
abbrev action_Of_t3 := OA → Nat → Nat → Addr → OA → Nat → Nat → OA → Nat → Nat → Int → Int → PR
def action_Of_b8 (g3 : action_Of_t3) (R : RT) (x0 : OA) (x0n x0c : Nat) (x2 : Addr) (x4 : OA) (x4n x4c : Nat) (x7 : OA) (x7n x7c : Nat) (x8 x9 : Int) (I : IMem) (S : SH) : Prop :=
  g3 x0 x0n x0c x2 x4 x4n x4c x7 x7n x7c x8 (IntKind.wrap .i64 (x9 + (1 : Int))) I S
def action_Of_b7 (g3 : action_Of_t3) (R : RT) (x0 : OA) (x0n x0c : Nat) (x2 : Addr) (x4 : OA) (x4n x4c : Nat) (x6 : Addr) (x7 : OA) (x7n x7c : Nat) (x8 x9 : Int) (I : IMem) (S : SH) : Prop :=
  ∃ u0, Cell I S x6 (.string u0) ∧
  ∃ u1, Cell I S (x6.add 1) (.int .u16 u1) ∧
  ∃ u2, Cell I S (x6.add 2) (.int .u32 u2) ∧
  ∃ u3, Cell I S (x6.add 3) (.string u3) ∧
  ∀ b34 : Nat,
  AppG 84 4 40 [.string ⟨#[]⟩, .int .u16 0, .int .u32 0, .string ⟨#[]⟩] (some (.slice 84)) I ((b34, .cells #[.string u0, .int .u16 u1, .int .u32 u2, .string u3] 84 (0, 0)) :: S) (.slice x4 x4n x4c) (.slice (some ⟨b34, 0, none⟩) 1 1) fun u4 u4n u4c S1 =>
  action_Of_b8 g3 R x0 x0n x0c x2 u4 u4n u4c x7 x7n x7c x8 x9 I S1
def action_Of_b6 (g3 : action_Of_t3) (R : RT) (x0 : OA) (x0n x0c : Nat) (x2 : Addr) (x4 : OA) (x4n x4c : Nat) (x6 : Addr) (x7 : OA) (x7n x7c : Nat) (x8 x9 : Int) (x30 : Bool) (I : IMem) (S : SH) : Prop :=
  bcase x30
    (StP S x2 [.int .i64 0, .string ⟨#[]⟩, .bool false, .slice none 0 0] fun S1 =>
    ∃ u0, Cell I S1 x2 (.int .i64 u0) ∧
    ∃ u1, Cell I S1 (x2.add 1) (.string u1) ∧
    ∃ u2, Cell I S1 (x2.add 2) (.bool u2) ∧
    ∃ u3 u3n u3c, Cell I S1 (x2.add 3) (.slice u3 u3n u3c) ∧
    R (.tuple #[.agg #[.int .i64 u0, .string u1, .bool u2, .slice u3 u3n u3c], .bool false]) I S1)
    (action_Of_b7 g3 R x0 x0n x0c x2 x4 x4n x4c x6 x7 x7n x7c x8 x9 I S)
def action_Of_b5 (g3 : action_Of_t3) (R : RT) (x0 : OA) (x0n x0c : Nat) (x2 : Addr) (x4 : OA) (x4n x4c : Nat) (x6 : Addr) (x7 : OA) (x7n x7c : Nat) (x8 x9 : Int) (I : IMem) (S : SH) : Prop :=
  ∃ u0, Cell I S (x6.add 1) (.int .u16 u0) ∧
  bcase (u0 == (5 : Int))
    (bcase (decide ((x0n : Int) > (1 : Int)))
      (action_Of_b6 g3 R x0 x0n x0c x2 x4 x4n x4c x6 x7 x7n x7c x8 x9 true I S)
      (∃ u1, Cell I S (x6.add 1) (.int .u16 u1) ∧
      bcase (u1 == (6 : Int))
        (action_Of_b6 g3 R x0 x0n x0c x2 x4 x4n x4c x6 x7 x7n x7c x8 x9 true I S)
        (∃ u2, Cell I S (x6.add 1) (.int .u16 u2) ∧
        action_Of_b6 g3 R x0 x0n x0c x2 x4 x4n x4c x6 x7 x7n x7c x8 x9 (u2 == (2 : Int)) I S)))
    (∃ u3, Cell I S (x6.add 1) (.int .u16 u3) ∧
    bcase (u3 == (6 : Int))
      (action_Of_b6 g3 R x0 x0n x0c x2 x4 x4n x4c x6 x7 x7n x7c x8 x9 true I S)
      (∃ u4, Cell I S (x6.add 1) (.int .u16 u4) ∧
      action_Of_b6 g3 R x0 x0n x0c x2 x4 x4n x4c x6 x7 x7n x7c x8 x9 (u4 == (2 : Int)) I S))
def action_Of_b4 (g3 : action_Of_t3) (R : RT) (x0 : OA) (x0n x0c : Nat) (x2 : Addr) (x4 : OA) (x4n x4c : Nat) (x7 : OA) (x7n x7c : Nat) (x8 x9 : Int) (I : IMem) (S : SH) : Prop :=
  ptrP x7 fun u0 => (0 : Int) ≤ x9 ∧ x9 < (x7n : Int) ∧
  ∃ u1, Cell I S (u0.add (x9.toNat * 4)) (.string u1) ∧
  ∃ u2, Cell I S ((u0.add (x9.toNat * 4)).add 1) (.int .u16 u2) ∧
  ∃ u3, Cell I S ((u0.add (x9.toNat * 4)).add 2) (.int .u32 u3) ∧
  ∃ u4, Cell I S ((u0.add (x9.toNat * 4)).add 3) (.string u4) ∧
  ∀ b6 : Nat,
  StP ((b6, .cells #[.string ⟨#[]⟩, .int .u16 0, .int .u32 0, .string ⟨#[]⟩] 84 (0, 0)) :: S) ⟨b6, 0, none⟩ [.string u1, .int .u16 u2, .int .u32 u3, .string u4] fun S1 =>
  action_Of_b5 g3 R x0 x0n x0c x2 x4 x4n x4c ⟨b6, 0, none⟩ x7 x7n x7c x8 x9 I S1
def action_Of_b9 (R : RT) (x0 : OA) (x0n x0c : Nat) (x2 : Addr) (x4 : OA) (x4n x4c : Nat) (I : IMem) (S : SH) : Prop :=
  bcase ((x0n : Int) == (0 : Int))
    (StP S x2 [.int .i64 0, .string ⟨#[]⟩, .bool false, .slice none 0 0] fun S1 =>
    ∃ u0, Cell I S1 x2 (.int .i64 u0) ∧
    ∃ u1, Cell I S1 (x2.add 1) (.string u1) ∧
    ∃ u2, Cell I S1 (x2.add 2) (.bool u2) ∧
    ∃ u3 u3n u3c, Cell I S1 (x2.add 3) (.slice u3 u3n u3c) ∧
    R (.tuple #[.agg #[.int .i64 u0, .string u1, .bool u2, .slice u3 u3n u3c], .bool false]) I S1)
    (ptrP x0 fun u4 => (0 : Int) ≤ (0 : Int) ∧ (0 : Int) < (x0n : Int) ∧
    ∃ u5, Cell I S ((u4.add ((0 : Int).toNat * 4)).add 1) (.int .u16 u5) ∧
    bcase (u5 == (5 : Int))
      (ptrP x0 fun u6 => (0 : Int) ≤ (0 : Int) ∧ (0 : Int) < (x0n : Int) ∧
      ∃ u7, Cell I S ((u6.add ((0 : Int).toNat * 4)).add 3) (.string u7) ∧
      Runs Tryz.prog 105 #[.string u7] I S fun v I1 S1' => ∃ u8 u9 ua ub ubn ubc, v = .agg #[.int .i64 u8, .string u9, .bool ua, .slice ub ubn ubc] ∧
      StP S1' x2 [.int .i64 u8, .string u9, .bool ua, .slice ub ubn ubc] fun S1'' =>
      ∃ uc, Cell I1 S1'' x2 (.int .i64 uc) ∧
      ∃ ud, Cell I1 S1'' (x2.add 1) (.string ud) ∧
      ∃ ue, Cell I1 S1'' (x2.add 2) (.bool ue) ∧
      ∃ uf ufn ufc, Cell I1 S1'' (x2.add 3) (.slice uf ufn ufc) ∧
      R (.tuple #[.agg #[.int .i64 uc, .string ud, .bool ue, .slice uf ufn ufc], .bool true]) I1 S1'')
      (StP S x2 [.int .i64 8, .string ⟨#[]⟩, .bool false, .slice x4 x4n x4c] fun S1_r3 =>
      ∃ ug, Cell I S1_r3 x2 (.int .i64 ug) ∧
      ∃ uh, Cell I S1_r3 (x2.add 1) (.string uh) ∧
      ∃ ui, Cell I S1_r3 (x2.add 2) (.bool ui) ∧
      ∃ uj ujn ujc, Cell I S1_r3 (x2.add 3) (.slice uj ujn ujc) ∧
      R (.tuple #[.agg #[.int .i64 ug, .string uh, .bool ui, .slice uj ujn ujc], .bool true]) I S1_r3))
def action_Of_l3 (g3 : action_Of_t3) (R : RT) (x0 : OA) (x0n x0c : Nat) (x2 : Addr) (x4 : OA) (x4n x4c : Nat) (x7 : OA) (x7n x7c : Nat) (x8 x9 : Int) (I : IMem) (S : SH) : Prop :=
  bcase (decide (x9 < x8))
    (action_Of_b4 g3 R x0 x0n x0c x2 x4 x4n x4c x7 x7n x7c x8 x9 I S)
    (action_Of_b9 R x0 x0n x0c x2 x4 x4n x4c I S)
def action_Of_b2 (R : RT) (x0 : OA) (x0n x0c : Nat) (x2 : Addr) (x4 : OA) (x4n x4c : Nat) (x7 : OA) (x7n x7c : Nat) (x8 x9 : Int) (I : IMem) (S : SH) : Prop :=
  ∃ (Inv : Nat → action_Of_t3) (m : Nat), Inv m x0 x0n x0c x2 x4 x4n x4c x7 x7n x7c x8 x9 I S ∧
    ∀ (m : Nat) (x0 : OA) (x0n x0c : Nat) (x2 : Addr) (x4 : OA) (x4n x4c : Nat) (x7 : OA) (x7n x7c : Nat) (x8 x9 : Int) (J : IMem) (T : SH), I.le J → Inv m x0 x0n x0c x2 x4 x4n x4c x7 x7n x7c x8 x9 J T →
      action_Of_l3 (fun x0 x0n x0c x2 x4 x4n x4c x7 x7n x7c x8 x9 I S => ∃ m', m' < m ∧ Inv m' x0 x0n x0c x2 x4 x4n x4c x7 x7n x7c x8 x9 I S) R x0 x0n x0c x2 x4 x4n x4c x7 x7n x7c x8 x9 J T
def action_Of_b1 (R : RT) (x0 : OA) (x0n x0c : Nat) (x2 : Addr) (x4 : OA) (x4n x4c : Nat) (I : IMem) (S : SH) : Prop :=
  action_Of_b2 R x0 x0n x0c x2 x4 x4n x4c x0 x0n x0c (x0n : Int) 0 I S
def action_Of (R : RT) (u0 : OA) (u0n u0c : Nat) (I : IMem) (S : SH) : Prop :=
  ∀ b2 : Nat,
  action_Of_b1 R u0 u0n u0c ⟨b2, 0, none⟩ none 0 0 I ((b2, .cells #[.int .i64 0, .string ⟨#[]⟩, .bool false, .slice none 0 0] 46 (0, 0)) :: S)
theorem action_Of_fn (R : RT) (u0 : OA) (u0n u0c : Nat) (I : IMem) (S : SH) (h : action_Of R u0 u0n u0c I S) : Runs Tryz.prog 69 #[.slice u0 u0n u0c] I S R := by
  refine Runs.of_wp (c := cd Tryz.f69) Tryz.func69 (by kernel_rfl) (by kernel_rfl) ?_
  refine cO 2 [kL 0, kA 2, kL 4] (action_Of_b1 R) h fun _ _ _ _ _ _ _ _ _ _ _ h => ?_
  refine sO [kL 0, kA 2, kL 4] (action_Of_b9 R) ?_ fun _ _ _ _ _ _ _ _ _ _ _ h => ?_
  · refine cO 1 [kL 0, kA 2, kL 4, kL 7, kI .i64 8, kI .i64 9] (action_Of_b2 R) h fun _ _ _ _ _ _ _ _ _ _ _ _ _ _ _ _ h => ?_
    refine bK ?_
    obtain ⟨Vg3, mg3, h, hr⟩ := h
    refine lO [kL 0, kA 2, kL 4, kL 7, kI .i64 8, kI .i64 9] Vg3 mg3 h fun mg3 _ I S hle x0 x0n x0c x2 x4 x4n x4c x7 x7n x7c x8 x9 h => ?_
    have h := hr mg3 x0 x0n x0c x2 x4 x4n x4c x7 x7n x7c x8 x9 I S hle h
    refine cO 2 [kL 0, kA 2, kL 4, kL 7, kI .i64 8, kI .i64 9] (action_Of_b4 (fun x0 x0n x0c x2 x4 x4n x4c x7 x7n x7c x8 x9 I S => ∃ m', m' < mg3 ∧ Vg3 m' x0 x0n x0c x2 x4 x4n x4c x7 x7n x7c x8 x9 I S) R) h fun _ _ _ _ _ _ _ _ _ _ _ _ _ _ _ _ h => ?_
    refine sO [kL 0, kA 2, kL 4, kL 7, kI .i64 8, kI .i64 9] (action_Of_b8 (fun x0 x0n x0c x2 x4 x4n x4c x7 x7n x7c x8 x9 I S => ∃ m', m' < mg3 ∧ Vg3 m' x0 x0n x0c x2 x4 x4n x4c x7 x7n x7c x8 x9 I S) R) ?_ fun _ _ _ _ _ _ _ _ _ _ _ _ _ _ _ _ h => ?_
    · refine bK ?_
      refine cO 1 [kL 0, kA 2, kL 4, kA 6, kL 7, kI .i64 8, kI .i64 9] (action_Of_b5 (fun x0 x0n x0c x2 x4 x4n x4c x7 x7n x7c x8 x9 I S => ∃ m', m' < mg3 ∧ Vg3 m' x0 x0n x0c x2 x4 x4n x4c x7 x7n x7c x8 x9 I S) R) h fun _ _ _ _ _ _ _ _ _ _ _ _ _ _ _ _ _ h => ?_
      refine sO [kL 0, kA 2, kL 4, kA 6, kL 7, kI .i64 8, kI .i64 9] (action_Of_b7 (fun x0 x0n x0c x2 x4 x4n x4c x7 x7n x7c x8 x9 I S => ∃ m', m' < mg3 ∧ Vg3 m' x0 x0n x0c x2 x4 x4n x4c x7 x7n x7c x8 x9 I S) R) ?_ fun _ _ _ _ _ _ _ _ _ _ _ _ _ _ _ _ _ h => ?_
      · refine cO 1 [kL 0, kA 2, kL 4, kA 6, kL 7, kI .i64 8, kI .i64 9, kB 30] (action_Of_b6 (fun x0 x0n x0c x2 x4 x4n x4c x7 x7n x7c x8 x9 I S => ∃ m', m' < mg3 ∧ Vg3 m' x0 x0n x0c x2 x4 x4n x4c x7 x7n x7c x8 x9 I S) R) h fun _ _ _ _ _ _ _ _ _ _ _ _ _ _ _ _ _ _ h => ?_
        exact pS h
      exact pS h
    exact pS h
  exact pS h
abbrev action_target_t3 := ByteArray → Addr → Addr → PR
def action_target_b6 (R : RT) (x0 : ByteArray) (x2 : Addr) (I : IMem) (S : SH) : Prop :=
  StP S x2 [.int .i64 7, .string x0, .bool false, .slice none 0 0] fun S1 =>
  ∃ u0, Cell I S1 x2 (.int .i64 u0) ∧
  ∃ u1, Cell I S1 (x2.add 1) (.string u1) ∧
  ∃ u2, Cell I S1 (x2.add 2) (.bool u2) ∧
  ∃ u3 u3n u3c, Cell I S1 (x2.add 3) (.slice u3 u3n u3c) ∧
  R (.agg #[.int .i64 u0, .string u1, .bool u2, .slice u3 u3n u3c]) I S1
def action_target_b5 (R : RT) (x0 : ByteArray) (x2 : Addr) (x39 : Bool) (I : IMem) (S : SH) : Prop :=
  bcase x39
    ((0 : Int) ≤ (2 : Int) ∧ (2 : Int) ≤ ((x0.size : Nat) : Int) ∧
    StP S x2 [.int .i64 7, .string (x0.extract ((2 : Int).toNat) x0.size), .bool true, .slice none 0 0] fun S1 =>
    ∃ u0, Cell I S1 x2 (.int .i64 u0) ∧
    ∃ u1, Cell I S1 (x2.add 1) (.string u1) ∧
    ∃ u2, Cell I S1 (x2.add 2) (.bool u2) ∧
    ∃ u3 u3n u3c, Cell I S1 (x2.add 3) (.slice u3 u3n u3c) ∧
    R (.agg #[.int .i64 u0, .string u1, .bool u2, .slice u3 u3n u3c]) I S1)
    (action_target_b6 R x0 x2 I S)
def action_target_b4 (R : RT) (x0 : ByteArray) (x2 : Addr) (I : IMem) (S : SH) : Prop :=
  ∀ b27 : Nat,
  Runs Tryz.prog 25 #[.slice (some ⟨b27, 0, none⟩) 1 1] I ((b27, .cells #[.string ⟨#[42]⟩] 9 (0, 0)) :: S) fun v I1 S1 => ∃ u0 u1, v = .tuple #[.string u0, .bool u1] ∧
  bcase (decide ((x0.size : Int) > (2 : Int)))
    ((0 : Int) ≤ (2 : Int) ∧ (2 : Int) ≤ ((x0.size : Nat) : Int) ∧
    action_target_b5 R x0 x2 ((x0.extract 0 ((2 : Int).toNat)).toList == u0.toList) I1 S1)
    (action_target_b5 R x0 x2 false I1 S1)
def action_target_b8 (g3 : action_target_t3) (R : RT) (x0 : ByteArray) (x2 : Addr) (x3 : Int) (x4 : Value) (x10 : Addr) (I : IMem) (S : SH) : Prop :=
  Runs Tryz.prog 25 #[x4] I S fun v I1 S1 => ∃ u0 u1, v = .tuple #[.string u0, .bool u1] ∧
  bcase (u0.toList == x0.toList)
    (StP S1 x2 [.int .i64 x3, .string ⟨#[]⟩, .bool false, .slice none 0 0] fun S1' =>
    ∃ u2, Cell I1 S1' x2 (.int .i64 u2) ∧
    ∃ u3, Cell I1 S1' (x2.add 1) (.string u3) ∧
    ∃ u4, Cell I1 S1' (x2.add 2) (.bool u4) ∧
    ∃ u5 u5n u5c, Cell I1 S1' (x2.add 3) (.slice u5 u5n u5c) ∧
    R (.agg #[.int .i64 u2, .string u3, .bool u4, .slice u5 u5n u5c]) I1 S1')
    (g3 x0 x2 x10 I1 S1)
def action_target_b7 (g3 : action_target_t3) (R : RT) (x0 : ByteArray) (x2 x10 : Addr) (I : IMem) (S : SH) : Prop :=
  EnP I S x10 fun u0 u1 =>
  asI .i64 u0 fun u2 => action_target_b8 g3 R x0 x2 u2 u1 x10 I S
def action_target_l3 (g3 : action_target_t3) (R : RT) (x0 : ByteArray) (x2 x10 : Addr) (I : IMem) (S : SH) : Prop :=
  NxP I S x10 (action_target_b4 R x0 x2 I S) fun u0 u1 S1 =>
  action_target_b7 g3 R x0 x2 x10 I S1
def action_target_b2 (R : RT) (x0 : ByteArray) (x2 x10 : Addr) (I : IMem) (S : SH) : Prop :=
  ∃ (Inv : Nat → action_target_t3) (m : Nat), Inv m x0 x2 x10 I S ∧
    ∀ (m : Nat) (x0 : ByteArray) (x2 x10 : Addr) (J : IMem) (T : SH), I.le J → Inv m x0 x2 x10 J T →
      action_target_l3 (fun x0 x2 x10 I S => ∃ m', m' < m ∧ Inv m' x0 x2 x10 I S) R x0 x2 x10 J T
def action_target_b1 (R : RT) (x0 : ByteArray) (x2 : Addr) (I : IMem) (S : SH) : Prop :=
  Runs Tryz.prog 126 #[] I S fun v I1 S1 => ∃ u0, v = .map u0 ∧
  mapP u0 fun m => ∃ es ck, MpC I1 S1 m es ck ∧ ∀ b10 : Nat,
  action_target_b2 R x0 x2 ⟨b10, 0, none⟩ I1 ((b10, .mapIter (some m) ck #[] ck) :: S1)
def action_target (R : RT) (u0 : ByteArray) (I : IMem) (S : SH) : Prop :=
  ∀ b2 : Nat,
  action_target_b1 R u0 ⟨b2, 0, none⟩ I ((b2, .cells #[.int .i64 0, .string ⟨#[]⟩, .bool false, .slice none 0 0] 46 (0, 0)) :: S)
theorem action_target_fn (R : RT) (u0 : ByteArray) (I : IMem) (S : SH) (h : action_target R u0 I S) : Runs Tryz.prog 105 #[.string u0] I S R := by
  refine Runs.of_wp (c := cd Tryz.f105) Tryz.func105 (by kernel_rfl) (by kernel_rfl) ?_
  refine cO 1 [kS 0, kA 2] (action_target_b1 R) h fun _ _ _ _ _ _ h => ?_
  refine sO [kS 0, kA 2] (action_target_b4 R) ?_ fun _ _ _ _ _ _ h => ?_
  · refine cO 1 [kS 0, kA 2, kA 10] (action_target_b2 R) h fun _ _ _ _ _ _ _ h => ?_
    refine bK ?_
    obtain ⟨Vg3, mg3, h, hr⟩ := h
    refine lO [kS 0, kA 2, kA 10] Vg3 mg3 h fun mg3 _ I S hle x0 x2 x10 h => ?_
    have h := hr mg3 x0 x2 x10 I S hle h
    refine cO 2 [kS 0, kA 2, kA 10] (action_target_b7 (fun x0 x2 x10 I S => ∃ m', m' < mg3 ∧ Vg3 m' x0 x2 x10 I S) R) h fun _ _ _ _ _ _ _ h => ?_
    refine bK ?_
    refine cO 1 [kS 0, kA 2, kI .i64 3, kV 4, kA 10] (action_target_b8 (fun x0 x2 x10 I S => ∃ m', m' < mg3 ∧ Vg3 m' x0 x2 x10 I S) R) h fun _ _ _ _ _ _ _ _ _ h => ?_
    exact pS h
  refine sO [kS 0, kA 2] (action_target_b6 R) ?_ fun _ _ _ _ _ _ h => ?_
  · refine cO 2 [kS 0, kA 2, kB 39] (action_target_b5 R) h fun _ _ _ _ _ _ _ h => ?_
    exact pS h
  exact pS h
def action_words (R : RT) (I : IMem) (S : SH) : Prop :=
  ∀ u0 : Nat,
  ∀ b2 : Nat,
  MapSt ((b2, .cells #[] 9 (0, 0)) :: ((u0, .map #[] 0) :: S)) (some u0) (.int .i64) (.int .i64 4) (.slice (some ⟨b2, 0, none⟩) 0 0) fun S1 =>
  ∀ b3 : Nat,
  MapSt ((b3, .cells #[.string ⟨#[42]⟩] 9 (0, 0)) :: S1) (some u0) (.int .i64) (.int .i64 5) (.slice (some ⟨b3, 0, none⟩) 1 1) fun S1' =>
  ∀ b4 : Nat,
  MapSt ((b4, .cells #[.string ⟨#[114, 112, 122, 45, 112, 97, 115, 115, 116, 104, 114, 117]⟩] 9 (0, 0)) :: S1') (some u0) (.int .i64) (.int .i64 2) (.slice (some ⟨b4, 0, none⟩) 1 1) fun S1'' =>
  ∀ b5 : Nat,
  MapSt ((b5, .cells #[.string ⟨#[114, 112, 122, 45, 100, 114, 111, 112]⟩] 9 (0, 0)) :: S1'') (some u0) (.int .i64) (.int .i64 3) (.slice (some ⟨b5, 0, none⟩) 1 1) fun S1_r3 =>
  ∀ b6 : Nat,
  MapSt ((b6, .cells #[.string ⟨#[114, 112, 122, 45, 116, 99, 112, 45, 111, 110, 108, 121]⟩] 9 (0, 0)) :: S1_r3) (some u0) (.int .i64) (.int .i64 6) (.slice (some ⟨b6, 0, none⟩) 1 1) fun S1_r4 =>
  R (.map (some u0)) I S1_r4
theorem action_words_fn (R : RT) (I : IMem) (S : SH) (h : action_words R I S) : Runs Tryz.prog 126 #[] I S R := by
  refine Runs.of_wp (c := cd Tryz.f126) Tryz.func126 (by kernel_rfl) (by kernel_rfl) ?_
  exact pS h
def action_Over_b3 (R : RT) (x1 : Int) (x4 : Addr) (I : IMem) (S : SH) : Prop :=
  StP S x4 [.int .i64 x1, .string ⟨#[]⟩, .bool false, .slice none 0 0] fun S1 =>
  ∃ u0, Cell I S1 x4 (.int .i64 u0) ∧
  ∃ u1, Cell I S1 (x4.add 1) (.string u1) ∧
  ∃ u2, Cell I S1 (x4.add 2) (.bool u2) ∧
  ∃ u3 u3n u3c, Cell I S1 (x4.add 3) (.slice u3 u3n u3c) ∧
  R (.agg #[.int .i64 u0, .string u1, .bool u2, .slice u3 u3n u3c]) I S1
def action_Over_b2 (R : RT) (x1 : Int) (x2 x4 : Addr) (x22 : Bool) (I : IMem) (S : SH) : Prop :=
  bcase x22
    (∃ u0, Cell I S x2 (.int .i64 u0) ∧
    ∃ u1, Cell I S (x2.add 1) (.string u1) ∧
    ∃ u2, Cell I S (x2.add 2) (.bool u2) ∧
    ∃ u3 u3n u3c, Cell I S (x2.add 3) (.slice u3 u3n u3c) ∧
    StP S x4 [.int .i64 u0, .string u1, .bool u2, .slice u3 u3n u3c] fun S1 =>
    ∃ u4, Cell I S1 x4 (.int .i64 u4) ∧
    ∃ u5, Cell I S1 (x4.add 1) (.string u5) ∧
    ∃ u6, Cell I S1 (x4.add 2) (.bool u6) ∧
    ∃ u7 u7n u7c, Cell I S1 (x4.add 3) (.slice u7 u7n u7c) ∧
    R (.agg #[.int .i64 u4, .string u5, .bool u6, .slice u7 u7n u7c]) I S1)
    (action_Over_b3 R x1 x4 I S)
def action_Over_b1 (R : RT) (x1 : Int) (x2 x4 : Addr) (I : IMem) (S : SH) : Prop :=
  bcase (x1 == (0 : Int))
    (action_Over_b2 R x1 x2 x4 true I S)
    (bcase (x1 == (8 : Int))
      (action_Over_b2 R x1 x2 x4 true I S)
      (bcase (x1 == (7 : Int))
        (action_Over_b2 R x1 x2 x4 true I S)
        (bcase (decide (x1 < (0 : Int)))
          (action_Over_b2 R x1 x2 x4 true I S)
          (action_Over_b2 R x1 x2 x4 (decide (x1 > (8 : Int))) I S))))
def action_Over (R : RT) (u0 : Int) (u1 : ByteArray) (u2 : Bool) (u3 : OA) (u3n u3c : Nat) (u4 : Int) (I : IMem) (S : SH) : Prop :=
  ∀ b2 : Nat,
  ∀ b4 : Nat,
  action_Over_b1 R u4 ⟨b2, 0, none⟩ ⟨b4, 0, none⟩ I ((b4, .cells #[.int .i64 0, .string ⟨#[]⟩, .bool false, .slice none 0 0] 46 (0, 0)) :: ((b2, .cells #[.int .i64 u0, .string u1, .bool u2, .slice u3 u3n u3c] 46 (0, 0)) :: S))
theorem action_Over_fn (R : RT) (u0 : Int) (u1 : ByteArray) (u2 : Bool) (u3 : OA) (u3n u3c : Nat) (u4 : Int) (I : IMem) (S : SH) (h : action_Over R u0 u1 u2 u3 u3n u3c u4 I S) : Runs Tryz.prog 71 #[.agg #[.int .i64 u0, .string u1, .bool u2, .slice u3 u3n u3c], .int .i64 u4] I S R := by
  refine Runs.of_wp (c := cd Tryz.f71) Tryz.func71 (by kernel_rfl) (by kernel_rfl) ?_
  refine cO 1 [kI .i64 1, kA 2, kA 4] (action_Over_b1 R) h fun _ _ _ _ _ _ _ h => ?_
  refine sO [kI .i64 1, kA 4] (action_Over_b3 R) ?_ fun _ _ _ _ _ _ h => ?_
  · refine cO 1 [kI .i64 1, kA 2, kA 4, kB 22] (action_Over_b2 R) h fun _ _ _ _ _ _ _ _ h => ?_
    exact pS h
  exact pS h
abbrev rank_Of_t3 := Int → Addr → Int → OA → Nat → Nat → Int → Int → PR
def rank_Of_b4 (R : RT) (x0 : Int) (I : IMem) (S : SH) : Prop :=
  Runs Tryz.prog 64 #[] I S fun v I1 S1 => ∃ u0 u0n u0c, v = .slice u0 u0n u0c ∧
  R (.complex .f64 (FloatKind.f64.nearest x0) (FloatKind.f64.nearest (IntKind.wrap .i64 ((u0n : Int) * (256 : Int))))) I1 S1
def rank_Of_l3 (g3 : rank_Of_t3) (R : RT) (x0 : Int) (x3 : Addr) (x5 : Int) (x18 : OA) (x18n x18c : Nat) (x19 x20 : Int) (I : IMem) (S : SH) : Prop :=
  bcase (decide (x20 < x19))
    (ptrP x18 fun u0 => (0 : Int) ≤ x20 ∧ x20 < (x18n : Int) ∧
    ∃ u1, Cell I S (u0.add (x20.toNat * 1)) (.int .i64 u1) ∧
    ∃ u2, Cell I S x3 (.int .i64 u2) ∧
    bcase (u1 == u2)
      (R (.complex .f64 (FloatKind.f64.nearest x0) (FloatKind.f64.nearest (IntKind.wrap .i64 ((IntKind.wrap .i64 ((IntKind.wrap .i64 ((IntKind.wrap .i64 (x20 * (256 : Int))) + (256 : Int))) - (1 : Int))) - x5)))) I S)
      (g3 x0 x3 x5 x18 x18n x18c x19 (IntKind.wrap .i64 (x20 + (1 : Int))) I S))
    (rank_Of_b4 R x0 I S)
def rank_Of_b2 (R : RT) (x0 : Int) (x3 : Addr) (x5 : Int) (x18 : OA) (x18n x18c : Nat) (x19 x20 : Int) (I : IMem) (S : SH) : Prop :=
  ∃ (Inv : Nat → rank_Of_t3) (m : Nat), Inv m x0 x3 x5 x18 x18n x18c x19 x20 I S ∧
    ∀ (m : Nat) (x0 : Int) (x3 : Addr) (x5 : Int) (x18 : OA) (x18n x18c : Nat) (x19 x20 : Int) (J : IMem) (T : SH), I.le J → Inv m x0 x3 x5 x18 x18n x18c x19 x20 J T →
      rank_Of_l3 (fun x0 x3 x5 x18 x18n x18c x19 x20 I S => ∃ m', m' < m ∧ Inv m' x0 x3 x5 x18 x18n x18c x19 x20 I S) R x0 x3 x5 x18 x18n x18c x19 x20 J T
def rank_Of_b1 (R : RT) (x0 : Int) (x3 : Addr) (x5 : Int) (I : IMem) (S : SH) : Prop :=
  Runs Tryz.prog 64 #[] I S fun v I1 S1 => ∃ u0 u0n u0c, v = .slice u0 u0n u0c ∧
  rank_Of_b2 R x0 x3 x5 u0 u0n u0c (u0n : Int) 0 I1 S1
def rank_Of (R : RT) (u0 u1 : Int) (u2 u3 : ByteArray) (u4 : Int) (I : IMem) (S : SH) : Prop :=
  ∀ b3 : Nat,
  ∃ u5, Cell I ((b3, .cells #[.int .i64 u1, .string u2, .string u3, .int .i64 u4] 44 (0, 0)) :: S) ⟨b3, 1, none⟩ (.string u5) ∧
  Runs Tryz.prog 63 #[.string u5] I ((b3, .cells #[.int .i64 u1, .string u2, .string u3, .int .i64 u4] 44 (0, 0)) :: S) fun v I1 S1 => ∃ u6, v = .int .i64 u6 ∧
  ∃ u7, Cell I1 S1 ⟨b3, 2, none⟩ (.string u7) ∧
  bcase (!(u7.toList == (⟨#[]⟩ : ByteArray).toList))
    (∃ u8, Cell I1 S1 ⟨b3, 3, none⟩ (.int .i64 u8) ∧
    rank_Of_b1 R u0 ⟨b3, 0, none⟩ u8 I1 S1)
    (rank_Of_b1 R u0 ⟨b3, 0, none⟩ u6 I1 S1)
theorem rank_Of_fn (R : RT) (u0 u1 : Int) (u2 u3 : ByteArray) (u4 : Int) (I : IMem) (S : SH) (h : rank_Of R u0 u1 u2 u3 u4 I S) : Runs Tryz.prog 32 #[.int .i64 u0, .agg #[.int .i64 u1, .string u2, .string u3, .int .i64 u4]] I S R := by
  refine Runs.of_wp (c := cd Tryz.f32) Tryz.func32 (by kernel_rfl) (by kernel_rfl) ?_
  refine cO 3 [kI .i64 0, kA 3, kI .i64 5] (rank_Of_b1 R) h fun _ _ _ _ _ _ _ h => ?_
  refine sO [kI .i64 0] (rank_Of_b4 R) ?_ fun _ _ _ _ _ h => ?_
  · refine cO 1 [kI .i64 0, kA 3, kI .i64 5, kL 18, kI .i64 19, kI .i64 20] (rank_Of_b2 R) h fun _ _ _ _ _ _ _ _ _ _ _ _ h => ?_
    refine bK ?_
    obtain ⟨Vg3, mg3, h, hr⟩ := h
    refine lO [kI .i64 0, kA 3, kI .i64 5, kL 18, kI .i64 19, kI .i64 20] Vg3 mg3 h fun mg3 _ I S hle x0 x3 x5 x18 x18n x18c x19 x20 h => ?_
    have h := hr mg3 x0 x3 x5 x18 x18n x18c x19 x20 I S hle h
    exact pS h
  exact pS h
def rank_Better (R : RT) (u0 u0i u1 u1i : Nat) (I : IMem) (S : SH) : Prop :=
  bcase (FloatKind.f64.format.order u0 u1 != some .eq)
    (R (.bool (FloatKind.f64.format.order u0 u1 == some .lt)) I S)
    (R (.bool (FloatKind.f64.format.order u0i u1i == some .lt)) I S)
theorem rank_Better_fn (R : RT) (u0 u0i u1 u1i : Nat) (I : IMem) (S : SH) (h : rank_Better R u0 u0i u1 u1i I S) : Runs Tryz.prog 33 #[.complex .f64 u0 u0i, .complex .f64 u1 u1i] I S R := by
  refine Runs.of_wp (c := cd Tryz.f33) Tryz.func33 (by kernel_rfl) (by kernel_rfl) ?_
  exact pS h
def rank_steps (R : RT) (I : IMem) (S : SH) : Prop :=
  ∀ b1 : Nat,
  R (.slice (some ⟨b1, 0, none⟩) 7 7) I ((b1, .cells #[.int .i64 0, .int .i64 1, .int .i64 2, .int .i64 3, .int .i64 4, .int .i64 5, .int .i64 6] 40 (0, 0)) :: S)
theorem rank_steps_fn (R : RT) (I : IMem) (S : SH) (h : rank_steps R I S) : Runs Tryz.prog 64 #[] I S R := by
  refine Runs.of_wp (c := cd Tryz.f64) Tryz.func64 (by kernel_rfl) (by kernel_rfl) ?_
  exact pS h
end Go.Proofs.YtoiilcdaldnjfaaGreatDoor
/- Prefixes and addresses; the order of triggers; names cut off, and counted. -/
namespace Go.Px
theorem add2 (b o k j : Nat) : ((⟨b, o, none⟩ : Addr).add k).add j = ⟨b, o + k + j, none⟩ := by rw [add_mk, add_mk]
end Go.Px
namespace Go.Proofs.YtoiilcdaldnjfaaGreatDoor
open Go.Px
set_option linter.unusedVariables false
set_option linter.unusedSimpArgs false

abbrev pfB (b : Nat) (a : ByteArray) (n : Int) : Nat × Obj := (b, .cells #[.string a, .int .i64 n] 42 (0, 0))
abbrev tgB (b : Nat) (t : Tg) : Nat × Obj := (b, .cells (elT t).toArray 44 (0, 0))
noncomputable def hasB (p : ByteArray) (n : Int) (a : ByteArray) : Bool := decide (okC a n) && (mayB p n && (cutB a n.toNat == p))
def lessT (a b : Tg) : Bool := bif !(a.2.1.toList == b.2.1.toList) then Op.bytesLess a.2.1.toList b.2.1.toList else Op.bytesLess a.2.2.1.toList b.2.2.1.toList
theorem Less_runs (a b : Tg) (I : IMem) (S : SH) : Runs Tryz.prog 34 #[vT a, vT b] I S fun v _ T => v = .bool (lessT a b) ∧ T = S := by
  refine Runs.drop (search_Less_fn _ _ _ _ _ _ _ _ _ _ _ ?_)
  unfold search_Less lessT
  intro b2 b3
  refine ⟨_, Cell.tl (Cell.at0 rfl), _, Cell.at0 rfl, bcase_of (fun h => ?_) (fun h => ?_)⟩
  · exact ⟨_, Cell.tl (Cell.at0 rfl), _, Cell.at0 rfl, S, ((Sub.refl S).skip _).skip _, by rw [h]; rfl, rfl⟩
  · exact ⟨_, Cell.tl (Cell.at0 rfl), _, Cell.at0 rfl, S, ((Sub.refl S).skip _).skip _, by rw [h]; rfl, rfl⟩
def cntN (n : ByteArray) : Nat := ((labN n).getD []).length
theorem Count_runs (n : ByteArray) (I : IMem) (S : SH) : Runs Tryz.prog 63 #[.string n] I S fun v _ T => v = .int .i64 (cntN n : Int) ∧ T = S := by
  refine Runs.drop (name_Count_fn _ _ _ _ ?_)
  unfold name_Count cntN
  refine (Labels_runs n I S).mono ?_
  rintro v J T hle ⟨own, hr, hs⟩
  rcases hr with ⟨h1, rfl, rfl⟩ | ⟨ls, p, m, c, h1, rfl, ho⟩
  · exact ⟨_, _, _, _, rfl, S, hs, by rw [h1]; rfl, rfl⟩
  · have hl := ho.len
    exact ⟨_, _, _, _, rfl, S, hs.right, by rw [h1, hl]; rfl, rfl⟩
/-! ### names below names -/
theorem goB_true : ∀ (f : Nat) (ls : List ByteArray) (o : ByteArray), (∀ l ∈ ls, IsLab l) → (nm ls).size ≤ 254 → goB f (nm ls) o true = true → ∃ a b, ls = a ++ b ∧ nm b = o
  | 0, _, _, _, _, h => by cases h
  | f + 1, ls, o, hl, hs, h => by
    unfold goB at h
    rw [if_pos rfl] at h
    by_cases he : (nm ls).toList == o.toList
    · exact ⟨[], ls, rfl, keq.1 he⟩
    · rw [if_neg he] at h
      cases ls with
      | nil =>
        have : parN (nm []) = (⟨#[]⟩, false) := rfl
        rw [this] at h
        cases f <;> cases h
      | cons l ls =>
        rw [parN_nm hl hs] at h
        have hsz := nm_cons_size l ls
        obtain ⟨a, b, e, hb⟩ := goB_true f ls o (fun x hx => hl x (List.mem_cons_of_mem _ hx)) (by omega) h
        exact ⟨l :: a, b, by rw [e]; rfl, hb⟩
theorem below_iff {n o : ByteArray} : belowB n o = true ↔ IsName n ∧ IsName o ∧ ∃ x, IsName x ∧ n = x ++ o := by
  constructor
  · intro h
    have hn : IsName n ∧ IsName o := by
      unfold belowB at h
      cases hv : ((labN n).isSome && (labN o).isSome) with
      | false => rw [hv] at h; unfold goB at h; cases h
      | true => rw [Bool.and_eq_true] at hv; exact ⟨isName_iff.2 hv.1, isName_iff.2 hv.2⟩
    refine ⟨hn.1, hn.2, ?_⟩
    obtain ⟨ls, rfl, hl, hs⟩ := hn.1
    unfold belowB at h
    rw [isName_iff.1 hn.1, isName_iff.1 hn.2] at h
    obtain ⟨a, b, rfl, rfl⟩ := goB_true _ _ _ hl hs h
    refine ⟨nm a, ⟨a, rfl, fun l hx => hl l (List.mem_append_left _ hx), ?_⟩, (nm_app a b).symm⟩
    rw [← nm_app, ByteArray.size_append] at hs
    omega
  · rintro ⟨hn, ho, x, hx, rfl⟩
    obtain ⟨_, _, _, hs⟩ := hn
    rw [ByteArray.size_append] at hs
    exact (below_app hx ho hs).2
theorem name_size {n : ByteArray} (h : (labN n).isSome = true) : n.size ≤ 254 := by obtain ⟨_, _, _, h⟩ := isName_iff.2 h; exact h
def stripN (n o : ByteArray) : ByteArray × Bool := if belowB n o = true then (n.extract 0 (n.size - o.size), true) else (⟨#[]⟩, false)
theorem Strip_runs (n o : ByteArray) (I : IMem) (S : SH) : Runs Tryz.prog 53 #[.string n, .string o] I S fun v _ T => v = .tuple #[.string (stripN n o).1, .bool (stripN n o).2] ∧ T = S := by
  refine name_Strip_fn _ _ _ _ _ ?_
  unfold name_Strip stripN
  refine (Below_runs n o I S).mono ?_
  rintro v J T hle ⟨rfl, rfl⟩
  refine ⟨_, rfl, bcase_not (bcase_of (fun h => ?_) (fun h => ?_))⟩
  · rw [if_pos h]
    obtain ⟨⟨_, _, _, hs⟩, _, x, _, e⟩ := below_iff.1 h
    have hsz : o.size ≤ n.size := by rw [e, ByteArray.size_append]; omega
    rw [wrap_i64 (by omega) (by omega)]
    have e1 : ((n.size : Int) - (o.size : Int)).toNat = n.size - o.size := by omega
    exact ⟨by omega, by omega, by rw [e1], rfl⟩
  · rw [if_neg (by rw [h]; exact Bool.false_ne_true)]
    exact ⟨rfl, rfl⟩
theorem strip_app {x o : ByteArray} (hx : IsName x) (ho : IsName o) (hs : x.size + o.size ≤ 254) : stripN (x ++ o) o = (x, true) := by
  unfold stripN
  rw [if_pos (below_app hx ho hs).2]
  congr 1
  apply ext_list
  rw [ex_list, ByteArray.size_append]
  simp [ByteArray.data_append]
def joinN (n o : ByteArray) : ByteArray × Bool := if (labN n).isSome && ((labN o).isSome && decide (n.size + o.size ≤ 254)) then (n ++ o, true) else (⟨#[]⟩, false)
theorem Join_runs (n o : ByteArray) (I : IMem) (S : SH) : Runs Tryz.prog 36 #[.string n, .string o] I S fun v _ T => v = .tuple #[.string (joinN n o).1, .bool (joinN n o).2] ∧ T = S := by
  refine name_Join_fn _ _ _ _ _ ?_
  unfold name_Join name_Join_b1 name_Join_b2 name_Join_b3
  refine (May_runs n I S).mono ?_
  rintro v J T hle ⟨rfl, rfl⟩
  refine ⟨_, rfl, bcase_not (bcase_of (fun g1 => ?_) (fun g1 => ?_))⟩
  · refine (May_runs o J T).mono ?_
    rintro v J' T' hle' ⟨rfl, rfl⟩
    refine ⟨_, rfl, bcase_not (bcase_of (fun g2 => ?_) (fun g2 => ?_))⟩
    · have h1 := name_size g1
      have h2 := name_size g2
      rw [wrap_i64 (by omega) (by omega)]
      refine bcase_dec (fun g3 => ⟨?_, rfl⟩) (fun g3 => ⟨by omega, ?_, rfl⟩)
      · rw [joinN, g1, g2, decide_eq_false (by omega)]; rfl
      · rw [joinN, g1, g2, decide_eq_true (by omega)]; rfl
    · refine bcase_t rfl ⟨?_, rfl⟩
      rw [joinN, g1, g2]; rfl
  · refine bcase_t rfl ⟨?_, rfl⟩
    rw [joinN, g1]; rfl
/-! ### which triggers fit -/
noncomputable def hasT (t : Tg) (a : ByteArray) : Bool := hasB t.2.2.1 t.2.2.2 a
def underT (t : Tg) (n : ByteArray) : Bool := bif !(n.toList == t.2.1.toList) then belowB n t.2.1 else false
theorem tgX {I : IMem} {S F : SH} {b : Nat} {t : Tg} (hs : Sub (tgB b t :: F) S) : Cell I S ⟨b, 0, none⟩ (.int .i64 t.1) ∧ Cell I S ((⟨b, 0, none⟩ : Addr).add 1) (.string t.2.1) ∧ Cell I S ((⟨b, 0, none⟩ : Addr).add 2) (.string t.2.2.1) ∧ Cell I S (((⟨b, 0, none⟩ : Addr).add 2).add 1) (.int .i64 t.2.2.2) ∧ Cell I S ((⟨b, 0, none⟩ : Addr).add 3) (.int .i64 t.2.2.2) :=
  ⟨Cell.among hs rfl, Cell.at_ (add_mk _ _ _) (Cell.among hs rfl), Cell.at_ (add_mk _ _ _) (Cell.among hs rfl), Cell.at_ (add2 _ _ _ _) (Cell.among hs rfl), Cell.at_ (add_mk _ _ _) (Cell.among hs rfl)⟩
end Go.Proofs.YtoiilcdaldnjfaaGreatDoor
/- Which triggers fit a query's facts. -/
namespace Go.Proofs.YtoiilcdaldnjfaaGreatDoor
open Go.Px
set_option linter.unusedVariables false
set_option linter.unusedSimpArgs false

/-- what is known of a query -/
structure Fa where
  cl : ByteArray
  nm : ByteArray
  a : Sl
  s : Sl
  h : Sl
  xa : List ByteArray
  xs : List ByteArray
  xh : List ByteArray
abbrev encFa (f : Fa) : List Value := [.string f.cl, .string f.nm, .slice f.a.1 f.a.2.1 f.a.2.2, .slice f.s.1 f.s.2.1 f.s.2.2, .slice f.h.1 f.h.2.1 f.h.2.2]
abbrev vFa (f : Fa) : Value := .agg #[.string f.cl, .string f.nm, .slice f.a.1 f.a.2.1 f.a.2.2, .slice f.s.1 f.s.2.1 f.s.2.2, .slice f.h.1 f.h.2.1 f.h.2.2]
abbrev faB (b : Nat) (f : Fa) : Nat × Obj := (b, .cells (encFa f).toArray 53 (0, 0))
def LsIn (I : IMem) (S : SH) (x : Sl) (xs : List ByteArray) : Prop := RowIn I S x.1 xs.length 1 elS xs ∧ x.2.1 = xs.length ∧ xs.length ≤ 9223372036854775807
structure FaIn (I : IMem) (S : SH) (f : Fa) : Prop where
  a : LsIn I S f.a f.xa
  s : LsIn I S f.s f.xs
  h : LsIn I S f.h f.xh
theorem LsIn.keep {I J : IMem} {S T : SH} {x : Sl} {xs : List ByteArray} (hk : Keep I S J T) (h : LsIn I S x xs) : LsIn J T x xs := ⟨h.1.keep hk, h.2⟩
theorem FaIn.keep {I J : IMem} {S T : SH} {f : Fa} (hk : Keep I S J T) (h : FaIn I S f) : FaIn J T f := ⟨h.a.keep hk, h.s.keep hk, h.h.keep hk⟩
theorem FaIn.sub {I : IMem} {S T : SH} {f : Fa} (hs : Sub S T) (h : FaIn I S f) : FaIn I T f := h.keep (hs.keep (IMem.le.refl I))
theorem FaIn.le {I J : IMem} {S : SH} {f : Fa} (hle : I.le J) (h : FaIn I S f) : FaIn J S f := h.keep ((Sub.refl S).keep hle)
theorem elS_len (s : ByteArray) : (elS s).length = 1 := rfl
theorem row_s {e : TypeId} {b : Nat} {x : ByteArray} {I : IMem} {S : SH} : RowIn I ((b, .cells #[.string x] e (0, 0)) :: S) (some ⟨b, 0, none⟩) 1 1 elS [x] :=
  (OwnR.row (e := e) elS_len (c := 1) (own := [(b, .cells #[.string x] e (0, 0))]) (.inr ⟨b, 1, [], rfl, rfl, rfl, by decide⟩)).sub (Sub.left (L := [(b, .cells #[.string x] e (0, 0))]) (M := S) (Sub.refl _))
noncomputable def matchT (t : Tg) (f : Fa) : Bool :=
  if t.1 = 0 then hasT t f.cl
  else if t.1 = 1 then f.nm.toList == t.2.1.toList
  else if t.1 = 2 then underT t f.nm
  else if t.1 = 3 then f.xa.any (hasT t)
  else if t.1 = 4 then f.xs.any fun n => n.toList == t.2.1.toList
  else if t.1 = 5 then f.xs.any (underT t)
  else if t.1 = 6 then f.xh.any (hasT t)
  else false
theorem bA (f : Fa) {I : IMem} {S F : SH} {b : Nat} (hs : Sub (faB b f :: F) S) : Cell I S ⟨b, 0, none⟩ (.string f.cl) ∧ Cell I S ((⟨b, 0, none⟩ : Addr).add 1) (.string f.nm) ∧ Cell I S ((⟨b, 0, none⟩ : Addr).add 2) (.slice f.a.1 f.a.2.1 f.a.2.2) ∧ Cell I S ((⟨b, 0, none⟩ : Addr).add 3) (.slice f.s.1 f.s.2.1 f.s.2.2) ∧ Cell I S ((⟨b, 0, none⟩ : Addr).add 4) (.slice f.h.1 f.h.2.1 f.h.2.2) :=
  ⟨Cell.among hs rfl, Cell.at_ (add_mk _ _ _) (Cell.among hs rfl), Cell.at_ (add_mk _ _ _) (Cell.among hs rfl), Cell.at_ (add_mk _ _ _) (Cell.among hs rfl), Cell.at_ (add_mk _ _ _) (Cell.among hs rfl)⟩
end Go.Proofs.YtoiilcdaldnjfaaGreatDoor
/- What a target means. -/
namespace Go.Proofs.YtoiilcdaldnjfaaGreatDoor
open Go.Px
set_option linter.unusedVariables false
set_option linter.unusedSimpArgs false

/-- how many of a map's entries were not looked at -/
def unsn (E : Array MapEntry) (seen : Array Nat) : Nat := (E.toList.filter fun e => !seen.contains e.born).length
theorem unsn_lt {E : Array MapEntry} {seen : Array Nat} {e : MapEntry} (he : e ∈ E) (hn : seen.contains e.born = false) : unsn E (seen.push e.born) < unsn E seen := by
  have hsub : ∀ l : List MapEntry, (l.filter fun x => !(seen.push e.born).contains x.born).length ≤ (l.filter fun x => !seen.contains x.born).length ∧
      (e ∈ l → (l.filter fun x => !(seen.push e.born).contains x.born).length < (l.filter fun x => !seen.contains x.born).length) := by
    intro l
    induction l with
    | nil => exact ⟨Nat.le_refl _, fun h => by cases h⟩
    | cons x l ih =>
      have hx : (seen.push e.born).contains x.born = (seen.contains x.born || x.born == e.born) := by
        rw [Bool.eq_iff_iff]; simp [or_comm]
      rw [List.filter_cons, List.filter_cons, hx]
      by_cases h1 : seen.contains x.born = true
      · rw [h1]
        simp only [Bool.true_or, Bool.not_true, Bool.false_eq_true, if_false]
        refine ⟨ih.1, fun h => ?_⟩
        rcases List.mem_cons.1 h with rfl | h
        · rw [hn] at h1; cases h1
        · exact ih.2 h
      · have h1 : seen.contains x.born = false := by simpa using h1
        rw [h1]
        simp only [Bool.false_or, Bool.not_false, if_true, List.length_cons]
        by_cases h2 : x.born = e.born
        · rw [show (x.born == e.born) = true by simp [h2]]
          simp only [Bool.not_true, Bool.false_eq_true, if_false]
          exact ⟨by have := ih.1; omega, fun _ => by have := ih.1; omega⟩
        · rw [show (x.born == e.born) = false by simp [h2]]
          simp only [Bool.not_false, if_true, List.length_cons]
          refine ⟨by have := ih.1; omega, fun h => ?_⟩
          rcases List.mem_cons.1 h with rfl | h
          · exact absurd rfl h2
          · have := ih.2 h; omega
  exact (hsub E.toList).2 (by simpa using he)
def passB : ByteArray := ⟨#[114, 112, 122, 45, 112, 97, 115, 115, 116, 104, 114, 117]⟩
def dropB : ByteArray := ⟨#[114, 112, 122, 45, 100, 114, 111, 112]⟩
def tcpB : ByteArray := ⟨#[114, 112, 122, 45, 116, 99, 112, 45, 111, 110, 108, 121]⟩
def n5B : ByteArray := ⟨#[1, 42]⟩
def n2B : ByteArray := ⟨#[12, 114, 112, 122, 45, 112, 97, 115, 115, 116, 104, 114, 117]⟩
def n3B : ByteArray := ⟨#[8, 114, 112, 122, 45, 100, 114, 111, 112]⟩
def n6B : ByteArray := ⟨#[12, 114, 112, 122, 45, 116, 99, 112, 45, 111, 110, 108, 121]⟩
theorem mk4 : makeN [] ByteArray.empty = some ⟨#[]⟩ := rfl
theorem mk5 : makeN [starB] ByteArray.empty = some n5B := by decide +kernel
theorem mk2 : makeN [passB] ByteArray.empty = some n2B := by decide +kernel
theorem mk3 : makeN [dropB] ByteArray.empty = some n3B := by decide +kernel
theorem mk6 : makeN [tcpB] ByteArray.empty = some n6B := by decide +kernel
abbrev Tt := Int × ByteArray × Bool
def tgt2 (n : ByteArray) : Tt := if n.size > 2 ∧ n.extract 0 2 = n5B then (7, n.extract 2 n.size, true) else (7, n, false)
def tgtF (n : ByteArray) : Tt := if n = ⟨#[]⟩ then (4, ⟨#[]⟩, false) else if n = n5B then (5, ⟨#[]⟩, false) else if n = n2B then (2, ⟨#[]⟩, false) else if n = n3B then (3, ⟨#[]⟩, false) else if n = n6B then (6, ⟨#[]⟩, false) else tgt2 n
abbrev wE (b : Nat) (k : Int) (v : Value) : MapEntry := { key := .int .i64 k, val := v, born := b }
abbrev sl1 (b n : Nat) : Value := .slice (some ⟨b, 0, none⟩) n n
def wordsE (b2 b3 b4 b5 b6 : Nat) : Array MapEntry := #[wE 0 4 (sl1 b2 0), wE 1 5 (sl1 b3 1), wE 2 2 (sl1 b4 1), wE 3 3 (sl1 b5 1), wE 4 6 (sl1 b6 1)]
abbrev w1 (b : Nat) (s : ByteArray) : Nat × Obj := (b, .cells #[.string s] 9 (0, 0))
abbrev wordsH (r b2 b3 b4 b5 b6 : Nat) (S : SH) : SH := w1 b6 tcpB :: w1 b5 dropB :: w1 b4 passB :: w1 b3 starB :: (b2, .cells #[] 9 (0, 0)) :: (r, .map (wordsE b2 b3 b4 b5 b6) 5) :: S
theorem words_runs (I : IMem) (S : SH) : Runs Tryz.prog 126 #[] I S fun v _ T => ∃ r b2 b3 b4 b5 b6, v = .map (some r) ∧ T = wordsH r b2 b3 b4 b5 b6 S := by
  refine action_words_fn _ _ _ ?_
  unfold action_words
  intro r b2
  refine ⟨r, 1, _, _, _, _, rfl, rfl, rfl, fun b3 => ⟨r, 2, _, _, _, _, rfl, rfl, rfl, fun b4 => ⟨r, 3, _, _, _, _, rfl, rfl, rfl, fun b5 => ⟨r, 4, _, _, _, _, rfl, rfl, rfl, fun b6 => ⟨r, 5, _, _, _, _, rfl, rfl, rfl, ?_⟩⟩⟩⟩⟩
  exact ⟨r, b2, b3, b4, b5, b6, rfl, rfl⟩
abbrev acZ : List Value := [.int .i64 0, .string ⟨#[]⟩, .bool false, .slice none 0 0]
abbrev acB (b : Nat) (L : List Value) : Nat × Obj := (b, .cells L.toArray 46 (0, 0))
abbrev vAc (t : Tt) : Value := .agg #[.int .i64 t.1, .string t.2.1, .bool t.2.2, .slice none 0 0]
theorem put_ac {K : Int → ByteArray → Bool → Option Addr → Nat → Nat → SH → Prop} {b : Nat} {L : List Value} {F S : SH} {I : IMem} {k : Int} {t : ByteArray} {w : Bool} {p : Option Addr} {n c : Nat} (hL : L.length = 4) (hs : Sub (acB b L :: F) S) (h : ∀ T, Sub F T → K k t w p n c T) :
    StP S ⟨b, 0, none⟩ [.int .i64 k, .string t, .bool w, .slice p n c] fun S1 => ∃ u0, Cell I S1 ⟨b, 0, none⟩ (.int .i64 u0) ∧ ∃ u1, Cell I S1 ((⟨b, 0, none⟩ : Addr).add 1) (.string u1) ∧ ∃ u2, Cell I S1 ((⟨b, 0, none⟩ : Addr).add 2) (.bool u2) ∧
      ∃ u3 u3n u3c, Cell I S1 ((⟨b, 0, none⟩ : Addr).add 3) (.slice u3 u3n u3c) ∧ K u0 u1 u2 u3 u3n u3c S1 := by
  refine StP.among (L' := [.int .i64 k, .string t, .bool w, .slice p n c]) hs (by rw [hL]; exact Nat.le_refl 4) rfl ?_ ?_
  · rw [List.take_zero, List.drop_of_length_le (by rw [hL]; exact Nat.le_refl 4), List.append_nil, List.nil_append]
  intro T hT
  exact ⟨_, Cell.among hT rfl, _, Cell.at_ (add_mk _ _ _) (Cell.among hT rfl), _, Cell.at_ (add_mk _ _ _) (Cell.among hT rfl), _, _, _, Cell.at_ (add_mk _ _ _) (Cell.among hT rfl), h T hT.drop⟩
theorem row_0 {I : IMem} {S : SH} {b : Nat} : RowIn I S (some ⟨b, 0, none⟩) ([] : List ByteArray).length 1 elS [] := ⟨rfl, fun i x h => by simp at h⟩
theorem target_end (n : ByteArray) {b2 : Nat} {L : List Value} {S T : SH} {J : IMem} (hL : L.length = 4) (hs : Sub (acB b2 L :: S) T) :
    action_target_b4 (fun v _ T => ∃ S', Sub S' T ∧ v = vAc (tgt2 n) ∧ S' = S) n ⟨b2, 0, none⟩ J T := by
  unfold action_target_b4
  intro b27
  refine (Make_runs (ls := [starB]) row_s (by show 1 ≤ 140737488355328; decide)).mono ?_
  rintro v J2 T2 hle2 ⟨rfl, rfl⟩
  rw [mk5]
  refine ⟨_, _, rfl, ?_⟩
  have plain : ¬ (n.size > 2 ∧ n.extract 0 2 = n5B) → action_target_b5 (fun v _ T => ∃ S', Sub S' T ∧ v = vAc (tgt2 n) ∧ S' = S) n ⟨b2, 0, none⟩ false J2 (w1 b27 starB :: T) := by
    intro h
    unfold action_target_b5 action_target_b6
    refine bcase_f rfl (put_ac hL (hs.skip _) fun T' hT' => ⟨S, hT', ?_, rfl⟩)
    rw [tgt2, if_neg h]
  refine bcase_dec (fun h => ⟨by decide, by omega, ?_⟩) (fun h => plain (fun g => h (by have := g.1; omega)))
  by_cases he : n.extract 0 2 = n5B
  · unfold action_target_b5
    refine bcase_t (keq.2 he) ⟨by decide, by omega, put_ac hL (hs.skip _) fun T' hT' => ⟨S, hT', ?_, rfl⟩⟩
    rw [tgt2, if_pos ⟨by omega, he⟩]; rfl
  · have : ((n.extract 0 (2 : Int).toNat).toList == n5B.toList) = false := by rw [← Bool.not_eq_true, keq]; exact he
    rw [this]
    exact plain fun g => he g.2
theorem target_runs (n : ByteArray) (I : IMem) (S : SH) : Runs Tryz.prog 105 #[.string n] I S fun v _ T => v = vAc (tgtF n) ∧ T = S := by
  refine Runs.drop (action_target_fn _ _ _ _ ?_)
  unfold action_target action_target_b1
  intro bA
  refine (words_runs _ _).mono ?_
  rintro v J1 T1 hle1 ⟨r, b2, b3, b4, b5, b6, rfl, rfl⟩
  refine ⟨_, rfl, wordsE b2 b3 b4 b5 b6, 5, .inr (by simp), fun b10 => ?_⟩
  have hb : Sub (acB bA acZ :: S) (wordsH r b2 b3 b4 b5 b6 (acB bA acZ :: S)) := ((((((Sub.refl _).skip _).skip _).skip _).skip _).skip _).skip _
  generalize hT : wordsH r b2 b3 b4 b5 b6 (acB bA acZ :: S) = T1 at hb
  have hm : (r, Obj.map (wordsE b2 b3 b4 b5 b6) 5) ∈ T1 := by rw [← hT]; simp
  have rows : ∀ {J : IMem} {x : Nat × Obj}, RowIn J (x :: T1) (some ⟨b3, 0, none⟩) [starB].length 1 elS [starB] ∧ RowIn J (x :: T1) (some ⟨b4, 0, none⟩) [passB].length 1 elS [passB] ∧ RowIn J (x :: T1) (some ⟨b5, 0, none⟩) [dropB].length 1 elS [dropB] ∧ RowIn J (x :: T1) (some ⟨b6, 0, none⟩) [tcpB].length 1 elS [tcpB] := by
    intro J x
    rw [← hT]
    exact ⟨row_s.sub ((((Sub.refl _).skip _).skip _).skip _ |>.skip _), row_s.sub (((Sub.refl _).skip _).skip _ |>.skip _), row_s.sub ((Sub.refl _).skip _ |>.skip _), row_s.sub ((Sub.refl _).skip _)⟩
  unfold action_target_b2
  refine ⟨fun m n' x2 it J T => n' = n ∧ x2 = ⟨bA, 0, none⟩ ∧ it = ⟨b10, 0, none⟩ ∧ J1.le J ∧ ∃ seen : Array Nat, m = unsn (wordsE b2 b3 b4 b5 b6) seen ∧ (seen.contains 0 = true → n ≠ ⟨#[]⟩) ∧ (seen.contains 1 = true → n ≠ n5B) ∧ (seen.contains 2 = true → n ≠ n2B) ∧ (seen.contains 3 = true → n ≠ n3B) ∧ (seen.contains 4 = true → n ≠ n6B) ∧ T = (b10, .mapIter (some r) 5 seen 5) :: T1,
    unsn (wordsE b2 b3 b4 b5 b6) #[], ⟨rfl, rfl, rfl, IMem.le.refl J1, #[], rfl, by simp, by simp, by simp, by simp, by simp, rfl⟩, ?_⟩
  rintro m n' x2 it J T - ⟨rfl, rfl, rfl, hle, seen, rfl, h0, h1, h2, h3, h4, rfl⟩
  unfold action_target_l3
  have mem : ∀ {e : MapEntry}, e ∈ wordsE b2 b3 b4 b5 b6 → e = wE 0 4 (sl1 b2 0) ∨ e = wE 1 5 (sl1 b3 1) ∨ e = wE 2 2 (sl1 b4 1) ∨ e = wE 3 3 (sl1 b5 1) ∨ e = wE 4 6 (sl1 b6 1) := by
    intro e he
    simpa [wordsE] using he
  refine ⟨0, r, 5, seen, 5, wordsE b2 b3 b4 b5 b6, 5, rfl, rfl, .inr (List.mem_cons_of_mem _ hm), Nat.le_refl 5, fun e he => ?_, fun hall => ?_, fun e he hun => ?_⟩
  · rcases mem he with rfl | rfl | rfl | rfl | rfl <;> simp
  · have hn : tgtF n' = tgt2 n' := by
      rw [tgtF, if_neg (h0 (hall _ (by simp [wordsE] : wE 0 4 (sl1 b2 0) ∈ _))), if_neg (h1 (hall (wE 1 5 (sl1 b3 1)) (by simp [wordsE]))), if_neg (h2 (hall (wE 2 2 (sl1 b4 1)) (by simp [wordsE]))), if_neg (h3 (hall (wE 3 3 (sl1 b5 1)) (by simp [wordsE]))), if_neg (h4 (hall (wE 4 6 (sl1 b6 1)) (by simp [wordsE])))]
    rw [hn]
    exact target_end n' (L := acZ) rfl (hb.skip _)
  · have hlt := unsn_lt he hun
    unfold action_target_b7
    refine ⟨r, 5, seen.push e.born, e.born, wordsE b2 b3 b4 b5 b6, 5, e, rfl, List.mem_cons_self .., by simp, .inr (List.mem_cons_of_mem _ hm), ?_, ?_⟩
    · rcases mem he with rfl | rfl | rfl | rfl | rfl <;> rfl
    have push : ∀ i, (seen.push e.born).contains i = true → seen.contains i = true ∨ i = e.born := by
      intro i h
      have hx : (seen.push e.born).contains i = (seen.contains i || i == e.born) := by
        rw [Bool.eq_iff_iff]; simp [or_comm]
      rw [hx, Bool.or_eq_true] at h
      exact h.imp id (fun h => by simpa using h)
    have step : ∀ (k : Int) (b l : Nat) (ls : List ByteArray) (nme : ByteArray), l = ls.length → ls.length ≤ 1 → makeN ls ByteArray.empty = some nme → (∀ {J : IMem} {x : Nat × Obj}, RowIn J (x :: T1) (some ⟨b, 0, none⟩) ls.length 1 elS ls) → (n' = nme → tgtF n' = (k, ⟨#[]⟩, false)) →
        (n' ≠ nme → ((seen.push e.born).contains 0 = true → n' ≠ ⟨#[]⟩) ∧ ((seen.push e.born).contains 1 = true → n' ≠ n5B) ∧ ((seen.push e.born).contains 2 = true → n' ≠ n2B) ∧ ((seen.push e.born).contains 3 = true → n' ≠ n3B) ∧ ((seen.push e.born).contains 4 = true → n' ≠ n6B)) →
        action_target_b8 (fun n x2 it J T => ∃ m', m' < unsn (wordsE b2 b3 b4 b5 b6) seen ∧ (n = n' ∧ x2 = ⟨bA, 0, none⟩ ∧ it = ⟨b10, 0, none⟩ ∧ J1.le J ∧ ∃ seen : Array Nat, m' = unsn (wordsE b2 b3 b4 b5 b6) seen ∧ (seen.contains 0 = true → n' ≠ ⟨#[]⟩) ∧ (seen.contains 1 = true → n' ≠ n5B) ∧ (seen.contains 2 = true → n' ≠ n2B) ∧ (seen.contains 3 = true → n' ≠ n3B) ∧ (seen.contains 4 = true → n' ≠ n6B) ∧ T = (b10, .mapIter (some r) 5 seen 5) :: T1))
          (fun v J T => ∃ L, Sub L T ∧ v = vAc (tgtF n') ∧ L = S) n' ⟨bA, 0, none⟩ k (sl1 b l) ⟨b10, 0, none⟩ J ((b10, .mapIter (some r) 5 (seen.push e.born) 5) :: T1) := by
      intro k b l ls nme hl hl1 hmk hrow heq hne
      subst hl
      unfold action_target_b8
      refine (Make_runs (ls := ls) hrow (by omega)).mono ?_
      rintro v J2 T2 hle2 ⟨rfl, rfl⟩
      rw [hmk]
      refine ⟨_, _, rfl, bcase_of (fun h => ?_) (fun h => ?_)⟩
      · have hn := (keq.1 h).symm
        refine put_ac (L := acZ) rfl (hb.skip _) fun T' hT' => ⟨S, hT', ?_, rfl⟩
        rw [heq hn]
      · have hn : n' ≠ nme := fun e => by rw [keq.2 e.symm] at h; cases h
        obtain ⟨g0, g1, g2, g3, g4⟩ := hne hn
        exact ⟨_, hlt, rfl, rfl, rfl, hle.trans hle2, seen.push e.born, rfl, g0, g1, g2, g3, g4, rfl⟩
    rcases mem he with rfl | rfl | rfl | rfl | rfl
    · refine step 4 b2 0 [] ⟨#[]⟩ rfl (by decide) mk4 row_0 (fun h => by subst h; rfl) (fun hn => ⟨fun _ => hn, fun h => ?_, fun h => ?_, fun h => ?_, fun h => ?_⟩)
      · exact h1 ((push _ h).resolve_right (by simp))
      · exact h2 ((push _ h).resolve_right (by simp))
      · exact h3 ((push _ h).resolve_right (by simp))
      · exact h4 ((push _ h).resolve_right (by simp))
    · refine step 5 b3 1 [starB] n5B rfl (by decide) mk5 (fun {J x} => rows.1) (fun h => by subst h; decide +kernel) (fun hn => ⟨fun h => ?_, fun _ => hn, fun h => ?_, fun h => ?_, fun h => ?_⟩)
      · exact h0 ((push _ h).resolve_right (by simp))
      · exact h2 ((push _ h).resolve_right (by simp))
      · exact h3 ((push _ h).resolve_right (by simp))
      · exact h4 ((push _ h).resolve_right (by simp))
    · refine step 2 b4 1 [passB] n2B rfl (by decide) mk2 (fun {J x} => rows.2.1) (fun h => by subst h; decide +kernel) (fun hn => ⟨fun h => ?_, fun h => ?_, fun _ => hn, fun h => ?_, fun h => ?_⟩)
      · exact h0 ((push _ h).resolve_right (by simp))
      · exact h1 ((push _ h).resolve_right (by simp))
      · exact h3 ((push _ h).resolve_right (by simp))
      · exact h4 ((push _ h).resolve_right (by simp))
    · refine step 3 b5 1 [dropB] n3B rfl (by decide) mk3 (fun {J x} => rows.2.2.1) (fun h => by subst h; decide +kernel) (fun hn => ⟨fun h => ?_, fun h => ?_, fun h => ?_, fun _ => hn, fun h => ?_⟩)
      · exact h0 ((push _ h).resolve_right (by simp))
      · exact h1 ((push _ h).resolve_right (by simp))
      · exact h2 ((push _ h).resolve_right (by simp))
      · exact h4 ((push _ h).resolve_right (by simp))
    · refine step 6 b6 1 [tcpB] n6B rfl (by decide) mk6 (fun {J x} => rows.2.2.2) (fun h => by subst h; decide +kernel) (fun hn => ⟨fun h => ?_, fun h => ?_, fun h => ?_, fun h => ?_, fun _ => hn⟩)
      · exact h0 ((push _ h).resolve_right (by simp))
      · exact h1 ((push _ h).resolve_right (by simp))
      · exact h2 ((push _ h).resolve_right (by simp))
      · exact h3 ((push _ h).resolve_right (by simp))
end Go.Proofs.YtoiilcdaldnjfaaGreatDoor
/- What the records of a name do. -/
namespace Go.Proofs.YtoiilcdaldnjfaaGreatDoor
open Go.Px
set_option linter.unusedVariables false
set_option linter.unusedSimpArgs false

structure Av where
  k : Int
  t : ByteArray
  w : Bool
  rs : List Rc
def av0 : Av := ⟨0, ⟨#[]⟩, false, []⟩
def badR (n : Nat) (r : Rc) : Bool := bif r.2.1 == 5 then (bif decide (n > 1) then true else (bif r.2.1 == 6 then true else r.2.1 == 2)) else (bif r.2.1 == 6 then true else r.2.1 == 2)
def actF (rs : List Rc) : Option Av := if rs.any (badR rs.length) = true then none else match rs with
  | [] => none
  | r :: _ => if r.2.1 = 5 then some ⟨(tgtF r.2.2.2).1, (tgtF r.2.2.2).2.1, (tgtF r.2.2.2).2.2, []⟩ else some ⟨8, ⟨#[]⟩, false, rs⟩
abbrev vAv (a : Av) (p : Option Addr) (n c : Nat) : Value := .agg #[.int .i64 a.k, .string a.t, .bool a.w, .slice p n c]
abbrev encAv (a : Av) (p : Option Addr) (n c : Nat) : List Value := [.int .i64 a.k, .string a.t, .bool a.w, .slice p n c]
def AcR (a : Av) (b : Bool) (S : SH) (v : Value) (T : SH) : Prop := ∃ p n c own, v = .tuple #[vAv a p n c, .bool b] ∧ OwnZ (.slice p n c) a.rs own ∧ Sub (own ++ S) T
theorem any_snocR {xs : List Rc} {k : Nat} {x : Rc} {f : Rc → Bool} (h : xs[k]? = some x) : (xs.take (k + 1)).any f = ((xs.take k).any f || f x) := by
  rw [take_snoc h, List.any_append]; simp
theorem app_r {xs : List Rc} {r : Rc} {b : Nat} {v : Value} {S F own : SH} {I : IMem} {K : Option Addr → Nat → Nat → SH → Prop} (hs : Sub (own ++ F) S) (hv : OwnZ v xs own) (hl : xs.length ≤ 1000000000)
    (hK : ∀ p n c own' T, OwnZ (.slice p n c) (xs ++ [r]) own' → Sub (own' ++ F) T → K p n c T) :
    AppG 84 4 40 zR (some (.slice 84)) I ((b, .cells #[.string r.1, .int .u16 r.2.1, .int .u32 r.2.2.1, .string r.2.2.2] 84 (0, 0)) :: S) v (.slice (some ⟨b, 0, none⟩) 1 1) K := by
  obtain ⟨G, hG⟩ := hs.skip (b, .cells #[.string r.1, .int .u16 r.2.1, .int .u32 r.2.2.1, .string r.2.2.2] 84 (0, 0))
  exact AppG.own (xs := xs) (ys := [r]) (el := encR) encR_len encR_one rfl (by rw [List.append_assoc] at hG; exact hG) hv ⟨Rd.list (L := encR r) rfl (by simp [encR_len]), rfl⟩ (by simp only [List.length_singleton, maxLen]; omega) (by simp only [List.length_singleton]; omega)
    fun p n c own' h => hK p n c own' _ h ⟨G, by rw [List.append_assoc]⟩
theorem of_none {S T : SH} {b : Nat} {L : List Value} {J : IMem} {rs : List Rc} (hL : L.length = 4) (hs : Sub (acB b L :: S) T) (h : actF rs = none) : StP T ⟨b, 0, none⟩ [.int .i64 0, .string ⟨#[]⟩, .bool false, .slice none 0 0] fun S1 =>
    ∃ u0, Cell J S1 ⟨b, 0, none⟩ (.int .i64 u0) ∧ ∃ u1, Cell J S1 ((⟨b, 0, none⟩ : Addr).add 1) (.string u1) ∧ ∃ u2, Cell J S1 ((⟨b, 0, none⟩ : Addr).add 2) (.bool u2) ∧
      ∃ u3 u3n u3c, Cell J S1 ((⟨b, 0, none⟩ : Addr).add 3) (.slice u3 u3n u3c) ∧ AcR ((actF rs).getD av0) (actF rs).isSome S (.tuple #[.agg #[.int .i64 u0, .string u1, .bool u2, .slice u3 u3n u3c], .bool false]) S1 := by
  refine put_ac hL hs fun T' hT' => ?_
  rw [h]
  exact ⟨_, _, _, [], rfl, OwnR.nil, hT'⟩
theorem AOf_runs {rs : List Rc} {a : Option Addr} {c : Nat} {I : IMem} {S : SH} (hx : RowIn I S a rs.length 4 encR rs) (hl : rs.length ≤ 100000) :
    Runs Tryz.prog 69 #[.slice a rs.length c] I S fun v _ T => AcR ((actF rs).getD av0) (actF rs).isSome S v T := by
  refine action_Of_fn _ _ _ _ _ _ ?_
  unfold action_Of action_Of_b1 action_Of_b2
  intro bA
  refine ⟨fun m y yn yc x2 o on oc z zn zc q i J T => y = a ∧ yn = rs.length ∧ yc = c ∧ x2 = ⟨bA, 0, none⟩ ∧ z = a ∧ zn = rs.length ∧ zc = c ∧ q = (rs.length : Int) ∧ I.le J ∧ ∃ (k : Nat) (own : SH), i = (k : Int) ∧ k ≤ rs.length ∧ m = rs.length - k ∧ (rs.take k).any (badR rs.length) = false ∧ OwnZ (.slice o on oc) (rs.take k) own ∧ Sub (own ++ (acB bA acZ :: S)) T,
    rs.length, ⟨rfl, rfl, rfl, rfl, rfl, rfl, rfl, rfl, IMem.le.refl I, 0, [], rfl, Nat.zero_le _, rfl, rfl, OwnR.nil, Sub.refl _⟩, ?_⟩
  rintro m y yn yc x2 o on oc z zn zc q i J T - ⟨rfl, rfl, rfl, rfl, rfl, rfl, rfl, rfl, hle, k, own, rfl, hk, rfl, hf, ho, hs⟩
  have hrow : ∀ {T' : SH}, Sub S T' → RowIn J T' z rs.length 4 encR rs := fun h => (hx.le hle).sub h
  have hS : Sub S T := hs.right.drop
  unfold action_Of_l3
  refine bcase_dec (fun hg => ?_) (fun hg => ?_)
  · obtain ⟨r, hr⟩ := get_lt (xs := rs) (k := k) (by omega)
    obtain ⟨a', rfl, hc⟩ := (hrow hS).cell hr
    obtain ⟨c0, c1, c2, c3⟩ := CellsR hc
    unfold action_Of_b4
    refine ⟨by omega, by omega, _, c0, _, c1, _, c2, _, c3, fun b6 => StP.rec (x := r) ?_⟩
    have hR : Sub ((b6, Obj.cells (encR r).toArray 84 (0, 0)) :: T) ((b6, Obj.cells (encR r).toArray 84 (0, 0)) :: T) := Sub.refl _
    have bad : badR rs.length r = true → actF rs = none := fun h => by
      unfold actF
      rw [if_pos (List.any_eq_true.2 ⟨r, List.mem_of_getElem? hr, h⟩)]
    have go : ∀ (x : Bool), x = badR rs.length r → action_Of_b6 (fun y yn yc x2 o on oc z zn zc q i J T => ∃ m', m' < rs.length - k ∧ (y = some a' ∧ yn = rs.length ∧ yc = zc ∧ x2 = ⟨bA, 0, none⟩ ∧ z = some a' ∧ zn = rs.length ∧ zc = zc ∧ q = (rs.length : Int) ∧ I.le J ∧ ∃ (k : Nat) (own : SH), i = (k : Int) ∧ k ≤ rs.length ∧ m' = rs.length - k ∧ (rs.take k).any (badR rs.length) = false ∧ OwnZ (.slice o on oc) (rs.take k) own ∧ Sub (own ++ (acB bA acZ :: S)) T))
        (fun v _ T => AcR ((actF rs).getD av0) (actF rs).isSome S v T) (some a') rs.length zc ⟨bA, 0, none⟩ o on oc ⟨b6, 0, none⟩ (some a') rs.length zc (rs.length : Int) (k : Int) x J ((b6, Obj.cells (encR r).toArray 84 (0, 0)) :: T) := by
      intro x hxx
      unfold action_Of_b6
      refine bcase_of (fun h => ?_) (fun h => ?_)
      · exact of_none (L := acZ) rfl ((hs.right).skip _) (bad (hxx ▸ h))
      · unfold action_Of_b7 action_Of_b8
        refine ⟨_, Cell.at0 rfl, _, Cell.at0 rfl, _, Cell.at0 rfl, _, Cell.at0 rfl, fun b34 => app_r (r := r) (hs.skip _) ho (by rw [List.length_take]; omega) ?_⟩
        intro p n c own' T' ho' hT'
        rw [← take_snoc hr] at ho'
        exact ⟨rs.length - (k + 1), by omega, rfl, rfl, rfl, rfl, rfl, rfl, rfl, rfl, hle, k + 1, own', by rw [wrap_i64 (by omega) (by omega)]; rfl, by omega, rfl, by rw [any_snocR hr, hf, ← hxx, h]; rfl, ho', hT'⟩
    unfold action_Of_b5
    have cr : Cell J ((b6, Obj.cells (encR r).toArray 84 (0, 0)) :: T) ((⟨b6, 0, none⟩ : Addr).add 1) (.int .u16 r.2.1) := Cell.at_ (add_mk _ _ _) (Cell.at0 rfl)
    unfold badR at go
    refine ⟨_, cr, bcase_of (fun h5 => ?_) (fun h5 => ?_)⟩
    · rw [h5] at go
      refine bcase_of (fun h => go true (by rw [show decide (rs.length > 1) = true from decide_eq_true (by have := of_decide_eq_true h; omega)]; rfl)) (fun h => ⟨_, cr, bcase_of (fun h6 => go true ?_) (fun h6 => ⟨_, cr, go _ ?_⟩)⟩)
      · rw [show decide (rs.length > 1) = false from decide_eq_false (by have := of_decide_eq_false h; omega), h6]; rfl
      · rw [show decide (rs.length > 1) = false from decide_eq_false (by have := of_decide_eq_false h; omega), h6]; rfl
    · rw [h5] at go
      refine ⟨_, cr, bcase_of (fun h6 => go true ?_) (fun h6 => ⟨_, cr, go _ ?_⟩)⟩
      · rw [h6]; rfl
      · rw [h6]; rfl
  · have hke : k = rs.length := by omega
    subst hke
    rw [List.take_length] at hf ho
    unfold action_Of_b9
    have hB : Sub (acB bA acZ :: (own ++ S)) T := hs.re (by intro a; simp only [List.append_eq, cnt_cons, cnt_app]; omega)
    refine bcase_beq (fun h0 => ?_) (fun h0 => ?_)
    · refine of_none (L := acZ) rfl hs.right ?_
      have : rs = [] := List.eq_nil_of_length_eq_zero (by omega)
      rw [this]; rfl
    · obtain ⟨r, l, rfl⟩ : ∃ r l, rs = r :: l := by
        cases rs with
        | nil => exact absurd rfl h0
        | cons r l => exact ⟨r, l, rfl⟩
      obtain ⟨a', rfl, hc⟩ := (hrow hS).cell (i := 0) (x := r) rfl
      obtain ⟨c0, c1, c2, c3⟩ := CellsR hc
      have hact : actF (r :: l) = if r.2.1 = 5 then some ⟨(tgtF r.2.2.2).1, (tgtF r.2.2.2).2.1, (tgtF r.2.2.2).2.2, []⟩ else some ⟨8, ⟨#[]⟩, false, r :: l⟩ := by
        unfold actF
        rw [if_neg (by rw [hf]; exact Bool.false_ne_true)]
      have hpos : (0 : Int) < ((r :: l).length : Int) := by rw [List.length_cons]; omega
      refine ⟨by omega, hpos, _, c1, bcase_beq (fun h5 => ?_) (fun h5 => ?_)⟩
      · rw [hact, if_pos h5]
        refine ⟨by omega, hpos, _, c3, (target_runs _ _ _).mono ?_⟩
        rintro v J2 T2 hle2 ⟨rfl, rfl⟩
        refine ⟨_, _, _, _, _, _, rfl, put_ac (L := acZ) rfl hs.right fun T' hT' => ?_⟩
        exact ⟨_, _, _, [], rfl, OwnR.nil, hT'⟩
      · rw [hact, if_neg h5]
        refine put_ac (L := acZ) rfl hB fun T' hT' => ?_
        exact ⟨_, _, _, own, rfl, ho, hT'⟩
def keepO (k : Int) : Bool := bif k == 0 then true else (bif k == 8 then true else (bif k == 7 then true else (bif decide (k < 0) then true else decide (k > 8))))
def overF (a : Av) (k : Int) : Av := if keepO k = true then a else ⟨k, ⟨#[]⟩, false, []⟩
theorem Over_runs (a : Av) (p : Option Addr) (n c : Nat) (k : Int) (I : IMem) (S : SH) : Runs Tryz.prog 71 #[vAv a p n c, .int .i64 k] I S fun v _ T => v = (if keepO k = true then vAv a p n c else vAv (overF a k) none 0 0) ∧ T = S := by
  refine Runs.drop (action_Over_fn _ _ _ _ _ _ _ _ _ _ ?_)
  unfold action_Over action_Over_b1
  intro b2 b4
  have hB : Sub (acB b4 acZ :: (acB b2 (encAv a p n c) :: S)) (acB b4 acZ :: acB b2 (encAv a p n c) :: S) := Sub.refl _
  have hA : Sub (acB b2 (encAv a p n c) :: S) (acB b4 acZ :: acB b2 (encAv a p n c) :: S) := (Sub.refl _).skip _
  have go : ∀ x, x = keepO k → action_Over_b2 (fun v _ T => ∃ L, Sub L T ∧ v = (if keepO k = true then vAv a p n c else vAv (overF a k) none 0 0) ∧ L = S) k ⟨b2, 0, none⟩ ⟨b4, 0, none⟩ x I (acB b4 acZ :: acB b2 (encAv a p n c) :: S) := by
    intro x hx
    unfold action_Over_b2
    refine bcase_of (fun h => ?_) (fun h => ?_)
    · rw [if_pos (hx ▸ h)]
      refine ⟨_, Cell.among hA rfl, _, Cell.at_ (add_mk _ _ _) (Cell.among hA rfl), _, Cell.at_ (add_mk _ _ _) (Cell.among hA rfl), _, _, _, Cell.at_ (add_mk _ _ _) (Cell.among hA rfl), put_ac (L := acZ) rfl hB fun T hT => ⟨S, hT.drop, rfl, rfl⟩⟩
    · have hk : ¬ keepO k = true := by rw [← hx, h]; exact Bool.false_ne_true
      unfold action_Over_b3
      rw [if_neg hk]
      refine put_ac (L := acZ) rfl hB fun T hT => ⟨S, hT.drop, ?_, rfl⟩
      rw [overF, if_neg hk]
  refine bcase_of (fun h0 => go true (by rw [keepO, h0]; rfl)) (fun h0 => bcase_of (fun h1 => go true (by rw [keepO, h0, h1]; rfl)) (fun h1 => bcase_of (fun h2 => go true (by rw [keepO, h0, h1, h2]; rfl)) (fun h2 => bcase_of (fun h3 => go true (by rw [keepO, h0, h1, h2, h3]; rfl)) (fun h3 => go _ (by rw [keepO, h0, h1, h2, h3]; rfl)))))
end Go.Proofs.YtoiilcdaldnjfaaGreatDoor
/- What a name of a policy zone does. -/
namespace Go.Proofs.YtoiilcdaldnjfaaGreatDoor
open Go.Px
set_option linter.unusedVariables false
set_option linter.unusedSimpArgs false

structure Pl where
  o : ByteArray
  zn : Sl
  zs : List Rc
  live : Bool
  over : Int
abbrev encPl (p : Pl) : List Value := [.string p.o, .slice p.zn.1 p.zn.2.1 p.zn.2.2, .bool p.live, .int .i64 p.over]
abbrev vPl (p : Pl) : Value := .agg #[.string p.o, .slice p.zn.1 p.zn.2.1 p.zn.2.2, .bool p.live, .int .i64 p.over]
abbrev plB (b : Nat) (p : Pl) : Nat × Obj := (b, .cells (encPl p).toArray 65 (0, 0))
structure PlIn (I : IMem) (S : SH) (p : Pl) : Prop where
  row : RowIn I S p.zn.1 p.zs.length 4 encR p.zs
  len : p.zn.2.1 = p.zs.length
  few : p.zs.length ≤ 10000
theorem PlIn.keep {I J : IMem} {S T : SH} {p : Pl} (hk : Keep I S J T) (h : PlIn I S p) : PlIn J T p := ⟨h.row.keep hk, h.len, h.few⟩
theorem PlIn.sub {I : IMem} {S T : SH} {p : Pl} (hs : Sub S T) (h : PlIn I S p) : PlIn I T p := h.keep (hs.keep (IMem.le.refl I))
theorem PlIn.le {I J : IMem} {S : SH} {p : Pl} (hle : I.le J) (h : PlIn I S p) : PlIn J S p := h.keep ((Sub.refl S).keep hle)
noncomputable def nodeF (p : Pl) (n : ByteArray) : Option (Tg × Av) := if (stripN n p.o).2 = true then (match decF (stripN n p.o).1, actF (p.zs.filter (ofN n)) with
  | some t, some a => some (t, overF a p.over)
  | _, _ => none) else none
def NdR (r : Option (Tg × Av)) (S : SH) (v : Value) (T : SH) : Prop := ∃ p n c own, v = .tuple #[vT (r.getD (t0, av0)).1, vAv (r.getD (t0, av0)).2 p n c, .bool r.isSome] ∧ OwnZ (.slice p n c) (r.getD (t0, av0)).2.rs own ∧ Sub (own ++ S) T
theorem put_tg {K : SH → Prop} {b : Nat} {x t : Tg} {F S : SH} (hs : Sub (tgB b x :: F) S) (h : ∀ T, Sub (tgB b t :: F) T → K T) : StP S ⟨b, 0, none⟩ [.int .i64 t.1, .string t.2.1, .string t.2.2.1, .int .i64 t.2.2.2] K :=
  StP.among (L := elT x) (L' := elT t) hs (Nat.le_of_ble_eq_true rfl) rfl rfl h
theorem put_av {K : SH → Prop} {b : Nat} {L : List Value} {a : Av} {p : Option Addr} {n c : Nat} {F S : SH} (hL : L.length = 4) (hs : Sub (acB b L :: F) S) (h : ∀ T, Sub (acB b (encAv a p n c) :: F) T → K T) : StP S ⟨b, 0, none⟩ [.int .i64 a.k, .string a.t, .bool a.w, .slice p n c] K :=
  StP.among (L := L) (L' := encAv a p n c) hs (by rw [hL]; exact Nat.le_refl 4) rfl (by rw [List.take_zero, List.drop_of_length_le (by rw [hL]; exact Nat.le_refl 4), List.append_nil, List.nil_append]) h
theorem avX {I : IMem} {S F : SH} {b : Nat} {a : Av} {p : Option Addr} {n c : Nat} (hs : Sub (acB b (encAv a p n c) :: F) S) : Cell I S ⟨b, 0, none⟩ (.int .i64 a.k) ∧ Cell I S ((⟨b, 0, none⟩ : Addr).add 1) (.string a.t) ∧ Cell I S ((⟨b, 0, none⟩ : Addr).add 2) (.bool a.w) ∧ Cell I S ((⟨b, 0, none⟩ : Addr).add 3) (.slice p n c) :=
  ⟨Cell.among hs rfl, Cell.at_ (add_mk _ _ _) (Cell.among hs rfl), Cell.at_ (add_mk _ _ _) (Cell.among hs rfl), Cell.at_ (add_mk _ _ _) (Cell.among hs rfl)⟩
section
variable {b2 b4 b5 b9 b11 : Nat} {p : Pl} {t : Tg} {a : Av} {q : Option Addr} {n c : Nat} {own F S T : SH} {J : IMem}
theorem nd_none {r : Option (Tg × Av)} (hr : r = none) (hs : Sub (acB b5 acZ :: (tgB b4 t0 :: S)) T) : search_Node_b2 (fun v _ T => NdR r S v T) ⟨b2, 0, none⟩ ⟨b4, 0, none⟩ ⟨b5, 0, none⟩ ⟨b9, 0, none⟩ ⟨b11, 0, none⟩ true J T := by
  unfold search_Node_b2
  refine bcase_t rfl (put_tg (x := t0) (t := t0) (F := acB b5 acZ :: S) (hs.re (by intro a; simp only [cnt_cons]; omega)) fun T1 hT1 => put_av (L := acZ) (a := av0) (p := none) (n := 0) (c := 0) (F := tgB b4 t0 :: S) rfl (hT1.re (by intro a; simp only [cnt_cons]; omega)) fun T2 hT2 => ?_)
  obtain ⟨c0, c1, c2, _, c3⟩ := tgX (I := J) (hT2.re (by intro a; simp only [cnt_cons]; omega) : Sub (tgB b4 t0 :: (acB b5 (encAv av0 none 0 0) :: S)) T2)
  obtain ⟨d0, d1, d2, d3⟩ := avX (I := J) hT2
  refine ⟨_, c0, _, c1, _, c2, _, c3, _, d0, _, d1, _, d2, _, _, _, d3, ?_⟩
  rw [hr]
  exact ⟨_, _, _, [], rfl, OwnR.nil, hT2.drop.drop⟩
theorem nd_some {r : Option (Tg × Av)} (hr : r = some (t, overF a p.over)) (ho : OwnZ (.slice q n c) a.rs own) (hs : Sub (acB b11 (encAv a q n c) :: (tgB b9 t :: (acB b5 acZ :: (tgB b4 t0 :: (plB b2 p :: (own ++ S)))))) T) :
    search_Node_b3 (fun v _ T => NdR r S v T) ⟨b2, 0, none⟩ ⟨b4, 0, none⟩ ⟨b5, 0, none⟩ ⟨b9, 0, none⟩ ⟨b11, 0, none⟩ J T := by
  obtain ⟨c0, c1, c2, _, c3⟩ := tgX (I := J) hs.drop
  obtain ⟨d0, d1, d2, d3⟩ := avX (I := J) hs
  unfold search_Node_b3
  refine ⟨_, c0, _, c1, _, c2, _, c3, _, d0, _, d1, _, d2, _, _, _, d3, _, Cell.at_ (add_mk _ _ _) (Cell.among hs.drop.drop.drop.drop rfl), (Over_runs a q n c p.over _ _).mono ?_⟩
  rintro v J2 T2 hle2 ⟨rfl, rfl⟩
  have fin : ∀ (a' : Av) (q' : Option Addr) (n' c' : Nat) (own' : SH), overF a p.over = a' → OwnZ (.slice q' n' c') a'.rs own' → (∀ {X : SH}, Sub (own ++ S) X → Sub (own' ++ S) X) →
      StP T2 ⟨b4, 0, none⟩ [.int .i64 t.1, .string t.2.1, .string t.2.2.1, .int .i64 t.2.2.2] fun S1 => StP S1 ⟨b5, 0, none⟩ [.int .i64 a'.k, .string a'.t, .bool a'.w, .slice q' n' c'] fun S2 => search_Node_b4 (fun v _ T => NdR r S v T) ⟨b4, 0, none⟩ ⟨b5, 0, none⟩ true J2 S2 := by
    intro a' q' n' c' own' ha ho' hX
    refine put_tg (x := t0) (t := t) (F := acB b5 acZ :: (own ++ S)) ((hs.re (by intro a; simp only [cnt_cons, cnt_app, cnt_nil]; omega) : Sub (tgB b4 t0 :: (acB b5 acZ :: (own ++ S)) ++ [acB b11 (encAv a q n c), tgB b9 t, plB b2 p]) T2).left) fun T1 hT1 => put_av (L := acZ) (a := a') (F := tgB b4 t :: (own ++ S)) rfl (hT1.re (by intro a; simp only [cnt_cons, cnt_app]; omega)) fun T3 hT3 => ?_
    obtain ⟨c0, c1, c2, _, c3⟩ := tgX (I := J2) (hT3.re (by intro a; simp only [cnt_cons, cnt_app]; omega) : Sub (tgB b4 t :: (acB b5 (encAv a' q' n' c') :: (own ++ S))) T3)
    obtain ⟨d0, d1, d2, d3⟩ := avX (I := J2) hT3
    unfold search_Node_b4
    refine ⟨_, c0, _, c1, _, c2, _, c3, _, d0, _, d1, _, d2, _, _, _, d3, ?_⟩
    rw [hr, ha]
    exact ⟨_, _, _, own', rfl, ho', hX hT3.drop.drop⟩
  by_cases hk : keepO p.over = true
  · have e : overF a p.over = a := by rw [overF, if_pos hk]
    rw [if_pos hk]
    exact ⟨_, _, _, _, _, _, rfl, (Sub.refl _).keep hle2, fin a q n c own e ho id⟩
  · have e : overF a p.over = ⟨p.over, ⟨#[]⟩, false, []⟩ := by rw [overF, if_neg hk]
    rw [if_neg hk, e]
    exact ⟨_, _, _, _, _, _, rfl, (Sub.refl _).keep hle2, fin _ none 0 0 [] e OwnR.nil fun h => h.right⟩
end
theorem Node_runs (p : Pl) (nn : ByteArray) {I : IMem} {S : SH} (g : GL I) (hp : PlIn I S p) : Runs Tryz.prog 37 #[vPl p, .string nn] I S fun v _ T => NdR (nodeF p nn) S v T := by
  refine search_Node_fn _ _ _ _ _ _ _ _ _ _ ?_
  unfold search_Node
  intro b2 b4 b5
  refine ⟨_, Cell.tl (Cell.tl (Cell.at0 rfl)), (Strip_runs _ _ _ _).mono ?_⟩
  rintro v J1 T1 hle1 ⟨rfl, rfl⟩
  refine ⟨_, _, rfl, (Decode_runs _ (g.le hle1) _).mono ?_⟩
  rintro v J2 T2 hle2 ⟨rfl, rfl⟩
  have hres : ∃ t b, resT (decF (stripN nn p.o).1) = .tuple #[vT t, .bool b] ∧ (decF (stripN nn p.o).1 = if b = true then some t else none) := by
    cases decF (stripN nn p.o).1 with
    | none => exact ⟨t0, false, rfl, rfl⟩
    | some t => exact ⟨t, true, rfl, rfl⟩
  obtain ⟨t, b, hv, hd⟩ := hres
  rw [hv]
  have hle := hle1.trans hle2
  refine ⟨_, _, _, _, _, rfl, fun b9 => StP.all (vs := elT t) rfl rfl ⟨_, _, _, Cell.tl (Cell.tl (Cell.tl (Cell.at0 rfl))), ?_⟩⟩
  have hrow : RowIn J2 (tgB b9 t :: (acB b5 acZ :: (tgB b4 t0 :: (plB b2 p :: S)))) p.zn.1 p.zs.length 4 encR p.zs := (hp.row.le hle).sub ((((Sub.refl S).skip _).skip _).skip _ |>.skip _)
  have hat := At_runs (c := p.zn.2.2) (n := nn) hrow (by have := hp.few; omega)
  rw [← hp.len] at hat
  refine hat.mono ?_
  rintro v J3 T3 hle3 ⟨own1, ho1, hs3⟩
  obtain ⟨p1, c1, rfl⟩ := ho1.slice
  have hfl : (p.zs.filter (ofN nn)).length ≤ 10000 := Nat.le_trans (List.length_filter_le _ _) hp.few
  refine ⟨_, _, _, rfl, (AOf_runs ((ho1.row encR_len).sub hs3.left) (by omega)).mono ?_⟩
  rintro v J4 T4 hle4 ⟨q, n, c, own, rfl, ho, hs4⟩
  refine ⟨_, _, _, _, _, _, _, rfl, fun b11 => StP.all (vs := encAv ((actF (p.zs.filter (ofN nn))).getD av0) q n c) rfl rfl ?_⟩
  have hall : Sub (acB b11 (encAv ((actF (p.zs.filter (ofN nn))).getD av0) q n c) :: (tgB b9 t :: (acB b5 acZ :: (tgB b4 t0 :: (plB b2 p :: (own ++ S)))))) (acB b11 (encAv ((actF (p.zs.filter (ofN nn))).getD av0) q n c) :: T4) := by
    have h1 := ((Sub.refl own).both hs3.right).trans hs4
    exact (h1.cons (acB b11 (encAv ((actF (p.zs.filter (ofN nn))).getD av0) q n c))).re (by intro a; simp only [cnt_cons, cnt_app]; omega)
  have hnone : Sub (acB b5 acZ :: (tgB b4 t0 :: S)) (acB b11 (encAv ((actF (p.zs.filter (ofN nn))).getD av0) q n c) :: T4) := (hall.re (by intro a; simp only [cnt_cons, cnt_app, cnt_nil]; omega) : Sub ((acB b5 acZ :: (tgB b4 t0 :: S)) ++ (acB b11 (encAv ((actF (p.zs.filter (ofN nn))).getD av0) q n c) :: tgB b9 t :: plB b2 p :: own)) _).left
  unfold search_Node_b1
  refine bcase_not (bcase_of (fun h1 => bcase_not (bcase_of (fun h2 => ?_) (fun h2 => ?_))) (fun h1 => ?_))
  · rw [h2, if_pos rfl] at hd
    cases ha : actF (p.zs.filter (ofN nn)) with
    | none => exact nd_none (by rw [nodeF, if_pos h1, hd, ha]) (ha ▸ hnone)
    | some a =>
      unfold search_Node_b2
      refine bcase_f rfl (nd_some (t := t) (a := a) (p := p) (q := q) (n := n) (c := c) (own := own) (by rw [nodeF, if_pos h1, hd, ha]) ?_ ?_)
      · rw [ha] at ho; exact ho
      · rw [ha] at hall; exact hall
  · rw [h2, if_neg Bool.false_ne_true] at hd
    exact nd_none (by rw [nodeF, if_pos h1, hd]) hnone
  · exact nd_none (by rw [nodeF, if_neg (by rw [h1]; exact Bool.false_ne_true)]) hnone
end Go.Proofs.YtoiilcdaldnjfaaGreatDoor
