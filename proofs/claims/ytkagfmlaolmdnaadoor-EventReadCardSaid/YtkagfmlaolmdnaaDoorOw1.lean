/- Numbers as digits, rows of words that are 0, and what their labels are: plain laws. -/
import Derived.Test.YtkagfmlaolmdnaaDoorPx7
import Derived.Laws.Strings
namespace Go.Proofs.YtkagfmlaolmdnaaDoor
open Go.Px
set_option linter.unusedVariables false
set_option linter.unusedSimpArgs false
set_option maxRecDepth 8000

def dgt (n : Nat) : UInt8 := UInt8.ofNat (if n < 10 then 48 + n else 87 + n)
def numL : Nat → Nat → Nat → List UInt8
  | 0, _, _ => []
  | f + 1, b, n => if n < b then [dgt n] else numL f b (n / b) ++ [dgt (n % b)]
def decB (n : Nat) : ByteArray := ⟨(numL 3 10 n).toArray⟩
def hexB (n : Nat) : ByteArray := ⟨(numL 4 16 n).toArray⟩
def zzB : ByteArray := ⟨#[122, 122]⟩

theorem bext {a b : ByteArray} (h : a.data.toList = b.data.toList) : a = b := ByteArray.ext (Array.toList_inj.1 h)
theorem tl_inj {a b : ByteArray} (h : a.toList = b.toList) : a = b := by
  rw [ByteArray.toList_eq, ByteArray.toList_eq] at h
  exact bext h
theorem tl_ne {a b : ByteArray} (h : a ≠ b) : (a.toList == b.toList) = false := by
  cases hb : (a.toList == b.toList)
  · rfl
  · exact absurd (tl_inj (eq_of_beq hb)) h
theorem tl_eq {a : ByteArray} : (a.toList == a.toList) = true := beq_self_eq_true _
theorem ba_get (s : ByteArray) (i : Nat) : s[i]? = s.data.toList[i]? := by
  by_cases hi : i < s.size
  · rw [getElem?_pos s i hi, List.getElem?_eq_getElem (by rw [Array.length_toList]; exact hi)]; rfl
  · rw [getElem?_neg s i hi, List.getElem?_eq_none (by rw [Array.length_toList]; exact Nat.le_of_not_lt hi)]
/-! ### read again -/
def aF : List UInt8 → Nat → Option Nat
  | [], n => some n
  | c :: cs, n => if 48 ≤ c.toNat ∧ c.toNat ≤ 57 then aF cs (n * 10 + (c.toNat - 48)) else none
theorem aF_ge : ∀ {cs : List UInt8} {n m : Nat}, aF cs n = some m → n ≤ m
  | [], n, m, h => by simp [aF] at h; omega
  | c :: cs, n, m, h => by
    unfold aF at h
    split at h
    · have := aF_ge h; omega
    · cases h
theorem aF_dec : ∀ m : Fin 256, aF (numL 3 10 m.val) 0 = some m.val := by decide +kernel
theorem dec_size : ∀ m : Fin 256, 1 ≤ (numL 3 10 m.val).length ∧ (numL 3 10 m.val).length ≤ 3 := by decide +kernel
theorem decB_len {m : Nat} (h : m ≤ 255) : 1 ≤ (decB m).size ∧ (decB m).size ≤ 3 := by
  have := dec_size ⟨m, by omega⟩
  simpa [decB, ByteArray.size] using this
def dig (c : UInt8) : Nat := if 48 ≤ c.toNat ∧ c.toNat ≤ 57 then c.toNat - 48 else if 97 ≤ (c ||| 32).toNat ∧ (c ||| 32).toNat ≤ 122 then (c ||| 32).toNat - 87 else 99
def pu : List UInt8 → Nat → Option Nat
  | [], n => some n
  | c :: cs, n => if 16 ≤ dig c ∨ 65535 < n * 16 + dig c then none else pu cs (n * 16 + dig c)
theorem dig_dgt : ∀ d : Fin 16, dig (dgt d.val) = d.val := by decide +kernel
theorem dig_dgt' {d : Nat} (h : d < 16) : dig (dgt d) = d := dig_dgt ⟨d, h⟩
theorem pu_num : ∀ (f w : Nat) (rest : List UInt8), w < 16 ^ f → w ≤ 65535 → 0 < f → pu (numL f 16 w ++ rest) 0 = pu rest w
  | 0, _, _, _, _, h => by omega
  | f + 1, w, rest, h1, h2, _ => by
    unfold numL
    by_cases hw : w < 16
    · rw [if_pos hw, List.singleton_append, pu, dig_dgt' hw, if_neg (by omega)]
      simp
    · rw [if_neg hw, List.append_assoc]
      have hf : 0 < f := by
        rcases Nat.eq_zero_or_pos f with h | h
        · subst h; simp at h1; omega
        · exact h
      rw [pu_num f (w / 16) _ (by rw [Nat.pow_succ] at h1; omega) (by omega) hf, List.singleton_append, pu, dig_dgt' (by omega), if_neg (by omega)]
      congr 1; omega
theorem pu_hex {w : Nat} (h : w < 65536) : pu (numL 4 16 w) 0 = some w := by
  have := pu_num 4 w [] (by omega) (by omega) (by omega)
  simpa [pu] using this
theorem hexB_inj {v w : Nat} (hv : v < 65536) (hw : w < 65536) (h : hexB v = hexB w) : v = w := by
  have h1 : numL 4 16 v = numL 4 16 w := by
    have := congrArg (fun s : ByteArray => s.data.toList) h
    simpa [hexB] using this
  have h2 := pu_hex hv
  rw [h1, pu_hex hw] at h2
  exact (Option.some.inj h2).symm
theorem hexB_zz {w : Nat} (hw : w < 65536) : hexB w ≠ zzB := fun h => by
  have h1 : numL 4 16 w = [122, 122] := by
    have := congrArg (fun s : ByteArray => s.data.toList) h
    simpa [hexB, zzB] using this
  have h2 := pu_hex hw
  rw [h1] at h2
  have h3 : pu [122, 122] 0 = none := by decide
  rw [h3] at h2; cases h2
theorem decB_inj {v w : Nat} (hv : v ≤ 255) (hw : w ≤ 255) (h : decB v = decB w) : v = w := by
  have h1 : numL 3 10 v = numL 3 10 w := by
    have := congrArg (fun s : ByteArray => s.data.toList) h
    simpa [decB] using this
  have h2 := aF_dec ⟨v, by omega⟩
  dsimp only at h2
  rw [h1, aF_dec ⟨w, by omega⟩] at h2
  exact (Option.some.inj h2).symm
theorem numL_len : ∀ (f b n : Nat), (numL f b n).length ≤ f
  | 0, _, _ => by simp [numL]
  | f + 1, b, n => by
    unfold numL
    split
    · simp
    · rw [List.length_append]; have := numL_len f b (n / b); simp; omega
theorem numL_pos (f b n : Nat) : 0 < (numL (f + 1) b n).length := by
  unfold numL
  split
  · simp
  · rw [List.length_append]; simp
theorem hexB_len (w : Nat) : 1 ≤ (hexB w).size ∧ (hexB w).size ≤ 4 := by
  have h1 := numL_len 4 16 w
  have h2 : 0 < (numL 4 16 w).length := numL_pos 3 16 w
  have : (hexB w).size = (numL 4 16 w).length := by simp [hexB, ByteArray.size]
  omega

/-! ### rows of words that are 0 -/
def zr (z : List Bool) : Nat := (z.takeWhile id).length
def stp (z : List Bool) (k : Nat) (am : Int × Int) : Int × Int := if am.2 < (zr (z.drop k) : Int) then ((k : Int), (zr (z.drop k) : Int)) else am
def bp (z : List Bool) : Nat → Int × Int
  | 0 => (-1, 1)
  | j + 1 => stp z j (bp z j)
def stl (z : List Bool) (k : Nat) (am : Int × Int) : Int × Int := if (if am.2 > 2 then am.2 else 2) ≤ (zr (z.drop k) : Int) then ((k : Int), (zr (z.drop k) : Int)) else am
def bl (z : List Bool) : Nat → Int × Int
  | 0 => (-1, 1)
  | j + 1 => stl z (7 - j) (bl z j)
def emP (fr mo : Int) : Nat → Nat → List (Option Nat)
  | 0, _ => []
  | f + 1, k => if k < 8 then (if (k : Int) = fr then none :: emP fr mo f ((k : Int) + mo).toNat else some k :: emP fr mo f (k + 1)) else []
def partL (fr mo : Int) (k : Nat) : List (Option Nat) := if 0 ≤ fr ∧ (k : Int) = fr then [none] else if 0 ≤ fr ∧ fr < (k : Int) ∧ (k : Int) < fr + mo then [] else [some k]
def emL (fr mo : Int) : Nat → List (Option Nat)
  | 0 => []
  | j + 1 => emL fr mo j ++ partL fr mo (7 - j)
def fwd (z : List Bool) : List (Option Nat) := emP (bp z 8).1 (bp z 8).2 9 0
def lay (z : List Bool) : List (Option Nat) := emL (bl z 8).1 (bl z 8).2 8
def expd (l : List (Option Nat)) : List (Option Nat) := match l.findIdx? (·.isNone) with
  | some k => l.take k ++ (List.replicate (9 - l.length) (some 8) ++ l.drop (k + 1))
  | none => l
def goodZ (z : List Bool) : Bool :=
  decide ((fwd z).reverse = lay z) && decide ((expd (fwd z)).length = 8) && (List.range 8).all (fun i => decide ((expd (fwd z))[i]? = some (some i)) || (decide ((expd (fwd z))[i]? = some (some 8)) && decide (z[i]? = some true))) &&
    (decide ((fwd z).length ≠ 4) || (fwd z).any (·.isNone)) && (decide ((fwd z).length ≤ 7) || !(fwd z).any (·.isNone)) && decide ((fwd z).length ≤ 8) && decide (1 ≤ (fwd z).length) && (fwd z).all (fun o => match o with | some k => decide (k < 8) | none => true) &&
    decide ((bp z 8).1 ≥ -1) && decide ((bp z 8).2 ≥ 1) && decide ((bp z 8).2 ≤ 8) && decide ((bl z 8).1 ≥ -1) && decide ((bl z 8).2 ≥ 1) && decide ((bl z 8).2 ≤ 8) && decide (2 ≤ (fwd z).length ∨ (bp z 8).2 = 8)
theorem good_all : ∀ a b c d e f g h : Bool, goodZ [a, b, c, d, e, f, g, h] = true := by decide +kernel
theorem len8 {α : Type} : ∀ {z : List α}, z.length = 8 → ∃ a b c d e f g h, z = [a, b, c, d, e, f, g, h]
  | [a, b, c, d, e, f, g, h], _ => ⟨a, b, c, d, e, f, g, h, rfl⟩
theorem good_of {z : List Bool} (h : z.length = 8) : goodZ z = true := by
  obtain ⟨a, b, c, d, e, f, g, i, rfl⟩ := len8 h
  exact good_all a b c d e f g i
theorem zr_le (z : List Bool) : zr z ≤ z.length := (List.takeWhile_prefix _).length_le

/-! ### labels of words -/
def ren (ws : List Nat) : Option Nat → ByteArray
  | none => zzB
  | some k => hexB (ws.getD k 0)
def zs (ws : List Nat) : List Bool := ws.map (· == 0)
def sixL (ws : List Nat) : List ByteArray := (lay (zs ws)).map (ren ws)
structure Ws (ws : List Nat) : Prop where
  len : ws.length = 8
  lt : ∀ w ∈ ws, w < 65536
theorem Ws.zlen {ws : List Nat} (h : Ws ws) : (zs ws).length = 8 := by rw [zs, List.length_map, h.len]
theorem Ws.at_ {ws : List Nat} (h : Ws ws) (k : Nat) : ws.getD k 0 < 65536 := by
  rw [List.getD_eq_getElem?_getD]
  cases hk : ws[k]? with
  | none => simp
  | some w => exact h.lt w (List.mem_of_getElem? hk)
theorem six_rev {ws : List Nat} (h : Ws ws) : (sixL ws).reverse = (fwd (zs ws)).map (ren ws) := by
  have hg := good_of h.zlen
  simp only [goodZ, Bool.and_eq_true, decide_eq_true_eq] at hg
  rw [sixL, ← List.map_reverse, ← hg.1.1.1.1.1.1.1.1.1.1.1.1.1.1, List.reverse_reverse]
theorem ren_zz {ws : List Nat} (h : Ws ws) (o : Option Nat) : ren ws o = zzB ↔ o = none := by
  cases o with
  | none => simp [ren]
  | some k => exact ⟨fun e => absurd e (hexB_zz (h.at_ k)), fun e => by cases e⟩
/-- the labels, last word last, with zeros for zz -/
theorem six_exp {ws : List Nat} (h : Ws ws) : (expd (fwd (zs ws))).map (ren ws) = ws.map hexB := by
  have hg := good_of h.zlen
  simp only [goodZ, Bool.and_eq_true, decide_eq_true_eq] at hg
  have hl := hg.1.1.1.1.1.1.1.1.1.1.1.1.1.2
  have ha := hg.1.1.1.1.1.1.1.1.1.1.1.1.2
  apply List.ext_getElem?
  intro i
  rw [List.getElem?_map, List.getElem?_map]
  by_cases hi : i < 8
  · have := List.all_eq_true.1 ha i (List.mem_range.2 hi)
    simp only [Bool.or_eq_true, Bool.and_eq_true, decide_eq_true_eq] at this
    have hw : ws[i]? = some (ws.getD i 0) := by
      rw [List.getD_eq_getElem?_getD, List.getElem?_eq_getElem (by rw [h.len]; exact hi)]; rfl
    rcases this with e | ⟨e, hz⟩
    · rw [e, hw]; rfl
    · have hz0 : ws.getD i 0 = 0 := by
        rw [zs, List.getElem?_map, hw] at hz
        simpa using hz
      have h8 : ws.getD 8 0 = 0 := by
        rw [List.getD_eq_getElem?_getD, List.getElem?_eq_none (by rw [h.len]; exact Nat.le_refl _)]; rfl
      rw [e, hw, hz0]
      show some (hexB (ws.getD 8 0)) = some (hexB 0)
      rw [h8]
  · rw [List.getElem?_eq_none (by rw [hl]; omega), List.getElem?_eq_none (by rw [h.len]; omega)]; rfl
end Go.Proofs.YtkagfmlaolmdnaaDoor
