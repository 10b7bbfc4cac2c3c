/- Names: their labels, whether they may be, what is ahead of them, what is below what; data that may be; records that may be. -/
import Derived.Test.YtdajglfbbcbgpaaDoorZn3
namespace Go.Proofs.YtdajglfbbcbgpaaDoor
open Go.Px
set_option linter.unusedVariables false

theorem at0 {s : ByteArray} (h : 0 < s.size) : ∃ c : UInt8, s[0]? = some c := ⟨_, getElem?_pos s 0 h⟩
theorem at_ok {s : ByteArray} {k : Nat} (h : k < s.size) : ∃ c : UInt8, s[k]? = some c := ⟨_, getElem?_pos s k h⟩
theorem at_none {s : ByteArray} {k : Nat} (h : s.size ≤ k) : s[k]? = none := getElem?_neg s k (by omega)
theorem u8_lt (c : UInt8) : c.toNat < 256 := c.toNat_lt
theorem wrap_c (c : UInt8) : IntKind.wrap .i64 (c.toNat : Int) = (c.toNat : Int) := by have := u8_lt c; exact wrap_i64 (by omega) (by omega)
theorem wrap_1c (c : UInt8) : IntKind.wrap .i64 ((1 : Int) + (c.toNat : Int)) = ((1 + c.toNat : Nat) : Int) := by have := u8_lt c; rw [wrap_i64 (by omega) (by omega)]; omega

/-- the labels of bytes, one behind the other; with so many steps -/
def splitN : Nat → ByteArray → Option (List ByteArray)
  | 0, s => if s.size = 0 then some [] else none
  | n + 1, s => match s[0]? with
    | none => some []
    | some c => if c.toNat < 1 ∨ c.toNat > 63 ∨ s.size ≤ c.toNat then none else (splitN n (s.extract (1 + c.toNat) s.size)).map (s.extract 1 (1 + c.toNat) :: ·)
theorem splitN_fuel : ∀ (n m : Nat) (s : ByteArray), s.size ≤ n → s.size ≤ m → splitN n s = splitN m s
  | 0, 0, s, _, _ => rfl
  | 0, m + 1, s, h, _ => by
    have h0 : s.size = 0 := by omega
    rw [splitN, if_pos h0, splitN, at_none (by omega)]
  | n + 1, 0, s, _, h => by
    have h0 : s.size = 0 := by omega
    show splitN (n + 1) s = splitN 0 s
    rw [show splitN 0 s = some [] from by rw [splitN, if_pos h0], splitN, at_none (by omega)]
  | n + 1, m + 1, s, h, g => by
    rw [splitN, splitN]
    cases hc : s[0]? with
    | none => rfl
    | some c =>
      dsimp only
      split
      · rfl
      · rw [splitN_fuel n m _ (by rw [ex_size]; omega) (by rw [ex_size]; omega)]
def labN (s : ByteArray) : Option (List ByteArray) := if s.size > 254 ∨ s.toList ≠ (foldB s).toList then none else splitN s.size s
theorem Labels_runs (n : ByteArray) (I : IMem) (S : SH) : Runs Tryd.prog 76 #[.string n] I S fun v _ T =>
    ∃ own, ((labN n = none ∧ v = .tuple #[.slice none 0 0, .bool false] ∧ own = []) ∨ ∃ ls p m c, labN n = some ls ∧ v = .tuple #[.slice p m c, .bool true] ∧ OwnR 9 1 elS (.slice p m c) ls own) ∧ Sub (own ++ S) T := by
  refine name_Labels_fn _ _ _ _ ?_
  unfold name_Labels name_Labels_b1 name_Labels_b2
  refine bcase_dec (fun h => bcase_t rfl ⟨[], .inl ⟨by rw [labN, if_pos (.inl (by omega))], rfl, rfl⟩, Sub.refl _⟩) (fun h => ?_)
  refine (folded_runs n (by omega) I S).mono ?_
  rintro v J T hle ⟨rfl, rfl⟩
  refine ⟨_, rfl, bcase_not (bcase_of (fun g => ?_) (fun g => ⟨[], .inl ⟨by rw [labN, if_pos (.inr (fun e => by rw [e] at g; simp at g))], rfl, rfl⟩, Sub.refl _⟩))⟩
  have hlab : labN n = splitN n.size n := by rw [labN, if_neg]; rintro (h' | h'); · omega
                                             · exact h' (eq_of_beq g)
  unfold name_Labels_b3
  refine ⟨fun m o on oc s J' T' => J.le J' ∧ ∃ (ls : List ByteArray) (own : SH), m = s.size ∧ s.size + ls.length ≤ n.size ∧ OwnR 9 1 elS (.slice o on oc) ls own ∧ Sub (own ++ T) T' ∧ labN n = (splitN s.size s).map (ls ++ ·), n.size,
    ⟨IMem.le.refl J, [], [], rfl, by simp, OwnR.nil, Sub.refl _, by rw [hlab]; simp⟩, ?_⟩
  rintro m o on oc s J' T' - ⟨hle', ls, own, rfl, hsl, ho, hs, hl⟩
  unfold name_Labels_l4 name_Labels_b5 name_Labels_b6 name_Labels_b7 name_Labels_b8 name_Labels_b9
  have bad : splitN s.size s = none → ∃ own, ((labN n = none ∧ Value.tuple #[.slice none 0 0, .bool false] = .tuple #[.slice none 0 0, .bool false] ∧ own = []) ∨ ∃ ls p m c, labN n = some ls ∧ Value.tuple #[.slice none 0 0, .bool false] = .tuple #[.slice p m c, .bool true] ∧ OwnR 9 1 elS (.slice p m c) ls own) ∧ Sub (own ++ T) T' := fun e =>
    ⟨[], .inl ⟨by rw [hl, e]; rfl, rfl, rfl⟩, hs.right⟩
  refine bcase_dec (fun hpos => ?_) (fun hpos => ?_)
  · obtain ⟨c, hc⟩ := at0 (s := s) (by omega)
    obtain ⟨sz, hsz⟩ : ∃ k, s.size = k + 1 := ⟨s.size - 1, by omega⟩
    have hsp : splitN s.size s = if c.toNat < 1 ∨ c.toNat > 63 ∨ s.size ≤ c.toNat then none else (splitN sz (s.extract (1 + c.toNat) s.size)).map (s.extract 1 (1 + c.toNat) :: ·) := by
      conv => lhs; rw [hsz]
      rw [splitN, hc]
    refine ⟨c, by omega, hc, ?_⟩
    rw [wrap_c, wrap_1c]
    refine bcase_dec (fun h1 => bcase_t rfl (bad (by rw [hsp, if_pos (.inl (by omega))]))) (fun h1 => bcase_dec (fun h2 => bcase_t rfl (bad (by rw [hsp, if_pos (.inr (.inl (by omega)))]))) (fun h2 => bcase_dec (fun h3 => bad (by rw [hsp, if_pos (.inr (.inr (by omega)))])) (fun h3 => ?_)))
    rw [if_neg (by omega)] at hsp
    have e1 : ((1 : Int)).toNat = 1 := rfl
    rw [e1, Int.toNat_natCast]
    refine ⟨by omega, by omega, by omega, by omega, fun b40 => ?_⟩
    obtain ⟨G, hG⟩ := hs
    refine AppG.own (xs := ls) (ys := [s.extract 1 (1 + c.toNat)]) (el := elS) (own := own) (F := (b40, .cells #[.string (s.extract 1 (1 + c.toNat))] 9 (0, 0)) :: (T ++ G)) (fun _ => rfl) (fun _ => rfl) rfl ((hG.cons _).trans (by rw [List.append_assoc]; exact perm_mid1)) ho ⟨?_, rfl⟩ ?_ ?_ ?_
    · exact Rd.list (L := elS (s.extract 1 (1 + c.toNat))) rfl (by simp [elS])
    · simp only [List.length_singleton, maxLen]; omega
    · simp only [List.length_singleton]; omega
    · intro p m d own2 ho2
      have hes : (s.extract (1 + c.toNat) s.size).size = s.size - (1 + c.toNat) := by rw [ex_size]; omega
      refine ⟨by omega, by omega, s.size - (1 + c.toNat), by omega, hle', ls ++ [s.extract 1 (1 + c.toNat)], own2, hes.symm, ?_, ho2, ?_, ?_⟩
      · rw [hes, List.length_append, List.length_singleton]; omega
      · exact ⟨(b40, _) :: G, by rw [List.append_assoc]; exact List.Perm.append_left own2 perm_mid1⟩
      · rw [hl, hsp, splitN_fuel sz (s.extract (1 + c.toNat) s.size).size _ (by omega) (Nat.le_refl _)]
        cases splitN (s.extract (1 + c.toNat) s.size).size (s.extract (1 + c.toNat) s.size) <;> simp
  · have h0 : s.size = 0 := by omega
    refine ⟨own, .inr ⟨ls, o, on, oc, ?_, rfl, ho⟩, hs⟩
    rw [hl, h0, splitN, if_pos h0]; simp
theorem May_runs (n : ByteArray) (I : IMem) (S : SH) : Runs Tryd.prog 58 #[.string n] I S fun v _ T => v = .bool (labN n).isSome ∧ T = S := by
  refine Runs.drop (name_May_fn _ _ _ _ ?_)
  unfold name_May
  refine (Labels_runs n I S).mono ?_
  rintro v J T hle ⟨own, (⟨h, rfl, rfl⟩ | ⟨ls, p, m, c, h, rfl, ho⟩), hs⟩
  · exact ⟨_, _, _, _, rfl, S, hs.right, by rw [h]; rfl, rfl⟩
  · exact ⟨_, _, _, _, rfl, S, hs.right, by rw [h]; rfl, rfl⟩
/-- a name without its first label -/
def parN (n : ByteArray) : ByteArray × Bool := match n[0]? with
  | none => (⟨#[]⟩, false)
  | some c => if (labN n).isSome then (n.extract (1 + c.toNat) n.size, true) else (⟨#[]⟩, false)
theorem labN_first {n : ByteArray} {c : UInt8} (h : (labN n).isSome = true) (hc : n[0]? = some c) : 1 ≤ c.toNat ∧ c.toNat < n.size ∧ n.size ≤ 254 := by
  unfold labN at h
  split at h
  · cases h
  · rename_i h1
    have hpos : 0 < n.size := by
      rcases Nat.eq_zero_or_pos n.size with e | e
      · rw [at_none (by omega)] at hc; cases hc
      · exact e
    obtain ⟨k, hk⟩ : ∃ k, n.size = k + 1 := ⟨n.size - 1, by omega⟩
    rw [hk, splitN, hc] at h
    dsimp only at h
    split at h
    · cases h
    · exact ⟨by omega, by omega, by omega⟩
theorem Parent_runs (n : ByteArray) (I : IMem) (S : SH) : Runs Tryd.prog 93 #[.string n] I S fun v _ T => v = .tuple #[.string (parN n).1, .bool (parN n).2] ∧ T = S := by
  refine name_Parent_fn _ _ _ _ ?_
  unfold name_Parent name_Parent_b1 name_Parent_b2 name_Parent_b3
  refine bcase_beq (fun h => bcase_t rfl ⟨by rw [parN, at_none (by omega)], rfl⟩) (fun h => (May_runs n I S).mono ?_)
  rintro v J T hle ⟨rfl, rfl⟩
  obtain ⟨c, hc⟩ := at0 (s := n) (by omega)
  refine ⟨_, rfl, bcase_not (bcase_of (fun g => ?_) (fun g => ⟨?_, rfl⟩))⟩
  · obtain ⟨h1, h2, h3⟩ := labN_first g hc
    refine ⟨c, by omega, hc, ?_⟩
    rw [wrap_c, wrap_1c]
    refine ⟨by omega, by omega, ?_, rfl⟩
    rw [Int.toNat_natCast, parN, hc]
    dsimp only
    rw [if_pos g]
  · rw [parN, hc]
    dsimp only
    rw [g]; rfl
theorem parN_size {n : ByteArray} (h : (parN n).2 = true) : (parN n).1.size < n.size := by
  unfold parN at h ⊢
  cases hc : n[0]? with
  | none => rw [hc] at h; cases h
  | some c =>
    rw [hc] at h
    dsimp only at h ⊢
    split at h
    · rename_i hg
      obtain ⟨h1, h2, h3⟩ := labN_first hg hc
      rw [if_pos hg]
      dsimp only
      rw [ex_size]; omega
    · cases h
def goB : Nat → ByteArray → ByteArray → Bool → Bool
  | 0, _, _, _ => false
  | f + 1, n, on, ok => if ok then (if n.toList == on.toList then true else goB f (parN n).1 on (parN n).2) else false
def belowB (n on : ByteArray) : Bool := goB (n.size + 2) n on ((labN n).isSome && (labN on).isSome)
theorem Below_runs (n on : ByteArray) (I : IMem) (S : SH) : Runs Tryd.prog 78 #[.string n, .string on] I S fun v _ T => v = .bool (belowB n on) ∧ T = S := by
  refine name_Below_fn _ _ _ _ _ ?_
  unfold name_Below name_Below_b1
  have main : ∀ (ok : Bool) (J : IMem), ok = ((labN n).isSome && (labN on).isSome) → name_Below_b2 (fun v _ T => v = .bool (belowB n on) ∧ T = S) n on ok J S := by
    intro ok J hok
    unfold name_Below_b2
    refine ⟨fun m n' on' ok' J' T' => on' = on ∧ T' = S ∧ 1 ≤ m ∧ (ok' = true → n'.size + 2 ≤ m) ∧ belowB n on = goB m n' on ok', n.size + 2, ⟨rfl, rfl, by omega, fun _ => Nat.le_refl _, by rw [belowB, hok]⟩, ?_⟩
    rintro m n' on' ok' J' T' - ⟨rfl, rfl, hm1, hm2, hg⟩
    unfold name_Below_l3 name_Below_b4
    obtain ⟨f, rfl⟩ : ∃ f, m = f + 1 := ⟨m - 1, by omega⟩
    rw [goB] at hg
    refine bcase_of (fun h => bcase_of (fun h1 => ⟨?_, rfl⟩) (fun h1 => ?_)) (fun h => ⟨?_, rfl⟩)
    · rw [hg, if_pos h, if_pos h1]
    · rw [if_pos h, if_neg (by rw [h1]; simp)] at hg
      have := hm2 h
      refine (Parent_runs n' J' T').mono ?_
      rintro v J3 T3 hle ⟨rfl, rfl⟩
      exact ⟨_, _, rfl, f, by omega, rfl, rfl, by omega, fun h2 => by have := parN_size h2; omega, hg⟩
    · rw [hg, h]; rfl
  refine (May_runs n I S).mono ?_
  rintro v J T hle ⟨rfl, rfl⟩
  refine ⟨_, rfl, bcase_of (fun h => ?_) (fun h => main false J (by rw [h]; rfl))⟩
  refine (May_runs on J T).mono ?_
  rintro v J' T' hle' ⟨rfl, rfl⟩
  exact ⟨_, rfl, main _ J' (by rw [h]; rfl)⟩

/-! ### names in data -/
def goC : Nat → ByteArray → Nat → ByteArray × ByteArray × Bool
  | 0, _, _ => (⟨#[]⟩, ⟨#[]⟩, false)
  | f + 1, s, p => match s[p]? with
    | none => (⟨#[]⟩, ⟨#[]⟩, false)
    | some c => if c.toNat = 0 then (if (labN (s.extract 0 p)).isSome then (s.extract 0 p, s.extract (p + 1) s.size, true) else (⟨#[]⟩, ⟨#[]⟩, false)) else goC f s (p + (1 + c.toNat))
def cutN (s : ByteArray) : ByteArray × ByteArray × Bool := goC (s.size + 1) s 0
theorem Cut_runs (s : ByteArray) (hs : s.size ≤ 4611686018427387904) (I : IMem) (S : SH) : Runs Tryd.prog 103 #[.string s] I S fun v _ T => v = .tuple #[.string (cutN s).1, .string (cutN s).2.1, .bool (cutN s).2.2] ∧ T = S := by
  refine point_Cut_fn _ _ _ _ ?_
  unfold point_Cut point_Cut_b1 point_Cut_b2
  refine ⟨fun m s' i J T => s' = s ∧ T = S ∧ ∃ p : Nat, i = (p : Int) ∧ 1 ≤ m ∧ (p < s.size → s.size + 1 ≤ m + p) ∧ p ≤ s.size + 300 ∧ cutN s = goC m s p, s.size + 1, ⟨rfl, rfl, 0, rfl, by omega, fun _ => by omega, by omega, rfl⟩, ?_⟩
  rintro m s' i J T - ⟨rfl, rfl, p, rfl, hm, hmp, hp, hg⟩
  unfold point_Cut_l3 point_Cut_b4 point_Cut_b5 point_Cut_b6 point_Cut_b7 point_Cut_b8 point_Cut_b9
  obtain ⟨f, rfl⟩ : ∃ f, m = f + 1 := ⟨m - 1, by omega⟩
  rw [goC] at hg
  refine bcase_dec (fun h => ?_) (fun h => ⟨?_, rfl⟩)
  · have hlt : p < s'.size := by omega
    obtain ⟨c, hc⟩ := at_ok hlt
    have hmp := hmp hlt
    rw [hc] at hg
    dsimp only at hg
    refine ⟨c, by omega, by rw [Int.toNat_natCast]; exact hc, bcase_beq (fun h0 => ?_) (fun h0 => ?_)⟩
    · rw [if_pos (by omega)] at hg
      rw [Int.toNat_natCast]
      refine ⟨by omega, by omega, (May_runs _ J T).mono ?_⟩
      rintro v J' T' hle ⟨rfl, rfl⟩
      refine ⟨_, rfl, bcase_not (bcase_of (fun g => ?_) (fun g => ⟨?_, rfl⟩))⟩
      · rw [if_pos g] at hg
        have : IntKind.wrap .i64 ((p : Int) + 1) = ((p + 1 : Nat) : Int) := by rw [wrap_i64 (by omega) (by omega)]; rfl
        rw [this, Int.toNat_natCast]
        exact ⟨by omega, by omega, by rw [hg], rfl⟩
      · rw [hg, g]; rfl
    · rw [if_neg (by omega)] at hg
      have hcl := u8_lt c
      refine ⟨c, by omega, by rw [Int.toNat_natCast]; exact hc, ?_⟩
      rw [wrap_c, wrap_1c]
      refine ⟨f, by omega, rfl, rfl, p + (1 + c.toNat), ?_, by omega, fun _ => by omega, by omega, hg⟩
      rw [wrap_i64 (by omega) (by omega)]; omega
  · rw [at_none (by omega)] at hg
    rw [hg]
def soaN (d : ByteArray) : Bool := (cutN d).2.2 && ((cutN (cutN d).2.1).2.2 && (cutN (cutN d).2.1).2.1.size == 20)
theorem goC_size : ∀ (f : Nat) (s : ByteArray) (p : Nat), (goC f s p).2.1.size ≤ s.size
  | 0, s, p => Nat.zero_le _
  | f + 1, s, p => by
    rw [goC]
    split
    · exact Nat.zero_le _
    · split
      · split
        · dsimp only; rw [ex_size]; omega
        · exact Nat.zero_le _
      · exact goC_size f s _
theorem soa_runs (d : ByteArray) (hs : d.size ≤ 4611686018427387904) (I : IMem) (S : SH) : Runs Tryd.prog 100 #[.string d] I S fun v _ T => (∃ a b l, v = .tuple #[.string a, .string b, .string l, .bool (soaN d)]) ∧ T = S := by
  refine rdata_soa_fn _ _ _ _ ?_
  unfold rdata_soa rdata_soa_b1 rdata_soa_b2 rdata_soa_b3
  refine (Cut_runs d hs I S).mono ?_
  rintro v J T hle ⟨rfl, rfl⟩
  refine ⟨_, _, _, rfl, (Cut_runs (cutN d).2.1 (Nat.le_trans (goC_size _ _ _) hs) J T).mono ?_⟩
  rintro v J' T' hle' ⟨rfl, rfl⟩
  have fin : ∀ (x y z : ByteArray) (b : Bool), soaN d = b → (∃ a b' l, Value.tuple #[.string x, .string y, .string z, .bool b] = .tuple #[.string a, .string b', .string l, .bool (soaN d)]) := fun x y z b h => ⟨x, y, z, by rw [h]⟩
  refine ⟨_, _, _, rfl, bcase_not (bcase_of (fun h1 => bcase_not (bcase_of (fun h2 => bcase_bne (fun h3 => ⟨fin _ _ _ _ ?_, rfl⟩) (fun h3 => ⟨fin _ _ _ _ ?_, rfl⟩)) (fun h2 => bcase_t rfl ⟨fin _ _ _ _ ?_, rfl⟩))) (fun h1 => bcase_t rfl ⟨fin _ _ _ _ ?_, rfl⟩))⟩
  · have : ((cutN (cutN d).2.1).2.1.size == 20) = false := by rw [beq_eq_false_iff_ne]; omega
    rw [soaN, h1, h2, this]; rfl
  · have : ((cutN (cutN d).2.1).2.1.size == 20) = true := by rw [beq_iff_eq]; omega
    rw [soaN, h1, h2, this]; rfl
  · rw [soaN, h1, h2]; rfl
  · rw [soaN, h1]; rfl
def goT : Nat → ByteArray → Nat → Bool
  | 0, _, _ => false
  | f + 1, d, p => match d[p]? with
    | none => decide (p = d.size ∧ 0 < p)
    | some c => goT f d (p + (1 + c.toNat))
def textsN (d : ByteArray) : Bool := goT (d.size + 1) d 0
theorem texts_runs (d : ByteArray) (hs : d.size ≤ 4611686018427387904) (I : IMem) (S : SH) : Runs Tryd.prog 101 #[.string d] I S fun v _ T => v = .bool (textsN d) ∧ T = S := by
  refine rdata_texts_fn _ _ _ _ ?_
  unfold rdata_texts rdata_texts_b1
  refine ⟨fun m s' i J T => s' = d ∧ T = S ∧ ∃ p : Nat, i = (p : Int) ∧ 1 ≤ m ∧ (p < d.size → d.size + 1 ≤ m + p) ∧ p ≤ d.size + 300 ∧ textsN d = goT m d p, d.size + 1, ⟨rfl, rfl, 0, rfl, by omega, fun _ => by omega, by omega, rfl⟩, ?_⟩
  rintro m s' i J T - ⟨rfl, rfl, p, rfl, hm, hmp, hp, hg⟩
  unfold rdata_texts_l2 rdata_texts_b3 rdata_texts_b4 rdata_texts_b5
  obtain ⟨f, rfl⟩ : ∃ f, m = f + 1 := ⟨m - 1, by omega⟩
  rw [goT] at hg
  refine bcase_dec (fun h => ?_) (fun h => ?_)
  · rw [at_none (by omega)] at hg
    refine bcase_beq (fun h1 => ⟨?_, rfl⟩) (fun h1 => ⟨?_, rfl⟩)
    · rw [hg]; congr 1
      exact decide_eq_decide.2 ⟨fun _ => ⟨by omega, by omega⟩, fun _ => by omega⟩
    · rw [hg]
      exact congrArg Value.bool (decide_eq_false (by omega)).symm
  · have hlt : p < s'.size := by omega
    obtain ⟨c, hc⟩ := at_ok hlt
    have hmp := hmp hlt
    rw [hc] at hg
    dsimp only at hg
    have hcl := u8_lt c
    refine ⟨c, by omega, by rw [Int.toNat_natCast]; exact hc, ?_⟩
    rw [wrap_c, wrap_1c]
    refine ⟨f, by omega, rfl, rfl, p + (1 + c.toNat), ?_, by omega, fun _ => by omega, by omega, hg⟩
    rw [wrap_i64 (by omega) (by omega)]; omega
/-- data that may be of a type -/
def mayD (t : Int) (d : ByteArray) : Bool :=
  if t = 1 then decide (d.size = 4) else if t = 28 then decide (d.size = 16) else if t = 2 ∨ t = 5 then (labN d).isSome else if t = 6 then soaN d else if t = 16 then textsN d && decide (d.size ≤ 512) else decide (d.size ≤ 512)
theorem MayD_runs (t : Int) (d : ByteArray) (hs : d.size ≤ 4611686018427387904) (I : IMem) (S : SH) : Runs Tryd.prog 92 #[.int .u16 t, .string d] I S fun v _ T => v = .bool (mayD t d) ∧ T = S := by
  refine rdata_May_fn _ _ _ _ _ ?_
  unfold rdata_May rdata_May_b1 rdata_May_b2 rdata_May_b3 rdata_May_b4
  have dd : ∀ {p q : Prop} [Decidable p] [Decidable q], (p ↔ q) → (decide p = decide q) := fun h => decide_eq_decide.2 h
  have bd : ∀ (a : Int) (k : Nat), (((a : Int) == (k : Int)) = decide (a = (k : Int))) := fun a k => by
    by_cases h : a = (k : Int)
    · rw [h]; simp
    · rw [decide_eq_false h]; exact beq_eq_false_iff_ne.2 h
  refine bcase_beq (fun h1 => ⟨?_, rfl⟩) (fun h1 => bcase_beq (fun h2 => ⟨?_, rfl⟩) (fun h2 => ?_))
  · rw [mayD, if_pos h1]; congr 1; exact (bd _ 4).trans (dd ⟨fun h => by omega, fun h => by omega⟩)
  · rw [mayD, if_neg h1, if_pos h2]; congr 1; exact (bd _ 16).trans (dd ⟨fun h => by omega, fun h => by omega⟩)
  · have main : ∀ b : Bool, (b = true ↔ (t = 2 ∨ t = 5)) → rdata_May_b5 (fun v _ T => v = .bool (mayD t d) ∧ T = S) d t b I S := by
      intro b hb
      unfold rdata_May_b5 rdata_May_b6 rdata_May_b7 rdata_May_b8 rdata_May_b9
      refine bcase_of (fun h => (May_runs d I S).mono ?_) (fun h => ?_)
      · rintro v J T hle ⟨rfl, rfl⟩
        refine ⟨_, rfl, ?_, rfl⟩
        rw [mayD, if_neg h1, if_neg h2, if_pos (hb.1 h)]
      · have hn : ¬ (t = 2 ∨ t = 5) := fun h' => by rw [hb.2 h'] at h; cases h
        refine bcase_beq (fun h6 => (soa_runs d hs I S).mono ?_) (fun h6 => bcase_beq (fun h16 => (texts_runs d hs I S).mono ?_) (fun h16 => ⟨?_, rfl⟩))
        · rintro v J T hle ⟨⟨a, b', l, rfl⟩, rfl⟩
          refine ⟨_, _, _, _, rfl, ?_, rfl⟩
          rw [mayD, if_neg h1, if_neg h2, if_neg hn, if_pos h6]
        · rintro v J T hle ⟨rfl, rfl⟩
          refine ⟨_, rfl, bcase_of (fun g => ⟨?_, rfl⟩) (fun g => ⟨?_, rfl⟩)⟩
          · rw [mayD, if_neg h1, if_neg h2, if_neg hn, if_neg h6, if_pos h16, g, Bool.true_and]
            exact congrArg Value.bool (dd ⟨fun h => by omega, fun h => by omega⟩)
          · rw [mayD, if_neg h1, if_neg h2, if_neg hn, if_neg h6, if_pos h16, g]; rfl
        · rw [mayD, if_neg h1, if_neg h2, if_neg hn, if_neg h6, if_neg h16]
          exact congrArg Value.bool (dd ⟨fun h => by omega, fun h => by omega⟩)
    refine bcase_beq (fun h => main _ ⟨fun _ => .inl h, fun _ => by rw [h]; rfl⟩) (fun h => main _ ⟨fun g => .inr (eq_of_beq g), fun g => ?_⟩)
    rcases g with g | g
    · exact absurd g h
    · rw [g]; rfl
def mayR (r : Rc) : Bool := (labN r.1).isSome && (decide (r.2.1 ≠ 41) && mayD r.2.1 r.2.2.2)
theorem MayRecord_runs (r : Rc) (hs : r.2.2.2.size ≤ 4611686018427387904) (I : IMem) (S : SH) : Runs Tryd.prog 77 #[vR r] I S fun v _ T => v = .bool (mayR r) ∧ T = S := by
  refine Runs.drop (message_MayRecord_fn _ _ _ _ _ _ _ ?_)
  unfold message_MayRecord message_MayRecord_b1
  intro b1
  refine ⟨_, Cell.at0 rfl, (May_runs _ _ _).mono ?_⟩
  rintro v J T hle ⟨rfl, rfl⟩
  refine ⟨_, rfl, bcase_of (fun h => ⟨_, Cell.at0 rfl, bcase_bne (fun h41 => ⟨_, Cell.at0 rfl, _, Cell.at0 rfl, (MayD_runs _ _ hs _ _).mono ?_⟩) (fun h41 => ⟨S, (Sub.refl S).skip _, ?_, rfl⟩)⟩) (fun h => ⟨S, (Sub.refl S).skip _, ?_, rfl⟩)⟩
  · rintro v J' T' hle' ⟨rfl, rfl⟩
    refine ⟨_, rfl, S, (Sub.refl S).skip _, ?_, rfl⟩
    rw [mayR, h, decide_eq_true h41]; rfl
  · rw [mayR, h, decide_eq_false (fun e => e h41)]; rfl
  · rw [mayR, h]; rfl
end Go.Proofs.YtdajglfbbcbgpaaDoor
