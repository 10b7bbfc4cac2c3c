/- Numbers of two and four bytes, laid and read; bytes with their length ahead. -/
import Derived.Test.YtkagfmlaolmdnaaDoorOw20
import Derived.Test.YtkagfmlaolmdnaaDoorT4
import Derived.Test.YtkagfmlaolmdnaaDoorT5
namespace Go.Proofs.YtkagfmlaolmdnaaDoor
open Go.Px
set_option linter.unusedVariables false
set_option linter.unusedSimpArgs false
set_option maxRecDepth 8000

theorem AppStr {xs : List UInt8} {s : ByteArray} {v : Value} {S F own : SH} {I : IMem} {K : Option Addr → Nat → Nat → SH → Prop} (hs : Sub (own ++ F) S) (hv : OwnB v xs own) (hl : xs.length + s.size ≤ 1000000000)
    (hK : ∀ p n c own' T, OwnB (.slice p n c) (xs ++ s.data.toList) own' → Sub (own' ++ F) T → K p n c T) :
    AppG 5 1 1 [.int .u8 0] (some .string) I S v (.string s) K := by
  obtain ⟨G, hG⟩ := hs
  refine AppG.own (xs := xs) (ys := s.data.toList) (el := elB) (own := own) (F := F ++ G) (fun _ => rfl) (fun _ => rfl) rfl (by rw [← List.append_assoc]; exact hG) hv ⟨s, rfl, dlen s, flat_elB _, rfl⟩ ?_ ?_ ?_
  · rw [dlen]; simp only [maxLen]; omega
  · rw [dlen]; omega
  · intro p n c own' ho
    exact hK p n c own' _ ho ⟨G, by rw [List.append_assoc]⟩
theorem AppBb {xs ys : List UInt8} {a : Option Addr} {c : Nat} {v : Value} {S F own ownY : SH} {I : IMem} {K : Option Addr → Nat → Nat → SH → Prop} (hs : Sub (own ++ F) S) (hv : OwnB v xs own) (hy : OwnB (.slice a ys.length c) ys ownY) (hy2 : Sub ownY S) (hl : xs.length + ys.length ≤ 1000000000)
    (hK : ∀ p n c own' T, OwnB (.slice p n c) (xs ++ ys) own' → Sub (own' ++ F) T → K p n c T) :
    AppG 5 1 1 [.int .u8 0] (some (.slice 5)) I S v (.slice a ys.length c) K := by
  obtain ⟨G, hG⟩ := hs
  refine AppG.own (xs := xs) (ys := ys) (el := elB) (own := own) (F := F ++ G) (fun _ => rfl) (fun _ => rfl) rfl (by rw [← List.append_assoc]; exact hG) hv ⟨RowIn.rd (el := elB) (sz := 1) (fun _ => rfl) Nat.one_pos ((OwnR.row (el := elB) (sz := 1) (fun _ => rfl) hy).sub hy2), flatMap_one (el := elB) (fun _ => rfl) _⟩ ?_ ?_ ?_
  · simp only [maxLen]; omega
  · omega
  · intro p n c own' ho
    exact hK p n c own' _ ho ⟨G, by rw [List.append_assoc]⟩
def be16 (x : Int) : List UInt8 := [u8o (x.fdiv (2 ^ 8)), u8o x]
def be32 (x : Int) : List UInt8 := [u8o (x.fdiv (2 ^ 24)), u8o (x.fdiv (2 ^ 16)), u8o (x.fdiv (2 ^ 8)), u8o x]
theorem Sub.nil (T : SH) : Sub [] T := ⟨T, List.Perm.refl _⟩
theorem Put16_runs {bs : List UInt8} {p : Option Addr} {c b : Nat} {x : Int} {ownb S : SH} {I : IMem} (ho : OwnB (.slice p bs.length c) bs ownb) (hy : Sub ownb S) (hc : Cell I S ⟨b, 0, none⟩ (.int .u16 x)) (hl : bs.length ≤ 100000) :
    Runs Tryd.prog 53 #[.slice p bs.length c, .slice (some ⟨b, 0, none⟩) 1 1] I S fun v _ T => ∃ own', OwnB v (bs ++ be16 x) own' ∧ Sub (own' ++ S) T := by
  refine num_Put16_fn _ _ _ _ _ _ _ _ _ ?_
  unfold num_Put16
  refine AppBb (xs := []) (own := []) (F := S) (Sub.refl S) OwnR.nil ho hy (by rw [List.length_nil]; omega) ?_
  intro p1 n1 c1 own1 T1 ho1 hs1
  rw [List.nil_append] at ho1
  unfold num_Put16_b1 num_Put16_b2
  refine ⟨fun m o on oc x1 x1n x1c q i J T => x1 = some ⟨b, 0, none⟩ ∧ x1n = 1 ∧ q = 1 ∧ I.le J ∧ ∃ (k : Nat) (own : SH), i = (k : Int) ∧ k ≤ 1 ∧ m = 1 - k ∧ OwnB (.slice o on oc) (if k = 0 then bs else bs ++ be16 x) own ∧ Sub (own ++ S) T, 1,
    ⟨rfl, rfl, rfl, IMem.le.refl I, 0, own1, rfl, by decide, rfl, ho1, hs1⟩, ?_⟩
  rintro m o on oc x1 x1n x1c q i J T - ⟨rfl, rfl, rfl, hle, k, own, rfl, hk, rfl, ho2, hs2⟩
  unfold num_Put16_l3
  refine bcase_dec (fun hlt => ?_) (fun hge => ?_)
  · obtain rfl : k = 0 := by omega
    rw [if_pos rfl] at ho2
    refine ⟨by decide, by decide, x, by rw [show (((0 : Nat) : Int).toNat * 1) = 0 by rfl, add_mk]; exact hs2.right.cell hle hc, fun b22 => ?_⟩
    rw [← u8o_v (x.fdiv _), ← u8o_v x]
    refine AppBs (ys := be16 x) hs2 ho2 (by show bs.length + 2 ≤ _; omega) ?_
    intro p3 n3 c3 own3 T3 ho3 hs3
    exact ⟨0, by decide, rfl, rfl, rfl, hle, 1, own3, rfl, by decide, rfl, ho3, hs3⟩
  · obtain rfl : k = 1 := by omega
    unfold num_Put16_b4
    exact ⟨own, ho2, hs2⟩
theorem Put32_runs {b : Nat} {x : Int} {S : SH} {I : IMem} (hc : Cell I S ⟨b, 0, none⟩ (.int .u32 x)) :
    Runs Tryd.prog 52 #[.slice none 0 0, .slice (some ⟨b, 0, none⟩) 1 1] I S fun v _ T => ∃ own', OwnB v (be32 x) own' ∧ Sub (own' ++ S) T := by
  refine num_Put32_fn _ _ _ _ _ _ _ _ _ ?_
  unfold num_Put32
  refine AppBb (xs := []) (ys := []) (own := []) (ownY := []) (F := S) (Sub.refl S) OwnR.nil OwnR.nil (Sub.nil _) (by decide) ?_
  intro p1 n1 c1 own1 T1 ho1 hs1
  unfold num_Put32_b1 num_Put32_b2
  refine ⟨fun m o on oc x1 x1n x1c q i J T => x1 = some ⟨b, 0, none⟩ ∧ x1n = 1 ∧ q = 1 ∧ I.le J ∧ ∃ (k : Nat) (own : SH), i = (k : Int) ∧ k ≤ 1 ∧ m = 1 - k ∧ OwnB (.slice o on oc) (if k = 0 then [] else be32 x) own ∧ Sub (own ++ S) T, 1,
    ⟨rfl, rfl, rfl, IMem.le.refl I, 0, own1, rfl, by decide, rfl, ho1, hs1⟩, ?_⟩
  rintro m o on oc x1 x1n x1c q i J T - ⟨rfl, rfl, rfl, hle, k, own, rfl, hk, rfl, ho2, hs2⟩
  unfold num_Put32_l3
  refine bcase_dec (fun hlt => ?_) (fun hge => ?_)
  · obtain rfl : k = 0 := by omega
    rw [if_pos rfl] at ho2
    refine ⟨by decide, by decide, x, by rw [show (((0 : Nat) : Int).toNat * 1) = 0 by rfl, add_mk]; exact hs2.right.cell hle hc, fun b22 => ?_⟩
    rw [← u8o_v (x.fdiv (2 ^ (min (24 : Int).toNat (IntKind.bits .u32)))), ← u8o_v (x.fdiv (2 ^ (min (16 : Int).toNat (IntKind.bits .u32)))), ← u8o_v (x.fdiv (2 ^ (min (8 : Int).toNat (IntKind.bits .u32)))), ← u8o_v x]
    refine AppBs (xs := []) (ys := be32 x) hs2 ho2 (by show 0 + 4 ≤ 1000000000; decide) ?_
    intro p3 n3 c3 own3 T3 ho3 hs3
    exact ⟨0, by decide, rfl, rfl, rfl, hle, 1, own3, rfl, by decide, rfl, ho3, hs3⟩
  · obtain rfl : k = 1 := by omega
    unfold num_Put32_b4
    exact ⟨own, ho2, hs2⟩
/-- two bytes of a string as a number -/
def g16 (s : ByteArray) (k : Nat) : Nat := bat s k * 256 + bat s (k + 1)
theorem iorS {k : IntKind} {n s x y : Nat} (hb : IntKind.bits k = n) (hx : x * 2 ^ s + y < 2 ^ n) (hy : y < 2 ^ s) : ((BitVec.ofInt (IntKind.bits k) ((x * 2 ^ s : Nat) : Int) ||| BitVec.ofInt (IntKind.bits k) (y : Int)).toNat : Nat) = x * 2 ^ s + y := by
  subst hb
  rw [BitVec.toNat_or, BitVec.ofInt_natCast, BitVec.ofInt_natCast, BitVec.toNat_ofNat, BitVec.toNat_ofNat, Nat.mod_eq_of_lt (by omega), Nat.mod_eq_of_lt (by omega), Nat.mul_comm x]
  exact (Nat.two_pow_add_eq_or_of_lt hy x).symm
theorem wrap_u16 {x : Int} (h : 0 ≤ x) (h2 : x < 65536) : IntKind.wrap .u16 x = x := by
  simp only [IntKind.wrap, IntKind.bits, IntKind.signed, Bool.false_and, Bool.false_eq_true, if_false]
  omega
theorem wrap_u32 {x : Int} (h : 0 ≤ x) (h2 : x < 4294967296) : IntKind.wrap .u32 x = x := by
  simp only [IntKind.wrap, IntKind.bits, IntKind.signed, Bool.false_and, Bool.false_eq_true, if_false]
  omega
theorem Get16_runs (s : ByteArray) (k : Nat) (hk : k ≤ 1000) (hs : s.size ≤ 9223372036854775807) (I : IMem) (S : SH) : Runs Tryd.prog 57 #[.string s, .int .i64 (k : Int)] I S fun v _ T =>
    v = (if k + 2 ≤ s.size then .tuple #[.int .u16 (g16 s k : Int), .bool true] else .tuple #[.int .u16 0, .bool false]) ∧ T = S := by
  refine num_Get16_fn _ _ _ _ _ ?_
  unfold num_Get16 num_Get16_b1
  refine bcase_f (decide_eq_false (by omega)) ?_
  unfold num_Get16_b2
  have ew : IntKind.wrap .i64 ((s.size : Int) - 2) = (s.size : Int) - 2 := wrap_i64 (by omega) (by omega)
  rw [ew]
  refine bcase_dec (fun h => ?_) (fun h => ?_)
  · rw [if_neg (by omega)]; exact ⟨rfl, rfl⟩
  · rw [if_pos (by omega)]
    unfold num_Get16_b3
    obtain ⟨c, hc⟩ := at_ok (s := s) (k := k) (by omega)
    obtain ⟨d, hd⟩ := at_ok (s := s) (k := k + 1) (by omega)
    have e1 : IntKind.wrap .i64 ((k : Int) + 1) = ((k + 1 : Nat) : Int) := by rw [wrap_i64 (by omega) (by omega)]; rfl
    rw [e1, Int.toNat_natCast, Int.toNat_natCast]
    refine ⟨c, by omega, hc, d, by omega, hd, ?_⟩
    unfold num_Get16_b4
    have hc2 := c.toNat_lt; have hd2 := d.toNat_lt
    have e2 : (2 : Int) ^ (min (8 : Int).toNat (IntKind.bits .u16)) = 2 ^ 8 := by decide
    have e3 : ior .u16 (IntKind.wrap .u16 ((IntKind.wrap .u16 (c.toNat : Int)) * 2 ^ (min (8 : Int).toNat (IntKind.bits .u16)))) (IntKind.wrap .u16 (d.toNat : Int)) = ((c.toNat * 256 + d.toNat : Nat) : Int) := by
      rw [e2, wrap_u16 (x := (c.toNat : Int)) (by omega) (by omega), wrap_u16 (x := (d.toNat : Int)) (by omega) (by omega), wrap_u16 (by omega) (by omega)]
      have := iorS (k := .u16) (n := 16) (s := 8) (x := c.toNat) (y := d.toNat) rfl (by omega) (by omega)
      unfold ior
      rw [show ((c.toNat : Int) * 2 ^ 8) = ((c.toNat * 2 ^ 8 : Nat) : Int) by omega, this]
      exact wrap_u16 (by omega) (by omega)
    rw [e3, g16, bat_of hc, bat_of hd]
    exact ⟨rfl, rfl⟩
theorem g16_lt (s : ByteArray) (k : Nat) : g16 s k < 65536 := by
  have := bat_lt s k; have := bat_lt s (k + 1)
  rw [g16]; omega
theorem Get32_runs (s : ByteArray) (hs : s.size ≤ 9223372036854775807) (I : IMem) (S : SH) : Runs Tryd.prog 55 #[.string s, .int .i64 0] I S fun v _ T =>
    v = (if 4 ≤ s.size then .tuple #[.int .u32 ((g16 s 0 * 65536 + g16 s 2 : Nat) : Int), .bool true] else .tuple #[.int .u32 0, .bool false]) ∧ T = S := by
  refine num_Get32_fn _ _ _ _ _ ?_
  unfold num_Get32
  refine (Get16_runs s 0 (by decide) hs I S).mono ?_
  rintro v J T hle ⟨rfl, rfl⟩
  have fin : ∀ (x y : Int) (a b : Bool), (a = false ∨ b = false) → num_Get32_b1 (fun v _ T' => v = .tuple #[.int .u32 0, .bool false] ∧ T' = T) x a y b J T := by
    intro x y a b hab
    unfold num_Get32_b1 num_Get32_b2
    rcases hab with rfl | rfl
    · exact bcase_t rfl ⟨rfl, rfl⟩
    · exact bcase_of (fun _ => ⟨rfl, rfl⟩) (fun _ => ⟨rfl, rfl⟩)
  have e2 : IntKind.wrap .i64 ((0 : Int) + 2) = ((2 : Nat) : Int) := by decide
  by_cases h4 : 4 ≤ s.size
  · rw [if_pos (by omega), if_pos h4]
    refine ⟨_, _, rfl, ?_⟩
    rw [e2]
    refine (Get16_runs s 2 (by decide) hs J T).mono ?_
    rintro v J2 T2 hle2 ⟨rfl, rfl⟩
    rw [if_pos (by omega)]
    refine ⟨_, _, rfl, ?_⟩
    unfold num_Get32_b1 num_Get32_b2 num_Get32_b3
    have h0 := g16_lt s 0; have h2 := g16_lt s 2
    have e3 : ior .u32 (IntKind.wrap .u32 ((IntKind.wrap .u32 (g16 s 0 : Int)) * 2 ^ (min (16 : Int).toNat (IntKind.bits .u32)))) (IntKind.wrap .u32 (g16 s 2 : Int)) = ((g16 s 0 * 65536 + g16 s 2 : Nat) : Int) := by
      have e2 : (2 : Int) ^ (min (16 : Int).toNat (IntKind.bits .u32)) = 2 ^ 16 := by decide
      rw [e2, wrap_u32 (x := (g16 s 0 : Int)) (by omega) (by omega), wrap_u32 (x := (g16 s 2 : Int)) (by omega) (by omega), wrap_u32 (by omega) (by omega)]
      have := iorS (k := .u32) (n := 32) (s := 16) (x := g16 s 0) (y := g16 s 2) rfl (by omega) (by omega)
      unfold ior
      rw [show ((g16 s 0 : Int) * 2 ^ 16) = ((g16 s 0 * 2 ^ 16 : Nat) : Int) by omega, this]
      exact wrap_u32 (by omega) (by omega)
    rw [e3]
    exact bcase_f rfl (bcase_f rfl ⟨rfl, rfl⟩)
  · rw [if_neg h4]
    obtain ⟨x, a, hx⟩ : ∃ (x : Int) (a : Bool), (if 0 + 2 ≤ s.size then (.tuple #[.int .u16 (g16 s 0 : Int), .bool true] : Value) else .tuple #[.int .u16 0, .bool false]) = .tuple #[.int .u16 x, .bool a] := by
      split
      · exact ⟨_, _, rfl⟩
      · exact ⟨_, _, rfl⟩
    refine ⟨x, a, hx, ?_⟩
    rw [e2]
    refine (Get16_runs s 2 (by decide) hs J T).mono ?_
    rintro v J2 T2 hle2 ⟨rfl, rfl⟩
    rw [if_neg (by omega)]
    refine ⟨_, _, rfl, ?_⟩
    unfold num_Get32_b1 num_Get32_b2
    exact bcase_of (fun _ => bcase_t rfl ⟨rfl, rfl⟩) (fun _ => bcase_t rfl ⟨rfl, rfl⟩)
/-- bytes with their length ahead, and what is behind -/
def txF (s : ByteArray) : Option (ByteArray × ByteArray) := if s.size = 0 ∨ s.size < 1 + bat s 0 then none else some (s.extract 1 (1 + bat s 0), s.extract (1 + bat s 0) s.size)
def txV : Option (ByteArray × ByteArray) → Value
  | some p => .tuple #[.string p.1, .string p.2, .bool true]
  | none => .tuple #[.string ⟨#[]⟩, .string ⟨#[]⟩, .bool false]
theorem text_runs (s : ByteArray) (I : IMem) (S : SH) : Runs Tryd.prog 56 #[.string s] I S fun v _ T => v = txV (txF s) ∧ T = S := by
  refine event_text_fn _ _ _ _ ?_
  unfold event_text event_text_b1
  refine bcase_beq (fun h => ?_) (fun h => ?_)
  · unfold event_text_b2
    rw [txF, if_pos (.inl (by omega))]
    exact bcase_t rfl ⟨rfl, rfl⟩
  · obtain ⟨c, hc⟩ := at_ok (s := s) (k := 0) (by omega)
    have hb := bat_of hc
    have hcl := c.toNat_lt
    have ew : IntKind.wrap .i64 ((1 : Int) + IntKind.wrap .i64 (c.toNat : Int)) = ((1 + c.toNat : Nat) : Int) := by
      rw [wrap_i64 (x := (c.toNat : Int)) (by omega) (by omega), wrap_i64 (by omega) (by omega)]; omega
    refine ⟨c, by decide, hc, ?_⟩
    unfold event_text_b2
    rw [ew]
    refine bcase_dec (fun h1 => ?_) (fun h1 => ?_)
    · rw [txF, if_pos (.inr (by omega))]; exact ⟨rfl, rfl⟩
    · unfold event_text_b3
      refine ⟨c, by decide, hc, ?_⟩
      rw [ew]
      refine ⟨by omega, by omega, by decide, by rw [Int.toNat_natCast]; omega, c, by decide, hc, ?_⟩
      rw [ew]
      refine ⟨by omega, by omega, ?_⟩
      unfold event_text_b4
      rw [txF, if_neg (by omega), hb, Int.toNat_natCast]
      exact ⟨rfl, rfl⟩
/-- a string with its length ahead -/
def txB (s : ByteArray) : ByteArray := ⟨#[u8o (s.size : Int)]⟩ ++ s
theorem f1_runs (s : ByteArray) (hs : s.size ≤ 1000000) (I : IMem) (S : SH) : Runs Tryd.prog 54 #[.string s] I S fun v _ T => v = .string (txB s) ∧ T = S := by
  refine Runs.drop (bolterlaw25_bytes_f1_fn _ _ _ _ ?_)
  unfold bolterlaw25_bytes_f1
  intro b6
  rw [← u8o_v]
  refine ⟨⟨#[u8o (s.size : Int)]⟩, BytesAt.at0 _ rfl rfl, ?_, S, (Sub.refl S).skip _, rfl, rfl⟩
  have : (⟨#[u8o (s.size : Int)]⟩ : ByteArray).size = 1 := rfl
  omega
end Go.Proofs.YtkagfmlaolmdnaaDoor
