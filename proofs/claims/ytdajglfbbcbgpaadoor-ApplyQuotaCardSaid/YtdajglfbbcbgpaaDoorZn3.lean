/- The law's data, and its records. -/
import Derived.Test.YtdajglfbbcbgpaaDoorZn2
import Derived.Test.YtdajglfbbcbgpaaDoorZd1
namespace Go.Proofs.YtdajglfbbcbgpaaDoor
open Go.Px
set_option linter.unusedVariables false

def dA : ByteArray := ⟨#[1, 2, 3, 4]⟩
def dS : ByteArray := ⟨#[48, 49, 50, 51, 52, 53, 54, 55, 56, 57, 48, 49, 50, 51, 52, 53, 54, 55, 56, 57]⟩
def dQ : ByteArray := ⟨#[48, 49, 50, 51, 52, 53, 54, 55, 56, 57, 97, 98, 99, 100, 101, 102]⟩
def d0 : ByteArray := ⟨#[0]⟩
def dataF (m : Int) (x s : ByteArray) : Int × ByteArray :=
  if m = 0 ∨ m = 1 then (1, (s ++ dA).extract 0 4)
  else if m = 2 then (2, x)
  else if m = 3 then (5, x)
  else if m = 4 then (6, x ++ d0 ++ x ++ d0 ++ (s ++ dS).extract 0 20)
  else if m = 5 then (16, ⟨#[UInt8.ofNat (min 255 s.size)]⟩ ++ s.extract 0 (min 255 s.size))
  else if m = 6 then (28, (s ++ dQ).extract 0 16)
  else (99, s.extract 0 (min 512 s.size))
theorem ex_size (s : ByteArray) (a b : Nat) : (s.extract a b).size = min b s.size - a := ByteArray.size_extract
theorem dataF_size {m : Int} {x s : ByteArray} (hx : x.size ≤ 254) (hs : s.size ≤ 30) : (dataF m x s).2.size ≤ 600 := by
  have h1 : dA.size = 4 := rfl
  have h2 : dS.size = 20 := rfl
  have h3 : dQ.size = 16 := rfl
  have h4 : d0.size = 1 := rfl
  have h5 : ∀ u : UInt8, (⟨#[u]⟩ : ByteArray).size = 1 := fun _ => rfl
  unfold dataF
  repeat' split
  all_goals simp only [app_size, ex_size, h1, h2, h3, h4, h5]
  all_goals omega
theorem dataF_ty (m : Int) (x s : ByteArray) : 0 ≤ (dataF m x s).1 ∧ (dataF m x s).1 ≤ 99 := by
  unfold dataF
  repeat' split
  all_goals simp
theorem minI {a b : Nat} : (if ((a : Nat) : Int) < ((b : Nat) : Int) then ((a : Nat) : Int) else ((b : Nat) : Int)) = ((min a b : Nat) : Int) := by
  split <;> omega
theorem Data_runs {xs : List Int} {a : Option Addr} {c : Nat} {t : Int} {s : ByteArray} {I : IMem} {S : SH} (hx : RowIn I S a xs.length 1 elI8 xs) (hl : xs.length ≤ 9223372036854775807) (hp : ∀ x ∈ xs, 0 ≤ x) (hs : s.size ≤ 140737488355328) :
    Runs Tryd.prog 31 #[.int .u16 t, .slice a xs.length c, .string s] I S fun v _ T => v = .tuple #[.int .u16 (dataF (t.tmod 8) (nameW xs) s).1, .string (dataF (t.tmod 8) (nameW xs) s).2] ∧ T = S := by
  refine Runs.drop (bolterlaw04_Data_fn _ _ _ _ _ _ _ _ ?_)
  unfold bolterlaw04_Data bolterlaw04_Data_b1
  refine (Name_runs hx hl hp).mono ?_
  rintro v J T hle ⟨rfl, rfl⟩
  refine ⟨_, rfl, ?_⟩
  have hn := nameW_size xs
  generalize nameW xs = x at hn
  generalize t.tmod 8 = m
  have z1 : (⟨#[1, 2, 3, 4]⟩ : ByteArray).size = 4 := rfl
  have z2 : (⟨#[48, 49, 50, 51, 52, 53, 54, 55, 56, 57, 48, 49, 50, 51, 52, 53, 54, 55, 56, 57]⟩ : ByteArray).size = 20 := rfl
  have z3 : (⟨#[48, 49, 50, 51, 52, 53, 54, 55, 56, 57, 97, 98, 99, 100, 101, 102]⟩ : ByteArray).size = 16 := rfl
  have z4 : (⟨#[0]⟩ : ByteArray).size = 1 := rfl
  have z5 : ∀ u : UInt8, (⟨#[u]⟩ : ByteArray).size = 1 := fun _ => rfl
  unfold bolterlaw04_Data_b2
  have main : ∀ b : Bool, (b = true → m = 0 ∨ m = 1) → (b = false → ¬ (m = 0 ∨ m = 1)) → bolterlaw04_Data_b3 (fun v J T' => ∃ L, Sub L T' ∧ v = .tuple #[.int .u16 (dataF m x s).1, .string (dataF m x s).2] ∧ L = T) s x m b J T := by
    intro b hb1 hb2
    unfold bolterlaw04_Data_b3 bolterlaw04_Data_b4 bolterlaw04_Data_b5 bolterlaw04_Data_b6 bolterlaw04_Data_b7 bolterlaw04_Data_b8 bolterlaw04_Data_b9
    refine bcase_of (fun h => ?_) (fun h => bcase_beq (fun h2 => ?_) (fun h2 => bcase_beq (fun h3 => ?_) (fun h3 => bcase_beq (fun h4 => ?_) (fun h4 => bcase_beq (fun h5 => ?_) (fun h5 => ?_)))))
    · refine ⟨by rw [z1]; omega, by omega, by rw [app_size, z1]; omega, T, Sub.refl T, ?_, rfl⟩
      rw [dataF, if_pos (hb1 h)]; rfl
    · refine ⟨T, Sub.refl T, ?_, rfl⟩
      rw [dataF, if_neg (hb2 h), if_pos h2]
    · refine ⟨T, Sub.refl T, ?_, rfl⟩
      rw [dataF, if_neg (hb2 h), if_neg h2, if_pos h3]
    · simp only [app_size, z2, z4, ex_size]
      refine ⟨by omega, by omega, by omega, by omega, by omega, by omega, by simp; omega, T, Sub.refl T, ?_, rfl⟩
      rw [dataF, if_neg (hb2 h), if_neg h2, if_neg h3, if_pos h4]; rfl
    · unfold bolterlaw04_Data_b10 bolterlaw04_Data_b11
      have hm : (if (255 : Int) < (s.size : Int) then (255 : Int) else (s.size : Int)) = ((min 255 s.size : Nat) : Int) := minI (a := 255)
      rw [hm]
      have hu : IntKind.wrap .u8 ((min 255 s.size : Nat) : Int) = ((UInt8.ofNat (min 255 s.size)).toNat : Int) := by
        rw [wrap_u8 (by omega) (by omega), ofNatU (by omega)]
      rw [hu]
      refine ⟨by omega, by omega, fun b44 => ⟨⟨#[UInt8.ofNat (min 255 s.size)]⟩, ?_, ?_, T, (Sub.refl T).skip _, ?_, rfl⟩⟩
      · have := BytesAt.list (I := J) (S := T) (g := b44) (n := 1) (l := [UInt8.ofNat (min 255 s.size)]) (rest := []) (e := 5) (fz := (0, 0)) rfl
        exact this
      · rw [ex_size, z5]; omega
      · rw [dataF, if_neg (hb2 h), if_neg h2, if_neg h3, if_neg h4, if_pos h5, Int.toNat_natCast]
    · unfold bolterlaw04_Data_b12 bolterlaw04_Data_b13 bolterlaw04_Data_b14 bolterlaw04_Data_b15
      refine bcase_beq (fun h6 => ?_) (fun h6 => ?_)
      · refine ⟨by rw [z3]; omega, by omega, by rw [app_size, z3]; omega, T, Sub.refl T, ?_, rfl⟩
        rw [dataF, if_neg (hb2 h), if_neg h2, if_neg h3, if_neg h4, if_neg h5, if_pos h6]; rfl
      · have hm : (if (512 : Int) < (s.size : Int) then (512 : Int) else (s.size : Int)) = ((min 512 s.size : Nat) : Int) := minI (a := 512)
        rw [hm]
        refine ⟨by omega, by omega, T, Sub.refl T, ?_, rfl⟩
        rw [dataF, if_neg (hb2 h), if_neg h2, if_neg h3, if_neg h4, if_neg h5, if_neg h6, Int.toNat_natCast]
  refine bcase_beq (fun h => main _ (fun _ => .inl h) (fun g => ?_)) (fun h => main _ (fun g => .inr (eq_of_beq g)) (fun g => ?_))
  · rw [h] at g; cases g
  · rintro (h' | h')
    · exact h h'
    · rw [h'] at g; cases g

abbrev Sl := Option Addr × Nat × Nat
abbrev Ac := Sl × Int × Int × Sl × ByteArray
def encA (x : Ac) : List Value := [.slice x.1.1 x.1.2.1 x.1.2.2, .int .u8 x.2.1, .int .u32 x.2.2.1, .slice x.2.2.2.1.1 x.2.2.2.1.2.1 x.2.2.2.1.2.2, .string x.2.2.2.2]
structure Slb (I : IMem) (S : SH) (x : Sl) (xs : List Int) : Prop where
  row : RowIn I S x.1 xs.length 1 elI8 xs
  len : x.2.1 = xs.length
  small : xs.length ≤ 9223372036854775807
  pos : ∀ y ∈ xs, 0 ≤ y
theorem Slb.keep {I J : IMem} {S T : SH} {x : Sl} {xs : List Int} (hk : Keep I S J T) (h : Slb I S x xs) : Slb J T x xs := ⟨h.row.keep hk, h.len, h.small, h.pos⟩
def recF (nm dt : List Int) (x : Ac) : Rc := (nameW nm, (dataF ((IntKind.wrap .u16 x.2.1).tmod 8) (nameW dt) (x.2.2.2.2.extract 0 (min 30 x.2.2.2.2.size))).1, x.2.2.1, (dataF ((IntKind.wrap .u16 x.2.1).tmod 8) (nameW dt) (x.2.2.2.2.extract 0 (min 30 x.2.2.2.2.size))).2)
theorem Record_runs {x : Ac} {nm dt : List Int} {I : IMem} {S : SH} (hn : Slb I S x.1 nm) (hd : Slb I S x.2.2.2.1 dt) (hs : x.2.2.2.2.size ≤ 9223372036854775807) :
    Runs Tryd.prog 12 #[.agg #[.slice x.1.1 x.1.2.1 x.1.2.2, .int .u8 x.2.1, .int .u32 x.2.2.1, .slice x.2.2.2.1.1 x.2.2.2.1.2.1 x.2.2.2.1.2.2, .string x.2.2.2.2]] I S fun v _ T => v = vR (recF nm dt x) ∧ T = S := by
  refine Runs.drop (bolterlaw05_Record_fn _ _ _ _ _ _ _ _ _ _ _ _ ?_)
  unfold bolterlaw05_Record bolterlaw05_Record_b1 bolterlaw05_Record_b2 bolterlaw05_Record_b3
  intro b1 b2
  obtain ⟨⟨na, nn, nc⟩, kd, ttl, ⟨da, dn, dc⟩, tx⟩ := x
  obtain ⟨hn1, hn2, hn3, hn4⟩ := hn
  obtain ⟨hd1, hd2, hd3, hd4⟩ := hd
  dsimp only at hn1 hn2 hd1 hd2 hs ⊢
  subst hn2; subst hd2
  have hm : (if (30 : Int) < (tx.size : Int) then (30 : Int) else (tx.size : Int)) = ((min 30 tx.size : Nat) : Int) := minI (a := 30)
  refine ⟨_, Cell.tl (Cell.at0 rfl), _, _, _, Cell.tl (Cell.at0 rfl), _, Cell.tl (Cell.at0 rfl), _, Cell.tl (Cell.at0 rfl), ?_⟩
  rw [hm]
  refine ⟨by omega, by omega, ?_⟩
  have hsk : Sub S ((b2, Obj.cells #[.string ⟨#[]⟩, .int .u16 0, .int .u32 0, .string ⟨#[]⟩] 36 (0, 0)) :: ((b1, Obj.cells #[.slice na nm.length nc, .int .u8 kd, .int .u32 ttl, .slice da dt.length dc, .string tx] 26 (0, 0)) :: S)) := ((Sub.refl S).skip _).skip _
  refine (Data_runs (hd1.sub hsk) hd3 hd4 (by rw [ex_size]; omega)).mono ?_
  rintro v J T hle ⟨rfl, rfl⟩
  refine ⟨_, _, rfl, _, _, _, Cell.tl (Cell.at0 rfl), _, Cell.tl (Cell.at0 rfl), ?_⟩
  refine (Name_runs ((hn1.sub hsk).le hle) hn3 hn4).mono ?_
  rintro v J' T' hle' ⟨rfl, rfl⟩
  refine ⟨_, rfl, (Sub.refl _).keep hle', ?_⟩
  refine StP.at0 (o := 0) (vs := encR (recF nm dt ((na, nm.length, nc), kd, ttl, (da, dt.length, dc), tx))) (Nat.le_refl 4) rfl ?_
  exact ⟨_, Cell.at0 rfl, _, Cell.at0 rfl, _, Cell.at0 rfl, _, Cell.at0 rfl, S, ((Sub.refl S).skip _).skip _, rfl, rfl⟩

structure SmallR (r : Rc) : Prop where
  nm : r.1.size ≤ 254
  dt : r.2.2.2.size ≤ 600
  ty : 0 ≤ r.2.1 ∧ r.2.1 ≤ 99
theorem recF_small (nm dt : List Int) (x : Ac) : SmallR (recF nm dt x) :=
  ⟨nameW_size nm, dataF_size (nameW_size dt) (by rw [ex_size]; omega), dataF_ty _ _ _⟩
structure AcOK (I : IMem) (S : SH) (x : Ac) : Prop where
  nm : ∃ nm, Slb I S x.1 nm
  dt : ∃ dt, Slb I S x.2.2.2.1 dt
  tx : x.2.2.2.2.size ≤ 9223372036854775807
theorem AcOK.keep {I J : IMem} {S T : SH} {x : Ac} (hk : Keep I S J T) (h : AcOK I S x) : AcOK J T x :=
  ⟨let ⟨nm, h⟩ := h.nm; ⟨nm, h.keep hk⟩, let ⟨nm, h⟩ := h.dt; ⟨nm, h.keep hk⟩, h.tx⟩
theorem CellsA {I : IMem} {S : SH} {a : Addr} {x : Ac} (h : ∀ j v, (encA x)[j]? = some v → Cell I S (a.add j) v) :
    Cell I S a (.slice x.1.1 x.1.2.1 x.1.2.2) ∧ Cell I S (a.add 1) (.int .u8 x.2.1) ∧ Cell I S (a.add 2) (.int .u32 x.2.2.1) ∧ Cell I S (a.add 3) (.slice x.2.2.2.1.1 x.2.2.2.1.2.1 x.2.2.2.1.2.2) ∧ Cell I S (a.add 4) (.string x.2.2.2.2) :=
  ⟨by simpa [Addr.add] using h 0 _ rfl, h 1 _ rfl, h 2 _ rfl, h 3 _ rfl, h 4 _ rfl⟩
end Go.Proofs.YtdajglfbbcbgpaaDoor
