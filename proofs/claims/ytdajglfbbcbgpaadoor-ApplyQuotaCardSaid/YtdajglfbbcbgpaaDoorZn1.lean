/- strings.Builder; bytes folded. -/
import Derived.Test.YtdajglfbbcbgpaaDoorT2
import Derived.Test.YtdajglfbbcbgpaaDoorPx11
import Derived.Laws.Externs
namespace Go.Proofs.YtdajglfbbcbgpaaDoor
open Go.Px
set_option linter.unusedVariables false

theorem noesc_runs {I : IMem} {S : SH} (x : Value) : RunsX Tryd.prog 99 #[x] I S fun v _ T => v = x ∧ T = S := by
  intro w hw
  refine ⟨x, w, I, S, ?_, IMem.le.refl I, hw, rfl, rfl⟩
  rw [run_callFunc_extern Tryd.func99 (by kernel_rfl) (by kernel_rfl) (by kernel_rfl) (e := Extern.AbiNoEscape.same) (by kernel_rfl)]
  rfl
abbrev bldO (p : Option Addr) (A : Option Addr) (n c : Nat) : Obj := .cells #[.pointer p, .slice A n c] 122 (0, 0)
theorem chk_runs {b : Nat} {p A : Option Addr} {n c : Nat} {I : IMem} {F : SH} (hp : p = none ∨ p = some ⟨b, 0, none⟩) :
    Runs Tryd.prog 89 #[.pointer (some ⟨b, 0, none⟩)] I ((b, bldO p A n c) :: F) fun v _ T => v = .tuple #[] ∧ T = (b, bldO (some ⟨b, 0, none⟩) A n c) :: F := by
  refine strings_Builder_copyCheck_fn _ _ _ _ ?_
  unfold strings_Builder_copyCheck
  refine ⟨p, Cell.at0 rfl, ?_⟩
  rcases hp with rfl | rfl
  · refine bcase_t rfl ⟨_, _, ⟨(0, 0), .inr (List.mem_cons_self ..)⟩, by simp, (noesc_runs _).mono ?_⟩
    rintro v J T hle ⟨rfl, rfl⟩
    refine ⟨_, rfl, _, _, ⟨(0, 0), .inr (List.mem_cons_self ..)⟩, ?_, StP.at0 (o := 0) (vs := [.pointer (some ⟨b, 0, none⟩)]) (by simp) rfl ⟨rfl, rfl⟩⟩
    show liesAt Tryd.prog (Program.depth Tryd.prog) 122 (2 / Program.cellsOf Tryd.prog 122) 0 122 1 = true
    kernel_rfl
  · exact bcase_f rfl ⟨_, Cell.at0 rfl, rfl, rfl, rfl⟩

/-- a builder that has these bytes -/
def Bld (b : Nat) (s : ByteArray) (own : SH) : Prop := ∃ p A n c own', own = (b, bldO p A n c) :: own' ∧ (p = none ∨ p = some ⟨b, 0, none⟩) ∧ (A.isSome = true → c ≠ 0) ∧ OwnR 5 1 elB (.slice A n c) s.data.toList own'
theorem own_cap {α : Type} {el : α → List Value} {e : TypeId} {A : Option Addr} {n c : Nat} {xs : List α} {own : SH} (h : OwnR e 1 el (.slice A n c) xs own) (hx : 0 < xs.length) : A.isSome = true → c ≠ 0 := by
  intro ha
  rcases h with ⟨hv, _⟩ | ⟨g, cap, rest, hv, _, hcap, _⟩
  · injection hv with h1; subst h1; cases ha
  · injection hv with h1 h2 h3; omega
theorem row_lies {P : Program} {d : Nat} {fits : TypeId → Bool} {e : TypeId} {count n : Nat} (h1 : P.cellsOf e = 1) (h2 : fits e = true) (h3 : n ≤ count) : rowAt P fits (d + 1) e count 0 n = true := by
  unfold rowAt
  simp [h1, h2, h3]
theorem Len_runs {b : Nat} {s : ByteArray} {own : SH} (h : Bld b s own) (I : IMem) (F : SH) : Runs Tryd.prog 67 #[.pointer (some ⟨b, 0, none⟩)] I (own ++ F) fun v _ T => v = .int .i64 (s.size : Int) ∧ T = own ++ F := by
  obtain ⟨p, A, n, c, own', rfl, hp, hc0, ho⟩ := h
  refine strings_Builder_Len_fn _ _ _ _ ?_
  unfold strings_Builder_Len
  refine ⟨_, _, _, Cell.at0 rfl, ?_, rfl⟩
  rw [ho.len]; rfl
theorem WByte_runs {b : Nat} {s : ByteArray} {own : SH} (h : Bld b s own) (u : UInt8) (hs : s.size + 1 ≤ 140737488355328) (I : IMem) (F : SH) :
    Runs Tryd.prog 68 #[.pointer (some ⟨b, 0, none⟩), .int .u8 (u.toNat : Int)] I (own ++ F) fun v _ T => v = .nilIface ∧ ∃ own', Bld b (s.push u) own' ∧ Sub (own' ++ F) T := by
  obtain ⟨p, A, n, c, own', rfl, hp, hc0, ho⟩ := h
  refine strings_Builder_WriteByte_fn _ _ _ _ _ ?_
  unfold strings_Builder_WriteByte
  refine (chk_runs hp).mono ?_
  rintro v J T hle ⟨rfl, rfl⟩
  refine ⟨rfl, _, _, _, Cell.at0 rfl, fun b13 => ?_⟩
  have hsz : s.data.toList.length = s.size := Array.length_toList
  refine AppG.own (xs := s.data.toList) (ys := [u]) (el := elB) (own := own') (F := (b13, .cells #[.int .u8 (u.toNat : Int)] 5 (0, 0)) :: (b, bldO (some ⟨b, 0, none⟩) A n c) :: F) elB_len elB_one rfl perm_mid2 ho ⟨?_, rfl⟩ ?_ ?_ ?_
  · exact Rd.list (L := elB u) rfl (by simp [elB_len])
  · rw [hsz]; simp only [List.length_singleton, maxLen]; omega
  · rw [hsz]; simp only [List.length_singleton]; omega
  · intro q m d own2 ho2
    have e : own2 ++ (b13, Obj.cells #[.int .u8 (u.toNat : Int)] 5 (0, 0)) :: (b, bldO (some ⟨b, 0, none⟩) A n c) :: F = (own2 ++ [(b13, Obj.cells #[.int .u8 (u.toNat : Int)] 5 (0, 0))]) ++ (b, bldO (some ⟨b, 0, none⟩) A n c) :: F := by simp
    rw [e]
    refine StP.mid (o := 1) (vs := [.slice q m d]) (by simp) rfl ⟨rfl, (b, bldO (some ⟨b, 0, none⟩) q m d) :: own2, ⟨_, q, m, d, own2, rfl, .inr rfl, own_cap ho2 (by simp), ?_⟩, ?_⟩
    · have : (s.push u).data.toList = s.data.toList ++ [u] := by simp [ByteArray.push]
      rw [this]; exact ho2
    · rw [List.append_assoc]
      exact sub_swap
theorem WStr_runs {b : Nat} {s t : ByteArray} {own : SH} (h : Bld b s own) (h0 : 0 < s.size + t.size) (hs : s.size + t.size ≤ 140737488355328) (I : IMem) (F : SH) :
    Runs Tryd.prog 69 #[.pointer (some ⟨b, 0, none⟩), .string t] I (own ++ F) fun v _ T => v = .tuple #[.int .i64 (t.size : Int), .nilIface] ∧ ∃ own', Bld b (s ++ t) own' ∧ Sub (own' ++ F) T := by
  obtain ⟨p, A, n, c, own', rfl, hp, hc0, ho⟩ := h
  refine strings_Builder_WriteString_fn _ _ _ _ _ ?_
  unfold strings_Builder_WriteString
  refine (chk_runs hp).mono ?_
  rintro v J T hle ⟨rfl, rfl⟩
  refine ⟨rfl, _, _, _, Cell.at0 rfl, ?_⟩
  have hsz : s.data.toList.length = s.size := Array.length_toList
  have htz : t.data.toList.length = t.size := Array.length_toList
  refine AppG.own (xs := s.data.toList) (ys := t.data.toList) (el := elB) (own := own') (F := (b, bldO (some ⟨b, 0, none⟩) A n c) :: F) elB_len elB_one rfl perm_mid1 ho ⟨t, rfl, htz, flat_elB _, rfl⟩ ?_ ?_ ?_
  · rw [hsz, htz]; simp only [maxLen]; omega
  · rw [hsz, htz]; omega
  · intro q m d own2 ho2
    refine StP.mid (o := 1) (vs := [.slice q m d]) (by simp) rfl ⟨rfl, (b, bldO (some ⟨b, 0, none⟩) q m d) :: own2, ⟨_, q, m, d, own2, rfl, .inr rfl, own_cap ho2 (by rw [List.length_append, hsz, htz]; exact h0), ?_⟩, ?_⟩
    · have : (s ++ t).data.toList = s.data.toList ++ t.data.toList := by simp
      rw [this]; exact ho2
    · exact ⟨[], by rw [List.append_nil]; exact List.perm_middle⟩
theorem Str_runs {b : Nat} {s : ByteArray} {own : SH} (h : Bld b s own) (hs : s.size ≤ 140737488355328) (I : IMem) (F : SH) :
    Runs Tryd.prog 71 #[.pointer (some ⟨b, 0, none⟩)] I (own ++ F) fun v _ T => v = .string s ∧ Sub F T := by
  obtain ⟨p, A, n, c, own', rfl, hp, hc0, ho⟩ := h
  refine strings_Builder_String_fn _ _ _ _ ?_
  unfold strings_Builder_String strings_Builder_String_b1 strings_Builder_String_b2
  have hln := ho.len
  have hsz : s.data.toList.length = s.size := Array.length_toList
  rw [hsz] at hln
  subst hln
  have hs0 : s.size = 0 → s = ByteArray.empty := fun h => by
    apply ByteArray.ext
    have : s.data.size = 0 := h
    simp [Array.eq_empty_of_size_eq_zero this]
  rcases ho with ⟨hv, hx, rfl⟩ | ⟨g, cap, rest, hv, rfl, hcap, hcm⟩
  · injection hv with h1 h2 h3
    subst h1
    refine ⟨_, _, _, Cell.at0 rfl, fun h => (by simp at h), _, _, _, Cell.at0 rfl, .inl ⟨by omega, ?_, ⟨[_], List.perm_append_comm (l₁ := [_])⟩⟩⟩
    rw [hs0 h2]
  · injection hv with h1 h2 h3
    subst h1; subst h3
    by_cases h0 : s.size = 0
    · refine ⟨_, _, _, Cell.at0 rfl, fun _ => hc0 rfl, _, _, _, Cell.at0 rfl, .inl ⟨by omega, ?_, ⟨[_, _], List.perm_append_comm (l₁ := [_, _])⟩⟩⟩
      rw [hs0 h0]
    · have hsc : s.size ≤ c := by rw [hsz] at hcap; omega
      refine ⟨_, _, _, Cell.at0 rfl, fun _ => by omega, _, _, _, Cell.at0 rfl, .inr ⟨⟨g, 0, none⟩, 1, _, _, (0, 0), s, rfl, by omega, by omega, rfl, ?_, ?_, rfl, ⟨[_, _], List.perm_append_comm (l₁ := [_, _])⟩⟩⟩
      · have hcs : ((s.data.toList.flatMap elB ++ rest).toArray).size = c := by
          rw [List.size_toArray, List.length_append, flatMap_len elB_len]; omega
        rw [hcs]
        have h1 : Program.cellsOf Tryd.prog 5 = 1 := by kernel_rfl
        rw [h1, Nat.div_one]
        have hd : ∃ d, Program.depth Tryd.prog = d + 1 + 1 := ⟨Program.depth Tryd.prog - 2, by kernel_rfl⟩
        obtain ⟨d, hd⟩ := hd
        rw [hd]
        have hsl : sameLayout Tryd.prog (Program.depth Tryd.prog) 5 5 = true := by kernel_rfl
        unfold liesAt
        have key : ∀ D, D = d + 1 + 1 → rowAt Tryd.prog (fun x => sameLayout Tryd.prog (Program.depth Tryd.prog) x 5) D 5 c 0 s.size = true := fun D hD => by subst hD; exact row_lies h1 hsl hsc
        rw [Int.toNat_natCast]
        show (rowAt Tryd.prog (fun x => sameLayout Tryd.prog (Program.depth Tryd.prog) x 5) (Program.depth Tryd.prog) 5 c 0 s.size || _) = true
        rw [key _ hd]
        rfl
      · rw [flat_elB, Int.toNat_natCast]
        refine BytesAt.tl ?_
        have : s = ⟨s.data.toList.toArray⟩ := by apply ByteArray.ext; simp
        have hb := BytesAt.list (I := I) (S := F) (g := g) (n := s.size) (l := s.data.toList) (rest := rest) (e := 5) (fz := (0, 0)) hsz.symm
        rw [← this] at hb
        exact hb
end Go.Proofs.YtdajglfbbcbgpaaDoor
