/- ApplyDelta. -/
import Derived.Test.YtdajglfbbcbgpaaDoorYa6
namespace Go.Px
theorem StP.whole {S : SH} {b : Nat} {cs vs : List Value} {e : TypeId} {K : SH → Prop} (hc : vs.length = cs.length) (ho : vs.all one = true) (h : K ((b, .cells vs.toArray e (0, 0)) :: S)) : StP ((b, .cells cs.toArray e (0, 0)) :: S) ⟨b, 0, none⟩ vs K := by
  refine StP.list (by omega) ho ?_
  rw [List.take_zero, List.drop_of_length_le (by omega), List.append_nil, List.nil_append]
  exact h
end Go.Px
namespace Go.Proofs.YtdajglfbbcbgpaaDoor
open Go.Px
set_option linter.unusedVariables false

theorem slw_of {W : World} {x : Sl} (h : SlW W x) : ∃ xs, Slb (imW W) [] x xs ∧ (∀ y ∈ xs, y ≤ 255) := by
  obtain ⟨h1, h2, ys, h3, h4⟩ := h
  have hl := h3.1
  have hb : ∀ y ∈ ys, 0 ≤ y ∧ y ≤ 255 := fun y hy => by
    have := h4 y hy
    simp only [Lit.wf, IntKind.min, IntKind.max, IntKind.bits, IntKind.signed] at this
    simp at this; omega
  refine ⟨ys, ⟨RowIn.of_slin (el := elI8) (fun _ => Nat.zero_lt_one) h3, hl.symm, ?_, fun y hy => (hb y hy).1⟩, fun y hy => (hb y hy).2⟩
  simp only [maxLen] at h2; omega
theorem u8_of {x : Int} (h : (Lit.int .u8 x).wf = true) : 0 ≤ x ∧ x ≤ 255 := by
  simp only [Lit.wf, IntKind.min, IntKind.max, IntKind.bits, IntKind.signed] at h
  simp at h; omega
abbrev dB (bd : Nat) (src dst : Rc) (g n : Sl) : Nat × Obj := (bd, .cells (encD src dst g n).toArray 52 (0, 0))
theorem dcell {J : IMem} {T L : SH} {bd : Nat} {src dst : Rc} {g n : Sl} (h : Sub (dB bd src dst g n :: L) T) {o : Nat} {v : Value} (hj : (encD src dst g n)[o]? = some v) : Cell J T ⟨bd, o, none⟩ v :=
  Sub.cell' h (Cell.at0 (by rw [List.getElem?_toArray]; exact hj))
theorem StP.gone {T L : SH} {bd : Nat} {src dst : Rc} {g n g' : Sl} {K : SH → Prop} (h : Sub (dB bd src dst g n :: L) T) (hK : ∀ T', Sub (dB bd src dst g' n :: L) T' → K T') : StP T ((⟨bd, 0, none⟩ : Addr).add 8) [.slice g'.1 g'.2.1 g'.2.2] K :=
  StP.of_sub h (StP.list (o := 8) (L := encD src dst g n) (show 8 + 1 ≤ 10 by omega) rfl fun T' h => hK T' h)
theorem StP.new {T L : SH} {bd : Nat} {src dst : Rc} {g n n' : Sl} {K : SH → Prop} (h : Sub (dB bd src dst g n :: L) T) (hK : ∀ T', Sub (dB bd src dst g n' :: L) T' → K T') : StP T ((⟨bd, 0, none⟩ : Addr).add 9) [.slice n'.1 n'.2.1 n'.2.2] K :=
  StP.of_sub h (StP.list (o := 9) (L := encD src dst g n) (show 9 + 1 ≤ 10 by omega) rfl fun T' h => hK T' h)
theorem resO_or (st : Option (List Rc)) {c : Int} (h : c = 6 ∨ c = 7) : (∃ out, resO st c = (none, out)) ∨ ∃ c', (c' = 5 ∨ c' = 6 ∨ c' = 7) ∧ resO st c = (some c', []) := by
  cases st with
  | none => exact .inr ⟨c, .inr h, rfl⟩
  | some out => exact .inl ⟨out, rfl⟩
theorem deltaF_or (zs : List Rc) (src dst : Rc) (gs ns : List Rc) : (∃ out, deltaF zs src dst gs ns = (none, out)) ∨ ∃ c, (c = 5 ∨ c = 6 ∨ c = 7) ∧ deltaF zs src dst gs ns = (some c, []) := by
  unfold deltaF
  split
  · refine resO_or _ ?_
    generalize (src :: gs).foldl delO (some zs) = st
    cases st with
    | none => exact .inl rfl
    | some _ => exact .inr rfl
  · exact .inr ⟨5, .inl rfl, rfl⟩
theorem foldl_insO_len : ∀ (rs : List Rc) (zs out : List Rc), rs.foldl insO (some zs) = some out → out.length ≤ zs.length + rs.length
  | [], zs, out, h => by injection h with h; subst h; simp
  | r :: rs, zs, out, h => by
    rw [List.foldl_cons] at h
    cases hh : has zs r with
    | true =>
      have e : insO (some zs) r = none := by show (if has zs r then _ else _) = _; rw [hh]; rfl
      rw [e, insO_none] at h; cases h
    | false =>
      have e : insO (some zs) r = some (insR zs r) := by show (if has zs r then _ else _) = _; rw [hh]; rfl
      rw [e] at h
      have h1 := foldl_insO_len rs _ _ h
      have h2 := insR_length zs r
      rw [List.length_cons]; omega
theorem foldl_delO_len : ∀ (rs : List Rc) (zs out : List Rc), rs.foldl delO (some zs) = some out → out.length ≤ zs.length
  | [], zs, out, h => by injection h with h; subst h; simp
  | r :: rs, zs, out, h => by
    rw [List.foldl_cons] at h
    cases hh : has zs r with
    | true =>
      have e : delO (some zs) r = some (without zs r) := by show (if has zs r then _ else _) = _; rw [hh]; rfl
      rw [e] at h
      exact Nat.le_trans (foldl_delO_len rs _ _ h) (without_len _ _)
    | false =>
      have e : delO (some zs) r = none := by show (if has zs r then _ else _) = _; rw [hh]; rfl
      rw [e, delO_none] at h; cases h
theorem deltaF_len (zs : List Rc) (src dst : Rc) (gs ns : List Rc) : (deltaF zs src dst gs ns).2.length ≤ zs.length + ns.length + 1 := by
  unfold deltaF
  split
  · cases h1 : (src :: gs).foldl delO (some zs) with
    | none => rw [insO_none]; exact Nat.zero_le _
    | some ys =>
      have h2 := foldl_delO_len _ _ _ h1
      cases h3 : (ns ++ [dst]).foldl insO (some ys) with
      | none => exact Nat.zero_le _
      | some out =>
        have h4 := foldl_insO_len _ _ _ h3
        rw [List.length_append, List.length_singleton] at h4
        show out.length ≤ _
        omega
  · exact Nat.zero_le _
theorem zoneF_SS (o : ByteArray) (n : Int) (rs : List Rc) (most : Nat) : SS (zoneF o n rs most) := sortR_SS _
theorem mem_zoneF {o : ByteArray} {n : Int} {rs : List Rc} {most : Nat} {x : Rc} : x ∈ zoneF o n rs most ↔ x ∈ (rs.take most).map (underR false o) ∨ x = soaR o n := by
  rw [zoneF, mem_sortR, List.mem_append, List.mem_singleton]
theorem zoneF_len (o : ByteArray) (n : Int) (rs : List Rc) (most : Nat) : (zoneF o n rs most).length ≤ most + 1 ∧ 0 < (zoneF o n rs most).length := by
  constructor
  · have h := sortR_len ((rs.take most).map (underR false o) ++ [soaR o n])
    rw [List.length_append, List.length_map, List.length_take, List.length_singleton] at h
    unfold zoneF; omega
  · exact List.length_pos_of_mem (mem_zoneF.2 (.inr rfl))
theorem origN_size (n : Int) : (origN n).size ≤ 254 := nameW_size _

end Go.Proofs.YtdajglfbbcbgpaaDoor
