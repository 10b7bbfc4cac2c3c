/- ApplyChain. -/
import Derived.Test.YtdajglfbbcbgpaaDoorYb2
namespace Go.Px
theorem row1 {α : Type} {el : α → List Value} {sz : Nat} (he : ∀ x, (el x).length = sz) {I : IMem} {S : SH} {b : Nat} {e : TypeId} (x : α) : RowIn I ((b, .cells (el x).toArray e (0, 0)) :: S) (some ⟨b, 0, none⟩) 1 sz el [x] := by
  have ho : OwnR e sz el (.slice (some ⟨b, 0, none⟩) 1 1) [x] [(b, .cells (el x).toArray e (0, 0))] := .inr ⟨b, 1, [], rfl, by simp, by simp, by simp [maxLen]⟩
  exact (ho.row he).sub ⟨S, List.Perm.refl _⟩
theorem AppS {α : Type} {el : α → List Value} {sz : Nat} (he : ∀ x, (el x).length = sz) (ho : ∀ x, (el x).all one = true) (hsz : 0 < sz) {e : TypeId} {bytes : Nat} {z : List Value} {I : IMem} {S own F : SH} {v : Value} {xs : List α} {x : α} {a : Option Addr} {c : Nat} {K : Option Addr → Nat → Nat → SH → Prop}
    (hz : z.length = sz) (hs : Sub (own ++ F) S) (hv : OwnR e sz el v xs own) (hy : RowIn I S a 1 sz el [x]) (hl : xs.length ≤ 100000) (hb : bytes ≤ 1000)
    (hK : ∀ p n c own' T, OwnR e sz el (.slice p n c) (xs ++ [x]) own' → Sub (own' ++ F) T → K p n c T) : AppG e sz bytes z (some (.slice e)) I S v (.slice a 1 c) K := by
  refine AppG.use (xs := xs) (ys := [x]) (el := el) he ho hz hs hv ⟨RowIn.rd he hsz hy, flatMap_one ho [x]⟩ (by simp only [List.length_singleton, maxLen]; omega) ?_ hK
  simp only [List.length_singleton]
  have := Nat.mul_le_mul (show xs.length + 1 ≤ 100001 by omega) hb
  omega
end Go.Px
namespace Go.Proofs.YtdajglfbbcbgpaaDoor
open Go.Px
set_option linter.unusedVariables false
set_option linter.unusedSimpArgs false

def elH (h : Sl) : List Value := [.slice h.1 h.2.1 h.2.2]
abbrev hB (b : Nat) (h : Sl) : Nat × Obj := (b, .cells #[.slice h.1 h.2.1 h.2.2] 30 (0, 0))
abbrev zDl : List Value := [.string ⟨#[]⟩, .int .u16 0, .int .u32 0, .string ⟨#[]⟩, .string ⟨#[]⟩, .int .u16 0, .int .u32 0, .string ⟨#[]⟩, .slice none 0 0, .slice none 0 0]
abbrev OwnH (v : Value) (hs : List Sl) (own : SH) : Prop := OwnR 30 1 elH v hs own
abbrev OwnD (v : Value) (ds : List Dl) (own : SH) : Prop := OwnR 52 10 encDl v ds own
abbrev AppH (I : IMem) (S : SH) (v x : Value) (K : Option Addr → Nat → Nat → SH → Prop) : Prop := AppG 30 1 24 [.slice none 0 0] (some (.slice 30)) I S v x K
abbrev AppD (I : IMem) (S : SH) (v x : Value) (K : Option Addr → Nat → Nat → SH → Prop) : Prop := AppG 52 10 128 zDl (some (.slice 52)) I S v x K
theorem elH_len (h : Sl) : (elH h).length = 1 := rfl
theorem elH_one (h : Sl) : (elH h).all one = true := rfl
theorem AppC {hs : List Sl} {dl : List Dl} {h : Sl} {src dst : Rc} {g nw : Sl} {A B : Option Addr} {n c m e : Nat} {S F own1 own2 : SH} {I : IMem} {K : Option Addr → Nat → Nat → Option Addr → Nat → Nat → SH → Prop} (hs0 : Sub (own1 ++ (own2 ++ F)) S) (h1 : OwnH (.slice A n c) hs own1) (h2 : OwnD (.slice B m e) dl own2) (l1 : hs.length ≤ 1000) (l2 : dl.length ≤ 1000)
    (hK : ∀ p n c q m d own1' own2' T, OwnH (.slice p n c) (hs ++ [h]) own1' → OwnD (.slice q m d) (dl ++ [(src, dst, g, nw)]) own2' → Sub (own1' ++ (own2' ++ F)) T → K p n c q m d T) :
    (∀ b, Keep I F I (hB b h :: S) ∧
      (AppH I (hB b h :: S) (.slice A n c) (.slice (some ⟨b, 0, none⟩) 1 1) fun p n c S1 => Keep I F I S1 ∧ ∀ b2, AppD I (dB b2 src dst g nw :: S1) (.slice B m e) (.slice (some ⟨b2, 0, none⟩) 1 1) fun q m d S2 => K p n c q m d S2) ∧
      (∀ b2, AppH I (dB b2 src dst g nw :: hB b h :: S) (.slice A n c) (.slice (some ⟨b, 0, none⟩) 1 1) fun p n c S1 => Keep I F I S1 ∧ AppD I S1 (.slice B m e) (.slice (some ⟨b2, 0, none⟩) 1 1) fun q m d S2 => K p n c q m d S2)) ∧
    (∀ b2, ∀ b, Keep I F I (hB b h :: dB b2 src dst g nw :: S) ∧
      AppH I (hB b h :: dB b2 src dst g nw :: S) (.slice A n c) (.slice (some ⟨b, 0, none⟩) 1 1) fun p n c S1 => Keep I F I S1 ∧ AppD I S1 (.slice B m e) (.slice (some ⟨b2, 0, none⟩) 1 1) fun q m d S2 => K p n c q m d S2) := by
  have hF : Sub F S := hs0.right.right
  have two : ∀ (p : Option Addr) (n c : Nat) (own1' T : SH) (b2 : Nat), OwnH (.slice p n c) (hs ++ [h]) own1' → Sub (own1' ++ (dB b2 src dst g nw :: (own2 ++ F))) T →
      AppD I T (.slice B m e) (.slice (some ⟨b2, 0, none⟩) 1 1) fun q m d S2 => K p n c q m d S2 := by
    intro p n c own1' T b2 ho hT
    refine AppS (el := encDl) (x := (src, dst, g, nw)) (own := own2) (F := own1' ++ F) encDl_len encDl_one (by decide) rfl (hT.re (by intro a; simp only [cnt_cons, cnt_app, cnt_nil]; omega)) h2 ((row1 encDl_len (src, dst, g, nw)).sub hT.right) (by omega) (by decide) ?_
    intro q m d own2' T2 ho2 hs2
    exact hK p n c q m d own1' own2' T2 ho ho2 (hs2.re (by intro a; simp only [cnt_cons, cnt_app, cnt_nil]; omega))
  refine ⟨fun b => ⟨keep_of (hF.skip _), ?_, fun b2 => ?_⟩, fun b2 b => ⟨keep_of ((hF.skip _).skip _), ?_⟩⟩
  · refine AppS (el := elH) (x := h) (F := own2 ++ F) elH_len elH_one (by decide) rfl (hs0.skip _) h1 (row1 (b := b) (S := S) elH_len h) (by omega) (by decide) ?_
    intro p n c own1' T ho hT
    refine ⟨keep_of hT.right.right, fun b2 => ?_⟩
    exact two p n c own1' _ b2 ho ((hT.cons (dB b2 src dst g nw)).re (by intro a; simp only [cnt_cons, cnt_app, cnt_nil]; omega))
  · refine AppS (el := elH) (x := h) (F := dB b2 src dst g nw :: (own2 ++ F)) elH_len elH_one (by decide) rfl (((hs0.skip (hB b h)).cons (dB b2 src dst g nw)).re (by intro a; simp only [cnt_cons, cnt_app, cnt_nil]; omega)) h1 ((row1 (b := b) (S := S) elH_len h).sub ((Sub.refl _).skip _)) (by omega) (by decide) ?_
    intro p n c own1' T ho hT
    exact ⟨keep_of hT.right.drop.right, two p n c own1' T b2 ho hT⟩
  · refine AppS (el := elH) (x := h) (F := dB b2 src dst g nw :: (own2 ++ F)) elH_len elH_one (by decide) rfl (((hs0.cons (dB b2 src dst g nw)).skip (hB b h)).re (by intro a; simp only [cnt_cons, cnt_app, cnt_nil]; omega)) h1 (row1 (b := b) (S := dB b2 src dst g nw :: S) elH_len h) (by omega) (by decide) ?_
    intro p n c own1' T ho hT
    exact ⟨keep_of hT.right.drop.right, two p n c own1' T b2 ho hT⟩
/-- zones in a row of zones -/
structure ZsOK (I : IMem) (S : SH) (hs : List Sl) (zs : List (List Rc)) : Prop where
  len : hs.length = zs.length
  ok : ∀ (i : Nat) (h : Sl) (z : List Rc), hs[i]? = some h → zs[i]? = some z → RowIn I S h.1 h.2.1 4 encR z
theorem ZsOK.keep {I J : IMem} {S T : SH} {hs : List Sl} {zs : List (List Rc)} (hk : Keep I S J T) (h : ZsOK I S hs zs) : ZsOK J T hs zs := ⟨h.len, fun i x z h1 h2 => (h.ok i x z h1 h2).keep hk⟩
theorem ZsOK.snoc {I : IMem} {S : SH} {hs : List Sl} {zs : List (List Rc)} {x : Sl} {z : List Rc} (h : ZsOK I S hs zs) (hz : RowIn I S x.1 x.2.1 4 encR z) : ZsOK I S (hs ++ [x]) (zs ++ [z]) := by
  refine ⟨by simp [h.len], fun i x' z' e1 e2 => ?_⟩
  rcases Nat.lt_or_ge i hs.length with g | g
  · rw [List.getElem?_append_left g] at e1
    rw [List.getElem?_append_left (by rw [← h.len]; exact g)] at e2
    exact h.ok i x' z' e1 e2
  · rw [List.getElem?_append_right g] at e1
    rw [List.getElem?_append_right (by rw [← h.len]; exact g), ← h.len] at e2
    obtain hi | ⟨n, hi⟩ : i - hs.length = 0 ∨ ∃ n, i - hs.length = n + 1 := by cases i - hs.length <;> simp
    · rw [hi] at e1 e2
      simp only [List.getElem?_cons_zero, Option.some.injEq] at e1 e2
      subst e1; subst e2
      exact hz
    · rw [hi] at e1; simp at e1
abbrev PartsW (W : World) (a : Option Addr) (len cap : Nat) : Prop := len ≤ cap ∧ cap ≤ maxLen ∧ ∃ xs : List Sl, SlIn (imW W) a len 1 (fun x => [.slice x.1 x.2.1 x.2.2]) xs ∧ ∀ x ∈ xs, ActsW W x.1 x.2.1 x.2.2
end Go.Proofs.YtdajglfbbcbgpaaDoor
