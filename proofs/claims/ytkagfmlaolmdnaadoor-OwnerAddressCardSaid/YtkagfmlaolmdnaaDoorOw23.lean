/- The rows on owners: names read back label by label. -/
import Derived.Test.YtkagfmlaolmdnaaDoorOw22
namespace Go.Proofs.YtkagfmlaolmdnaaDoor
open Go.Px
set_option linter.unusedVariables false
set_option linter.unusedSimpArgs false
set_option maxRecDepth 8000

abbrev Tt (b : Nat) (t : Tg) : Nat × Obj := (b, .cells (elT t).toArray 29 (0, 0))
abbrev RT : Value → IMem → SH → Prop := fun v _ _ => v = .bool true
theorem back4 {b9 b12 : Nat} {t : Tg} {U : List ByteArray} {lp wp : Option Addr} {lc wc : Nat} {ownL ownW : SH} {I : IMem} {S : SH} (hl : OwnS (.slice lp U.length lc) U ownL) (hlen : U.length ≤ 1000) (hw : OwnS (.slice wp U.length wc) U ownW) (hs : Sub (ownW ++ (ownL ++ [Tt b9 t, Tt b12 t])) S) :
    bolterlaw13_OwnerBack_b4 RT ⟨b9, 0, none⟩ true ⟨b12, 0, none⟩ true lp U.length lc wp U.length wc I S := by
  unfold bolterlaw13_OwnerBack_b4
  have h1 : Sub [Tt b9 t, Tt b12 t] S := hs.right.right
  obtain ⟨c0, c1, c2, c3⟩ := tgCell (I := I) (h1.perm (List.Perm.swap _ _ _))
  obtain ⟨d0, d1, d2, d3⟩ := tgCell (I := I) h1
  refine bcase_t rfl (bcase_t rfl ⟨_, c0, _, c1, _, c2, _, c3, _, d0, _, d1, _, d2, _, d3, bcase_t ((tg_eq).2 rfl) ((same_runs ((OwnS.row hl).sub hs.right.left) ((OwnS.row hw).sub hs.left) (by omega)).mono ?_)⟩)
  rintro v J T _ ⟨rfl, rfl⟩
  refine ⟨_, rfl, ?_⟩
  unfold bolterlaw13_OwnerBack_b5
  rw [decide_eq_true rfl]
theorem back11 {b9 b12 : Nat} {t : Tg} {U Wl : List ByteArray} {x : Bool} {lp wp : Option Addr} {lc wc : Nat} {ownL ownW : SH} {I : IMem} {S : SH} (hl : OwnS (.slice lp U.length lc) U ownL) (hlen : U.length ≤ 1000) (hw : OwnS (.slice wp Wl.length wc) Wl ownW)
    (hU : U = Wl ++ (if x then [ndB] else [])) (hs : Sub (ownW ++ (ownL ++ [Tt b9 t, Tt b12 t])) S) :
    bolterlaw13_OwnerBack_b11 RT ⟨b9, 0, none⟩ true ⟨b12, 0, none⟩ true lp U.length lc wp Wl.length wc x I S := by
  unfold bolterlaw13_OwnerBack_b11
  have hwl : Wl.length ≤ 1000 := by rw [hU, List.length_append] at hlen; omega
  refine bcase_of (fun h => ?_) (fun h => ?_)
  · refine AppSs (xs := []) (ys := Wl) (own := []) (F := ownL ++ [Tt b9 t, Tt b12 t]) hs.right OwnR.nil ((OwnS.row hw).sub hs.left) (by rw [List.length_nil]; omega) ?_
    intro p n c own' T ho hT
    rw [List.nil_append] at ho
    intro b68
    refine AppS1 (xs := Wl) hT ho (by omega) ?_
    intro p2 n2 c2 own2 T2 ho2 hT2
    have e : Wl ++ [ndB] = U := by rw [hU, if_pos h]
    have ho3 : OwnS (.slice p2 n2 c2) U own2 := by rw [← e]; exact ho2
    obtain rfl : n2 = U.length := OwnR.len ho3
    exact back4 hl hlen ho3 hT2
  · have e : Wl = U := by rw [hU, h]; simp
    subst e
    exact back4 hl hlen hw hs
theorem back10 {b9 b12 : Nat} {t : Tg} {U Wl : List ByteArray} {lp wp : Option Addr} {lc wc : Nat} {ownL ownW : SH} {I : IMem} {S : SH} (hl : OwnS (.slice lp U.length lc) U ownL) (hlen : U.length ≤ 1000) (hw : OwnS (.slice wp Wl.length wc) Wl ownW)
    (hU : U = Wl ++ sufS t.1) (hs : Sub (ownW ++ (ownL ++ [Tt b9 t, Tt b12 t])) S) :
    bolterlaw13_OwnerBack_b10 RT ⟨b9, 0, none⟩ true ⟨b12, 0, none⟩ true lp U.length lc wp Wl.length wc I S := by
  unfold bolterlaw13_OwnerBack_b10
  have d0 := (tgCell (I := I) hs.right.right).1
  refine ⟨_, d0, bcase_beq (fun h => ?_) (fun h => ⟨_, d0, ?_⟩)⟩
  · exact back11 hl hlen hw (by rw [hU, sufS, if_pos (.inl h)]; rfl) hs
  · refine back11 hl hlen hw ?_ hs
    rw [hU, sufS]
    by_cases h5 : t.1 = 5
    · rw [if_pos (.inr h5), if_pos (by rw [h5]; rfl)]
    · rw [if_neg (by omega), if_neg (by simpa using h5)]
theorem back9 {b9 b12 : Nat} {t : Tg} {U Wl : List ByteArray} {x : Bool} {lp wp : Option Addr} {lc wc : Nat} {ownL ownW : SH} {I : IMem} {S : SH} (hl : OwnS (.slice lp U.length lc) U ownL) (hlen : U.length ≤ 1000) (hw : OwnS (.slice wp Wl.length wc) Wl ownW)
    (hU : U = (if x then [starB] else []) ++ Wl ++ sufS t.1) (hs : Sub (ownW ++ (ownL ++ [Tt b9 t, Tt b12 t])) S) :
    bolterlaw13_OwnerBack_b9 RT ⟨b9, 0, none⟩ true ⟨b12, 0, none⟩ true lp U.length lc wp Wl.length wc x I S := by
  unfold bolterlaw13_OwnerBack_b9
  have hwl : Wl.length ≤ 1000 := by rw [hU, List.length_append, List.length_append] at hlen; omega
  refine bcase_of (fun h => ?_) (fun h => ?_)
  · intro b55
    have ho0 : OwnS (.slice (some ⟨b55, 0, none⟩) 1 1) [starB] [(b55, .cells #[.string ⟨#[42]⟩] 9 (0, 0))] := OwnS.mk (xs := [starB]) (rest := []) rfl (by decide)
    refine AppSs (xs := [starB]) (ys := Wl) (own := [(b55, .cells #[.string ⟨#[42]⟩] 9 (0, 0))]) (F := ownL ++ [Tt b9 t, Tt b12 t]) (hs.right.cons _) ho0 ((OwnS.row hw).sub (hs.left.skip _)) (by rw [List.length_singleton]; omega) ?_
    intro p n c own' T ho hT
    obtain rfl : n = ([starB] ++ Wl).length := OwnR.len ho
    exact back10 hl hlen ho (by rw [hU, if_pos h]) hT
  · exact back10 hl hlen hw (by rw [hU, h]; simp) hs
theorem back8 {b9 b12 : Nat} {t : Tg} {U Wl : List ByteArray} {lp wp : Option Addr} {lc wc : Nat} {ownL ownW : SH} {I : IMem} {S : SH} (hl : OwnS (.slice lp U.length lc) U ownL) (hlen : U.length ≤ 1000) (hw : OwnS (.slice wp Wl.length wc) Wl ownW)
    (hU : U = preS t.1 ++ Wl ++ sufS t.1) (hs : Sub (ownW ++ (ownL ++ [Tt b9 t, Tt b12 t])) S) :
    bolterlaw13_OwnerBack_b8 RT ⟨b9, 0, none⟩ true ⟨b12, 0, none⟩ true lp U.length lc wp Wl.length wc I S := by
  unfold bolterlaw13_OwnerBack_b8
  have d0 := (tgCell (I := I) hs.right.right).1
  refine ⟨_, d0, bcase_beq (fun h => ?_) (fun h => ⟨_, d0, ?_⟩)⟩
  · exact back9 hl hlen hw (by rw [hU, preS, if_pos (.inl h)]; rfl) hs
  · refine back9 hl hlen hw ?_ hs
    rw [hU, preS]
    by_cases h5 : t.1 = 5
    · rw [if_pos (.inr h5), if_pos (by rw [h5]; rfl)]
    · rw [if_neg (by omega), if_neg (by simpa using h5)]
theorem back_lab {b9 b12 : Nat} {t : Tg} {U : List ByteArray} {lp : Option Addr} {lc : Nat} {ownL : SH} {I : IMem} {S : SH} {w : ByteArray} (ht : GoodP t) (hl : OwnS (.slice lp U.length lc) U ownL) (hlen : U.length ≤ 1000) (hU : U = pfxL t.2.2.1 t.2.2.2 ++ [w]) (hs : Sub (ownL ++ [Tt b9 t, Tt b12 t]) S) :
    Runs Tryd.prog 19 #[.agg #[.string t.2.2.1, .int .i64 t.2.2.2]] I S fun v I1 S1 => ∃ x88 x88n x88c, v = .slice x88 x88n x88c ∧
      ∀ b89 : Nat, AppG 9 1 16 [.string ⟨#[]⟩] (some (.slice 9)) I1 ((b89, .cells #[.string w] 9 (0, 0)) :: S1) (.slice x88 x88n x88c) (.slice (some ⟨b89, 0, none⟩) 1 1) fun x90 x90n x90c S1' =>
      bolterlaw13_OwnerBack_b4 RT ⟨b9, 0, none⟩ true ⟨b12, 0, none⟩ true lp U.length lc x90 x90n x90c I1 S1' := by
  refine (lab2 ht.may I S).mono ?_
  rintro v J T hle ⟨own, ho, hT⟩
  obtain ⟨p, c, rfl⟩ := ownS_slice ho
  refine ⟨_, _, _, rfl, fun b89 => AppS1 (F := ownL ++ [Tt b9 t, Tt b12 t]) (own := own) ?_ ho ?_ ?_⟩
  · exact (Sub.trans (by obtain ⟨G, hG⟩ := hs; exact ⟨G, by rw [List.append_assoc]; exact List.Perm.append_left own hG⟩) hT)
  · have := pfx_len (a := t.2.2.1) (n := t.2.2.2); omega
  · intro p2 n2 c2 own2 T2 ho2 hT2
    rw [← hU] at ho2
    obtain rfl : n2 = U.length := OwnR.len ho2
    exact back4 hl hlen ho2 hT2
theorem OwnerBack_row (W : World) (g : GL (imW W)) (kind : Int) (a : Option Addr) (len cap : Nat) (six : Bool) (bits : Int) (w0 : (Lit.int .u8 kind).wf = true) (w1 : U8W W (a, len, cap)) (z1 : len ≤ 140737488355328) (w3 : (Lit.int .u8 bits).wf = true) :
    Runs Tryd.prog 5 #[.int .u8 kind, .slice a len cap, .bool six, .int .u8 bits] (imW W) [] fun v _ _ => v = .bool true := by
  obtain ⟨ns, rfl, hx, hp⟩ := u8_open w1
  refine bolterlaw13_OwnerBack_fn _ _ _ _ _ _ _ _ _ ?_
  unfold bolterlaw13_OwnerBack
  refine (awake_runs g _).mono ?_
  rintro v J T hle ⟨rfl, rfl⟩
  refine ⟨_, rfl, bcase_f rfl ((Trig_runs six (rowUp hx hle) (by omega) hp (u8_wf w0) (u8_wf w3)).mono ?_)⟩
  rintro v J1 T1 hle1 ⟨⟨t, rfl, hk, hg⟩, hs1⟩
  refine ⟨_, _, _, _, rfl, fun b9 => StP.tg (x := t0) (t := t) ?_⟩
  obtain ⟨c0, c1, c2, c3⟩ := tgC (I := J1) (S := T1) (b := b9) (t := t)
  have g1 := (g.le hle).le hle1
  refine ⟨_, c0, _, c1, _, c2, _, c3, (Encode_runs t g1 _).mono ?_⟩
  rintro v J2 T hle2 ⟨rfl, rfl⟩
  obtain ⟨he, hlab, hsz⟩ := enc_good hg
  rw [he]
  refine ⟨_, _, rfl, (Decode_runs _ (g1.le hle2) _).mono ?_⟩
  rintro v J3 T hle3 ⟨rfl, rfl⟩
  rw [enc_dec he]
  refine ⟨_, _, _, _, _, rfl, fun b12 => StP.tg (x := t0) (t := t) ((Labels_runs _ _ _).mono ?_)⟩
  rintro v J4 T4 hle4 ⟨own, hc, hs4⟩
  rw [labN_nm hlab hsz] at hc
  rcases hc with ⟨h, _⟩ | ⟨ls, p, m, c, h, rfl, ho⟩
  · cases h
  obtain rfl := Option.some.inj h
  obtain rfl : m = (encU t).length := OwnR.len ho
  have hlen : (encU t).length ≤ 1000 := by
    have := wire_len (encU t)
    rw [nm_size] at hsz; omega
  refine ⟨_, _, _, _, rfl, ?_⟩
  have hs : Sub (own ++ [Tt b9 t, Tt b12 t]) T4 := Sub.trans ⟨T1, by rw [List.append_assoc]; exact List.Perm.append_left own (List.Perm.swap _ _ _)⟩ hs4
  obtain ⟨d0, d1, d2, d3⟩ := tgCell (I := J4) hs.right
  unfold bolterlaw13_OwnerBack_b1 bolterlaw13_OwnerBack_b2 bolterlaw13_OwnerBack_b3
  refine ⟨_, d0, ?_⟩
  rcases hg with hg | hg
  · have hU := encU_p hg
    refine bcase_beq (fun h => ?_) (fun h0 => ?_)
    · exact ⟨_, d2, _, d3, back_lab hg ho hlen (by rw [hU, h]; rfl) hs⟩
    · unfold bolterlaw13_OwnerBack_b6
      refine bcase_beq (fun h => ?_) (fun h3 => ?_)
      · exact ⟨_, d2, _, d3, back_lab hg ho hlen (by rw [hU, h]; rfl) hs⟩
      · unfold bolterlaw13_OwnerBack_b7
        have h6 : t.1 = 6 := by have := hg.kind; omega
        exact bcase_t (by rw [h6]; rfl) ⟨_, d2, _, d3, back_lab hg ho hlen (by rw [hU, h6]; rfl) hs⟩
  · obtain ⟨ls, hn, _⟩ := good_name hg
    have hU := encU_n hn
    have hkk := hg.kind
    refine bcase_f (by simp; omega) ?_
    unfold bolterlaw13_OwnerBack_b6
    refine bcase_f (by simp; omega) ?_
    unfold bolterlaw13_OwnerBack_b7
    refine bcase_f (by simp; omega) ⟨_, d1, (Labels_runs _ _ _).mono ?_⟩
    rintro v J5 T5 hle5 ⟨own5, hc, hs5⟩
    rw [hn.name, labN_nm (fun l hl => (hn.labs l hl).lab) hn.size] at hc
    rcases hc with ⟨h, _⟩ | ⟨ls', p', m', c', h, rfl, ho5⟩
    · cases h
    obtain rfl := Option.some.inj h
    obtain rfl : m' = ls.length := OwnR.len ho5
    refine ⟨_, _, _, _, rfl, back8 ho hlen ho5 hU ?_⟩
    obtain ⟨G, hG⟩ := hs
    exact Sub.trans ⟨G, by rw [List.append_assoc]; exact List.Perm.append_left own5 hG⟩ hs5
end Go.Proofs.YtkagfmlaolmdnaaDoor
