/- Events read of bytes: event.Decode. -/
import Derived.Test.YtkagfmlaolmdnaaDoorEv6
namespace Go.Proofs.YtkagfmlaolmdnaaDoor
open Go.Px
set_option linter.unusedVariables false
set_option linter.unusedSimpArgs false
set_option maxRecDepth 8000

def resE : Option Ev → Value
  | some e => .tuple #[vE e, .bool true]
  | none => .tuple #[vE e0, .bool false]
theorem txV_is (o : Option (ByteArray × ByteArray)) : txV o = .tuple #[.string ((o.map (·.1)).getD ⟨#[]⟩), .string ((o.map (·.2)).getD ⟨#[]⟩), .bool o.isSome] := by
  cases o with
  | none => rfl
  | some p => rfl
theorem setF {b k : Nat} {L T : SH} {e e' : Ev} {v : Value} {K : SH → Prop} (hs : Sub (Te b e :: L) T) (hk : k < 10) (hv : one v = true) (he : List.take k (elE e) ++ [v] ++ List.drop (k + 1) (elE e) = elE e') (h : ∀ T', Sub (Te b e' :: L) T' → K T') :
    StP T ((⟨b, 0, none⟩ : Addr).add k) [v] K := by
  rw [add_mk, Nat.zero_add]
  refine StP.of_sub hs (StP.list (o := k) (L := elE e) (by show k + 1 ≤ 10; omega) (by simp [hv]) ?_)
  rw [List.length_singleton, he]
  exact h
def evSet (tm : Int) (cl na : ByteArray) (ty zn : Int) (tr : Tg) (ac : Int) : Ev := ⟨tm, cl, na, ty, zn, tr, ac⟩
theorem setTr {b : Nat} {L T : SH} {e e' : Ev} {t : Tg} {K : SH → Prop} (hs : Sub (Te b e :: L) T) (he : e' = { e with tr := t }) (h : ∀ T', Sub (Te b e' :: L) T' → K T') :
    StP T ((⟨b, 0, none⟩ : Addr).add 5) [.int .i64 t.1, .string t.2.1, .string t.2.2.1, .int .i64 t.2.2.2] K := by
  subst he
  rw [add_mk, Nat.zero_add]
  refine StP.of_sub hs (StP.list (o := 5) (L := elE e) (Nat.le_of_ble_eq_true rfl) rfl ?_)
  exact h
theorem EDec_runs {b : ByteArray} {p : Option Addr} {n c : Nat} {I : IMem} {S : SH} (hb : BytesAt I S p n b) (hsz : b.size ≤ 9223372036854775807) (g : GL I) : Runs Tryd.prog 35 #[.slice p n c] I S fun v _ T => v = resE (decE b) ∧ T = S := by
  refine Runs.drop (event_Decode_fn _ _ _ _ _ _ ?_)
  unfold event_Decode
  intro b2 b4
  refine ⟨b, hb.tl.tl, (Get32_runs b hsz _ _).mono ?_⟩
  rintro v J T hle ⟨rfl, rfl⟩
  by_cases h4 : 4 ≤ b.size
  · rw [if_pos h4]
    refine ⟨_, _, rfl, bcase_f rfl ?_⟩
    have g0 := g16_lt b 0; have g2 := g16_lt b 2
    have ew : IntKind.wrap .i64 ((g16 b 0 * 65536 + g16 b 2 : Nat) : Int) = ((g16 b 0 * 65536 + g16 b 2 : Nat) : Int) := wrap_i64 (by omega) (by omega)
    rw [ew]
    refine setF (b := b4) (k := 0) (e := e0) (e' := { e0 with tm := ((g16 b 0 * 65536 + g16 b 2 : Nat) : Int) }) (L := Te b2 e0 :: S) (Sub.refl _) (by decide) rfl rfl fun T1 hT1 => ?_
    refine ⟨by decide, by omega, (text_runs _ _ _).mono ?_⟩
    rintro v J1 T hle1 ⟨rfl, rfl⟩
    rw [show ((4 : Int).toNat) = 4 by rfl]
    refine ⟨_, _, _, txV_is _, (text_runs _ _ _).mono ?_⟩
    rintro v J2 T hle2 ⟨rfl, rfl⟩
    refine ⟨_, _, _, txV_is _, ?_⟩
    have fail : ∀ (J' : IMem) (T' : SH) (s c n : ByteArray) (k : Int), Sub (Te b2 e0 :: S) T' → decE b = none → event_Decode_b2 (fun v _ T => ∃ L, Sub L T ∧ v = resE (decE b) ∧ L = S) ⟨b2, 0, none⟩ ⟨b4, 0, none⟩ s c n k true J' T' := by
      intro J' T' s c n k h1 h2
      unfold event_Decode_b2
      refine bcase_t rfl (setE (e := e0) (x := e0) (K := fun v T => ∃ L, Sub L T ∧ (Value.tuple #[v, .bool false]) = resE (decE b) ∧ L = S) h1 fun T2 hT2 => ⟨S, hT2, by rw [h2]; rfl, rfl⟩)
    cases h1 : txF (b.extract 4 b.size) with
    | none =>
      have hd : decE b = none := by rw [decE, if_neg (by omega), h1]
      refine (Get16_runs _ 0 (by decide) (by show (0 : Nat) ≤ _; exact Nat.zero_le _) _ _).mono ?_
      rintro v J3 T hle3 ⟨rfl, rfl⟩
      rw [if_neg (by decide)]
      refine ⟨_, _, rfl, ?_⟩
      unfold event_Decode_b1
      exact bcase_t rfl (fail _ _ _ _ _ _ hT1.drop hd)
    | some q =>
      obtain ⟨cl, s2⟩ := q
      dsimp only [Option.map, Option.getD]
      have p1 := (txF_some h1).1
      have z1 : s2.size ≤ b.size := by
        have e1 := congrArg ByteArray.size p1
        rw [ByteArray.size_append, ex_sz (Nat.le_refl _)] at e1
        omega
      cases h2 : txF s2 with
      | none =>
        have hd : decE b = none := by rw [decE, if_neg (by omega), h1]; dsimp only; rw [h2]
        refine (Get16_runs _ 0 (by decide) (by show (0 : Nat) ≤ _; exact Nat.zero_le _) _ _).mono ?_
        rintro v J3 T hle3 ⟨rfl, rfl⟩
        rw [if_neg (by decide)]
        refine ⟨_, _, rfl, ?_⟩
        unfold event_Decode_b1
        exact bcase_f rfl (bcase_t rfl (fail _ _ _ _ _ _ hT1.drop hd))
      | some q =>
        obtain ⟨na, s3⟩ := q
        dsimp only
        have p2 := (txF_some h2).1
        have z2 : s3.size ≤ s2.size := by
          have e1 := congrArg ByteArray.size p2
          rw [ByteArray.size_append] at e1
          omega
        refine (Get16_runs s3 0 (by decide) (by omega) _ _).mono ?_
        rintro v J3 T hle3 ⟨rfl, rfl⟩
        by_cases h34 : s3.size < 4
        · have hd : decE b = none := by rw [decE, if_neg (by omega), h1]; dsimp only; rw [h2]; dsimp only; rw [if_pos h34]
          by_cases h32 : 0 + 2 ≤ s3.size
          · rw [if_pos h32]
            refine ⟨_, _, rfl, ?_⟩
            unfold event_Decode_b1
            refine bcase_f rfl (bcase_f rfl (bcase_f rfl ?_))
            rw [decide_eq_true (by omega)]
            exact fail _ _ _ _ _ _ hT1.drop hd
          · rw [if_neg h32]
            refine ⟨_, _, rfl, ?_⟩
            unfold event_Decode_b1
            exact bcase_f rfl (bcase_f rfl (bcase_t rfl (fail _ _ _ _ _ _ hT1.drop hd)))
        · rw [if_pos (by omega)]
          refine ⟨_, _, rfl, ?_⟩
          unfold event_Decode_b1
          refine bcase_f rfl (bcase_f rfl (bcase_f rfl ?_))
          rw [decide_eq_false (by omega)]
          unfold event_Decode_b2
          refine bcase_f rfl ?_
          unfold event_Decode_b3
          refine ⟨by decide, by omega, (text_runs _ _ _).mono ?_⟩
          rintro v J4 T hle4 ⟨rfl, rfl⟩
          rw [show ((4 : Int).toNat) = 4 by rfl]
          have g4 := ((((g.le hle).le hle1).le hle2).le hle3).le hle4
          refine ⟨_, _, _, txV_is _, (Decode_runs _ g4 _).mono ?_⟩
          rintro v J5 T hle5 ⟨rfl, rfl⟩
          obtain ⟨tr, five, htr, hf0, hf1⟩ : ∃ (tr : Tg) (five : Bool), resT (decF ((Option.map (fun x => x.1) (txF (s3.extract 4 s3.size))).getD ⟨#[]⟩)) = .tuple #[vT tr, .bool five] ∧ (five = false → decF ((Option.map (fun x => x.1) (txF (s3.extract 4 s3.size))).getD ⟨#[]⟩) = none) ∧ (five = true → decF ((Option.map (fun x => x.1) (txF (s3.extract 4 s3.size))).getD ⟨#[]⟩) = some tr) := by
            cases decF ((Option.map (fun x => x.1) (txF (s3.extract 4 s3.size))).getD ⟨#[]⟩) with
            | none => exact ⟨_, _, rfl, fun _ => rfl, fun h => by cases h⟩
            | some t => exact ⟨_, _, rfl, fun h => (by cases h), fun _ => rfl⟩
          refine ⟨_, _, _, _, _, htr, fun b17 => StP.tg (x := t0) (t := tr) ?_⟩
          unfold event_Decode_b4
          have hS : Sub (Te b4 { e0 with tm := ((g16 b 0 * 65536 + g16 b 2 : Nat) : Int) } :: (b17, .cells (elT tr).toArray 29 (0, 0)) :: Te b2 e0 :: S) ((b17, .cells (elT tr).toArray 29 (0, 0)) :: _) :=
            Sub.trans ⟨[], by rw [List.append_nil]; exact List.Perm.swap _ _ _⟩ (hT1.cons (b17, .cells (elT tr).toArray 29 (0, 0)))
          have kp : ∀ {e : Ev} {T : SH}, Sub (Te b4 e :: (b17, .cells (elT tr).toArray 29 (0, 0)) :: Te b2 e0 :: S) T → Keep J5 [(b17, .cells (elT tr).toArray 29 (0, 0))] J5 T := fun h => Sub.keep (IMem.le.refl _) (Sub.trans ⟨Te b2 e0 :: S, List.Perm.refl _⟩ h.drop)
          obtain ⟨d2, hd2⟩ := at_ok (s := s3) (k := 2) (by omega)
          obtain ⟨d3, hd3⟩ := at_ok (s := s3) (k := 3) (by omega)
          have q2 := d2.toNat_lt; have q3 := d3.toNat_lt
          obtain ⟨c0, c1, c2, c3⟩ := tgC (I := J5) (S := ([] : SH)) (b := b17) (t := tr)
          refine ⟨[(b17, .cells (elT tr).toArray 29 (0, 0))], kp hS, d2, by decide, hd2, d3, by decide, hd3, _, c0, _, c1, _, c2, _, c3, ?_⟩
          have ez : IntKind.wrap .i64 (d2.toNat : Int) = (bat s3 2 : Int) := by rw [bat_of hd2]; exact wrap_i64 (by omega) (by omega)
          have ea : IntKind.wrap .i64 (d3.toNat : Int) = (bat s3 3 : Int) := by rw [bat_of hd3]; exact wrap_i64 (by omega) (by omega)
          rw [ez, ea]
          refine setF (k := 1) (e' := ⟨((g16 b 0 * 65536 + g16 b 2 : Nat) : Int), cl, ⟨#[]⟩, 0, 0, t0, 0⟩) hS (by decide) rfl rfl fun T2 hT2 => ⟨kp hT2, ?_⟩
          refine setF (k := 2) (e' := ⟨((g16 b 0 * 65536 + g16 b 2 : Nat) : Int), cl, na, 0, 0, t0, 0⟩) hT2 (by decide) rfl rfl fun T3 hT3 => ⟨kp hT3, ?_⟩
          refine setF (k := 3) (e' := ⟨((g16 b 0 * 65536 + g16 b 2 : Nat) : Int), cl, na, (g16 s3 0 : Int), 0, t0, 0⟩) hT3 (by decide) rfl rfl fun T4 hT4 => ⟨kp hT4, ?_⟩
          refine setF (k := 4) (e' := ⟨((g16 b 0 * 65536 + g16 b 2 : Nat) : Int), cl, na, (g16 s3 0 : Int), (bat s3 2 : Int), t0, 0⟩) hT4 (by decide) rfl rfl fun T5 hT5 => ⟨kp hT5, ?_⟩
          refine setF (k := 9) (e' := ⟨((g16 b 0 * 65536 + g16 b 2 : Nat) : Int), cl, na, (g16 s3 0 : Int), (bat s3 2 : Int), t0, (bat s3 3 : Int)⟩) hT5 (by decide) rfl rfl fun T6 hT6 => ⟨kp hT6, ?_⟩
          refine setTr (e' := evOf b s3 cl na tr) hT6 rfl fun T7 hT7 => ?_
          unfold event_Decode_b5
          have fail6 : ∀ (J' : IMem), decE b = none → event_Decode_b6 (fun v _ T => ∃ L, Sub L T ∧ v = resE (decE b) ∧ L = S) ⟨b2, 0, none⟩ ⟨b4, 0, none⟩ true J' T7 := by
            intro J' h2
            unfold event_Decode_b6
            refine bcase_t rfl (setE (e := e0) (x := e0) (K := fun v T => ∃ L, Sub L T ∧ (Value.tuple #[v, .bool false]) = resE (decE b) ∧ L = S) hT7.drop.drop fun T2 hT2 => ⟨S, hT2, by rw [h2]; rfl, rfl⟩)
          cases h3 : txF (s3.extract 4 s3.size) with
          | none =>
            exact bcase_t rfl (fail6 _ (by rw [decE, if_neg (by omega), h1]; dsimp only; rw [h2]; dsimp only; rw [if_neg h34, h3]))
          | some r =>
            obtain ⟨rel, rest⟩ := r
            rw [h3] at hf0 hf1
            dsimp only [Option.map, Option.getD] at hf0 hf1 ⊢
            refine bcase_f rfl (bcase_of (fun h5 => ?_) (fun h5 => ?_))
            · have h5' : five = false := by simpa using h5
              exact fail6 _ (by rw [decE, if_neg (by omega), h1]; dsimp only; rw [h2]; dsimp only; rw [if_neg h34, h3]; dsimp only; rw [hf0 h5'])
            · have h5' : five = true := by simpa using h5
              refine bcase_of (fun h6 => ?_) (fun h6 => ?_)
              · have hne : rest ≠ ⟨#[]⟩ := fun e => by rw [e, tl_eq] at h6; cases h6
                exact fail6 _ (by rw [decE, if_neg (by omega), h1]; dsimp only; rw [h2]; dsimp only; rw [if_neg h34, h3]; dsimp only; rw [hf1 h5']; dsimp only; rw [if_neg (fun h => hne h.1)])
              · have he : rest = ⟨#[]⟩ := by
                  refine tl_inj ?_
                  simpa using h6
                have cc := evC (I := J5) hT7
                refine ⟨_, cc.c0, _, cc.c1, _, cc.c2, _, cc.c3, _, cc.c4, _, cc.c5, _, cc.c6, _, cc.c7, _, cc.c8, _, cc.c9, (EMay_runs (evOf b s3 cl na tr) (g4.le hle5) _).mono ?_⟩
                rintro v J6 T hle6 ⟨rfl, rfl⟩
                refine ⟨_, rfl, ?_⟩
                cases hmay : mayEb (evOf b s3 cl na tr) with
                | false =>
                  exact fail6 _ (by rw [decE, if_neg (by omega), h1]; dsimp only; rw [h2]; dsimp only; rw [if_neg h34, h3]; dsimp only; rw [hf1 h5']; dsimp only; rw [if_neg (fun h => by rw [hmay] at h; cases h.2)])
                | true =>
                  have hd0 : decE b = some (evOf b s3 cl na tr) := by rw [decE, if_neg (by omega), h1]; dsimp only; rw [h2]; dsimp only; rw [if_neg h34, h3]; dsimp only; rw [hf1 h5']; dsimp only; rw [if_pos ⟨he, hmay⟩]
                  unfold event_Decode_b6
                  refine bcase_f rfl ?_
                  unfold event_Decode_b7
                  have cc := evC (I := J6) hT7
                  refine ⟨_, cc.c0, _, cc.c1, _, cc.c2, _, cc.c3, _, cc.c4, _, cc.c5, _, cc.c6, _, cc.c7, _, cc.c8, _, cc.c9, ?_⟩
                  exact setE (e := evOf b s3 cl na tr) (x := e0) (K := fun v T => ∃ L, Sub L T ∧ (Value.tuple #[v, .bool true]) = resE (decE b) ∧ L = S) hT7.drop.drop fun T2 hT2 => ⟨S, hT2, by rw [hd0]; rfl, rfl⟩
  · rw [if_neg h4]
    refine ⟨_, _, rfl, bcase_t rfl ?_⟩
    have hd : decE b = none := by rw [decE, if_pos (by omega)]
    exact setE (e := e0) (x := e0) (K := fun v T => ∃ L, Sub L T ∧ (Value.tuple #[v, .bool false]) = resE (decE b) ∧ L = S) (S := S) ((Sub.refl (Te b2 e0 :: S)).skip _) fun T2 hT2 => ⟨S, hT2, by rw [hd]; rfl, rfl⟩
end Go.Proofs.YtkagfmlaolmdnaaDoor
