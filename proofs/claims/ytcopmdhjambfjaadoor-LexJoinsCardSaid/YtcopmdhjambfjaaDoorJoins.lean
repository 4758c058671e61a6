/-
  THE LAW ON JOINED TEXTS.
-/
import Derived.Test.YtcopmdhjambfjaaDoorTexts
import Derived.Test.YtcopmdhjambfjaaDoorJoined
namespace Go.Proofs.YtcopmdhjambfjaaDoor
open Go.Eng

set_option maxRecDepth 100000

def sJ (s : Str) (a b c : List TokR) (e1 e2 e3 : Int) (q1 q2 q3 : PosR) (i : Int) : St Pl :=
  mkS 169 [(0, .str s), (4, .bool false), (5, .pl (pToks a) .any), (7, .pl (pToks b) .any), (9, .pl (pToks c) .any), (11, dI i)] [(10, .box false (dgC e3 q3)), (8, .box false (dgC e2 q2)), (6, .box false (dgC e1 q1))]

section
variable (s : Str) (a b c : List TokR) (e1 e2 e3 : Int) (q1 q2 q3 : PosR) (i : Nat)
def jcX : TokR := c.getD i default
def jbI : Int := w64 (w64 ((i : Int) - (a.length : Int)) + 1)
def jbY : TokR := b.getD (jbI a i).toNat default
def jcmp (x y : TokR) : Option (Ex × St Pl) := bif (bif (bif (bif x.kind != y.kind then true else !(x.s == y.s)) then true else x.n != y.n) then true else (x.parts.length : Int) != (y.parts.length : Int)) then some (.ret, sJ s a b c e1 e2 e3 q1 q2 q3 i)
  else some (.normal, sJ s a b c e1 e2 e3 q1 q2 q3 (w64 ((i : Int) + 1)))
def jL : Option (Ex × St Pl) := lt_ i c.length (ix_ i c.length (bif decide ((i : Int) < w64 ((a.length : Int) - 1)) then ix_ i a.length (jcmp s a b c e1 e2 e3 q1 q2 q3 i (jcX c i) (a.getD i default))
  else ck_ ((decide (0 ≤ jbI a i) && decide (jbI a i < (b.length : Int))) || false)
    (bif (bif (jcX c i).p.at' != w64 (w64 ((jbY a b i).p.at' + (s.length : Int)) + 1) then true else (jcX c i).p.col != (jbY a b i).p.col) then some (.ret, sJ s a b c e1 e2 e3 q1 q2 q3 i)
      else jcmp s a b c e1 e2 e3 q1 q2 q3 i (jcX c i) (jbY a b i)))) (some (.exit 0, sJ s a b c e1 e2 e3 q1 q2 q3 i))

noncomputable abbrev evJ (S : St Pl) := evX tLw noTL noL 4 (loopAt 3 0) [0, 4, 5, 7, 9, 11] [12, 13] [] [10, 8, 6] S
theorem b3 : evJ (sJ s a b c e1 e2 e3 q1 q2 q3 i) = jL s a b c e1 e2 e3 q1 q2 q3 i := by kernel_rfl
end
theorem ids3 : (loopsAt 3).length = 1 ∧ firstId (loopAt 3 0) = 13 ∧ loopsOf (loopAt 3 0) = [] := ⟨by kernel_rfl, by kernel_rfl, by kernel_rfl⟩

/-- What must hold of three lists of tokens. -/
structure GoodJ (s : Str) (a b c : List TokR) : Prop where
  len : c.length + 1 = a.length + b.length
  le : 1 ≤ a.length
  left : ∀ i, i + 1 < a.length → c.getD i default = a.getD i default
  right : ∀ i, i < b.length → TokRel (s.length + 1) (c.getD (a.length - 1 + i) default) (b.getD i default) ∧ 0 ≤ (b.getD i default).p.at' ∧ (b.getD i default).p.at' ≤ 100000
noncomputable def goodJ (s : Str) (a b c : List TokR) : Bool := @decide (GoodJ s a b c) (Classical.propDecidable _)
theorem goodJ_iff {s : Str} {a b c : List TokR} : goodJ s a b c = true ↔ GoodJ s a b c := by
  unfold goodJ
  exact @decide_eq_true_iff _ (Classical.propDecidable _)

theorem jcmp_eq {s : Str} {a b c : List TokR} {e1 e2 e3 : Int} {q1 q2 q3 : PosR} {i : Nat} {x y : TokR} (hi : i ≤ big) (h1 : x.kind = y.kind) (h2 : x.s = y.s) (h3 : x.n = y.n) (h4 : x.parts.length = y.parts.length) :
    jcmp s a b c e1 e2 e3 q1 q2 q3 i x y = some (.normal, sJ s a b c e1 e2 e3 q1 q2 q3 ((i + 1 : Nat) : Int)) := by
  unfold jcmp
  rw [h1, h2, h3, h4, bne, bne, bne, beq_self_eq_true, beq_self_eq_true, beq_self_eq_true, beq_self_eq_true, show w64 ((i : Int) + 1) = ((i + 1 : Nat) : Int) from wrap_nat hi]
  rfl

theorem jL_eq {s : Str} {a b c : List TokR} {e1 e2 e3 : Int} {q1 q2 q3 : PosR} {i : Nat} (hs : s.length ≤ 100000) (ha : a.length ≤ 100000) (hb : b.length ≤ 100000) (hg : GoodJ s a b c) (hi : i < c.length) :
    jL s a b c e1 e2 e3 q1 q2 q3 i = some (.normal, sJ s a b c e1 e2 e3 q1 q2 q3 ((i + 1 : Nat) : Int)) := by
  have hbig : big = 140737488355328 := rfl
  have hlen := hg.len
  have hle := hg.le
  unfold jL
  rw [lt_t hi, ix_t hi, show w64 ((a.length : Int) - 1) = (a.length : Int) - 1 from wrap_in _ (by omega)]
  by_cases h : i + 1 < a.length
  · rw [decide_eq_true (show (i : Int) < (a.length : Int) - 1 by omega), cond_true, ix_t (by omega)]
    have := hg.left i h
    unfold jcX
    rw [this]
    exact jcmp_eq (by omega) rfl rfl rfl rfl
  · rw [decide_eq_false (show ¬ (i : Int) < (a.length : Int) - 1 by omega), cond_false]
    have hI : jbI a i = ((i + 1 - a.length : Nat) : Int) := by
      unfold jbI
      rw [show w64 ((i : Int) - (a.length : Int)) = (i : Int) - (a.length : Int) from wrap_in _ (by omega), show w64 ((i : Int) - (a.length : Int) + 1) = (i : Int) - (a.length : Int) + 1 from wrap_in _ (by omega)]
      omega
    obtain ⟨hr, h0, h1⟩ := hg.right (i + 1 - a.length) (by omega)
    rw [show a.length - 1 + (i + 1 - a.length) = i by omega] at hr
    unfold jbY jcX
    rw [hI, Int.toNat_natCast, ck_t (by rw [decide_eq_true (show (0 : Int) ≤ ((i + 1 - a.length : Nat) : Int) by omega), decide_eq_true (show ((i + 1 - a.length : Nat) : Int) < (b.length : Int) by omega)]; rfl)]
    generalize b.getD (i + 1 - a.length) default = y at *
    rw [hr.col, hr.place, show w64 (y.p.at' + (s.length : Int)) = y.p.at' + (s.length : Int) from wrap_in _ (by omega), show w64 (y.p.at' + (s.length : Int) + 1) = y.p.at' + (s.length : Int) + 1 from wrap_in _ (by omega),
      show ((s.length + 1 : Nat) : Int) + y.p.at' = y.p.at' + (s.length : Int) + 1 by omega, bne, bne, beq_self_eq_true, beq_self_eq_true]
    exact jcmp_eq (by omega) hr.kind hr.s hr.n hr.parts

theorem loopJ (s : Str) (a b c : List TokR) (e1 e2 e3 : Int) (q1 q2 q3 : PosR) (hs : s.length ≤ 100000) (ha : a.length ≤ 100000) (hb : b.length ≤ 100000) (hg : GoodJ s a b c) :
    Goes X0 (.loop (loopAt 3 0)) (sJ s a b c e1 e2 e3 q1 q2 q3 0) (pickR (.leaf (.exit 0) (sJ s a b c e1 e2 e3 q1 q2 q3 c.length))).1 (pickR (.leaf (.exit 0) (sJ s a b c e1 e2 e3 q1 q2 q3 c.length))).2 := by
  refine loop_all (Sf := fun i => sJ s a b c e1 e2 e3 q1 q2 q3 i) (n := c.length) (by simp) (fun i hi => ?_) ?_
  · exact goes_ofX tLw_ok (noTL_ok _ _) (noLoops ids3.2.2) ((b3 s a b c e1 e2 e3 q1 q2 q3 i).trans (jL_eq hs ha hb hg hi))
  · exact goes_ofX tLw_ok (noTL_ok _ _) (noLoops ids3.2.2) ((b3 s a b c e1 e2 e3 q1 q2 q3 c.length).trans (by unfold jL; rw [lt_f (by omega)]))

def decD : List (D Pl) → Option (Int × PosR)
  | [.int .i64 e, .int .i64 a, .int .i64 b, .int .i64 c, .str []] => some (e, ⟨a, b, c⟩)
  | _ => none
theorem decD_eq {l : List (D Pl)} {e : Int} {q : PosR} (h : decD l = some (e, q)) : l = dgC e q := by
  unfold decD at h
  split at h
  · simp only [Option.some.injEq, Prod.mk.injEq] at h
    obtain ⟨rfl, rfl⟩ := h
    rfl
  · simp at h

noncomputable def LSJ (S : St Pl) : Option (Bool × LR Pl) := match seenS 169 [0, 4, 5, 7, 9, 11] S with
  | some ([.str s, .bool false, .pl ⟨.toks, a⟩ .any, .pl ⟨.toks, b⟩ .any, .pl ⟨.toks, c⟩ .any, .int .i64 (.ofNat 0)], [(10, .box false c3), (8, .box false c2), (6, .box false c1)]) => match decD c1, decD c2, decD c3 with
    | some (e1, q1), some (e2, q2), some (e3, q3) => some ((Nat.ble s.length 100000 && Nat.ble a.length 100000) && (Nat.ble b.length 100000 && goodJ s a b c), .leaf (.exit 0) (sJ s a b c e1 e2 e3 q1 q2 q3 c.length))
    | _, _, _ => none
  | _ => none

theorem LSJ_ok : SOk X0 (loopAt 3 0) LSJ := by
  intro S b r h hb
  unfold LSJ at h
  split at h
  · rename_i s a b' c c3 c2 c1 hs
    split at h
    · rename_i e1 q1 e2 q2 e3 q3 h1 h2 h3
      simp only [Option.some.injEq, Prod.mk.injEq] at h
      obtain ⟨rfl, rfl⟩ := h
      simp only [Bool.and_eq_true, Nat.ble_eq] at hb
      obtain ⟨⟨k1, k2⟩, k3, k4⟩ := hb
      refine Goes.pre (keepOf [0, 4, 5, 7, 9, 11]) ?_
      rw [seenS_mask hs, decD_eq h1, decD_eq h2, decD_eq h3]
      exact loopJ s a b' c e1 e2 e3 q1 q2 q3 k1 k2 k3 (goodJ_iff.1 k4)
    · simp at h
  · simp at h

def jErr (s : Str) (B C : AllO) : Bool := bif (bif C.bad == B.bad then C.bp.at' == w64 (w64 ((s.length : Int) + 1) + B.bp.at') else false) then C.bp.col == B.bp.col else false
noncomputable def jRest (s : Str) (A B C : AllO) : Option (D Pl) := bif A.bad != 0 then some (.bool true) else bif B.bad != 0 then (bif jErr s B C == true then some (.bool true) else some (.bool false)) else
  bif (bif C.bad != 0 then true else (C.l.length : Int) != w64 (w64 ((A.l.length : Int) + (B.l.length : Int)) - 1)) then some (.bool false) else
  ck_ ((Nat.ble s.length 100000 && Nat.ble A.l.length 100000) && (Nat.ble B.l.length 100000 && goodJ s A.l B.l C.l)) (some (.bool true))

theorem eJoins (s t : Str) : evF tLw noTL (atL 13 LSJ noL) 4 Tryd.f3 [.str s, .str t] =
    bif (bif decide ((s.length : Int) > 2000) then true else decide ((t.length : Int) > 2000)) then some (.bool true) else
      ck_ (Nat.ble (s.length + 1) big || false) (ck_ (Nat.ble ((s ++ [10]).length + t.length) big || false) (jRest s (allM s) (allM t) (allM ((s ++ [10]) ++ t)))) := by kernel_rfl

theorem lexTo_pos {s : Str} {p : Nat} {l : List TokR} {e : Int} {bp : PosR} (h : LexTo s p l e bp) : p ≤ s.length → 0 ≤ bp.at' ∧ bp.at' ≤ s.length := by
  induction h with
  | bad p h =>
    intro hp
    have hb := blankM_in s _ p rfl hp
    show (0 : Int) ≤ (blankM s p : Int) ∧ (blankM s p : Int) ≤ s.length
    omega
  | stop => intro _; show (0 : Int) ≤ 0 ∧ (0 : Int) ≤ s.length; omega
  | go => intro _; show (0 : Int) ≤ 0 ∧ (0 : Int) ≤ s.length; omega
  | goBad p e bp h hk he hl ih =>
    intro hp
    have hb := blankM_in s _ p rfl hp
    exact ih (tokO_in hb.2 h).1

theorem relL_get {m : Nat} : ∀ {l r : List TokR}, RelL m l r → l.length = r.length ∧ ∀ i, i < r.length → TokRel m (l.getD i default) (r.getD i default)
  | [], [], _ => ⟨rfl, fun i hi => by simp at hi⟩
  | [], _ :: _, h => h.elim
  | _ :: _, [], h => h.elim
  | x :: l, y :: r, h => by
    obtain ⟨h1, h2⟩ := relL_get h.2
    refine ⟨by simp [h1], fun i hi => ?_⟩
    cases i with
    | zero => exact h.1
    | succ i => exact h2 i (by simpa using hi)

theorem joins_sound (s t : Str) : Snd 3 [.str s, .str t] (.bool true) := by
  have hbig : big = 140737488355328 := rfl
  have hL := loops_of (f := 3) (fn := Tryd.f3) (by kernel_rfl) (loops_1 ids3.1 (L := atL 13 LSJ noL) (atL_ok (fun _ => LSJ_ok) fun h => absurd ids3.2.1 h))
  refine snd_fn (n := 4) tLw_ok (noTL_ok _ _) (fn := Tryd.f3) (by kernel_rfl) hL ((eJoins s t).trans ?_)
  by_cases h1 : (s.length : Int) > 2000
  · rw [decide_eq_true h1]; rfl
  by_cases h2 : (t.length : Int) > 2000
  · rw [decide_eq_true h2, decide_eq_false h1]; rfl
  rw [decide_eq_false h1, decide_eq_false h2]
  simp only [cond_false]
  have hl10 : (s ++ [10] : Str).length = s.length + 1 := by rw [List.length_append, List.length_singleton]
  rw [ck_t (by rw [ble_t (show s.length + 1 ≤ big by omega)]; rfl), ck_t (by rw [hl10, ble_t (show s.length + 1 + t.length ≤ big by omega)]; rfl)]
  obtain ⟨a, e1, q1, a1, a2⟩ := allM_to s (by omega)
  obtain ⟨b, e2, q2, b1, b2⟩ := allM_to t (by omega)
  have hu : (s ++ [10]) ++ t = jo s t := by unfold jo; simp
  rw [hu, a2, b2]
  unfold jRest
  simp only
  cases he1 : e1 == 0 with
  | false => rw [show (e1 != 0) = true by rw [bne, he1]; rfl]; rfl
  | true =>
  rw [show (e1 != 0) = false by rw [bne, he1]; rfl, cond_false]
  have he1' : e1 = 0 := by simpa using he1
  subst he1'
  obtain ⟨c', q3, c1, c2, c3⟩ := lexTo_r s t b1 (Nat.zero_le _)
  have c4 := lexTo_l s t a1 rfl (Nat.zero_le _) c1
  have hjl := jo_len s t
  have hM : allM (jo s t) = ⟨bif e2 == 0 then a.dropLast ++ c' else [], e2, q3⟩ := by
    unfold allM
    rw [blt_f (by omega), cond_false, to_allK c4 (Nat.zero_le _) _ [] (by omega)]
    cases e2 == 0 <;> rfl
  rw [hM]
  simp only
  cases he2 : e2 == 0 with
  | false =>
    rw [show (e2 != 0) = true by rw [bne, he2]; rfl, cond_true]
    obtain ⟨k1, k2⟩ := c3 he2
    have k3 := lexTo_pos b1 (Nat.zero_le _)
    unfold jErr
    simp only
    rw [k1, k2, show w64 ((s.length : Int) + 1) = (s.length : Int) + 1 from wrap_in _ (by omega), show w64 ((s.length : Int) + 1 + q2.at') = (s.length : Int) + 1 + q2.at' from wrap_in _ (by omega),
      show ((s.length + 1 : Nat) : Int) + q2.at' = (s.length : Int) + 1 + q2.at' by omega, beq_self_eq_true, beq_self_eq_true, beq_self_eq_true]
    rfl
  | true =>
    rw [show (e2 != 0) = false by rw [bne, he2]; rfl, cond_false, cond_false, cond_true]
    obtain ⟨r1, r2⟩ := relL_get c2
    have hla := lexTo_len a1 (Nat.zero_le _)
    have hlb := lexTo_len b1 (Nat.zero_le _)
    have hne := (lexTo_zero a1).2
    have hpos : 1 ≤ a.length := List.length_pos_iff.2 hne
    have hlen : (a.dropLast ++ c').length + 1 = a.length + b.length := by
      rw [List.length_append, List.length_dropLast, r1]; omega
    have hgb := lex_good b1 (by simpa using he2) (Nat.zero_le _)
    rw [show w64 ((a.length : Int) + (b.length : Int)) = (a.length : Int) + (b.length : Int) from wrap_in _ (by omega), show w64 ((a.length : Int) + (b.length : Int) - 1) = (a.length : Int) + (b.length : Int) - 1 from wrap_in _ (by omega),
      show (((a.dropLast ++ c').length : Int) != (a.length : Int) + (b.length : Int) - 1) = false by
        rw [bne, show (((a.dropLast ++ c').length : Int) == (a.length : Int) + (b.length : Int) - 1) = true by rw [beq_iff_eq]; omega]; rfl, cond_false]
    have hg : GoodJ s a b (a.dropLast ++ c') := by
      refine ⟨hlen, hpos, fun i hi => ?_, fun i hi => ?_⟩
      · rw [List.getD_eq_getElem?_getD, List.getD_eq_getElem?_getD, List.getElem?_append_left (by rw [List.length_dropLast]; omega), List.getElem?_dropLast, if_pos (by omega)]
      · have e : (a.dropLast ++ c').getD (a.length - 1 + i) default = c'.getD i default := by
          rw [List.getD_eq_getElem?_getD, List.getD_eq_getElem?_getD, List.getElem?_append_right (by rw [List.length_dropLast]; omega), List.length_dropLast, show a.length - 1 + i - (a.length - 1) = i by omega]
        rw [e]
        have hgi := (hgb i hi).2.1
        have g0 := hgi.at0
        have g1 := hgi.end'
        exact ⟨r2 i hi, g0, by omega⟩
    rw [ck_t (by rw [ble_t (show s.length ≤ 100000 by omega), ble_t (show a.length ≤ 100000 by omega), ble_t (show b.length ≤ 100000 by omega), goodJ_iff.2 hg]; rfl)]

end Go.Proofs.YtcopmdhjambfjaaDoor
