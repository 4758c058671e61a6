/-
  BEHIND A TEXT AND A LINE FEED another text has its own tokens: plainly.
-/
import Derived.Test.YtcopmdhjambfjaaDoorModel
namespace Go.Proofs.YtcopmdhjambfjaaDoor
open Go.Eng

theorem beq_f {a b : Nat} (h : a ≠ b) : Nat.beq a b = false := by
  cases hb : Nat.beq a b with
  | false => rfl
  | true => exact absurd (Nat.eq_of_beq_eq_true hb) h

theorem ff_ext {p q : Nat → Bool} : ∀ (n : Nat), (∀ i, i < n → p i = q i) → ff p n = ff q n
  | 0, _ => rfl
  | n + 1, h => by
    simp only [ff]
    rw [h 0 (by omega), ff_ext (p := fun i => p (i + 1)) (q := fun i => q (i + 1)) n fun i hi => h (i + 1) (by omega)]

/-- It stops at the same place if what stops it stands there. -/
theorem ff_cut {p q : Nat → Bool} : ∀ (n N : Nat), (∀ i, i < n → p i = q i) → n < N → q n = false → ff q N = ff p n
  | 0, N + 1, _, _, h => by simp [ff, h]
  | n + 1, N + 1, h, hN, hq => by
    simp only [ff]
    rw [h 0 (by omega), ff_cut (p := fun i => p (i + 1)) (q := fun i => q (i + 1)) n N (fun i hi => h (i + 1) (by omega)) (by omega) hq]

section
variable (s t : Str)

def jo : Str := s ++ 10 :: t
theorem jo_len : (jo s t).length = s.length + 1 + t.length := by unfold jo; rw [List.length_append, List.length_cons]; omega

theorem jo_l {p : Nat} (h : p < s.length) : byt (jo s t) p = byt s p := by
  unfold byt jo
  rw [List.getD_eq_getElem?_getD, List.getD_eq_getElem?_getD, List.getElem?_append_left h]
theorem jo_m : byt (jo s t) s.length = 10 := by
  unfold byt jo
  rw [List.getD_eq_getElem?_getD, List.getElem?_append_right (Nat.le_refl _), Nat.sub_self]; rfl
theorem jo_r (p : Nat) : byt (jo s t) (s.length + 1 + p) = byt t p := by
  unfold byt jo
  rw [List.getD_eq_getElem?_getD, List.getD_eq_getElem?_getD, List.getElem?_append_right (by omega), show s.length + 1 + p - s.length = p + 1 by omega, List.getElem?_cons_succ]
theorem jo_dr (p : Nat) : (jo s t).drop (s.length + 1 + p) = t.drop p := by
  unfold jo
  rw [List.drop_append, List.drop_eq_nil_of_le (by omega), List.nil_append, show s.length + 1 + p - s.length = p + 1 by omega, List.drop_succ_cons]
theorem jo_dl {p : Nat} (h : p ≤ s.length) : (jo s t).drop p = s.drop p ++ 10 :: t := by
  unfold jo
  rw [List.drop_append, show p - s.length = 0 by omega, List.drop_zero]

theorem ln_l : ∀ p, p ≤ s.length → ln (jo s t) p = ln s p
  | 0, _ => rfl
  | p + 1, h => by simp only [ln]; rw [jo_l s t (show p < s.length by omega), ln_l p (by omega)]
theorem sn_l : ∀ p, p ≤ s.length → sn (jo s t) p = sn s p
  | 0, _ => rfl
  | p + 1, h => by simp only [sn]; rw [jo_l s t (show p < s.length by omega), sn_l p (by omega)]
theorem sn_r : ∀ p, sn (jo s t) (s.length + 1 + p) = ((s.length + 1 : Nat) : Int) + sn t p
  | 0 => by
    show sn (jo s t) (s.length + 1) = _
    simp only [sn]
    rw [jo_m]
    simp
  | p + 1 => by
    show sn (jo s t) (s.length + 1 + p + 1) = _
    simp only [sn]
    rw [jo_r, sn_r p]
    cases byt t p == 10 with
    | true => simp only [cond_true]; omega
    | false => rfl

theorem posR_l {p : Nat} (h : p ≤ s.length) : posR (jo s t) p = posR s p := by unfold posR; rw [ln_l s t p h, sn_l s t p h]
theorem posR_r (p : Nat) : (posR (jo s t) (s.length + 1 + p)).at' = ((s.length + 1 : Nat) : Int) + (posR t p).at' ∧ (posR (jo s t) (s.length + 1 + p)).col = (posR t p).col := by
  unfold posR
  constructor
  · show ((s.length + 1 + p : Nat) : Int) = _; simp only; omega
  · show ((s.length + 1 + p : Nat) : Int) - sn (jo s t) (s.length + 1 + p) + 1 = _
    rw [sn_r]; simp only; omega

theorem sl_l {p n : Nat} (h : p + n ≤ s.length) : sl (jo s t) p n = sl s p n := by
  unfold sl
  rw [jo_dl s t (by omega), List.take_append_of_le_length (by rw [List.length_drop]; omega)]
theorem sl_r (p n : Nat) : sl (jo s t) (s.length + 1 + p) n = sl t p n := by unfold sl; rw [jo_dr]

theorem runM_l {p : Nat} (h : p ≤ s.length) : runM (jo s t) p = runM s p := by
  unfold runM
  refine ff_cut (s.length - p) _ (fun i hi => ?_) (by rw [jo_len]; omega) ?_
  · show _ = _; rw [jo_l s t (by omega)]
  · show (_ : Bool) = false; rw [show p + (s.length - p) = s.length by omega, jo_m]; rfl
theorem runM_r (p : Nat) : runM (jo s t) (s.length + 1 + p) = runM t p := by
  unfold runM
  rw [jo_len, show s.length + 1 + t.length - (s.length + 1 + p) = t.length - p by omega]
  refine ff_ext _ fun i _ => ?_
  rw [show s.length + 1 + p + i = s.length + 1 + (p + i) by omega, jo_r]

theorem cmt_eq (s : Str) (p : Nat) : cmt s p = ff (fun i => !(byt s (p + i) == 10)) (s.length - p) := by
  unfold cmt
  rw [List.length_drop]
  exact ff_ext _ fun i _ => by rw [byt_drop]
theorem pcn_eq (s : Str) (p : Nat) : pcn s p = ff (fun i => !(isQ (byt s (p + i)))) (s.length - p) := by
  unfold pcn
  rw [List.length_drop]
  exact ff_ext _ fun i _ => by rw [byt_drop]

theorem cmt_l {p : Nat} (h : p ≤ s.length) : cmt (jo s t) p = cmt s p := by
  rw [cmt_eq, cmt_eq]
  refine ff_cut (s.length - p) _ (fun i hi => ?_) (by rw [jo_len]; omega) ?_
  · show _ = _; rw [jo_l s t (by omega)]
  · show (_ : Bool) = false; rw [show p + (s.length - p) = s.length by omega, jo_m]; rfl
theorem cmt_r (p : Nat) : cmt (jo s t) (s.length + 1 + p) = cmt t p := by
  unfold cmt; rw [jo_dr]
theorem pcn_l {p : Nat} (h : p ≤ s.length) : pcn (jo s t) p = pcn s p := by
  rw [pcn_eq, pcn_eq]
  refine ff_cut (s.length - p) _ (fun i hi => ?_) (by rw [jo_len]; omega) ?_
  · show _ = _; rw [jo_l s t (by omega)]
  · show (_ : Bool) = false; rw [show p + (s.length - p) = s.length by omega, jo_m]; rfl
theorem pcn_r (p : Nat) : pcn (jo s t) (s.length + 1 + p) = pcn t p := by
  unfold pcn; rw [jo_dr]

theorem blankM_r : ∀ (n p : Nat), t.length - p = n → p ≤ t.length → blankM (jo s t) (s.length + 1 + p) = s.length + 1 + blankM t p := by
  intro n
  induction n using Nat.strongRecOn with
  | _ n ih =>
    intro p hn hp
    have hj := jo_len s t
    rcases Nat.lt_or_ge p t.length with h | h
    · rw [blankM_eq (show s.length + 1 + p < (jo s t).length by omega), blankM_eq h, jo_r, cmt_r]
      cases isB (byt t p) with
      | true =>
        simp only [cond_true]
        exact ih (t.length - (p + 1)) (by omega) (p + 1) rfl (by omega)
      | false =>
        cases hc : byt t p == 35 with
        | true =>
          simp only [cond_true, cond_false]
          have h1 := cmt_pos h hc
          have h2 := cmt_le t p
          rw [Nat.add_assoc]
          exact ih (t.length - (p + cmt t p)) (by omega) (p + cmt t p) rfl (by omega)
        | false => rfl
    · rw [blankM_end (show ¬ s.length + 1 + p < (jo s t).length by omega), blankM_end (show ¬ p < t.length by omega)]

theorem blankM_l : ∀ (n p : Nat), s.length - p = n → p ≤ s.length → (blankM s p < s.length → blankM (jo s t) p = blankM s p) ∧ (blankM s p = s.length → blankM (jo s t) p = blankM (jo s t) (s.length + 1)) := by
  intro n
  induction n using Nat.strongRecOn with
  | _ n ih =>
    intro p hn hp
    have hj := jo_len s t
    rcases Nat.lt_or_ge p s.length with h | h
    · rw [blankM_eq (show p < (jo s t).length by omega), blankM_eq h, jo_l s t h, cmt_l s t hp]
      cases isB (byt s p) with
      | true =>
        simp only [cond_true]
        exact ih (s.length - (p + 1)) (by omega) (p + 1) rfl (by omega)
      | false =>
        cases hc : byt s p == 35 with
        | true =>
          simp only [cond_true, cond_false]
          have h1 := cmt_pos h hc
          have h2 := cmt_le s p
          exact ih (s.length - (p + cmt s p)) (by omega) (p + cmt s p) rfl (by omega)
        | false => exact ⟨fun _ => rfl, fun e => by simp only [cond_false] at e; omega⟩
    · obtain rfl : p = s.length := by omega
      rw [blankM_end (s := s) (by omega)]
      refine ⟨fun e => by omega, fun _ => ?_⟩
      rw [blankM_eq (show s.length < (jo s t).length by omega), jo_m]; rfl

theorem two_l {p : Nat} (h : p < s.length) {a b : Int} (hb : b ≠ 0) (hb' : b ≠ 10) : two (jo s t) p a b = two s p a b := by
  unfold two
  rw [jo_l s t h]
  rcases Nat.lt_or_ge (p + 1) s.length with h2 | h2
  · rw [jo_l s t h2]
  · rw [show p + 1 = s.length by omega, jo_m, byt_out (s := s) (p := s.length) (by omega), beq_eq_false_iff_ne.2 (Ne.symm hb'), beq_eq_false_iff_ne.2 (Ne.symm hb)]
theorem two_r (p : Nat) (a b : Int) : two (jo s t) (s.length + 1 + p) a b = two t p a b := by
  unfold two
  rw [jo_r, show s.length + 1 + p + 1 = s.length + 1 + (p + 1) by omega, jo_r]
theorem twoS_l {p : Nat} (h : p < s.length) : twoS (jo s t) p = twoS s p := by
  unfold twoS
  rw [two_l s t h (by decide) (by decide), two_l s t h (by decide) (by decide), two_l s t h (by decide) (by decide), two_l s t h (by decide) (by decide), two_l s t h (by decide) (by decide), two_l s t h (by decide) (by decide), two_l s t h (by decide) (by decide)]
theorem twoS_r (p : Nat) : twoS (jo s t) (s.length + 1 + p) = twoS t p := by
  unfold twoS
  simp only [two_r]

theorem pcOk_l {p : Nat} (h : p ≤ s.length) (ho : pcOk s p = true) : pcOk (jo s t) p = true := by
  have hlt := pcOk_lt ho
  unfold pcOk at ho ⊢
  rw [Bool.and_eq_true] at ho ⊢
  rw [pcn_l s t h, jo_l s t hlt]
  refine ⟨blt_t ?_, ho.2⟩
  rw [List.length_drop, jo_len]; omega
theorem pcOk_r (p : Nat) : pcOk (jo s t) (s.length + 1 + p) = pcOk t p := by
  unfold pcOk
  rw [pcn_r, jo_dr, show s.length + 1 + p + pcn t p = s.length + 1 + (p + pcn t p) by omega, jo_r]

theorem getD_l {p : Nat} (h : p < s.length) : (jo s t).getD p 0 = s.getD p 0 := by
  unfold jo
  rw [List.getD_eq_getElem?_getD, List.getD_eq_getElem?_getD, List.getElem?_append_left h]
theorem getD_r (p : Nat) : (jo s t).getD (s.length + 1 + p) 0 = t.getD p 0 := by
  unfold jo
  rw [List.getD_eq_getElem?_getD, List.getD_eq_getElem?_getD, List.getElem?_append_right (by omega), show s.length + 1 + p - s.length = p + 1 by omega, List.getElem?_cons_succ]

theorem bodyM_l : ∀ (n p : Nat) (out : List PartR) (b : Str), s.length - p = n → p ≤ s.length → (bodyM s p out b).ok = true → bodyM (jo s t) p out b = bodyM s p out b := by
  intro n
  induction n using Nat.strongRecOn with
  | _ n ih =>
    intro p out b hn hp ho
    have hj := jo_len s t
    rw [bodyM_eq] at ho
    rw [bodyM_eq, bodyM_eq (s := s)]
    rcases Nat.lt_or_ge p s.length with h | h
    · rw [blt_t h] at ho ⊢
      rw [blt_t (show p < (jo s t).length by omega), jo_l s t h]
      simp only [Bool.not_true, cond_false] at ho ⊢
      cases h34 : byt s p == 34 with
      | true => rfl
      | false =>
      cases h10 : byt s p == 10 with
      | true => rfl
      | false =>
      rw [h34, h10] at ho
      simp only [cond_false] at ho ⊢
      cases h92 : byt s p == 92 with
      | true =>
        rw [h92] at ho
        simp only [cond_true] at ho ⊢
        rcases Nat.lt_or_ge (p + 1) s.length with h2 | h2
        · rw [blt_t h2] at ho ⊢
          rw [blt_t (show p + 1 < (jo s t).length by omega), jo_l s t h2]
          simp only [Bool.not_true, cond_false] at ho ⊢
          cases he : escB (byt s (p + 1)) with
          | true =>
            rw [he] at ho
            exact ih (s.length - (p + 2)) (by omega) (p + 2) _ _ rfl (by omega) ho
          | false => rfl
        · rw [blt_f (by omega)] at ho; simp at ho
      | false =>
        rw [h92] at ho
        rw [two_l s t h (by decide) (by decide)]
        simp only [cond_false] at ho ⊢
        cases h36 : two s p 36 123 with
        | true =>
          rw [h36] at ho
          have hp2 := two_in h36 (by decide)
          simp only [cond_true] at ho ⊢
          cases hpc : pcOk s (p + 2) with
          | true =>
            rw [hpc] at ho
            have hlt := pcOk_lt hpc
            rw [pcOk_l s t (by omega) hpc, pcn_l s t (show p + 2 ≤ s.length by omega)]
            have e : pieceR (jo s t) (p + 2) = pieceR s (p + 2) := by
              unfold pieceR
              rw [pcn_l s t (show p + 2 ≤ s.length by omega), sl_l s t (by omega), posR_l s t (by omega)]
            rw [e]
            exact ih (s.length - (p + 2 + pcn s (p + 2) + 1)) (by omega) _ _ _ rfl (by omega) ho
          | false => rw [hpc] at ho; simp at ho
        | false =>
          rw [h36] at ho
          rw [getD_l s t h]
          exact ih (s.length - (p + 1)) (by omega) _ _ _ rfl (by omega) ho
    · rw [blt_f (by omega)] at ho; simp at ho

theorem fl_map {out out' : List PartR} (b : Str) (h : out'.map (·.s) = out.map (·.s)) : (fl out' b).map (·.s) = (fl out b).map (·.s) := by
  cases b with
  | nil => exact h
  | cons x b => simp only [fl, List.map_append, h]

theorem bodyM_r : ∀ (n p : Nat) (out out' : List PartR) (b : Str), t.length - p = n → p ≤ t.length → out'.map (·.s) = out.map (·.s) →
    (bodyM (jo s t) (s.length + 1 + p) out' b).ok = (bodyM t p out b).ok ∧ (bodyM (jo s t) (s.length + 1 + p) out' b).q = s.length + 1 + (bodyM t p out b).q ∧ (bodyM (jo s t) (s.length + 1 + p) out' b).l.map (·.s) = (bodyM t p out b).l.map (·.s) := by
  intro n
  induction n using Nat.strongRecOn with
  | _ n ih =>
    intro p out out' b hn hp ho
    have hj := jo_len s t
    rw [bodyM_eq, bodyM_eq (s := t)]
    rcases Nat.lt_or_ge p t.length with h | h
    · rw [blt_t h, blt_t (show s.length + 1 + p < (jo s t).length by omega), jo_r, show s.length + 1 + p + 1 = s.length + 1 + (p + 1) by omega, show s.length + 1 + p + 2 = s.length + 1 + (p + 2) by omega, jo_r, two_r, pcOk_r, pcn_r, getD_r]
      simp only [Bool.not_true, cond_false]
      cases byt t p == 34 with
      | true => exact ⟨rfl, rfl, fl_map b ho⟩
      | false =>
      cases byt t p == 10 with
      | true => exact ⟨rfl, rfl, rfl⟩
      | false =>
      simp only [cond_false]
      cases byt t p == 92 with
      | true =>
        simp only [cond_true]
        rcases Nat.lt_or_ge (p + 1) t.length with h2 | h2
        · rw [blt_t h2, blt_t (show s.length + 1 + (p + 1) < (jo s t).length by omega)]
          simp only [Bool.not_true, cond_false]
          cases escB (byt t (p + 1)) with
          | true => exact ih (t.length - (p + 2)) (by omega) (p + 2) _ _ _ rfl (by omega) ho
          | false => exact ⟨rfl, rfl, rfl⟩
        · rw [blt_f (show ¬ p + 1 < t.length by omega), blt_f (show ¬ s.length + 1 + (p + 1) < (jo s t).length by omega)]
          exact ⟨rfl, rfl, rfl⟩
      | false =>
        simp only [cond_false]
        cases h36 : two t p 36 123 with
        | true =>
          have hp2 := two_in h36 (by decide)
          simp only [cond_true]
          cases hpc : pcOk t (p + 2) with
          | true =>
            have hlt := pcOk_lt hpc
            simp only [cond_true]
            rw [show s.length + 1 + (p + 2) + pcn t (p + 2) + 1 = s.length + 1 + (p + 2 + pcn t (p + 2) + 1) by omega]
            refine ih (t.length - (p + 2 + pcn t (p + 2) + 1)) (by omega) _ _ _ _ rfl (by omega) ?_
            rw [List.map_append, List.map_append, fl_map b ho]
            congr 1
            show [sl (jo s t) (s.length + 1 + (p + 2)) (pcn (jo s t) (s.length + 1 + (p + 2)))] = [sl t (p + 2) (pcn t (p + 2))]
            rw [pcn_r, sl_r]
          | false => exact ⟨rfl, rfl, rfl⟩
        | false => exact ih (t.length - (p + 1)) (by omega) _ _ _ _ rfl (by omega) ho
    · rw [blt_f (show ¬ p < t.length by omega), blt_f (show ¬ s.length + 1 + p < (jo s t).length by omega)]
      exact ⟨rfl, rfl, rfl⟩

theorem psum_map : ∀ {l l' : List PartR}, l'.map (·.s) = l.map (·.s) → psum l' = psum l
  | [], [], _ => rfl
  | [], _ :: _, h => by simp at h
  | _ :: _, [], h => by simp at h
  | x :: l, y :: l', h => by
    simp only [List.map_cons, List.cons.injEq] at h
    simp only [psum]
    rw [h.1, psum_map h.2]

theorem tokO_l {p : Nat} (h : p < s.length) (he : ((tokO s p).e == 0) = true) : tokO (jo s t) p = tokO s p := by
  have hj := jo_len s t
  have h1 : Nat.beq p s.length = false := beq_f (by omega)
  have h2 : Nat.beq p (jo s t).length = false := beq_f (by omega)
  have hr := runM_le s p
  unfold tokO at he ⊢
  rw [h1] at he ⊢
  rw [h2, jo_l s t h]
  simp only [cond_false] at he ⊢
  cases hl : letB (byt s p) with
  | true =>
    simp only [cond_true, nameO]
    rw [runM_l s t (by omega), sl_l s t (by omega), posR_l s t (by omega)]
  | false =>
  cases hd : digB (byt s p) with
  | true =>
    simp only [cond_true, cond_false, numO]
    rw [runM_l s t (by omega), sl_l s t (by omega), posR_l s t (by omega)]
  | false =>
  rw [hl, hd] at he
  simp only [cond_false] at he ⊢
  cases hq : byt s p == 34 with
  | true =>
    rw [hq] at he
    simp only [cond_true, textO] at he ⊢
    cases ho : (bodyM s (p + 1) [] []).ok with
    | false => rw [ho] at he; cases he
    | true => rw [bodyM_l s t _ (p + 1) [] [] rfl (by omega) ho, ho, posR_l s t (by omega)]; rfl
  | false =>
    simp only [cond_false, signO]
    rw [twoS_l s t h, jo_l s t h, sl_l s t (show p + 1 ≤ s.length by omega), posR_l s t (by omega)]

/-- What is behind a joined text's line feed, and what it is by itself. -/
structure TokRel (m : Nat) (x y : TokR) : Prop where
  kind : x.kind = y.kind
  s : x.s = y.s
  n : x.n = y.n
  parts : x.parts.length = y.parts.length
  place : x.p.at' = (m : Int) + y.p.at'
  col : x.p.col = y.p.col

theorem tokO_r {p : Nat} (h : p ≤ t.length) : (tokO (jo s t) (s.length + 1 + p)).e = (tokO t p).e ∧ (tokO (jo s t) (s.length + 1 + p)).q = s.length + 1 + (tokO t p).q ∧ TokRel (s.length + 1) (tokO (jo s t) (s.length + 1 + p)).t (tokO t p).t := by
  have hj := jo_len s t
  have hb : Nat.beq (s.length + 1 + p) (jo s t).length = Nat.beq p t.length := by
    rw [Bool.eq_iff_iff, Nat.beq_eq, Nat.beq_eq]
    omega
  obtain ⟨q1, q2⟩ := posR_r s t p
  unfold tokO
  rw [hb, jo_r]
  cases hbb : Nat.beq p t.length with
  | true => exact ⟨rfl, rfl, ⟨rfl, rfl, rfl, rfl, q1, q2⟩⟩
  | false =>
  have hlt : p < t.length := by
    rcases Nat.lt_or_ge p t.length with h2 | h2
    · exact h2
    · obtain rfl : p = t.length := by omega
      rw [Nat.beq_refl] at hbb; cases hbb
  simp only [cond_false]
  cases letB (byt t p) with
  | true =>
    simp only [cond_true, nameO]
    rw [runM_r, sl_r]
    exact ⟨rfl, by omega, ⟨rfl, rfl, rfl, rfl, q1, q2⟩⟩
  | false =>
  cases digB (byt t p) with
  | true =>
    simp only [cond_true, cond_false, numO]
    rw [runM_r, sl_r]
    exact ⟨rfl, by omega, ⟨rfl, rfl, rfl, rfl, q1, q2⟩⟩
  | false =>
  simp only [cond_false]
  cases byt t p == 34 with
  | true =>
    simp only [cond_true, textO]
    obtain ⟨k1, k2, k3⟩ := bodyM_r s t _ (p + 1) [] [] [] rfl (by omega) rfl
    rw [show s.length + 1 + p + 1 = s.length + 1 + (p + 1) by omega, k1]
    cases (bodyM t (p + 1) [] []).ok with
    | true =>
      refine ⟨?_, k2, ⟨rfl, rfl, rfl, ?_, q1, q2⟩⟩
      · simp only [cond_true]; rw [psum_map k3]
      · have := congrArg List.length k3
        rw [List.length_map, List.length_map] at this
        exact this
    | false => exact ⟨rfl, k2, ⟨rfl, rfl, rfl, rfl, q1, q2⟩⟩
  | false =>
    simp only [cond_false, signO]
    rw [twoS_r, jo_r, sl_r]
    cases twoS t p with
    | nil =>
      cases isOne (byt t p) with
      | true => exact ⟨rfl, by simp only [cond_true]; omega, ⟨rfl, rfl, rfl, rfl, q1, q2⟩⟩
      | false => exact ⟨rfl, rfl, ⟨rfl, rfl, rfl, rfl, q1, q2⟩⟩
    | cons x l => exact ⟨rfl, by simp only; omega, ⟨rfl, rfl, rfl, rfl, q1, q2⟩⟩

def RelL (m : Nat) : List TokR → List TokR → Prop
  | [], [] => True
  | x :: l, y :: r => TokRel m x y ∧ RelL m l r
  | _, _ => False

theorem lexTo_r {p : Nat} {l : List TokR} {e : Int} {bp : PosR} (h : LexTo t p l e bp) : p ≤ t.length →
    ∃ l' bp', LexTo (jo s t) (s.length + 1 + p) l' e bp' ∧ RelL (s.length + 1) l' l ∧ ((e == 0) = false → bp'.at' = ((s.length + 1 : Nat) : Int) + bp.at' ∧ bp'.col = bp.col) := by
  induction h with
  | bad p h =>
    intro hp
    have hb := blankM_in t _ p rfl hp
    obtain ⟨k1, _, _⟩ := tokO_r s t hb.2
    have e := blankM_r s t _ p rfl hp
    rw [← e] at k1
    have h' := h
    rw [← k1] at h'
    have := LexTo.bad (s := jo s t) (s.length + 1 + p) h'
    rw [k1] at this
    refine ⟨_, _, this, trivial, fun _ => ?_⟩
    rw [e]
    exact posR_r s t _
  | stop p h hk =>
    intro hp
    have hb := blankM_in t _ p rfl hp
    obtain ⟨k1, k2, k3⟩ := tokO_r s t hb.2
    have e := blankM_r s t _ p rfl hp
    rw [← e] at k1 k2 k3
    exact ⟨_, _, .stop _ (by rw [k1]; exact h) (by rw [k3.kind]; exact hk), ⟨k3, trivial⟩, fun h => by simp at h⟩
  | go p l h hk hl ih =>
    intro hp
    have hb := blankM_in t _ p rfl hp
    obtain ⟨k1, k2, k3⟩ := tokO_r s t hb.2
    have e := blankM_r s t _ p rfl hp
    rw [← e] at k1 k2 k3
    obtain ⟨l', bp', i1, i2, i3⟩ := ih (tokO_in hb.2 h).1
    rw [← k2] at i1
    obtain rfl := (lexTo_zero i1).1
    exact ⟨_, _, .go _ l' (by rw [k1]; exact h) (by rw [k3.kind]; exact hk) i1, ⟨k3, i2⟩, fun h => by simp at h⟩
  | goBad p e0 bp h hk he hl ih =>
    intro hp
    have hb := blankM_in t _ p rfl hp
    obtain ⟨k1, k2, k3⟩ := tokO_r s t hb.2
    have e := blankM_r s t _ p rfl hp
    rw [← e] at k1 k2 k3
    obtain ⟨l', bp', i1, i2, i3⟩ := ih (tokO_in hb.2 h).1
    rw [← k2] at i1
    obtain rfl : l' = [] := by cases l' with
      | nil => rfl
      | cons x l => exact i2.elim
    exact ⟨_, _, .goBad _ e0 bp' (by rw [k1]; exact h) (by rw [k3.kind]; exact hk) he i1, trivial, i3⟩

theorem lexTo_cong {s : Str} {p p' : Nat} {l : List TokR} {e : Int} {bp : PosR} (h : LexTo s p l e bp) (hb : blankM s p = blankM s p') : LexTo s p' l e bp := by
  cases h with
  | bad _ h => rw [hb] at h ⊢; exact .bad p' h
  | stop _ h hk => rw [hb] at h hk ⊢; exact .stop p' h hk
  | go _ l h hk hl => rw [hb] at h hk hl ⊢; exact .go p' l h hk hl
  | goBad _ e bp h hk he hl => rw [hb] at h hk hl; exact .goBad p' e bp h hk he hl

theorem lexTo_l {p : Nat} {a : List TokR} {e0 : Int} {bp : PosR} (h : LexTo s p a e0 bp) : e0 = 0 → p ≤ s.length → ∀ {c : List TokR} {e : Int} {bp' : PosR}, LexTo (jo s t) (s.length + 1) c e bp' →
    LexTo (jo s t) p (bif e == 0 then a.dropLast ++ c else []) e bp' := by
  induction h with
  | bad p h => intro he; rw [he] at h; simp at h
  | stop p h hk =>
    intro _ hp c e bp' hc
    have hb := blankM_in s _ p rfl hp
    obtain ⟨_, _, h2⟩ := tokO_in hb.2 h
    rcases h2 with ⟨_, h2⟩ | ⟨h2, _⟩
    · have hlex := lexTo_cong hc ((blankM_l s t _ p rfl hp).2 h2).symm
      cases he : e == 0 with
      | true => simpa using hlex
      | false => rw [lexTo_bad hc he] at hlex; exact hlex
    · rw [hk] at h2; cases h2
  | go p l h hk hl ih =>
    intro _ hp c e bp' hc
    have hb := blankM_in s _ p rfl hp
    obtain ⟨h1, _, h2⟩ := tokO_in hb.2 h
    have hlt : blankM s p < s.length := by
      rcases h2 with ⟨h2, _⟩ | ⟨_, h2⟩
      · rw [hk] at h2; cases h2
      · omega
    have e1 := (blankM_l s t _ p rfl hp).1 hlt
    have e2 := tokO_l s t hlt h
    rw [← e1] at e2
    have i := ih rfl h1 hc
    have e3 : (tokO (jo s t) (blankM (jo s t) p)) = tokO s (blankM s p) := by rw [e2, e1]
    rw [← e3] at h hk i ⊢
    cases he : e == 0 with
    | true =>
      rw [he] at i
      rw [beq_iff_eq] at he
      subst he
      obtain rfl := (lexTo_zero i).1
      have := LexTo.go p _ h hk i
      simp only [cond_true] at this ⊢
      rw [List.dropLast_cons_of_ne_nil (lexTo_zero hl).2, List.cons_append]
      exact this
    | false =>
      rw [he] at i
      exact .goBad p e bp' h hk he i
  | goBad p e bp h hk he hl ih => intro h0; rw [h0] at he; simp at he
end

end Go.Proofs.YtcopmdhjambfjaaDoor
