/-
  WHAT IS QUOTED IS READ AS ONE STRING OF IT: plainly, on the lexer's model.
-/
import Derived.Test.YtmhmelmoionoiaaGreatDoorAll
namespace Go.Proofs.YtmhmelmoionoiaaGreatDoor
open Go.Eng

set_option maxRecDepth 100000

/-- A byte, quoted; a text's bytes; a text. -/
def qB (c : UInt8) : Str := bif (c == 34 || (c == 92 || c == 36)) then [92, c] else bif c == 10 then [92, 110] else bif c == 9 then [92, 116] else [c]
def quB : Str → Str
  | [] => []
  | c :: r => qB c ++ quB r
def quoM (s : Str) : Str := 34 :: (quB s ++ [34])

theorem quB_len : ∀ s : Str, s.length ≤ (quB s).length ∧ (quB s).length ≤ 2 * s.length
  | [] => by simp [quB]
  | c :: r => by
    have ih := quB_len r
    have h : 1 ≤ (qB c).length ∧ (qB c).length ≤ 2 := by
      unfold qB
      cases (c == 34 || (c == 92 || c == 36)) <;> cases c == 10 <;> cases c == 9 <;> simp
    simp only [quB, List.length_append, List.length_cons]
    omega
theorem byt_drp (t : Str) (p i : Nat) : byt (t.drop p) i = byt t (p + i) := by
  unfold byt
  rw [List.getD_eq_getElem?_getD, List.getD_eq_getElem?_getD, List.getElem?_drop]
theorem byt_hd {t : Str} {p : Nat} {c : UInt8} {r : Str} (h : t.drop p = c :: r) : byt t p = (c.toNat : Int) ∧ p < t.length ∧ t.getD p 0 = c ∧ t.drop (p + 1) = r := by
  have h1 := byt_drp t p 0
  rw [h, Nat.add_zero] at h1
  have hl : p < t.length := by
    rcases Nat.lt_or_ge p t.length with hp | hp
    · exact hp
    · rw [List.drop_eq_nil_of_le hp] at h; cases h
  refine ⟨h1.symm, hl, ?_, ?_⟩
  · have := congrArg (fun l => l.getD 0 0) h
    simp only [List.getD_cons_zero] at this
    rw [List.getD_eq_getElem?_getD, List.getElem?_drop, Nat.add_zero] at this
    rw [List.getD_eq_getElem?_getD]; exact this
  · rw [← List.drop_drop, h]; rfl
theorem body_esc {t : Str} {p : Nat} {x : UInt8} {r : Str} (out : List PartR) (b : Str) (h : t.drop p = 92 :: x :: r) (hx : escB (x.toNat : Int) = true) : bodyM t p out b = bodyM t (p + 2) out (b ++ [(escV (x.toNat : Int)).toNat.toUInt8]) := by
  obtain ⟨h1, h2, _, h3⟩ := byt_hd h
  obtain ⟨h4, h5, _, _⟩ := byt_hd h3
  rw [bodyM_eq, h1, h4, blt_t h2, blt_t h5, hx]
  rfl
theorem body_plain {t : Str} {p : Nat} {c : UInt8} {r : Str} (out : List PartR) (b : Str) (h : t.drop p = c :: r) (h34 : c ≠ 34) (h10 : c ≠ 10) (h92 : c ≠ 92) (h36 : c ≠ 36) : bodyM t p out b = bodyM t (p + 1) out (b ++ [c]) := by
  obtain ⟨h1, h2, h3, _⟩ := byt_hd h
  have hne : ∀ k : UInt8, c ≠ k → ((c.toNat : Int) == (k.toNat : Int)) = false := by
    intro k hk
    rw [beq_eq_false_iff_ne]
    intro he
    exact hk (UInt8.toNat_inj.1 (by omega))
  have e1 : ((c.toNat : Int) == 34) = false := hne 34 h34
  have e2 : ((c.toNat : Int) == 10) = false := hne 10 h10
  have e3 : ((c.toNat : Int) == 92) = false := hne 92 h92
  have e4 : ((c.toNat : Int) == 36) = false := hne 36 h36
  rw [bodyM_eq, blt_t h2, two, h1, e1, e2, e3, e4, h3]
  rfl
theorem body_q (t : Str) : ∀ (r : Str) (p : Nat) (out : List PartR) (b : Str), t.drop p = quB r ++ [34] → bodyM t p out b = ⟨true, fl out (b ++ r), p + (quB r).length + 1⟩
  | [], p, out, b, h => by
    obtain ⟨h1, h2, _, _⟩ := byt_hd (show t.drop p = 34 :: [] from h)
    rw [bodyM_eq, h1, blt_t h2, List.append_nil]
    rfl
  | c :: r, p, out, b, h => by
    have hesc : ∀ x : UInt8, qB c = [92, x] → escB (x.toNat : Int) = true → (escV (x.toNat : Int)).toNat.toUInt8 = c → bodyM t p out b = ⟨true, fl out (b ++ c :: r), p + (quB (c :: r)).length + 1⟩ := by
      intro x hq hx hv
      have h' : t.drop p = 92 :: x :: (quB r ++ [34]) := by rw [h]; simp only [quB, hq]; rfl
      have h2 : t.drop (p + 2) = quB r ++ [34] := (byt_hd (byt_hd h').2.2.2).2.2.2
      rw [body_esc out b h' hx, hv, body_q t r (p + 2) out _ h2]
      simp only [quB, hq, List.append_assoc, List.length_append, List.length_cons, List.length_nil, List.singleton_append]
      congr 1
      omega
    by_cases h34 : c = 34
    · subst h34; exact hesc 34 rfl rfl rfl
    by_cases h92 : c = 92
    · subst h92; exact hesc 92 rfl rfl rfl
    by_cases h36 : c = 36
    · subst h36; exact hesc 36 rfl rfl rfl
    by_cases h10 : c = 10
    · subst h10; exact hesc 110 rfl rfl rfl
    by_cases h9 : c = 9
    · subst h9; exact hesc 116 rfl rfl rfl
    have hq : qB c = [c] := by
      show (bif (c == 34 || (c == 92 || c == 36)) then [92, c] else bif c == 10 then [92, 110] else bif c == 9 then [92, 116] else [c]) = [c]
      rw [beq_eq_false_iff_ne.2 h34, beq_eq_false_iff_ne.2 h92, beq_eq_false_iff_ne.2 h36, beq_eq_false_iff_ne.2 h10, beq_eq_false_iff_ne.2 h9]
      rfl
    have h' : t.drop p = c :: (quB r ++ [34]) := by rw [h]; simp only [quB, hq]; rfl
    rw [body_plain out b h' h34 h10 h92 h36, body_q t r (p + 1) out _ (byt_hd h').2.2.2]
    simp only [quB, hq, List.append_assoc, List.length_cons, List.singleton_append]
    congr 1
    omega

theorem quoM_len (s : Str) : (quoM s).length = (quB s).length + 2 := by simp [quoM]
theorem tok_q (s : Str) (hs : s.length ≤ 1000) : tokO (quoM s) 0 = ⟨⟨3, [], 0, fl [] s, posR (quoM s) 0⟩, (quoM s).length, 0⟩ := by
  have h0 : byt (quoM s) 0 = 34 := rfl
  have hb := body_q (quoM s) s 1 [] [] rfl
  have hne : Nat.beq 0 (quoM s).length = false := by rw [quoM_len]; rfl
  unfold tokO
  rw [hne, h0]
  show textO (quoM s) 0 = _
  unfold textO
  rw [Nat.zero_add, hb]
  have hp : psum (fl [] ([] ++ s)) = s.length := by rw [psum_fl]; simp [psum]
  simp only [cond_true, hp]
  rw [decide_eq_false (show ¬ (s.length : Int) > 1024 by omega), quoM_len]
  simp only [cond_false, List.nil_append]
  congr 1
  omega
/-- All tokens of what is quoted: the string; the end. -/
theorem all_q (s : Str) (hs : s.length ≤ 1000) : allM (quoM s) = ⟨[⟨3, [], 0, fl [] s, posR (quoM s) 0⟩, tok0 (quoM s) (quoM s).length], 0, ⟨0, 0, 0⟩⟩ := by
  have hl := quB_len s
  have hlen := quoM_len s
  unfold allM
  rw [show Nat.blt 32768 (quoM s).length = false from blt_f (by omega)]
  have hb0 : blankM (quoM s) 0 = 0 := by
    rw [blankM_eq (by omega)]
    rfl
  obtain ⟨k, hk⟩ : ∃ k, (quoM s).length = k + 1 := ⟨(quoM s).length - 1, by omega⟩
  have hend : tokO (quoM s) (quoM s).length = ⟨tok0 (quoM s) (quoM s).length, (quoM s).length, 0⟩ := by
    unfold tokO
    rw [Nat.beq_refl]; rfl
  have step1 : allK ((quoM s).length + 1) (quoM s) 0 [] = allK (quoM s).length (quoM s) (quoM s).length [⟨3, [], 0, fl [] s, posR (quoM s) 0⟩] := by
    conv => lhs; simp only [allK]
    rw [hb0, tok_q s hs]
    rfl
  have step2 : allK (quoM s).length (quoM s) (quoM s).length [⟨3, [], 0, fl [] s, posR (quoM s) 0⟩] = ⟨[⟨3, [], 0, fl [] s, posR (quoM s) 0⟩, tok0 (quoM s) (quoM s).length], 0, ⟨0, 0, 0⟩⟩ := by
    have : allK (k + 1) (quoM s) (quoM s).length [⟨3, [], 0, fl [] s, posR (quoM s) 0⟩] = ⟨[⟨3, [], 0, fl [] s, posR (quoM s) 0⟩, tok0 (quoM s) (quoM s).length], 0, ⟨0, 0, 0⟩⟩ := by
      simp only [allK]
      rw [blankM_end (by omega), hend]
      rfl
    rw [← hk] at this
    exact this
  simp only [cond_false]
  rw [step1, step2]
end Go.Proofs.YtmhmelmoionoiaaGreatDoor
