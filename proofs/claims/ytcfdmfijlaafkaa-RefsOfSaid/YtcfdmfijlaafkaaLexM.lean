/-
  THE DOCUMENT's LEXER, plainly: what stands between tokens, a token, all tokens; laws of these.
-/
import Derived.Test.YtcfdmfijlaafkaaRefNum
namespace Go.Proofs.Ytcfdmfijlaafkaa
open Go.Eng

def letB (c : Int) : Bool := (decide (97 ≤ c) && decide (c ≤ 122)) || c == 95
def digB' (c : Int) : Bool := decide (48 ≤ c) && decide (c ≤ 57)
def allB (c : Int) : Bool := letB c || digB' c
def runM (s : Str) (p : Nat) : Nat := ff (fun i => allB (byt s (p + i))) (s.length - p)

theorem runM_le (s : Str) (p : Nat) : runM s p ≤ s.length - p := by
  rcases ff_spec (s.length - p) (fun i => allB (byt s (p + i))) with ⟨h, _⟩ | ⟨h, _⟩ <;> unfold runM <;> omega

def escV (c : Int) : Int := bif c == 34 then c else bif c == 92 then c else bif c == 36 then c else bif c == 110 then 10 else bif c == 116 then 9 else 0
def escB (c : Int) : Bool := bif c == 34 then true else bif c == 92 then true else bif c == 36 then true else bif c == 110 then true else bif c == 116 then true else false

def w64 (z : Int) : Int := IntKind.i64.wrap z
/-- The line of a place; where it begins. -/
def ln (s : Str) : Nat → Int
  | 0 => 1
  | p + 1 => bif byt s p == 10 then ln s p + 1 else ln s p
def sn (s : Str) : Nat → Int
  | 0 => 0
  | p + 1 => bif byt s p == 10 then (p : Int) + 1 else sn s p

theorem ln_in (s : Str) : ∀ p, 1 ≤ ln s p ∧ ln s p ≤ (p : Int) + 1
  | 0 => ⟨Int.le_refl 1, by simp [ln]⟩
  | p + 1 => by
    have h := ln_in s p
    simp only [ln]
    cases byt s p == 10 <;> simp only [cond_true, cond_false] <;> omega
theorem sn_in (s : Str) : ∀ p, 0 ≤ sn s p ∧ sn s p ≤ (p : Int)
  | 0 => ⟨Int.le_refl 0, by simp [sn]⟩
  | p + 1 => by
    have h := sn_in s p
    simp only [sn]
    cases byt s p == 10 <;> simp only [cond_true, cond_false] <;> omega


theorem byt_drop (s : Str) (p i : Nat) : byt (s.drop p) i = byt s (p + i) := by
  unfold byt
  rw [List.getD_eq_getElem?_getD, List.getD_eq_getElem?_getD, List.getElem?_drop]

def isB (c : Int) : Bool := c == 32 || (c == 10 || c == 9)
/-- How long a remark is: up to the line's end. -/
def cmt (s : Str) (p : Nat) : Nat := ff (fun i => !(byt (s.drop p) i == 10)) (s.drop p).length

theorem cmt_le (s : Str) (p : Nat) : cmt s p ≤ s.length - p := by
  rcases ff_spec (s.drop p).length (fun i => !(byt (s.drop p) i == 10)) with ⟨h, _⟩ | ⟨h, _⟩ <;> unfold cmt <;> rw [List.length_drop] at * <;> omega

theorem cmt_pos {s : Str} {p : Nat} (hp : p < s.length) (hb : (byt s p == 35) = true) : 0 < cmt s p := by
  have hl : 0 < (s.drop p).length := by rw [List.length_drop]; omega
  rcases ff_spec (s.drop p).length (fun i => !(byt (s.drop p) i == 10)) with ⟨h, _⟩ | ⟨_, h, _⟩
  · unfold cmt; omega
  · unfold cmt
    rcases Nat.eq_zero_or_pos (ff (fun i => !(byt (s.drop p) i == 10)) (s.drop p).length) with h0 | h0
    · rw [h0, byt_drop, Nat.add_zero] at h
      rw [beq_iff_eq] at hb
      rw [hb] at h
      simp at h
    · exact h0

def blk : Nat → Str → Nat → Nat
  | 0, _, p => p
  | k + 1, s, p => bif Nat.blt p s.length then (bif isB (byt s p) then blk k s (p + 1) else bif byt s p == 35 then blk k s (p + cmt s p) else p) else p

/-- Where the next token stands. -/
def blankM (s : Str) (p : Nat) : Nat := blk (s.length - p) s p

theorem blk_any : ∀ (k k' : Nat) (s : Str) (p : Nat), s.length - p ≤ k → s.length - p ≤ k' → blk k s p = blk k' s p
  | 0, 0, _, _, _, _ => rfl
  | 0, k' + 1, s, p, h, _ => by
    have hb : Nat.blt p s.length = false := by
      cases hb : Nat.blt p s.length with
      | false => rfl
      | true => rw [Nat.blt_eq] at hb; omega
    simp [blk, hb]
  | k + 1, 0, s, p, _, h => by
    have hb : Nat.blt p s.length = false := by
      cases hb : Nat.blt p s.length with
      | false => rfl
      | true => rw [Nat.blt_eq] at hb; omega
    simp [blk, hb]
  | k + 1, k' + 1, s, p, h, h' => by
    simp only [blk]
    cases hb : Nat.blt p s.length with
    | false => rfl
    | true =>
      rw [Nat.blt_eq] at hb
      simp only [cond_true]
      cases hB : isB (byt s p) with
      | true => exact blk_any k k' s (p + 1) (by omega) (by omega)
      | false =>
        cases hc : byt s p == 35 with
        | true =>
          have := cmt_pos hb hc
          exact blk_any k k' s (p + cmt s p) (by omega) (by omega)
        | false => rfl

theorem blankM_end {s : Str} {p : Nat} (h : ¬ p < s.length) : blankM s p = p := by
  unfold blankM
  rw [show s.length - p = 0 by omega]; rfl

theorem blankM_eq {s : Str} {p : Nat} (h : p < s.length) : blankM s p = bif isB (byt s p) then blankM s (p + 1) else bif byt s p == 35 then blankM s (p + cmt s p) else p := by
  unfold blankM
  obtain ⟨k, hk⟩ : ∃ k, s.length - p = k + 1 := ⟨s.length - p - 1, by omega⟩
  rw [hk]
  simp only [blk]
  rw [blt_t h, cond_true]
  cases hB : isB (byt s p) with
  | true => exact blk_any _ _ _ _ (by omega) (by omega)
  | false =>
    cases hc : byt s p == 35 with
    | true =>
      have := cmt_pos h hc
      exact blk_any _ _ _ _ (by omega) (by omega)
    | false => rfl

theorem blankM_in (s : Str) : ∀ (n p : Nat), s.length - p = n → p ≤ s.length → p ≤ blankM s p ∧ blankM s p ≤ s.length := by
  intro n
  induction n using Nat.strongRecOn with
  | _ n ih =>
    intro p hn hp
    rcases Nat.lt_or_ge p s.length with h | h
    · rw [blankM_eq h]
      cases hB : isB (byt s p) with
      | true =>
        have := ih (s.length - (p + 1)) (by omega) (p + 1) rfl (by omega)
        simp only [cond_true]; omega
      | false =>
        cases hc : byt s p == 35 with
        | true =>
          have h1 := cmt_pos h hc
          have h2 := cmt_le s p
          have := ih (s.length - (p + cmt s p)) (by omega) (p + cmt s p) rfl (by omega)
          simp only [cond_true, cond_false]; omega
        | false => simp only [cond_false]; omega
    · rw [blankM_end (by omega)]; omega

/-- What stands there is no blank. -/
theorem blankM_at (s : Str) : ∀ (n p : Nat), s.length - p = n → p ≤ s.length → blankM s p < s.length → isB (byt s (blankM s p)) = false ∧ (byt s (blankM s p) == 35) = false := by
  intro n
  induction n using Nat.strongRecOn with
  | _ n ih =>
    intro p hn hp hlt
    rcases Nat.lt_or_ge p s.length with h | h
    · rw [blankM_eq h] at hlt ⊢
      cases hB : isB (byt s p) with
      | true =>
        rw [hB, cond_true] at hlt
        exact ih (s.length - (p + 1)) (by omega) (p + 1) rfl (by omega) hlt
      | false =>
        cases hc : byt s p == 35 with
        | true =>
          have h1 := cmt_pos h hc
          have h2 := cmt_le s p
          rw [hB, hc, cond_true, cond_false] at hlt
          exact ih (s.length - (p + cmt s p)) (by omega) (p + cmt s p) rfl (by omega) hlt
        | false => simp only [cond_false]; exact ⟨hB, hc⟩
    · rw [blankM_end (by omega)] at hlt; omega


/-- A number. -/
def nuV (s : Str) : Int × Int := Nu.refParseV s

def posR (s : Str) (p : Nat) : PosR := ⟨p, ln s p, (p : Int) - sn s p + 1⟩
def tok0 (s : Str) (p : Nat) : TokR := ⟨0, [], 0, [], posR s p⟩
def sl (s : Str) (p n : Nat) : Str := (s.drop p).take n

/-- A token, where it ends, what is wrong with it. -/
structure TOut where
  t : TokR
  q : Nat
  e : Int

def nameO (s : Str) (p : Nat) : TOut := ⟨⟨1, sl s p (runM s p), 0, [], posR s p⟩, p + runM s p, bif decide ((runM s p : Int) > 24) then 3 else 0⟩
def numO (s : Str) (p : Nat) : TOut := ⟨⟨2, [], (nuV (sl s p (runM s p))).1, [], posR s p⟩, p + runM s p, (nuV (sl s p (runM s p))).2⟩

def two (s : Str) (p : Nat) (a b : Int) : Bool := byt s p == a && byt s (p + 1) == b
def twoS (s : Str) (p : Nat) : Str := bif two s p 61 61 then [61, 61] else bif two s p 33 61 then [33, 61] else bif two s p 60 61 then [60, 61] else bif two s p 62 61 then [62, 61] else
  bif two s p 38 38 then [38, 38] else bif two s p 124 124 then [124, 124] else bif two s p 61 62 then [61, 62] else []
def onesS : Str := [123, 125, 91, 93, 40, 41, 61, 44, 46, 58, 63, 33, 60, 62, 43, 45, 42, 47, 37]
def isOne (c : Int) : Bool := onesS.any fun x => (x.toNat : Int) == c
def signO (s : Str) (p : Nat) : TOut := match twoS s p with
  | [] => bif isOne (byt s p) then ⟨⟨4, sl s p 1, 0, [], posR s p⟩, p + 1, 0⟩ else ⟨⟨4, [], 0, [], posR s p⟩, p, 23⟩
  | x :: l => ⟨⟨4, x :: l, 0, [], posR s p⟩, p + 2, 0⟩

/-- What a string has; whether it has an end; where that is. -/
structure BodyO where
  ok : Bool
  l : List PartR
  q : Nat

def fl (out : List PartR) : Str → List PartR
  | [] => out
  | x :: b => out ++ [⟨false, x :: b, ⟨0, 0, 0⟩⟩]
def isQ (c : Int) : Bool := c == 34 || (c == 123 || (c == 125 || c == 10))
def pcn (s : Str) (p : Nat) : Nat := ff (fun i => !(isQ (byt (s.drop p) i))) (s.drop p).length
def pcOk (s : Str) (p : Nat) : Bool := Nat.blt (pcn s p) (s.drop p).length && byt s (p + pcn s p) == 125
def pieceR (s : Str) (p : Nat) : PartR := ⟨true, sl s p (pcn s p), posR s p⟩

def bodyK : Nat → Str → Nat → List PartR → Str → BodyO
  | 0, _, p, _, _ => ⟨false, [], p⟩
  | k + 1, s, p, out, b =>
    bif !(Nat.blt p s.length) then ⟨false, [], p⟩
    else bif byt s p == 34 then ⟨true, fl out b, p + 1⟩
    else bif byt s p == 10 then ⟨false, [], p⟩
    else bif byt s p == 92 then (bif !(Nat.blt (p + 1) s.length) then ⟨false, [], p⟩ else bif escB (byt s (p + 1)) then bodyK k s (p + 2) out (b ++ [(escV (byt s (p + 1))).toNat.toUInt8]) else ⟨false, [], p⟩)
    else bif two s p 36 123 then (bif pcOk s (p + 2) then bodyK k s (p + 2 + pcn s (p + 2) + 1) (fl out b ++ [pieceR s (p + 2)]) [] else ⟨false, [], p + 2⟩)
    else bodyK k s (p + 1) out (b ++ [s.getD p 0])
def bodyM (s : Str) (p : Nat) (out : List PartR) (b : Str) : BodyO := bodyK (s.length - p + 1) s p out b

def psum : List PartR → Nat
  | [] => 0
  | x :: l => x.s.length + psum l
def textO (s : Str) (p : Nat) : TOut := bif (bodyM s (p + 1) [] []).ok
  then ⟨⟨3, [], 0, (bodyM s (p + 1) [] []).l, posR s p⟩, (bodyM s (p + 1) [] []).q, bif decide ((psum (bodyM s (p + 1) [] []).l : Int) > 1024) then 3 else 0⟩
  else ⟨tok0 s p, (bodyM s (p + 1) [] []).q, 4⟩

def tokO (s : Str) (p : Nat) : TOut := bif Nat.beq p s.length then ⟨tok0 s p, p, 0⟩ else bif letB (byt s p) then nameO s p else bif digB' (byt s p) then numO s p else bif byt s p == 34 then textO s p else signO s p

/-- All tokens, or what is wrong. -/
structure AllO where
  l : List TokR
  bad : Int
  bp : PosR

def allK : Nat → Str → Nat → List TokR → AllO
  | 0, _, _, _ => ⟨[], 0, ⟨0, 0, 0⟩⟩
  | k + 1, s, p, acc => bif !((tokO s (blankM s p)).e == 0) then ⟨[], (tokO s (blankM s p)).e, posR s (blankM s p)⟩
    else bif (tokO s (blankM s p)).t.kind == 0 then ⟨acc ++ [(tokO s (blankM s p)).t], 0, ⟨0, 0, 0⟩⟩
    else allK k s (tokO s (blankM s p)).q (acc ++ [(tokO s (blankM s p)).t])
def allM (s : Str) : AllO := bif Nat.blt 32768 s.length then ⟨[], 3, posR s 0⟩ else allK (s.length + 1) s 0 []

-- laws of these

theorem blt_f {a b : Nat} (h : ¬ a < b) : Nat.blt a b = false := by
  cases hb : Nat.blt a b with
  | false => rfl
  | true => rw [Nat.blt_eq] at hb; omega

theorem pcn_le (s : Str) (p : Nat) : pcn s p ≤ s.length - p := by
  rcases ff_spec (s.drop p).length (fun i => !(isQ (byt (s.drop p) i))) with ⟨h, _⟩ | ⟨h, _⟩ <;> unfold pcn <;> rw [List.length_drop] at * <;> omega

theorem pcOk_lt {s : Str} {p : Nat} (h : pcOk s p = true) : p + pcn s p < s.length := by
  unfold pcOk at h
  rw [Bool.and_eq_true, Nat.blt_eq, List.length_drop] at h
  omega

theorem bodyK_any : ∀ (k k' : Nat) (s : Str) (p : Nat) (out : List PartR) (b : Str), s.length - p < k → s.length - p < k' → bodyK k s p out b = bodyK k' s p out b
  | 0, _, _, _, _, _, h, _ => by omega
  | _ + 1, 0, _, _, _, _, _, h => by omega
  | k + 1, k' + 1, s, p, out, b, h, h' => by
    simp only [bodyK]
    cases hb : Nat.blt p s.length with
    | false => rfl
    | true =>
      rw [Nat.blt_eq] at hb
      rw [bodyK_any k k' s (p + 2) _ _ (by omega) (by omega), bodyK_any k k' s (p + 2 + pcn s (p + 2) + 1) _ _ (by omega) (by omega), bodyK_any k k' s (p + 1) _ _ (by omega) (by omega)]

theorem bodyM_eq {s : Str} {p : Nat} (out : List PartR) (b : Str) : bodyM s p out b =
    bif !(Nat.blt p s.length) then ⟨false, [], p⟩
    else bif byt s p == 34 then ⟨true, fl out b, p + 1⟩
    else bif byt s p == 10 then ⟨false, [], p⟩
    else bif byt s p == 92 then (bif !(Nat.blt (p + 1) s.length) then ⟨false, [], p⟩ else bif escB (byt s (p + 1)) then bodyM s (p + 2) out (b ++ [(escV (byt s (p + 1))).toNat.toUInt8]) else ⟨false, [], p⟩)
    else bif two s p 36 123 then (bif pcOk s (p + 2) then bodyM s (p + 2 + pcn s (p + 2) + 1) (fl out b ++ [pieceR s (p + 2)]) [] else ⟨false, [], p + 2⟩)
    else bodyM s (p + 1) out (b ++ [s.getD p 0]) := by
  unfold bodyM
  conv => lhs; simp only [bodyK]
  cases hb : Nat.blt p s.length with
  | false => rfl
  | true =>
    rw [Nat.blt_eq] at hb
    rw [bodyK_any (s.length - p) (s.length - (p + 2) + 1) s (p + 2) _ _ (by omega) (by omega), bodyK_any (s.length - p) (s.length - (p + 2 + pcn s (p + 2) + 1) + 1) s (p + 2 + pcn s (p + 2) + 1) _ _ (by omega) (by omega),
      bodyK_any (s.length - p) (s.length - (p + 1) + 1) s (p + 1) _ _ (by omega) (by omega)]

theorem psum_app (l r : List PartR) : psum (l ++ r) = psum l + psum r := by
  induction l with
  | nil => simp [psum]
  | cons x l ih => simp only [List.cons_append, psum, ih]; omega

theorem psum_fl (out : List PartR) (b : Str) : psum (fl out b) = psum out + b.length := by
  cases b with
  | nil => rfl
  | cons x b => simp [fl, psum_app, psum]

/-- A body's end, and how much it has. -/
theorem bodyM_in (s : Str) : ∀ (n p : Nat) (out : List PartR) (b : Str), s.length - p = n → p ≤ s.length → p ≤ (bodyM s p out b).q ∧ (bodyM s p out b).q ≤ s.length ∧ ((bodyM s p out b).ok = true → psum (bodyM s p out b).l + p ≤ psum out + b.length + (bodyM s p out b).q ∧ p < (bodyM s p out b).q) := by
  intro n
  induction n using Nat.strongRecOn with
  | _ n ih =>
    intro p out b hn hp
    rw [bodyM_eq]
    rcases Nat.lt_or_ge p s.length with h | h
    · rw [blt_t h]
      simp only [Bool.not_true, cond_false]
      cases byt s p == 34 with
      | true => simp only [cond_true]; rw [psum_fl]; exact ⟨by omega, by omega, fun _ => ⟨by omega, by omega⟩⟩
      | false =>
      cases byt s p == 10 with
      | true => simp only [cond_true, cond_false]; exact ⟨by omega, by omega, fun h => by simp at h⟩
      | false =>
      cases byt s p == 92 with
      | true =>
        simp only [cond_true, cond_false]
        rcases Nat.lt_or_ge (p + 1) s.length with h2 | h2
        · rw [blt_t h2]
          simp only [Bool.not_true, cond_false]
          cases escB (byt s (p + 1)) with
          | true =>
            have := ih (s.length - (p + 2)) (by omega) (p + 2) out (b ++ [(escV (byt s (p + 1))).toNat.toUInt8]) rfl (by omega)
            simp only [cond_true]
            refine ⟨by omega, by omega, fun ho => ?_⟩
            have h3 := this.2.2 ho
            rw [List.length_append, List.length_singleton] at h3
            omega
          | false => simp only [cond_false]; exact ⟨by omega, by omega, fun h => by simp at h⟩
        · rw [blt_f (by omega)]; simp only [Bool.not_false, cond_true]; exact ⟨by omega, by omega, fun h => by simp at h⟩
      | false =>
      cases h36 : two s p 36 123 with
      | true =>
        simp only [cond_true, cond_false]
        have hp2 : p + 2 ≤ s.length := by
          unfold two at h36
          rw [Bool.and_eq_true, beq_iff_eq, beq_iff_eq] at h36
          rcases Nat.lt_or_ge (p + 1) s.length with h2 | h2
          · omega
          · have := h36.2
            unfold byt at this
            rw [List.getD_eq_getElem?_getD, List.getElem?_eq_none (by omega)] at this
            simp at this
        cases hpc : pcOk s (p + 2) with
        | true =>
          have hlt := pcOk_lt hpc
          have := ih (s.length - (p + 2 + pcn s (p + 2) + 1)) (by omega) (p + 2 + pcn s (p + 2) + 1) (fl out b ++ [pieceR s (p + 2)]) [] rfl (by omega)
          simp only [cond_true]
          refine ⟨by omega, by omega, fun ho => ?_⟩
          have h3 := this.2.2 ho
          rw [psum_app, psum_fl] at h3
          have h4 : psum [pieceR s (p + 2)] ≤ pcn s (p + 2) := by
            show (sl s (p + 2) (pcn s (p + 2))).length + 0 ≤ _
            unfold sl
            rw [List.length_take]; omega
          simp only [List.length_nil] at h3
          omega
        | false => simp only [cond_false]; exact ⟨by omega, by omega, fun h => by simp at h⟩
      | false =>
        have := ih (s.length - (p + 1)) (by omega) (p + 1) out (b ++ [s.getD p 0]) rfl (by omega)
        simp only [cond_false]
        refine ⟨by omega, by omega, fun ho => ?_⟩
        have h3 := this.2.2 ho
        rw [List.length_append, List.length_singleton] at h3
        omega
    · rw [blt_f (by omega)]; simp only [Bool.not_false, cond_true]; exact ⟨by omega, by omega, fun h => by simp at h⟩


theorem byt_out {s : Str} {p : Nat} (h : ¬ p < s.length) : byt s p = 0 := by
  unfold byt
  rw [List.getD_eq_getElem?_getD, List.getElem?_eq_none (by omega)]; rfl

theorem two_in {s : Str} {p : Nat} {a b : Int} (h : two s p a b = true) (hb : b ≠ 0) : p + 1 < s.length := by
  unfold two at h
  rw [Bool.and_eq_true, beq_iff_eq, beq_iff_eq] at h
  rcases Nat.lt_or_ge (p + 1) s.length with h2 | h2
  · exact h2
  · rw [byt_out (show ¬ p + 1 < s.length by omega)] at h
    exact absurd h.2.symm hb

theorem runM_pos {s : Str} {p : Nat} (hp : p < s.length) (h : allB (byt s p) = true) : 0 < runM s p := by
  rcases ff_spec (s.length - p) (fun i => allB (byt s (p + i))) with ⟨h1, _⟩ | ⟨_, h1, _⟩
  · unfold runM; omega
  · unfold runM
    rcases Nat.eq_zero_or_pos (ff (fun i => allB (byt s (p + i))) (s.length - p)) with h0 | h0
    · rw [h0, Nat.add_zero, h] at h1; cases h1
    · exact h0

/-- What a sign of two bytes is. -/
theorem twoS_cases (s : Str) (p : Nat) : (twoS s p = [] ∧ two s p 61 61 = false ∧ two s p 33 61 = false ∧ two s p 60 61 = false ∧ two s p 62 61 = false ∧ two s p 38 38 = false ∧ two s p 124 124 = false ∧ two s p 61 62 = false) ∨
    ∃ a b : UInt8, twoS s p = [a, b] ∧ two s p (a.toNat : Int) (b.toNat : Int) = true ∧ b.toNat ≠ 0 := by
  unfold twoS
  cases h1 : two s p 61 61 with
  | true => exact .inr ⟨61, 61, rfl, h1, by decide⟩
  | false =>
  cases h2 : two s p 33 61 with
  | true => exact .inr ⟨33, 61, rfl, h2, by decide⟩
  | false =>
  cases h3 : two s p 60 61 with
  | true => exact .inr ⟨60, 61, rfl, h3, by decide⟩
  | false =>
  cases h4 : two s p 62 61 with
  | true => exact .inr ⟨62, 61, rfl, h4, by decide⟩
  | false =>
  cases h5 : two s p 38 38 with
  | true => exact .inr ⟨38, 38, rfl, h5, by decide⟩
  | false =>
  cases h6 : two s p 124 124 with
  | true => exact .inr ⟨124, 124, rfl, h6, by decide⟩
  | false =>
  cases h7 : two s p 61 62 with
  | true => exact .inr ⟨61, 62, rfl, h7, by decide⟩
  | false => exact .inl ⟨rfl, rfl, rfl, rfl, rfl, rfl, rfl, rfl⟩

/-- What a token is like: where it ends; its kind. -/
theorem tokO_in {s : Str} {p : Nat} (hp : p ≤ s.length) (he : ((tokO s p).e == 0) = true) : (tokO s p).q ≤ s.length ∧ (tokO s p).t.p = posR s p ∧
    ((((tokO s p).t.kind == 0) = true ∧ p = s.length) ∨ (((tokO s p).t.kind == 0) = false ∧ p < (tokO s p).q)) := by
  unfold tokO at *
  cases hb : Nat.beq p s.length with
  | true => exact ⟨hp, rfl, .inl ⟨rfl, Nat.eq_of_beq_eq_true hb⟩⟩
  | false =>
    have hlt : p < s.length := by
      rcases Nat.lt_or_ge p s.length with h | h
      · exact h
      · obtain rfl : p = s.length := by omega
        rw [Nat.beq_refl] at hb; cases hb
    rw [hb] at he
    have hr := runM_le s p
    cases hl : letB (byt s p) with
    | true =>
      have := runM_pos hlt (show allB (byt s p) = true by unfold allB; rw [hl]; rfl)
      exact ⟨by show p + runM s p ≤ _; omega, rfl, .inr ⟨rfl, by show p < p + runM s p; omega⟩⟩
    | false =>
    cases hd : digB' (byt s p) with
    | true =>
      have := runM_pos hlt (show allB (byt s p) = true by unfold allB; rw [hd]; simp)
      exact ⟨by show p + runM s p ≤ _; omega, rfl, .inr ⟨rfl, by show p < p + runM s p; omega⟩⟩
    | false =>
    cases hq : byt s p == 34 with
    | true =>
      simp only [cond_false, cond_true, hl, hd, hq, textO] at he ⊢
      have hin := bodyM_in s _ (p + 1) [] [] rfl (by omega)
      cases ho : (bodyM s (p + 1) [] []).ok with
      | false => rw [ho] at he; cases he
      | true =>
        simp only [cond_true]
        exact ⟨hin.2.1, by first | rfl | trivial, .inr ⟨by first | rfl | trivial, by omega⟩⟩
    | false =>
      simp only [cond_false, hl, hd, hq, signO] at he ⊢
      rcases twoS_cases s p with ⟨h0, _⟩ | ⟨a, b, h0, h1, h2⟩
      · rw [h0] at he ⊢
        cases h3 : isOne (byt s p) with
        | true => exact ⟨by show p + 1 ≤ _; omega, by first | rfl | trivial, .inr ⟨by first | rfl | trivial, by show p < p + 1; omega⟩⟩
        | false => rw [h3] at he; cases he
      · rw [h0]
        have := two_in h1 (by omega)
        exact ⟨by show p + 2 ≤ _; omega, by first | rfl | trivial, .inr ⟨by first | rfl | trivial, by show p < p + 2; omega⟩⟩

inductive LexTo (s : Str) : Nat → List TokR → Int → PosR → Prop
  | bad (p : Nat) (h : ((tokO s (blankM s p)).e == 0) = false) : LexTo s p [] (tokO s (blankM s p)).e (posR s (blankM s p))
  | stop (p : Nat) (h : ((tokO s (blankM s p)).e == 0) = true) (hk : ((tokO s (blankM s p)).t.kind == 0) = true) : LexTo s p [(tokO s (blankM s p)).t] 0 ⟨0, 0, 0⟩
  | go (p : Nat) (l : List TokR) (h : ((tokO s (blankM s p)).e == 0) = true) (hk : ((tokO s (blankM s p)).t.kind == 0) = false) (hl : LexTo s (tokO s (blankM s p)).q l 0 ⟨0, 0, 0⟩) : LexTo s p ((tokO s (blankM s p)).t :: l) 0 ⟨0, 0, 0⟩
  | goBad (p : Nat) (e : Int) (bp : PosR) (h : ((tokO s (blankM s p)).e == 0) = true) (hk : ((tokO s (blankM s p)).t.kind == 0) = false) (he : (e == 0) = false) (hl : LexTo s (tokO s (blankM s p)).q [] e bp) : LexTo s p [] e bp

theorem lexTo_zero {s : Str} {p : Nat} {l : List TokR} {bp : PosR} (h : LexTo s p l 0 bp) : bp = ⟨0, 0, 0⟩ ∧ l ≠ [] := by
  generalize he : (0 : Int) = e at h
  cases h with
  | bad _ h => rw [← he] at h; simp at h
  | stop => exact ⟨rfl, by simp⟩
  | go => exact ⟨rfl, by simp⟩
  | goBad _ _ _ _ _ h => rw [← he] at h; simp at h
theorem lexTo_bad {s : Str} {p : Nat} {l : List TokR} {e : Int} {bp : PosR} (h : LexTo s p l e bp) (he : (e == 0) = false) : l = [] := by
  cases h with
  | bad => rfl
  | stop => simp at he
  | go => simp at he
  | goBad => rfl

theorem allK_to (s : Str) : ∀ (k p : Nat) (acc : List TokR), p ≤ s.length → s.length - p < k → ∃ l e bp, LexTo s p l e bp ∧ allK k s p acc = ⟨bif e == 0 then acc ++ l else [], e, bp⟩
  | 0, p, acc, _, h => by omega
  | k + 1, p, acc, hp, hk => by
    have hb := blankM_in s _ p rfl hp
    simp only [allK]
    cases he : (tokO s (blankM s p)).e == 0 with
    | false => exact ⟨[], _, _, .bad p he, by rw [he]; rfl⟩
    | true =>
      obtain ⟨h1, _, h2⟩ := tokO_in hb.2 he
      rcases h2 with ⟨h2, h3⟩ | ⟨h2, h3⟩
      · rw [h2]; exact ⟨_, _, _, .stop p he h2, rfl⟩
      · rw [h2]
        obtain ⟨l, e, bp, h4, h5⟩ := allK_to s k (tokO s (blankM s p)).q (acc ++ [(tokO s (blankM s p)).t]) h1 (by omega)
        simp only [Bool.not_true, cond_false]
        rw [h5]
        cases h6 : e == 0 with
        | true =>
          rw [beq_iff_eq] at h6
          subst h6
          obtain rfl := (lexTo_zero h4).1
          exact ⟨_, _, _, .go p l he h2 h4, by simp⟩
        | false =>
          obtain rfl := lexTo_bad h4 h6
          exact ⟨_, _, _, .goBad p e bp he h2 h6 h4, by rw [h6]; rfl⟩

theorem to_allK {s : Str} {p : Nat} {l : List TokR} {e : Int} {bp : PosR} (h : LexTo s p l e bp) : p ≤ s.length → ∀ (k : Nat) (acc : List TokR), s.length - p < k → allK k s p acc = ⟨bif e == 0 then acc ++ l else [], e, bp⟩ := by
  induction h with
  | bad p h => intro hp k acc hk; obtain ⟨k, rfl⟩ : ∃ j, k = j + 1 := ⟨k - 1, by omega⟩; simp only [allK, h]; rfl
  | stop p h hk => intro hp k acc hk'; obtain ⟨k, rfl⟩ : ∃ j, k = j + 1 := ⟨k - 1, by omega⟩; simp only [allK, h, hk]; rfl
  | go p l h hk hl ih =>
    intro hp k acc hk'
    obtain ⟨k, rfl⟩ : ∃ j, k = j + 1 := ⟨k - 1, by omega⟩
    have hb := blankM_in s _ p rfl hp
    obtain ⟨h1, _, h2⟩ := tokO_in hb.2 h
    have hq : p < (tokO s (blankM s p)).q := by
      rcases h2 with ⟨h2, _⟩ | ⟨_, h2⟩
      · rw [hk] at h2; cases h2
      · omega
    simp only [allK, h, hk, Bool.not_true, cond_false]
    rw [ih h1 k _ (by omega)]
    simp
  | goBad p e bp h hk he hl ih =>
    intro hp k acc hk'
    obtain ⟨k, rfl⟩ : ∃ j, k = j + 1 := ⟨k - 1, by omega⟩
    have hb := blankM_in s _ p rfl hp
    obtain ⟨h1, _, h2⟩ := tokO_in hb.2 h
    have hq : p < (tokO s (blankM s p)).q := by
      rcases h2 with ⟨h2, _⟩ | ⟨_, h2⟩
      · rw [hk] at h2; cases h2
      · omega
    simp only [allK, h, hk, Bool.not_true, cond_false]
    rw [ih h1 k _ (by omega), he]
    rfl


end Go.Proofs.Ytcfdmfijlaafkaa
