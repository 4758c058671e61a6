/-
  THE SCANNER TELLS WHAT IS WRONG, once.
-/
import Derived.Test.YtmhmelmoionoiaaGreatDoorScan
import Derived.Lib.Bytealg
namespace Go.Proofs.YtmhmelmoionoiaaGreatDoor
open Go.Eng

set_option maxRecDepth 100000

def Scn.fail (z : Scn) (e : Int) (p : PosR) : Scn := { z with bad := bif z.bad == 0 then e else z.bad, bp := ⟨bif z.bad == 0 then p.at' else z.bp.at', bif z.bad == 0 then p.line else z.bp.line, bif z.bad == 0 then p.col else z.bp.col⟩ }

theorem e28n (s : Str) (p : Nat) (bad : Int) (bp q : PosR) (e : Int) : evM tell0 noTL noL 1 Tryz.f28 (decH (encS ⟨s, p, [], bad, bp⟩)) [.ptr 50000 0, dI e, .agg (cPos q)] =
    bif bad == 0 then some (.env (encS ⟨s, p, [], e, q⟩) (.tup [])) else some (.env (encS ⟨s, p, [], bad, bp⟩) (.tup [])) := by kernel_rfl
theorem e28c (s : Str) (p : Nat) (t : TokR) (l : List TokR) (bad : Int) (bp q : PosR) (e : Int) : evM tell0 noTL noL 1 Tryz.f28 (decH (encS ⟨s, p, t :: l, bad, bp⟩)) [.ptr 50000 0, dI e, .agg (cPos q)] =
    bif bad == 0 then some (.env (encS ⟨s, p, t :: l, e, q⟩) (.tup [])) else some (.env (encS ⟨s, p, t :: l, bad, bp⟩) (.tup [])) := by kernel_rfl

theorem ids28 : (loopsAt 28).length = 0 := by kernel_rfl

theorem fails (z : Scn) (e : Int) (q : PosR) : SndS 28 z [dI e, .agg (cPos q)] (.tup []) (z.fail e q) := by
  obtain ⟨s, p, toks, bad, bp⟩ := z
  have hL := loops_of (f := 28) (fn := Tryz.f28) (by kernel_rfl) (loops_0 ids28 (L := noL))
  cases toks with
  | nil =>
    refine snd_m (n := 1) (tell0_ok _) (noTL_ok _ _) (fn := Tryz.f28) (by kernel_rfl) hL ((e28n s p bad bp q e).trans ?_)
    unfold Scn.fail
    cases bad == 0 <;> rfl
  | cons t l =>
    refine snd_m (n := 1) (tell0_ok _) (noTL_ok _ _) (fn := Tryz.f28) (by kernel_rfl) hL ((e28c s p t l bad bp q e).trans ?_)
    unfold Scn.fail
    cases bad == 0 <;> rfl

def pFail (z : Scn) : List (D Pl) → Option (Bool × D Pl × Scn)
  | [.int .i64 e, .agg [.int .i64 a, .int .i64 b, .int .i64 c]] => some (true, .tup [], z.fail e ⟨a, b, c⟩)
  | _ => none
theorem pFail_ok : ∀ z args c d z', pFail z args = some (c, d, z') → c = true → SndS 28 z args d z' := by
  intro z args c d z' h hc
  unfold pFail at h
  split at h
  · simp only [Option.some.injEq, Prod.mk.injEq] at h
    obtain ⟨rfl, rfl, rfl⟩ := h
    exact fails _ _ ⟨_, _, _⟩
  · simp at h

end Go.Proofs.YtmhmelmoionoiaaGreatDoor

/-
  LOOPS BY A MEASURE; a scanner's objects in a state; how long a byte is away.
-/

namespace Go.Proofs.YtmhmelmoionoiaaGreatDoor
open Go.Eng

set_option maxRecDepth 100000

/-- A loop over states of a kind: each round goes on to a smaller one that comes to the same, or leaves. -/
theorem loop_run {A : Type} {body : Code} {Sf : A → St Pl} (I : A → Prop) (m : A → Nat) (res : A → Ex × St Pl)
    (step : ∀ a, I a → (∃ b, I b ∧ m b < m a ∧ res a = res b ∧ Goes X0 body (Sf a) .normal (Sf b)) ∨ ((res a).1 ≠ .normal ∧ Goes X0 body (Sf a) (res a).1 (res a).2)) (a : A) (ha : I a) :
    Goes X0 (.loop body) (Sf a) (res a).1 (res a).2 := by
  have key : ∀ (k : Nat) (a : A), m a < k → I a → ∃ (n : Nat) (T : Nat → St Pl), T 0 = Sf a ∧ (∀ i, i < n → Goes X0 body (T i) .normal (T (i + 1))) ∧ (res a).1 ≠ .normal ∧ Goes X0 body (T n) (res a).1 (res a).2 := by
    intro k
    induction k with
    | zero => intro a h; omega
    | succ k ih =>
      intro a hk ha
      rcases step a ha with ⟨b, hb, hm, hr, hg⟩ | ⟨hn, hg⟩
      · obtain ⟨n, T, h0, h1, h2, h3⟩ := ih b (by omega) hb
        refine ⟨n + 1, fun i => match i with
          | 0 => Sf a
          | i + 1 => T i, rfl, fun i hi => ?_, by rw [hr]; exact h2, by rw [hr]; exact h3⟩
        match i with
        | 0 => show Goes X0 body (Sf a) .normal (T 0); rw [h0]; exact hg
        | i + 1 => exact h1 i (by omega)
      · exact ⟨0, fun _ => Sf a, rfl, fun i hi => by omega, hn, hg⟩
  obtain ⟨n, T, h0, h1, h2, h3⟩ := key (m a + 1) a (by omega) ha
  rw [← h0]
  exact loop_goes h2 n T h1 h3

/-- A scanner's objects, in a state. -/
def decO : Obs Pl → Option (Bool × Scn)
  | [(50000, .box false (.str s :: .int .i64 (.ofNat p) :: .int .i64 l :: .int .i64 t :: [.int .u64 (.ofNat 0), .int .u64 a, .int .u64 b, .int .u64 c, .int .u64 d, .int .u64 (.ofNat 0), .nilS, .int .i64 bad, .int .i64 ba, .int .i64 bl, .int .i64 bc, .str []]))] =>
    some ((l == ln s p && t == sn s p) && ((a == cF && b == cN) && (c == cF && d == cN)), ⟨s, p, [], bad, ⟨ba, bl, bc⟩⟩)
  | [(50000, .box false (.str s :: .int .i64 (.ofNat p) :: .int .i64 l :: .int .i64 t :: [.int .u64 (.ofNat 0), .int .u64 a, .int .u64 b, .int .u64 c, .int .u64 d, .int .u64 (.ofNat 0), .arr 100010, .int .i64 bad, .int .i64 ba, .int .i64 bl, .int .i64 bc, .str []])), (100010, .arr false ⟨.toks, x :: r⟩)] =>
    some ((l == ln s p && t == sn s p) && ((a == cF && b == cN) && (c == cF && d == cN)), ⟨s, p, x :: r, bad, ⟨ba, bl, bc⟩⟩)
  | _ => none

theorem decO_eq {H : Obs Pl} {b : Bool} {z : Scn} (h : decO H = some (b, z)) (hb : b = true) : H = decH (encS z) := by
  unfold decO at h
  split at h
  · simp only [Option.some.injEq, Prod.mk.injEq] at h
    obtain ⟨rfl, rfl⟩ := h
    simp only [Bool.and_eq_true, beq_iff_eq] at hb
    obtain ⟨⟨rfl, rfl⟩, ⟨rfl, rfl⟩, rfl, rfl⟩ := hb
    rfl
  · simp only [Option.some.injEq, Prod.mk.injEq] at h
    obtain ⟨rfl, rfl⟩ := h
    simp only [Bool.and_eq_true, beq_iff_eq] at hb
    obtain ⟨⟨rfl, rfl⟩, ⟨rfl, rfl⟩, rfl, rfl⟩ := hb
    rfl
  · simp at h

/-- A scanner's objects in a state, its tokens under this name. -/
def encN (nm : Nat) (z : Scn) : Obs Pl := match z.toks with
  | [] => [(50000, .box false (bxc z.s z.p (ln z.s z.p) (sn z.s z.p) (tailD .nilS z.bad z.bp)))]
  | t :: l => [(50000, .box false (bxc z.s z.p (ln z.s z.p) (sn z.s z.p) (tailD (.arr nm) z.bad z.bp))), (nm, .arr false ⟨.toks, t :: l⟩)]

/-- How far away a byte is: the first places, and the end. -/
theorem indexByte_ff : ∀ (l : Str) (c : UInt8), Lib.indexByte l c = bif Nat.blt (ff (fun i => !(byt l i == (c.toNat : Int))) l.length) l.length then ((ff (fun i => !(byt l i == (c.toNat : Int))) l.length : Nat) : Int) else -1
  | [], c => rfl
  | b :: l, c => by
    have ih := indexByte_ff l c
    have h0 : (byt (b :: l) 0 == (c.toNat : Int)) = (b == c) := by
      show ((b.toNat : Int) == (c.toNat : Int)) = _
      by_cases h : b = c
      · subst h; simp
      · rw [beq_eq_false_iff_ne.2 h, beq_eq_false_iff_ne.2]
        intro hh
        exact h (UInt8.toNat_inj.1 (by omega))
    have h1 : (fun i => !(byt (b :: l) (i + 1) == (c.toNat : Int))) = (fun i => !(byt l i == (c.toNat : Int))) := rfl
    simp only [Lib.indexByte, List.length_cons, ff, h0, h1]
    by_cases h : b = c
    · subst h
      simp [Nat.blt]
      rfl
    · rw [beq_eq_false_iff_ne.2 h]
      simp only [Bool.not_false, cond_true, Bool.false_eq_true, if_false]
      rw [ih]
      generalize ff (fun i => !(byt l i == (c.toNat : Int))) l.length = k
      have e : Nat.blt (k + 1) (l.length + 1) = Nat.blt k l.length := rfl
      rw [e]
      cases Nat.blt k l.length with
      | true =>
        simp only [cond_true]
        rw [if_neg (by rw [beq_iff_eq]; omega)]; rfl
      | false => simp

end Go.Proofs.YtmhmelmoionoiaaGreatDoor

/-
  WHAT STANDS BETWEEN TOKENS, plainly.
-/

namespace Go.Proofs.YtmhmelmoionoiaaGreatDoor
open Go.Eng

theorem byt_drop (s : Str) (p i : Nat) : byt (s.drop p) i = byt s (p + i) := by
  unfold byt
  rw [List.getD_eq_getElem?_getD, List.getD_eq_getElem?_getD, List.getElem?_drop]

def isB (c : Int) : Bool := c == 32 || (c == 10 || c == 9)
/-- How long a remark is: up to the line's end. -/
def cmt (s : Str) (p : Nat) : Nat := ff (fun i => !(byt (s.drop p) i == 10)) (s.drop p).length

theorem cmt_le (s : Str) (p : Nat) : cmt s p ≤ s.length - p := by
  rcases ff_spec (s.drop p).length (fun i => !(byt (s.drop p) i == 10)) with ⟨h, _⟩ | ⟨h, _⟩ <;> unfold cmt <;> rw [List.length_drop] at * <;> omega

theorem cmt_pos {s : Str} {p : Nat} (hp : p < s.length) (hb : (byt s p == 35) = true) : 0 < cmt s p := by
  have hl : 0 < (s.drop p).length := by rw [List.length_drop]; omega
  rcases ff_spec (s.drop p).length (fun i => !(byt (s.drop p) i == 10)) with ⟨h, _⟩ | ⟨_, h, _⟩
  · unfold cmt; omega
  · unfold cmt
    rcases Nat.eq_zero_or_pos (ff (fun i => !(byt (s.drop p) i == 10)) (s.drop p).length) with h0 | h0
    · rw [h0, byt_drop, Nat.add_zero] at h
      rw [beq_iff_eq] at hb
      rw [hb] at h
      simp at h
    · exact h0

def blk : Nat → Str → Nat → Nat
  | 0, _, p => p
  | k + 1, s, p => bif Nat.blt p s.length then (bif isB (byt s p) then blk k s (p + 1) else bif byt s p == 35 then blk k s (p + cmt s p) else p) else p

/-- Where the next token stands. -/
def blankM (s : Str) (p : Nat) : Nat := blk (s.length - p) s p

theorem blk_any : ∀ (k k' : Nat) (s : Str) (p : Nat), s.length - p ≤ k → s.length - p ≤ k' → blk k s p = blk k' s p
  | 0, 0, _, _, _, _ => rfl
  | 0, k' + 1, s, p, h, _ => by
    have hb : Nat.blt p s.length = false := by
      cases hb : Nat.blt p s.length with
      | false => rfl
      | true => rw [Nat.blt_eq] at hb; omega
    simp [blk, hb]
  | k + 1, 0, s, p, _, h => by
    have hb : Nat.blt p s.length = false := by
      cases hb : Nat.blt p s.length with
      | false => rfl
      | true => rw [Nat.blt_eq] at hb; omega
    simp [blk, hb]
  | k + 1, k' + 1, s, p, h, h' => by
    simp only [blk]
    cases hb : Nat.blt p s.length with
    | false => rfl
    | true =>
      rw [Nat.blt_eq] at hb
      simp only [cond_true]
      cases hB : isB (byt s p) with
      | true => exact blk_any k k' s (p + 1) (by omega) (by omega)
      | false =>
        cases hc : byt s p == 35 with
        | true =>
          have := cmt_pos hb hc
          exact blk_any k k' s (p + cmt s p) (by omega) (by omega)
        | false => rfl

theorem blankM_end {s : Str} {p : Nat} (h : ¬ p < s.length) : blankM s p = p := by
  unfold blankM
  rw [show s.length - p = 0 by omega]; rfl

theorem blankM_eq {s : Str} {p : Nat} (h : p < s.length) : blankM s p = bif isB (byt s p) then blankM s (p + 1) else bif byt s p == 35 then blankM s (p + cmt s p) else p := by
  unfold blankM
  obtain ⟨k, hk⟩ : ∃ k, s.length - p = k + 1 := ⟨s.length - p - 1, by omega⟩
  rw [hk]
  simp only [blk]
  rw [blt_t h, cond_true]
  cases hB : isB (byt s p) with
  | true => exact blk_any _ _ _ _ (by omega) (by omega)
  | false =>
    cases hc : byt s p == 35 with
    | true =>
      have := cmt_pos h hc
      exact blk_any _ _ _ _ (by omega) (by omega)
    | false => rfl

theorem blankM_in (s : Str) : ∀ (n p : Nat), s.length - p = n → p ≤ s.length → p ≤ blankM s p ∧ blankM s p ≤ s.length := by
  intro n
  induction n using Nat.strongRecOn with
  | _ n ih =>
    intro p hn hp
    rcases Nat.lt_or_ge p s.length with h | h
    · rw [blankM_eq h]
      cases hB : isB (byt s p) with
      | true =>
        have := ih (s.length - (p + 1)) (by omega) (p + 1) rfl (by omega)
        simp only [cond_true]; omega
      | false =>
        cases hc : byt s p == 35 with
        | true =>
          have h1 := cmt_pos h hc
          have h2 := cmt_le s p
          have := ih (s.length - (p + cmt s p)) (by omega) (p + cmt s p) rfl (by omega)
          simp only [cond_true, cond_false]; omega
        | false => simp only [cond_false]; omega
    · rw [blankM_end (by omega)]; omega

/-- What stands there is no blank. -/
theorem blankM_at (s : Str) : ∀ (n p : Nat), s.length - p = n → p ≤ s.length → blankM s p < s.length → isB (byt s (blankM s p)) = false ∧ (byt s (blankM s p) == 35) = false := by
  intro n
  induction n using Nat.strongRecOn with
  | _ n ih =>
    intro p hn hp hlt
    rcases Nat.lt_or_ge p s.length with h | h
    · rw [blankM_eq h] at hlt ⊢
      cases hB : isB (byt s p) with
      | true =>
        rw [hB, cond_true] at hlt
        exact ih (s.length - (p + 1)) (by omega) (p + 1) rfl (by omega) hlt
      | false =>
        cases hc : byt s p == 35 with
        | true =>
          have h1 := cmt_pos h hc
          have h2 := cmt_le s p
          rw [hB, hc, cond_true, cond_false] at hlt
          exact ih (s.length - (p + cmt s p)) (by omega) (p + cmt s p) rfl (by omega) hlt
        | false => simp only [cond_false]; exact ⟨hB, hc⟩
    · rw [blankM_end (by omega)] at hlt; omega

end Go.Proofs.YtmhmelmoionoiaaGreatDoor
