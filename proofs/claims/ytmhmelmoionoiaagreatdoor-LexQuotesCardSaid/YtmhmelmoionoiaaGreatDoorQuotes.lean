/-
  THE DOCUMENT's QUOTE.
-/
import Derived.Test.YtmhmelmoionoiaaGreatDoorRep
import Derived.Test.YtmhmelmoionoiaaGreatDoorQuote
import Derived.Test.YtmhmelmoionoiaaGreatDoorAwake
namespace Go.Proofs.YtmhmelmoionoiaaGreatDoor
open Go.Eng

set_option maxRecDepth 100000

def qst (s out : Str) (i : Int) : St Pl := mkS 43 [(0, .str s), (3, .str out), (4, .int .i64 i)] []
def subQ (s : Str) (i : Nat) : Str := (s.drop i).take ((w64 ((i : Int) + 1)).toNat - i)
def escQ (s out : Str) (i : Nat) : Option (Ex × St Pl) :=
  bif (Nat.ble (out.length + 1) big || false) then (bif ((decide ((0 : Int) ≤ (i : Int)) && decide ((i : Int) ≤ w64 ((i : Int) + 1)) && decide (w64 ((i : Int) + 1) ≤ (s.length : Int))) || false) then
    (bif (Nat.ble ((out ++ [92]).length + (subQ s i).length) big || false) then some (.normal, qst s ((out ++ [92]) ++ subQ s i) (w64 ((i : Int) + 1))) else none) else none) else none
def plainQ (s out : Str) (i : Nat) : Option (Ex × St Pl) :=
  bif ((decide ((0 : Int) ≤ (i : Int)) && decide ((i : Int) ≤ w64 ((i : Int) + 1)) && decide (w64 ((i : Int) + 1) ≤ (s.length : Int))) || false) then
    (bif (Nat.ble (out.length + (subQ s i).length) big || false) then some (.normal, qst s (out ++ subQ s i) (w64 ((i : Int) + 1))) else none) else none
def twoQ (s out : Str) (i : Nat) (t : Str) : Option (Ex × St Pl) :=
  bif (Nat.ble (out.length + t.length) big || false) then some (.normal, qst s (out ++ t) (w64 ((i : Int) + 1))) else none
def restQ (s out : Str) (i : Nat) : Option (Ex × St Pl) :=
  bif byt s i == 10 then twoQ s out i [92, 110] else bif byt s i == 9 then twoQ s out i [92, 116] else plainQ s out i

theorem bQ (s out : Str) (i : Nat) : evC tell0 noTL noL 1 (loopAt 7 0) [0, 3, 4] (qst s out i) =
    bif decide ((i : Int) < (s.length : Int)) then (bif ((decide ((0 : Int) ≤ (i : Int)) && decide ((i : Int) < (s.length : Int))) || false) then
      (bif byt s i == 34 then (bif byt s i == 34 then escQ s out i else restQ s out i)
       else bif byt s i == 92 then (bif byt s i == 92 then escQ s out i else restQ s out i)
       else (bif byt s i == 36 then escQ s out i else restQ s out i)) else none)
    else some (.exit 0, qst s out i) := by kernel_rfl

theorem idsQ : (loopsAt 7).length = 1 ∧ firstId (loopAt 7 0) = 3 ∧ loopsOf (loopAt 7 0) = [] := ⟨by kernel_rfl, by kernel_rfl, by kernel_rfl⟩

theorem bQ_at (s out : Str) (i : Nat) (hi : i < s.length) (hl : s.length ≤ big) (ho : out.length + 2 ≤ big) :
    evC tell0 noTL noL 1 (loopAt 7 0) [0, 3, 4] (qst s out i) = some (.normal, qst s (out ++ qB s[i]) ((i + 1 : Nat) : Int)) := by
  have hbig : big = 140737488355328 := rfl
  rw [bQ]
  have e2 : w64 ((i : Int) + 1) = ((i + 1 : Nat) : Int) := wrap_nat (by omega)
  have hsub : subQ s i = [s[i]] := by
    unfold subQ
    rw [e2, Int.toNat_natCast, show i + 1 - i = 1 by omega]
    rw [List.drop_eq_getElem_cons hi]
    rfl
  have hby : byt s i = ((s[i]).toNat : Int) := by
    unfold byt
    rw [List.getD_eq_getElem?_getD, List.getElem?_eq_getElem hi]
    rfl
  have hg : ((decide ((0 : Int) ≤ (i : Int)) && decide ((i : Int) ≤ w64 ((i : Int) + 1)) && decide (w64 ((i : Int) + 1) ≤ (s.length : Int))) || false) = true := by
    rw [e2, decide_eq_true (show (0 : Int) ≤ (i : Int) by omega), decide_eq_true (show (i : Int) ≤ ((i + 1 : Nat) : Int) by omega), decide_eq_true (show ((i + 1 : Nat) : Int) ≤ (s.length : Int) by omega)]
    rfl
  have hesc : escQ s out i = some (.normal, qst s (out ++ [92, s[i]]) ((i + 1 : Nat) : Int)) := by
    have h1 : Nat.ble (out.length + 1) big = true := ble_t (by omega)
    have h2 : Nat.ble (List.length (out ++ [92]) + List.length [s[i]]) big = true := ble_t (by simp; omega)
    unfold escQ
    rw [hg, hsub, e2, h1, h2]
    simp
  have hplain : plainQ s out i = some (.normal, qst s (out ++ [s[i]]) ((i + 1 : Nat) : Int)) := by
    unfold plainQ
    rw [hg, hsub, e2, ble_t (show out.length + [s[i]].length ≤ big by simp; omega)]
    rfl
  have htwo : ∀ a b : UInt8, twoQ s out i [a, b] = some (.normal, qst s (out ++ [a, b]) ((i + 1 : Nat) : Int)) := fun a b => by
    unfold twoQ
    rw [e2, ble_t (show out.length + [a, b].length ≤ big by simp; omega)]
    rfl
  unfold restQ
  rw [hesc, hplain, htwo, htwo, hby, decide_eq_true (show (i : Int) < (s.length : Int) by omega), decide_eq_true (show (0 : Int) ≤ (i : Int) by omega)]
  have hk : ∀ k : UInt8, (((s[i]).toNat : Int) == (k.toNat : Int)) = (s[i] == k) := fun k => by
    by_cases h : s[i] = k
    · rw [h, beq_self_eq_true, beq_self_eq_true]
    · rw [beq_eq_false_iff_ne.2 h, beq_eq_false_iff_ne.2]
      intro h2
      exact h (UInt8.toNat_inj.1 (by omega))
  have k34 : (((s[i]).toNat : Int) == 34) = (s[i] == 34) := hk 34
  have k92 : (((s[i]).toNat : Int) == 92) = (s[i] == 92) := hk 92
  have k36 : (((s[i]).toNat : Int) == 36) = (s[i] == 36) := hk 36
  have k10 : (((s[i]).toNat : Int) == 10) = (s[i] == 10) := hk 10
  have k9 : (((s[i]).toNat : Int) == 9) = (s[i] == 9) := hk 9
  rw [k34, k92, k36, k10, k9]
  unfold qB
  cases s[i] == 34 <;> cases s[i] == 92 <;> cases s[i] == 36 <;> cases s[i] == 10 <;> cases s[i] == 9 <;> rfl

theorem goQ (s out : Str) (hl : out.length + 2 * s.length + 2 ≤ big) :
    Goes X0 (.loop (loopAt 7 0)) (qst s out 0) (pickR (.leaf (.exit 0) (mkS 43 [(3, .str (out ++ quB s))] []) : LR Pl)).1 (pickR (.leaf (.exit 0) (mkS 43 [(3, .str (out ++ quB s))] []) : LR Pl)).2 := by
  rw [show qst s out 0 = qst s (out ++ quB (s.take 0)) ((0 : Nat) : Int) by simp [quB]]
  refine loop_all (Sf := fun i => qst s (out ++ quB (s.take i)) i) (n := s.length) (e1 := .exit 0) (by simp) (fun i hi => ?_) ?_
  · have hq : (quB (s.take i)).length ≤ 2 * s.length := by
      have h1 := (quB_len (s.take i)).2
      have h2 := List.length_take_le i s
      have h3 : (s.take i).length ≤ s.length := by rw [List.length_take]; omega
      omega
    refine goes_of (tell0_ok _) (noTL_ok _ _) (noLoops idsQ.2.2) ((bQ_at s _ i hi (by omega) (by rw [List.length_append]; omega)).trans ?_)
    rw [List.append_assoc, ← On.quB_step hi]
  · have hst : qst s (out ++ quB (s.take s.length)) s.length = qst s (out ++ quB s) s.length := by rw [List.take_length]
    show Goes X0 (loopAt 7 0) (qst s (out ++ quB (s.take s.length)) s.length) (.exit 0) _
    rw [hst]
    exact (goes_of (tell0_ok _) (noTL_ok _ _) (noLoops idsQ.2.2) ((bQ s (out ++ quB s) s.length).trans (by rw [decide_eq_false (show ¬ ((s.length : Nat) : Int) < (s.length : Int) by omega)]; rfl))).post (keepOf [3])

def LSQ (S : St Pl) : Option (Bool × LR Pl) := match seenS 43 [0, 3, 4] S with
  | some ([.str s, .str out, .int .i64 (.ofNat 0)], []) => some (Nat.ble (out.length + 2 * s.length + 2) big, .leaf (.exit 0) (mkS 43 [(3, .str (out ++ quB s))] []))
  | _ => none
theorem LSQ_ok : SOk X0 (loopAt 7 0) LSQ := by
  intro S b r h hb
  unfold LSQ at h
  split at h
  · rename_i s out hs
    simp only [Option.some.injEq, Prod.mk.injEq] at h
    obtain ⟨rfl, rfl⟩ := h
    refine Goes.pre (keepOf [0, 3, 4]) ?_
    rw [seenS_mask hs]
    exact goQ s out (Nat.le_of_ble_eq_true hb)
  · simp at h

theorem eQ (s : Str) : evF tell0 noTL (atL 3 LSQ noL) 1 Tryz.f7 [.str s] =
    ck_ (Nat.ble (1 + 2 * s.length + 2) big) (bif (Nat.ble ((34 :: quB s).length + 1) big || false) then some (.str ((34 :: quB s) ++ [34])) else none) := by kernel_rfl

theorem refQuote_sound (s : Str) (hs : s.length ≤ 1000) : Snd 7 [.str s] (.str (quoM s)) := by
  have hbig : big = 140737488355328 := rfl
  have hq := (quB_len s).2
  refine snd_fn (n := 1) (tell0_ok _) (noTL_ok _ _) (fn := Tryz.f7) (by kernel_rfl) (loops_of (fn := Tryz.f7) (by kernel_rfl) (loops_1 idsQ.1 (atL_ok (fun _ => LSQ_ok) fun h => absurd idsQ.2.1 h))) ((eQ s).trans ?_)
  rw [ck_t (ble_t (by omega)), ble_t (show (34 :: quB s).length + 1 ≤ big by simp; omega)]
  rfl
end Go.Proofs.YtmhmelmoionoiaaGreatDoor

/-
  LexQuotes: the law.
-/

namespace Go.Proofs.YtmhmelmoionoiaaGreatDoor
open Go.Eng

set_option maxRecDepth 100000

def pQu : List (D Pl) → Option (Bool × D Pl)
  | [.str s] => some (Nat.ble s.length 1000, .str (quoM s))
  | _ => none
theorem pQu_ok {g : FuncId} (hf : ∀ s : Str, s.length ≤ 1000 → Snd g [.str s] (.str (quoM s))) : ∀ ds b d, pQu ds = some (b, d) → b = true → Snd g ds d := by
  intro ds b d h hb
  unfold pQu at h
  split at h
  · simp only [Option.some.injEq, Prod.mk.injEq] at h
    obtain ⟨rfl, rfl⟩ := h
    exact hf _ (Nat.le_of_ble_eq_true hb)
  · simp at h
def pAwq : List (D Pl) → Option (Bool × D Pl)
  | [] => some (true, .bool true)
  | _ => none
theorem pAwq_ok : ∀ ds b d, pAwq ds = some (b, d) → b = true → Snd 4 ds d := by
  intro ds b d h hb
  unfold pAwq at h
  split at h
  · simp only [Option.some.injEq, Prod.mk.injEq] at h; obtain ⟨_, rfl⟩ := h; exact awake_sound
  · simp at h
/-- All tokens, told where they are these two. -/
noncomputable def isTwo (t : Str) (k1 k2 : TokR) : Bool := @decide (allM t = ⟨[k1, k2], 0, ⟨0, 0, 0⟩⟩) (Classical.propDecidable _)
theorem isTwo_iff {t : Str} {k1 k2 : TokR} : isTwo t k1 k2 = true ↔ allM t = ⟨[k1, k2], 0, ⟨0, 0, 0⟩⟩ := by
  unfold isTwo
  exact @decide_eq_true_iff _ (Classical.propDecidable _)
noncomputable def pTwo (k1 k2 : TokR) : List (D Pl) → Option (Bool × D Pl)
  | [.str t] => some (isTwo t k1 k2, .tup [.pl (pToks [k1, k2]) .any, .agg (dgC 0 ⟨0, 0, 0⟩)])
  | _ => none
theorem pTwo_ok {k1 k2 : TokR} : ∀ ds b d, pTwo k1 k2 ds = some (b, d) → b = true → Snd 6 ds d := by
  intro ds b d h hb
  unfold pTwo at h
  split at h
  · rename_i t
    simp only [Option.some.injEq, Prod.mk.injEq] at h
    obtain ⟨rfl, rfl⟩ := h
    have := all_sound t
    rw [isTwo_iff.1 hb] at this
    exact this
  · simp at h
noncomputable def tQ (k1 k2 : TokR) : Eng.Told Pl := tell 5 pQu (tell 7 pQu (tell 6 (pTwo k1 k2) (tell 4 pAwq tell0)))
theorem tQ_ok {k1 k2 : TokR} : TOk (tQ k1 k2) := tell_ok (pQu_ok quote_sound) (tell_ok (pQu_ok refQuote_sound) (tell_ok pTwo_ok (tell_ok pAwq_ok (tell0_ok _))))

def k1Q (ps : List PartR) (p1 : PosR) : TokR := ⟨3, [], 0, ps, p1⟩

theorem eFull (s : Str) (p1 : PosR) (k2 : TokR) : evF (tQ (k1Q [⟨false, s, ⟨0, 0, 0⟩⟩] p1) k2) noTL noL 1 Tryz.f3 [.str s] =
    bif decide ((s.length : Int) > 1000) then some (.bool true) else ck_ (Nat.ble s.length 1000) (ck_ (isTwo (quoM s) (k1Q [⟨false, s, ⟨0, 0, 0⟩⟩] p1) k2) (ck_ (Nat.ble s.length 1000)
      (bif (bif (bif (bif !(quoM s == quoM s) then true else false) then true else false) then true else false) then some (.bool false) else bif s == [] then some (.bool false) else bif ((s == s && true) == true) then some (.bool true) else some (.bool false)))) := by kernel_rfl

theorem eNone (p1 : PosR) (k2 : TokR) : evF (tQ (k1Q [] p1) k2) noTL noL 1 Tryz.f3 [.str []] =
    ck_ (isTwo (quoM []) (k1Q [] p1) k2) (some (.bool true)) := by kernel_rfl

/-- LexQuotes: whatever the text, the law returns true. -/
theorem quotes_sound (s : Str) : Snd 3 [.str s] (.bool true) := by
  have hL : ∀ code, (Tryz.f3).body = some code → ∀ b ∈ loopsOf code, LoopOk X0 noL b := loops_of (fn := Tryz.f3) (by kernel_rfl) (loops_0 (f := 3) (by kernel_rfl))
  have hfn : F0 3 = some Tryz.f3 := by kernel_rfl
  cases s with
  | nil =>
    have ha := all_q [] (by simp)
    refine snd_fn (n := 1) (tQ_ok (k1 := k1Q [] (posR (quoM []) 0)) (k2 := tok0 (quoM []) (quoM []).length)) (noTL_ok _ _) hfn hL ((eNone _ _).trans ?_)
    have hi : isTwo (quoM []) (k1Q [] (posR (quoM []) 0)) (tok0 (quoM []) (quoM []).length) = true := isTwo_iff.2 ha
    rw [ck_t hi]
  | cons c r =>
    by_cases h : (c :: r).length ≤ 1000
    · have ha := all_q (c :: r) h
      refine snd_fn (n := 1) (tQ_ok (k1 := k1Q [⟨false, c :: r, ⟨0, 0, 0⟩⟩] (posR (quoM (c :: r)) 0)) (k2 := tok0 (quoM (c :: r)) (quoM (c :: r)).length)) (noTL_ok _ _) hfn hL ((eFull (c :: r) _ _).trans ?_)
      have hi : isTwo (quoM (c :: r)) (k1Q [⟨false, c :: r, ⟨0, 0, 0⟩⟩] (posR (quoM (c :: r)) 0)) (tok0 (quoM (c :: r)) (quoM (c :: r)).length) = true := isTwo_iff.2 ha
      rw [decide_eq_false (show ¬ ((c :: r).length : Int) > 1000 by omega), cond_false, ck_t (ble_t h), ck_t hi, ck_t (ble_t h), beq_self_eq_true, beq_self_eq_true]
      rfl
    · refine snd_fn (n := 1) (tQ_ok (k1 := k1Q [⟨false, c :: r, ⟨0, 0, 0⟩⟩] ⟨0, 0, 0⟩) (k2 := k1Q [] ⟨0, 0, 0⟩)) (noTL_ok _ _) hfn hL ((eFull (c :: r) _ _).trans ?_)
      rw [decide_eq_true (show ((c :: r).length : Int) > 1000 by omega)]
      rfl
end Go.Proofs.YtmhmelmoionoiaaGreatDoor
