/-
  THE READER AS DATA: tokens, a place, what is wrong; what it reads of texts without strings, lists, calls, plainly.
-/
import Derived.Test.YtdlgmknlnddioaaGreatDoorETrees
import Derived.Test.YtdlgmknlnddioaaGreatDoorAll
namespace Go.Proofs.YtdlgmknlnddioaaGreatDoor
open Go.Eng

set_option maxRecDepth 100000

/-- A reader: its tokens, where it is, what is wrong. -/
structure Rdr where
  l : List TokR
  a : Int
  c : Int
  p : PosR

def cRdr (z : Rdr) : List (D Pl) := [.pl (pToks z.l) .any, dI z.a, dI z.c, dI z.p.at', dI z.p.line, dI z.p.col, .str []]
def encR (z : Rdr) : List (D Pl) := [.obB 50000 (cRdr z)]
def decR : List (D Pl) → Option Rdr
  | [.obB 50000 [.pl ⟨.toks, l⟩ .any, .int .i64 a, .int .i64 c, .int .i64 x, .int .i64 y, .int .i64 w, .str []]] => some ⟨l, a, c, ⟨x, y, w⟩⟩
  | _ => none
theorem decR_enc {os : List (D Pl)} {z : Rdr} (h : decR os = some z) : os = encR z := by
  unfold decR at h
  split at h
  · simp only [Option.some.injEq] at h; subst h; rfl
  · simp at h

/-- A method's contract, told: 'f' of the reader and the arguments: a condition, the answer, the reader then. -/
def pR (f : Rdr → List (D Pl) → Option (Bool × D Pl × Rdr)) : List (D Pl) → List (D Pl) → Option (Bool × D Pl × List (D Pl)) := fun os ds => match os with
  | o :: r => match decR (o :: r) with
    | some z => (match ds with
      | .ptr 50000 0 :: args => (match f z args with
        | some (c, d, z') => some (c, d, encR z')
        | none => none)
      | _ => none)
    | none => none
  | _ => none

abbrev SndR (g : FuncId) (z : Rdr) (args : List (D Pl)) (d : D Pl) (z' : Rdr) : Prop := SndM g (decH (encR z)) (.ptr 50000 0 :: args) d (decH (encR z'))

theorem pR_ok {g : FuncId} {f : Rdr → List (D Pl) → Option (Bool × D Pl × Rdr)} (hf : ∀ z args c d z', f z args = some (c, d, z') → c = true → SndR g z args d z') : ∀ os ds b d os', pR f os ds = some (b, d, os') → b = true → SndM g (decH os) ds d (decH os') := by
  intro os ds b d os' h hb
  unfold pR at h
  split at h
  · split at h
    · rename_i z hz
      split at h
      · split at h
        · rename_i c d0 z' hfz
          simp only [Option.some.injEq, Prod.mk.injEq] at h
          obtain ⟨rfl, rfl, rfl⟩ := h
          rw [decR_enc hz]
          exact hf _ _ _ _ _ hfz hb
        · simp at h
      · simp at h
    · simp at h
  · simp at h

def tok00 : TokR := ⟨0, [], 0, [], ⟨0, 0, 0⟩⟩
def outA (l : List TokR) (a : Int) : Bool := bif decide (a < 0) then true else decide (a ≥ (l.length : Int))
def tokA (l : List TokR) (a : Int) : TokR := bif outA l a then tok00 else l.getD a.toNat default
def isA (l : List TokR) (a c : Int) (s : Str) : Bool := bif (bif c == 0 then (tokA l a).kind == 4 else false) then (tokA l a).s == s else false

-- the token that is next

theorem eTok (z : Rdr) : evM tell0 noTL noL 1 Tryz.f23 (decH (encR z)) [.ptr 50000 0] =
    bif outA z.l z.a then some (.env (encR z) (.agg [dI 0, .str [], dI 0, .nilS, dI 0, dI 0, dI 0])) else
      ck_ ((decide (0 ≤ z.a) && decide (z.a < (z.l.length : Int))) || false) (some (.env (encR z) (.agg (cTok (z.l.getD z.a.toNat default))))) := by kernel_rfl

theorem outA_f {l : List TokR} {a : Int} (h : outA l a = false) : 0 ≤ a ∧ a < (l.length : Int) := by
  unfold outA at h
  by_cases h1 : a < 0
  · rw [decide_eq_true h1] at h; simp at h
  · rw [decide_eq_false h1] at h
    simp only [cond_false, decide_eq_false_iff_not] at h
    omega

theorem tok0_rdle : RDle X0.C (.agg [dI 0, .str [], dI 0, .nilS, dI 0, dI 0, dI 0]) (.agg (cTok tok00)) :=
  RDle.agg (.cons (RDle.refl _) (.cons (RDle.refl _) (.cons (RDle.refl _) (.cons (RDle.of (.nil _ rfl)) (.cons (RDle.refl _) (.cons (RDle.refl _) (.cons (RDle.refl _) .nil)))))))

theorem tok_sound (z : Rdr) : SndR 23 z [] (.agg (cTok (tokA z.l z.a))) z := by
  unfold tokA
  cases h : outA z.l z.a with
  | true => exact SoundM.post tok0_rdle (snd_m (n := 1) (tell0_ok _) (noTL_ok _ _) (fn := Tryz.f23) (by kernel_rfl) (loops_of (f := 23) (fn := Tryz.f23) (by kernel_rfl) (loops_0 (by kernel_rfl))) ((eTok z).trans (by rw [h]; rfl)))
  | false =>
    obtain ⟨h1, h2⟩ := outA_f h
    exact snd_m (n := 1) (tell0_ok _) (noTL_ok _ _) (fn := Tryz.f23) (by kernel_rfl) (loops_of (f := 23) (fn := Tryz.f23) (by kernel_rfl) (loops_0 (by kernel_rfl)))
      ((eTok z).trans (by rw [h, cond_false, ck_t (by rw [decide_eq_true h1, decide_eq_true h2]; rfl)]; rfl))

def pTok (z : Rdr) : List (D Pl) → Option (Bool × D Pl × Rdr)
  | [] => some (true, .agg (cTok (tokA z.l z.a)), z)
  | _ => none
theorem pTok_ok : ∀ z args c d z', pTok z args = some (c, d, z') → c = true → SndR 23 z args d z' := by
  intro z args c d z' h _
  unfold pTok at h
  split at h
  · simp only [Option.some.injEq, Prod.mk.injEq] at h
    obtain ⟨_, rfl, rfl⟩ := h
    exact tok_sound _
  · simp at h

-- is nothing wrong? is a sign next?

theorem eOk (z : Rdr) : ev tell0 noTL 1 24 [.ref (cRdr z)] = some (.bool (z.c == 0)) := by kernel_rfl
theorem eIs (z : Rdr) (s : Str) : ev tell0 noTL 3 35 [.ref (cRdr z), .str s] =
    bif outA z.l z.a then some (.bool (bif (bif z.c == 0 then (0 : Int) == 4 else false) then ([] : Str) == s else false)) else
      ck_ ((decide (0 ≤ z.a) && decide (z.a < (z.l.length : Int))) || false) (some (.bool (bif (bif z.c == 0 then (z.l.getD z.a.toNat default).kind == 4 else false) then (z.l.getD z.a.toNat default).s == s else false))) := by kernel_rfl

theorem is_sound (z : Rdr) (s : Str) : Snd 35 [.ref (cRdr z), .str s] (.bool (isA z.l z.a z.c s)) := by
  refine snd_of (n := 3) (tell0_ok _) (noTL_ok _ _) ((eIs z s).trans ?_)
  unfold isA tokA
  cases h : outA z.l z.a with
  | true => rfl
  | false =>
    obtain ⟨h1, h2⟩ := outA_f h
    rw [cond_false, ck_t (by rw [decide_eq_true h1, decide_eq_true h2]; rfl)]
    rfl

def pOk : List (D Pl) → Option (Bool × D Pl)
  | [.ref [.pl ⟨.toks, _⟩ .any, .int .i64 _, .int .i64 c, .int .i64 _, .int .i64 _, .int .i64 _, .str []]] => some (true, .bool (c == 0))
  | _ => none
theorem pOk_ok : ∀ ds b d, pOk ds = some (b, d) → b = true → Snd 24 ds d := by
  intro ds b d h _
  unfold pOk at h
  split at h
  · simp only [Option.some.injEq, Prod.mk.injEq] at h
    obtain ⟨_, rfl⟩ := h
    exact snd_of (n := 1) (tell0_ok _) (noTL_ok _ _) (eOk ⟨_, _, _, ⟨_, _, _⟩⟩)
  · simp at h
def pIs : List (D Pl) → Option (Bool × D Pl)
  | [.ref [.pl ⟨.toks, l⟩ .any, .int .i64 a, .int .i64 c, .int .i64 _, .int .i64 _, .int .i64 _, .str []], .str s] => some (true, .bool (isA l a c s))
  | _ => none
theorem pIs_ok : ∀ ds b d, pIs ds = some (b, d) → b = true → Snd 35 ds d := by
  intro ds b d h _
  unfold pIs at h
  split at h
  · simp only [Option.some.injEq, Prod.mk.injEq] at h
    obtain ⟨_, rfl⟩ := h
    exact is_sound ⟨_, _, _, ⟨_, _, _⟩⟩ _
  · simp at h

-- the signs' table

abbrev lvOps : Nat → List (KT.str.C × VT.int.C)
  | 0 => [(([124, 124] : Str), (20 : Int))]
  | 1 => [(([38, 38] : Str), (19 : Int))]
  | 2 => [(([61, 61] : Str), (17 : Int)), (([33, 61] : Str), (18 : Int)), (([60] : Str), (13 : Int)), (([60, 61] : Str), (14 : Int)), (([62] : Str), (15 : Int)), (([62, 61] : Str), (16 : Int))]
  | 3 => [(([43] : Str), (11 : Int)), (([45] : Str), (12 : Int))]
  | _ => [(([42] : Str), (8 : Int)), (([47] : Str), (9 : Int)), (([37] : Str), (10 : Int))]
def cLv : List (D Pl) := [.mr (pMap .str .int (lvOps 0)), .bool false, .mr (pMap .str .int (lvOps 1)), .bool false, .mr (pMap .str .int (lvOps 2)), .bool true, .mr (pMap .str .int (lvOps 3)), .bool false, .mr (pMap .str .int (lvOps 4)), .bool false]
theorem eLv : ev tell0 noTL 1 46 [] = some (.agg cLv) := by kernel_rfl
def pLv : List (D Pl) → Option (Bool × D Pl)
  | [] => some (true, .agg cLv)
  | _ => none
theorem pLv_ok : ∀ ds b d, pLv ds = some (b, d) → b = true → Snd 46 ds d := by
  intro ds b d h _
  unfold pLv at h
  split at h
  · simp only [Option.some.injEq, Prod.mk.injEq] at h
    obtain ⟨_, rfl⟩ := h
    exact snd_of (n := 1) (tell0_ok _) (noTL_ok _ _) eLv
  · simp at h

-- what is read, plainly

def v00 : Val := ⟨0, 0, [], [], [], 0, 0, false⟩
def e00 : ExprR := ⟨0, [], [], v00, [], ⟨0, 0, 0⟩⟩
def bump (z : Rdr) : Rdr := { z with a := IntKind.i64.wrap (z.a + 1) }
def tokZ (z : Rdr) : TokR := tokA z.l z.a
def nxZ (z : Rdr) (s : Str) : Bool := isA z.l z.a z.c s
def wrongZ (z : Rdr) (p : PosR) : Rdr := { z with c := 4, p := p }
def failZ (z : Rdr) (p : PosR) : Rdr := bif z.c == 0 then wrongZ z p else z
def mustZ (z : Rdr) (s : Str) : Rdr := bif nxZ z s then bump z else failZ z (tokZ z).p
def litE (k i : Int) (p : PosR) : ExprR := ⟨1, [], [], ⟨k, i, [], [], [], 0, 0, false⟩, [], p⟩
def nodeE (op : Int) (s : Str) (l : List ExprR) (p : PosR) : ExprR := ⟨op, s, [], v00, l, p⟩

abbrev Got := Option (ExprR × Rdr)
def thenG (r : Got) (k : ExprR → Rdr → Got) : Got := match r with
  | some (e, z) => k e z
  | none => none

def namedG (z : Rdr) (t : TokR) : Got :=
  bif (bif t.s == [116, 114, 117, 101] then true else t.s == [102, 97, 108, 115, 101]) then some (litE 1 (bif t.s == [116, 114, 117, 101] then 1 else 0) t.p, bump z)
  else bif t.s == [110, 117, 108, 108] then some (litE 0 0 t.p, bump z)
  else bif nxZ (bif resV t.s then failZ (bump z) t.p else bump z) [40] then none
  else some (nodeE 2 t.s [] t.p, bif resV t.s then failZ (bump z) t.p else bump z)
def firstG (P : Nat → Rdr → Got) (z : Rdr) : Got :=
  bif !(z.c == 0) then some (e00, z)
  else bif (tokZ z).kind == 2 then some (litE 2 (tokZ z).n (tokZ z).p, bump z)
  else bif (tokZ z).kind == 3 then none
  else bif (tokZ z).kind == 1 then namedG z (tokZ z)
  else bif nxZ z [40] then thenG (P 0 (bump z)) fun e z' => some (e, mustZ z' [41])
  else bif nxZ z [91] then none else bif nxZ z [123] then none
  else some (e00, failZ z (tokZ z).p)
def postG (P : Nat → Rdr → Got) (z : Rdr) : Got := thenG (P 9 z) fun e z' => bif !(z'.c == 0) then some (e, z') else bif nxZ z' [46] then none else bif nxZ z' [91] then none else some (e, z')
def unaryG (P : Nat → Rdr → Got) (z : Rdr) : Got :=
  bif nxZ z [33] then thenG (P 7 (bump z)) fun x z' => some (nodeE 6 [] [x] (tokZ z).p, z')
  else bif nxZ z [45] then thenG (P 7 (bump z)) fun x z' => some (nodeE 7 [] [x] (tokZ z).p, z')
  else P 8 z
/-- Does a sign of a level stand there? -/
def goLv (lvl : Nat) (z : Rdr) : Bool := z.c == 0 && ((tokZ z).kind == 4 && hasM (k := .str) (v := .int) (lvOps lvl) (tokZ z).s)
def moreE (lvl : Nat) (e x : ExprR) (z : Rdr) : ExprR := nodeE (getM (k := .str) (v := .int) (lvOps lvl) (tokZ z).s) [] [e, x] (tokZ z).p
def loopG (P : Nat → Rdr → Got) (lvl : Nat) : Nat → ExprR → Rdr → Got
  | 0, _, _ => none
  | m + 1, e, z => bif goLv lvl z then thenG (P (lvl + 2) (bump z)) fun x z' => bif Nat.beq lvl 2 then some (moreE lvl e x z, z') else loopG P lvl m (moreE lvl e x z) z'
    else some (e, z)
def exprG (P : Nat → Rdr → Got) (z : Rdr) : Got := thenG (P 1 z) fun e z1 => bif nxZ z1 [63] then thenG (P 0 (bump z1)) fun a z2 => thenG (P 0 (mustZ z2 [58])) fun b z3 => some (nodeE 21 [] [e, a, b] (tokZ z1).p, z3) else some (e, z1)

/-- 0: an expression; 1 to 5: of a level of signs; 6, 7: of one operand; 8: with what stands behind; 9: what is tightest. -/
def readG : Nat → Nat → Rdr → Got
  | 0, _, _ => none
  | n + 1, 0, z => exprG (readG n) z
  | n + 1, 6, z => readG n 7 z
  | n + 1, 7, z => unaryG (readG n) z
  | n + 1, 8, z => postG (readG n) z
  | n + 1, 9, z => firstG (readG n) z
  | n + 1, k + 1, z => thenG (readG n (k + 2) z) fun e z' => loopG (readG n) k n e z'

end Go.Proofs.YtdlgmknlnddioaaGreatDoor

/-
  WHAT THE READER READS, of texts without strings, lists, calls: its methods' contracts, for whatever it stands at.
-/

namespace Go.Proofs.YtdlgmknlnddioaaGreatDoor
open Go.Eng

set_option maxRecDepth 100000

def z00 : Rdr := ⟨[], 0, 0, ⟨0, 0, 0⟩⟩
def okG (r : Got) : Bool := match r with
  | some _ => true
  | none => false
def exG (r : Got) : ExprR := (r.getD (e00, z00)).1
def rdG (r : Got) : Rdr := (r.getD (e00, z00)).2
theorem okG_some {r : Got} (h : okG r = true) : r = some (exG r, rdG r) := by
  cases r with
  | none => simp [okG] at h
  | some x => rfl

def tR (R : Eng.Told Pl) : Eng.Told Pl := tellM 23 (pR pTok) (tell 24 pOk (tell 35 pIs R))
theorem tR_ok {R : Eng.Told Pl} (h : TOk R) : TOk (tR R) := tellM_ok (pR_ok pTok_ok) (tell_ok pOk_ok (tell_ok pIs_ok h))

theorem eMay (z : Rdr) (s : Str) : evM (tR tell0) noTL noL 2 Tryz.f48 (decH (encR z)) [.ptr 50000 0, .str s] =
    bif !(nxZ z s) then some (.env (encR z) (.bool false)) else some (.env (encR (bump z)) (.bool true)) := by kernel_rfl
theorem may_no (z : Rdr) (s : Str) (h : nxZ z s = false) : SndR 48 z [.str s] (.bool false) z :=
  snd_m (n := 2) (tR_ok (tell0_ok _)) (noTL_ok _ _) (fn := Tryz.f48) (by kernel_rfl) (loops_of (f := 48) (fn := Tryz.f48) (by kernel_rfl) (loops_0 (by kernel_rfl))) ((eMay z s).trans (by rw [h]; rfl))
/-- Signs that are not to stand there. -/
def pMay (z : Rdr) : List (D Pl) → Option (Bool × D Pl × Rdr)
  | [.str s] => bif s == [46] then some (!(nxZ z s), .bool false, z) else bif s == [91] then some (!(nxZ z s), .bool false, z) else bif s == [123] then some (!(nxZ z s), .bool false, z) else none
  | _ => none
theorem pMay_ok : ∀ z args c d z', pMay z args = some (c, d, z') → c = true → SndR 48 z args d z' := by
  intro z args c d z' h hc
  unfold pMay at h
  split at h
  · rename_i s
    have key : some (!(nxZ z s), D.bool false, z) = some (c, d, z') := by
      revert h
      cases s == [46] <;> cases s == [91] <;> cases s == [123] <;> simp
    simp only [Option.some.injEq, Prod.mk.injEq] at key
    obtain ⟨h1, rfl, rfl⟩ := key
    rw [← h1, Bool.not_eq_true'] at hc
    exact may_no _ _ hc
  · simp at h

def pNo : List (D Pl) → List (D Pl) → Option (Bool × D Pl × List (D Pl)) := fun _ _ => some (false, .bool false, [])
theorem pNo_ok {g : FuncId} : ∀ os ds b d os', pNo os ds = some (b, d, os') → b = true → SndM g (decH os) ds d (decH os') := by
  intro os ds b d os' h hb
  simp only [pNo, Option.some.injEq, Prod.mk.injEq] at h
  rw [← h.1] at hb
  simp at hb

def pG (n k : Nat) (z : Rdr) : List (D Pl) → Option (Bool × D Pl × Rdr)
  | [] => some (okG (readG n k z), .agg (cExpr (exG (readG n k z))), rdG (readG n k z))
  | _ => none
def pGb (n : Nat) (z : Rdr) : List (D Pl) → Option (Bool × D Pl × Rdr)
  | [.int .i64 (.ofNat k)] => some (Nat.ble k 5 && okG (readG n (k + 1) z), .agg (cExpr (exG (readG n (k + 1) z))), rdG (readG n (k + 1) z))
  | _ => none
def pStrR (f : Str → Bool) : List (D Pl) → Option (Bool × D Pl)
  | [.str s] => some (true, .bool (f s))
  | _ => none
theorem pStrR_ok {g : FuncId} {f : Str → Bool} (hf : ∀ s, Snd g [.str s] (.bool (f s))) : ∀ ds b d, pStrR f ds = some (b, d) → b = true → Snd g ds d := by
  intro ds b d h hb
  unfold pStrR at h
  split at h
  · simp only [Option.some.injEq, Prod.mk.injEq] at h; obtain ⟨_, rfl⟩ := h; exact hf _
  · simp at h

/-- With so much fuel. -/
def tGt (n : Nat) : Eng.Told Pl := tR (tell 46 pLv (tell 13 (pStrR resV) (tellM 48 (pR pMay) (tellM 87 pNo (tellM 70 pNo (tellM 72 pNo (tellM 73 pNo
  (tellM 22 (pR (pG n 0)) (tellM 34 (pR (pGb n)) (tellM 47 (pR (pG n 7)) (tellM 56 (pR (pG n 8)) (tellM 64 (pR (pG n 9)) tell0))))))))))))

/-- What is to be shown of so much fuel. -/
structure GOk (n : Nat) : Prop where
  ex : ∀ z e z', readG n 0 z = some (e, z') → SndR 22 z [] (.agg (cExpr e)) z'
  bi : ∀ (k : Nat) z e z', k ≤ 5 → readG n (k + 1) z = some (e, z') → SndR 34 z [dI k] (.agg (cExpr e)) z'
  un : ∀ z e z', readG n 7 z = some (e, z') → SndR 47 z [] (.agg (cExpr e)) z'
  po : ∀ z e z', readG n 8 z = some (e, z') → SndR 56 z [] (.agg (cExpr e)) z'
  fi : ∀ z e z', readG n 9 z = some (e, z') → SndR 64 z [] (.agg (cExpr e)) z'

theorem pG_ok {n k : Nat} {g : FuncId} (hg : ∀ z e z', readG n k z = some (e, z') → SndR g z [] (.agg (cExpr e)) z') : ∀ z args c d z', pG n k z args = some (c, d, z') → c = true → SndR g z args d z' := by
  intro z args c d z' h hc
  unfold pG at h
  split at h
  · simp only [Option.some.injEq, Prod.mk.injEq] at h
    obtain ⟨h1, rfl, rfl⟩ := h
    exact hg _ _ _ (okG_some (h1.trans hc))
  · simp at h
theorem pGb_ok {n : Nat} (hg : GOk n) : ∀ z args c d z', pGb n z args = some (c, d, z') → c = true → SndR 34 z args d z' := by
  intro z args c d z' h hc
  unfold pGb at h
  split at h
  · simp only [Option.some.injEq, Prod.mk.injEq] at h
    obtain ⟨h1, rfl, rfl⟩ := h
    rw [← h1, Bool.and_eq_true] at hc
    exact hg.bi _ _ _ _ (Nat.le_of_ble_eq_true hc.1) (okG_some hc.2)
  · simp at h
theorem tGt_ok {n : Nat} (h : GOk n) : TOk (tGt n) := tR_ok (tell_ok pLv_ok (tell_ok (pStrR_ok resv_sound) (tellM_ok (pR_ok pMay_ok) (tellM_ok pNo_ok (tellM_ok pNo_ok (tellM_ok pNo_ok (tellM_ok pNo_ok
  (tellM_ok (pR_ok (pG_ok h.ex)) (tellM_ok (pR_ok (pGb_ok h)) (tellM_ok (pR_ok (pG_ok h.un)) (tellM_ok (pR_ok (pG_ok h.po)) (tellM_ok (pR_ok (pG_ok h.fi)) (tell0_ok _)))))))))))))

-- what the code comes to

def ckG (r : Got) (k : ExprR → Rdr → Option (D Pl)) : Option (D Pl) := ck_ (okG r) (k (exG r) (rdG r))
theorem ckG_eq (r : Got) (k : ExprR → Rdr → Option (D Pl)) : ckG r k = match r with
    | some (e, z) => k e z
    | none => none := by
  cases r with
  | none => rfl
  | some x => rfl
/-- cells of a tree -/
def cEn (op : Int) (s : Str) (vk vi : Int) (l : D Pl) (p : PosR) : List (D Pl) := [dI op, .str s, .str [], dI vk, dI vi, .str [], .nilS, .nilS, dI 0, dI 0, .bool false, l, dI p.at', dI p.line, dI p.col]
def env (z : Rdr) (cs : List (D Pl)) : Option (D Pl) := some (.env (encR z) (.agg cs))
def failK (z : Rdr) (p : PosR) (k : Rdr → Option (D Pl)) : Option (D Pl) := bif z.c == 0 then k (wrongZ z p) else k z
def mustK (z : Rdr) (s : Str) (k : Rdr → Option (D Pl)) : Option (D Pl) := bif !(nxZ z s) then failK z (tokZ z).p k else k (bump z)

end Go.Proofs.YtdlgmknlnddioaaGreatDoor

/-
  WHAT THE READER READS: its methods but that of the signs between two operands.
-/

namespace Go.Proofs.YtdlgmknlnddioaaGreatDoor
open Go.Eng

set_option maxRecDepth 100000

def unK (n : Nat) (op : Int) (z : Rdr) : Option (D Pl) := ckG (readG n 7 (bump z)) fun x z' => env z' (cEn op [] 0 0 (.pl (pExprs [etaE x]) .full) (tokZ z).p)
theorem eUn (n : Nat) (z : Rdr) : evM (tGt n) noTL noL 4 Tryz.f47 (decH (encR z)) [.ptr 50000 0] =
    bif nxZ z [33] then unK n 6 z else bif nxZ z [45] then unK n 7 z else ckG (readG n 8 z) fun e z' => env z' (cExpr e) := by kernel_rfl

def zeroC : List (D Pl) := cEn 0 [] 0 0 .nilS ⟨0, 0, 0⟩
def namedK2 (t : TokR) (z : Rdr) : Option (D Pl) := bif !(nxZ z [40]) then env z (cEn 2 t.s 0 0 .nilS t.p) else none
def namedL (z : Rdr) (t : TokR) : Option (D Pl) := bif t.s == [116, 114, 117, 101] then env (bump z) (cEn 1 [] 1 1 .nilS t.p) else env (bump z) (cEn 1 [] 1 0 .nilS t.p)
def namedN (z : Rdr) (t : TokR) : Option (D Pl) :=
  bif t.s == [110, 117, 108, 108] then env (bump z) (cEn 1 [] 0 0 .nilS t.p)
  else bif resV t.s then failK (bump z) t.p (namedK2 t) else namedK2 t (bump z)
def namedK (z : Rdr) (t : TokR) : Option (D Pl) :=
  bif t.s == [116, 114, 117, 101] then (bif t.s == [116, 114, 117, 101] then namedL z t else namedN z t) else (bif t.s == [102, 97, 108, 115, 101] then namedL z t else namedN z t)
def firstK (n : Nat) (z : Rdr) (t : TokR) : Option (D Pl) :=
  bif !(z.c == 0) then failK z t.p (fun z' => env z' zeroC)
  else bif t.kind == 2 then env (bump z) (cEn 1 [] 2 t.n .nilS t.p)
  else bif t.kind == 3 then none
  else bif t.kind == 1 then namedK z t
  else bif !(nxZ z [40]) then ck_ (!(nxZ z [91])) (ck_ (!(nxZ z [123])) (failK z t.p (fun z' => env z' zeroC)))
  else ckG (readG n 0 (bump z)) fun e z' => mustK z' [41] fun z'' => env z'' (cExpr e)
theorem eFirst (n : Nat) (z : Rdr) : evM (tGt n) noTL noL 4 Tryz.f64 (decH (encR z)) [.ptr 50000 0] = firstK n z (tokZ z) := by kernel_rfl

theorem ePost (n : Nat) (z : Rdr) : evM (tGt n) noTL noL 4 Tryz.f56 (decH (encR z)) [.ptr 50000 0] =
    ckG (readG n 9 z) fun e z' => bif z'.c == 0 then ck_ (!(nxZ z' [46])) (ck_ (!(nxZ z' [91])) (env z' (cExpr e))) else env z' (cExpr e) := by kernel_rfl

theorem eExpr (n : Nat) (z : Rdr) : evM (tGt n) noTL noL 4 Tryz.f22 (decH (encR z)) [.ptr 50000 0] =
    ckG (readG n 1 z) fun e z1 => bif !(nxZ z1 [63]) then env z1 (cExpr e) else ckG (readG n 0 (bump z1)) fun a z2 => mustK z2 [58] fun z3 => ckG (readG n 0 z3) fun b z4 =>
      env z4 (cEn 21 [] 0 0 (.pl (pExprs [etaE e, etaE a, etaE b]) .full) (tokZ z1).p) := by kernel_rfl

theorem eB5 (n : Nat) (z : Rdr) : evM (tGt n) noTL noL 4 Tryz.f34 (decH (encR z)) [.ptr 50000 0, dI 5] = ckG (readG n 7 z) fun e z' => env z' (cExpr e) := by kernel_rfl

end Go.Proofs.YtdlgmknlnddioaaGreatDoor

/-
  WHAT THE READER READS: the signs between two operands, round by round.
-/

namespace Go.Proofs.YtdlgmknlnddioaaGreatDoor
open Go.Eng

set_option maxRecDepth 100000

/-- a tree's cells, whatever is known of its parts' slice -/
def cEk (e : ExprR) (k : SK) : List (D Pl) := [dI e.op, .str e.s, .str e.s2, dI e.v.kind, dI e.v.i, .str e.v.s, .pl (pVals e.v.l) .any, .pl (pStrs e.v.keys) .any, dI e.v.tk, dI e.v.tof, .bool e.v.sec,
  .pl (pExprs e.l) k, dI e.p.at', dI e.p.line, dI e.p.col]
def sBi (lvl : Nat) (v : List (D Pl)) (z : Rdr) : St Pl := mkS 62 [(0, .ptr 50000 0), (1, dI lvl), (4, .ptr 4 0), (5, .ptr 5 0), (6, .ptr 6 0)] [(6, .box false v), (50000, .box false (cRdr z)), (5, .box false cLv), (4, .box false zeroC)]
/-- behind a sign and an operand -/
def cMore (lvl : Nat) (e x : ExprR) (z : Rdr) : List (D Pl) := cEn (getM (k := .str) (v := .int) (lvOps lvl) (tokZ z).s) [] 0 0 (.pl (pExprs [etaE e, etaE x]) .full) (tokZ z).p
def bodyK' (n lvl : Nat) (v : List (D Pl)) (e : ExprR) (z : Rdr) : Option (Ex × St Pl) :=
  bif z.c == 0 then (bif (bif !((tokZ z).kind == 4) then true else !(hasM (k := .str) (v := .int) (lvOps lvl) (tokZ z).s)) then some (.exit 0, sBi lvl v z)
    else ck_ (okG (readG n (lvl + 2) (bump z))) (bif Nat.beq lvl 2 then some (.exit 0, sBi lvl (cMore lvl e (exG (readG n (lvl + 2) (bump z))) z) (rdG (readG n (lvl + 2) (bump z))))
      else some (.normal, sBi lvl (cMore lvl e (exG (readG n (lvl + 2) (bump z))) z) (rdG (readG n (lvl + 2) (bump z))))))
  else some (.exit 0, sBi lvl v z)

noncomputable abbrev evBi (n : Nat) (S : St Pl) := evX (tGt n) noTL noL 4 (loopAt 34 0) [0, 1, 4, 5, 6] [7] [] [6, 50000, 5, 4] S

theorem bBk (n : Nat) (k : SK) (e : ExprR) (z : Rdr) : ∀ lvl, lvl < 5 → evBi n (sBi lvl (cEk e k) z) = bodyK' n lvl (cEk e k) e z
  | 0, _ => by kernel_rfl
  | 1, _ => by kernel_rfl
  | 2, _ => by kernel_rfl
  | 3, _ => by kernel_rfl
  | 4, _ => by kernel_rfl
  | _ + 5, h => by omega
theorem bBn (n : Nat) (op : Int) (s : Str) (vk vi : Int) (l : List ExprR) (p : PosR) (z : Rdr) : ∀ lvl, lvl < 5 → evBi n (sBi lvl (cEn op s vk vi (.pl (pExprs l) .full) p) z) = bodyK' n lvl (cEn op s vk vi (.pl (pExprs l) .full) p) ⟨op, s, [], ⟨vk, vi, [], [], [], 0, 0, false⟩, l, p⟩ z
  | 0, _ => by kernel_rfl
  | 1, _ => by kernel_rfl
  | 2, _ => by kernel_rfl
  | 3, _ => by kernel_rfl
  | 4, _ => by kernel_rfl
  | _ + 5, h => by omega

/-- A tree's cells: as it was told, or made here. -/
def vB (first : Bool) (e : ExprR) : List (D Pl) := bif first then cEk e .any else cEn e.op e.s e.v.kind e.v.i (.pl (pExprs e.l) .full) e.p
def isNode (e : ExprR) : Prop := ∃ op s l p, e = nodeE op s l p

theorem bB (n lvl : Nat) (hl : lvl < 5) (first : Bool) (e : ExprR) (z : Rdr) (h : first = true ∨ isNode e) : evBi n (sBi lvl (vB first e) z) = bodyK' n lvl (vB first e) e z := by
  cases first with
  | true => exact bBk n .any e z lvl hl
  | false =>
    rcases h with h | ⟨op, s, l, p, rfl⟩
    · cases h
    · exact bBn n op s 0 0 l p z lvl hl

theorem idsB : (loopsAt 34).length = 1 ∧ firstId (loopAt 34 0) = 5 ∧ loopsOf (loopAt 34 0) = [] := ⟨by kernel_rfl, by kernel_rfl, by kernel_rfl⟩

theorem bodyK_stop {n lvl : Nat} {v : List (D Pl)} {e : ExprR} {z : Rdr} (h : goLv lvl z = false) : bodyK' n lvl v e z = some (.exit 0, sBi lvl v z) := by
  unfold goLv at h
  unfold bodyK'
  cases h1 : z.c == 0 with
  | false => rfl
  | true =>
    rw [h1] at h
    simp only [Bool.true_and] at h
    cases h2 : (tokZ z).kind == 4 with
    | false => rfl
    | true =>
      rw [h2] at h
      simp only [Bool.true_and] at h
      rw [h]
      rfl
theorem bodyK_go {n lvl : Nat} {v : List (D Pl)} {e x : ExprR} {z z' : Rdr} (h : goLv lvl z = true) (hx : readG n (lvl + 2) (bump z) = some (x, z')) :
    bodyK' n lvl v e z = bif Nat.beq lvl 2 then some (.exit 0, sBi lvl (vB false (moreE lvl e x z)) z') else some (.normal, sBi lvl (vB false (moreE lvl e x z)) z') := by
  unfold goLv at h
  simp only [Bool.and_eq_true] at h
  obtain ⟨h1, h2, h3⟩ := h
  unfold bodyK'
  rw [h1, h2, h3, hx]
  simp only [cMore, etaE_eq]
  rfl

noncomputable def junkS : St Pl := mkS 0 [] []
noncomputable def resBi (n lvl : Nat) (a : Nat × Bool × ExprR × Rdr) : Ex × St Pl := match loopG (readG n) lvl a.1 a.2.2.1 a.2.2.2 with
  | some (e', z') => (.exit 0, sBi lvl (vB (bif goLv lvl a.2.2.2 then false else a.2.1) e') z')
  | none => (.ret, junkS)

theorem goB' {n lvl : Nat} (hT : TOk (tGt n)) (hl : lvl < 5) {first : Bool} {e : ExprR} {z : Rdr} (h : first = true ∨ isNode e) {x : Ex} {S : St Pl} (hb : bodyK' n lvl (vB first e) e z = some (x, S)) : Goes X0 (loopAt 34 0) (sBi lvl (vB first e) z) x S :=
  goes_ofX hT (noTL_ok _ _) (noLoops idsB.2.2) ((bB n lvl hl first e z h).trans hb)

theorem loopB' {n lvl : Nat} (hT : TOk (tGt n)) (hl : lvl < 5) (m : Nat) (e : ExprR) (z : Rdr) (h : okG (loopG (readG n) lvl m e z) = true) :
    Goes X0 (.loop (loopAt 34 0)) (sBi lvl (vB true e) z) (resBi n lvl (m, true, e, z)).1 (resBi n lvl (m, true, e, z)).2 := by
  refine loop_run (A := Nat × Bool × ExprR × Rdr) (Sf := fun a => sBi lvl (vB a.2.1 a.2.2.1) a.2.2.2) (fun a => (a.2.1 = true ∨ isNode a.2.2.1) ∧ okG (loopG (readG n) lvl a.1 a.2.2.1 a.2.2.2) = true) (fun a => a.1) (resBi n lvl) ?_ (m, true, e, z) ⟨.inl rfl, h⟩
  rintro ⟨m, first, e, z⟩ ⟨hf, hok⟩
  simp only at hf hok ⊢
  cases m with
  | zero => simp [loopG, okG] at hok
  | succ m =>
    cases hg : goLv lvl z with
    | false =>
      have hr : resBi n lvl (m + 1, first, e, z) = (.exit 0, sBi lvl (vB first e) z) := by
        unfold resBi
        simp only [loopG, hg, cond_false]
      rw [hr]
      exact .inr ⟨by simp, goB' hT hl hf (bodyK_stop hg)⟩
    | true =>
      simp only [loopG, hg, cond_true] at hok
      cases hx : readG n (lvl + 2) (bump z) with
      | none => rw [hx] at hok; simp [thenG, okG] at hok
      | some q =>
        obtain ⟨x, z'⟩ := q
        rw [hx] at hok
        simp only [thenG] at hok
        have hb := bodyK_go (v := vB first e) (e := e) hg hx
        cases h2 : Nat.beq lvl 2 with
        | true =>
          rw [h2] at hb
          have hr : resBi n lvl (m + 1, first, e, z) = (.exit 0, sBi lvl (vB false (moreE lvl e x z)) z') := by
            unfold resBi
            simp only [loopG, hg, cond_true, hx, thenG, h2]
          rw [hr]
          exact .inr ⟨by simp, goB' hT hl hf hb⟩
        | false =>
          rw [h2] at hb hok
          simp only [cond_false] at hok
          refine .inl ⟨(m, false, moreE lvl e x z, z'), ⟨.inr ⟨_, _, _, _, rfl⟩, hok⟩, Nat.lt_succ_self _, ?_, goB' hT hl hf hb⟩
          unfold resBi
          simp only [loopG, hg, cond_true, hx, thenG, h2, cond_false]
          cases loopG (readG n) lvl m (moreE lvl e x z) z' with
          | none => rfl
          | some q => cases goLv lvl z' <;> rfl

noncomputable def goodB (P : Prop) : Bool := @decide P (Classical.propDecidable _)
theorem goodB_t {P : Prop} (h : P) : goodB P = true := by unfold goodB; exact @decide_eq_true P (Classical.propDecidable _) h
theorem of_goodB {P : Prop} (h : goodB P = true) : P := by unfold goodB at h; exact @of_decide_eq_true P (Classical.propDecidable _) h

noncomputable def LSB (n : Nat) (S : St Pl) : Option (Bool × LR Pl) := match seenS 62 [0, 1, 4, 5, 6] S with
  | some ([.ptr 50000 0, .int .i64 (.ofNat lvl), .ptr 4 0, .ptr 5 0, .ptr 6 0], [(6, .box false v), (50000, .box false zc), (5, .box false lv), (4, .box false zr)]) => match exE v, decR [.obB 50000 zc] with
    | some e, some z => some (goodB (lvl < 5 ∧ lv = cLv ∧ zr = zeroC) && okG (loopG (readG n) lvl n e z),
        .ite (goLv lvl z) (.leaf (.exit 0) (sBi lvl (vB false (exG (loopG (readG n) lvl n e z))) (rdG (loopG (readG n) lvl n e z)))) (.leaf (.exit 0) (sBi lvl (vB true e) z)))
    | _, _ => none
  | _ => none

theorem loopG_stop {P : Nat → Rdr → Got} {lvl m : Nat} {e : ExprR} {z : Rdr} (h : goLv lvl z = false) (hm : okG (loopG P lvl m e z) = true) : loopG P lvl m e z = some (e, z) := by
  cases m with
  | zero => simp [loopG, okG] at hm
  | succ m => simp only [loopG, h, cond_false]

theorem LSB_ok {n : Nat} (hT : TOk (tGt n)) : SOk X0 (loopAt 34 0) (LSB n) := by
  intro S b r h hb
  unfold LSB at h
  split at h
  · rename_i lvl v zc lv zr hs
    split at h
    · rename_i e z he hz
      simp only [Option.some.injEq, Prod.mk.injEq] at h
      obtain ⟨rfl, rfl⟩ := h
      simp only [Bool.and_eq_true] at hb
      obtain ⟨hg, hok⟩ := hb
      obtain ⟨hl, rfl, rfl⟩ := of_goodB hg
      obtain rfl := exE_eq he
      have hz' := decR_enc hz
      simp only [encR, List.cons.injEq, D.obB.injEq, true_and, and_true] at hz'
      subst hz'
      refine Goes.pre (keepOf [0, 1, 4, 5, 6]) ?_
      rw [seenS_mask hs]
      have key := loopB' hT hl n e z hok
      have hr := okG_some hok
      have hres : resBi n lvl (n, true, e, z) = pickR (.ite (goLv lvl z) (.leaf (.exit 0) (sBi lvl (vB false (exG (loopG (readG n) lvl n e z))) (rdG (loopG (readG n) lvl n e z)))) (.leaf (.exit 0) (sBi lvl (vB true e) z))) := by
        cases hgo : goLv lvl z with
        | true =>
          unfold resBi
          simp only
          rw [hr, hgo]
          rfl
        | false =>
          have := loopG_stop hgo hok
          unfold resBi
          simp only
          rw [this, hgo]
          rfl
      rw [hres] at key
      exact key
    · simp at h
  · simp at h

def ckB (b : Bool) (k : Option (D Pl)) : Option (D Pl) := ck_ b k
noncomputable def binK (n lvl : Nat) (z : Rdr) : Option (D Pl) := ckG (readG n (lvl + 2) z) fun e z' =>
  ck_ (goodB (lvl < 5 ∧ cLv = cLv ∧ zeroC = zeroC) && okG (loopG (readG n) lvl n (etaE e) z'))
    (bif goLv lvl z' then env (rdG (loopG (readG n) lvl n (etaE e) z')) (vB false (exG (loopG (readG n) lvl n (etaE e) z'))) else env z' (cEk (etaE e) .any))
theorem eBin (n : Nat) (z : Rdr) : ∀ lvl : Nat, lvl < 5 → evM (tGt n) noTL (atL 5 (LSB n) noL) 4 Tryz.f34 (decH (encR z)) [.ptr 50000 0, dI lvl] = binK n lvl z
  | 0, _ => by kernel_rfl
  | 1, _ => by kernel_rfl
  | 2, _ => by kernel_rfl
  | 3, _ => by kernel_rfl
  | 4, _ => by kernel_rfl
  | _ + 5, h => by omega

end Go.Proofs.YtdlgmknlnddioaaGreatDoor

/-
  WHAT THE READER READS: all its methods, with any fuel; a whole text.
-/

namespace Go.Proofs.YtdlgmknlnddioaaGreatDoor
open Go.Eng

set_option maxRecDepth 100000

theorem sndR_of {n : Nat} (hT : TOk (tGt n)) {L : LK Pl} {g : FuncId} {fn : Func} {z z' : Rdr} {args cs : List (D Pl)} {e : ExprR} (hf : F0 g = some fn) (hL : ∀ code, fn.body = some code → ∀ b ∈ loopsOf code, LoopOk X0 L b)
    (h : evM (tGt n) noTL L 4 fn (decH (encR z)) (.ptr 50000 0 :: args) = env z' cs) (he : asE (.agg cs) = some e) : SndR g z args (.agg (cExpr e)) z' :=
  SoundM.post (asE_rdle he) (snd_m hT (noTL_ok _ _) hf hL h)

theorem asE_c (e : ExprR) : asE (.agg (cExpr e)) = some (etaE e) := rfl
theorem asE_k (e : ExprR) (k : SK) : asE (.agg (cEk e k)) = some (etaE e) := rfl

theorem ckG_of {r : Got} {e : ExprR} {z : Rdr} (h : r = some (e, z)) (k : ExprR → Rdr → Option (D Pl)) : ckG r k = k e z := by rw [ckG_eq, h]
theorem mustK_eq (z : Rdr) (s : Str) (k : Rdr → Option (D Pl)) : mustK z s k = k (mustZ z s) := by
  unfold mustK mustZ failK failZ
  cases nxZ z s <;> cases z.c == 0 <;> rfl
theorem failK_eq (z : Rdr) (p : PosR) (k : Rdr → Option (D Pl)) : failK z p k = k (failZ z p) := by
  unfold failK failZ
  cases z.c == 0 <;> rfl
theorem thenG_some {r : Got} {k : ExprR → Rdr → Got} {x : ExprR × Rdr} (h : thenG r k = some x) : ∃ e z, r = some (e, z) ∧ k e z = some x := by
  cases r with
  | none => simp [thenG] at h
  | some q => exact ⟨q.1, q.2, rfl, h⟩

theorem ok_ex {n : Nat} (h : GOk n) (z : Rdr) (e : ExprR) (z' : Rdr) (hr : readG (n + 1) 0 z = some (e, z')) : SndR 22 z [] (.agg (cExpr e)) z' := by
  have hT := tGt_ok h
  have hL : ∀ code, (Tryz.f22).body = some code → ∀ b ∈ loopsOf code, LoopOk X0 noL b := loops_of (f := 22) (fn := Tryz.f22) (by kernel_rfl) (loops_0 (by kernel_rfl))
  obtain ⟨e1, z1, h1, h2⟩ := thenG_some (show exprG (readG n) z = some (e, z') from hr)
  have hE := (eExpr n z).trans (ckG_of h1 _)
  cases hq : nxZ z1 [63] with
  | false =>
    rw [hq] at h2 hE
    simp only [cond_false, Option.some.injEq, Prod.mk.injEq] at h2
    obtain ⟨rfl, rfl⟩ := h2
    exact sndR_of hT (by kernel_rfl) hL hE ((asE_c e1).trans (by rw [etaE_eq]))
  | true =>
    rw [hq] at h2 hE
    simp only [Bool.not_true, cond_false] at hE
    obtain ⟨a, z2, h3, h4⟩ := thenG_some h2
    obtain ⟨b, z3, h5, h6⟩ := thenG_some h4
    simp only [Option.some.injEq, Prod.mk.injEq] at h6
    obtain ⟨rfl, rfl⟩ := h6
    have hE' := hE.trans ((ckG_of h3 _).trans ((mustK_eq _ _ _).trans (ckG_of h5 _)))
    refine sndR_of hT (by kernel_rfl) hL hE' ?_
    show some (nodeE 21 [] [etaE e1, etaE a, etaE b] (tokZ z1).p) = _
    rw [etaE_eq, etaE_eq, etaE_eq]

theorem ok_un {n : Nat} (h : GOk n) (z : Rdr) (e : ExprR) (z' : Rdr) (hr : readG (n + 1) 7 z = some (e, z')) : SndR 47 z [] (.agg (cExpr e)) z' := by
  have hT := tGt_ok h
  have hL : ∀ code, (Tryz.f47).body = some code → ∀ b ∈ loopsOf code, LoopOk X0 noL b := loops_of (f := 47) (fn := Tryz.f47) (by kernel_rfl) (loops_0 (by kernel_rfl))
  have hr : unaryG (readG n) z = some (e, z') := hr
  have hE := eUn n z
  unfold unaryG at hr
  cases h1 : nxZ z [33] with
  | true =>
    rw [h1] at hr hE
    simp only [cond_true] at hE
    obtain ⟨x, z1, h2, h3⟩ := thenG_some hr
    simp only [Option.some.injEq, Prod.mk.injEq] at h3
    obtain ⟨rfl, rfl⟩ := h3
    refine sndR_of hT (by kernel_rfl) hL (hE.trans (ckG_of h2 _)) ?_
    show some (nodeE 6 [] [etaE x] (tokZ z).p) = _
    rw [etaE_eq]
  | false =>
    rw [h1] at hr hE
    cases h2 : nxZ z [45] with
    | true =>
      rw [h2] at hr hE
      simp only [cond_true, cond_false] at hE
      obtain ⟨x, z1, h2, h3⟩ := thenG_some hr
      simp only [Option.some.injEq, Prod.mk.injEq] at h3
      obtain ⟨rfl, rfl⟩ := h3
      refine sndR_of hT (by kernel_rfl) hL (hE.trans (ckG_of h2 _)) ?_
      show some (nodeE 7 [] [etaE x] (tokZ z).p) = _
      rw [etaE_eq]
    | false =>
      rw [h2] at hr hE
      simp only [cond_false] at hr hE
      exact sndR_of hT (by kernel_rfl) hL (hE.trans (ckG_of hr _)) ((asE_c e).trans (by rw [etaE_eq]))

theorem ok_po {n : Nat} (h : GOk n) (z : Rdr) (e : ExprR) (z' : Rdr) (hr : readG (n + 1) 8 z = some (e, z')) : SndR 56 z [] (.agg (cExpr e)) z' := by
  have hT := tGt_ok h
  have hL : ∀ code, (Tryz.f56).body = some code → ∀ b ∈ loopsOf code, LoopOk X0 noL b := fun _ _ b _ => fun S b' r hl => by simp [noL] at hl
  obtain ⟨e1, z1, h1, h2⟩ := thenG_some (show postG (readG n) z = some (e, z') from hr)
  have hE := (ePost n z).trans (ckG_of h1 _)
  cases hc : z1.c == 0 with
  | false =>
    rw [hc] at h2 hE
    simp only [Bool.not_false, cond_true, Option.some.injEq, Prod.mk.injEq] at h2
    obtain ⟨rfl, rfl⟩ := h2
    exact sndR_of hT (by kernel_rfl) hL hE ((asE_c e1).trans (by rw [etaE_eq]))
  | true =>
    rw [hc] at h2 hE
    simp only [Bool.not_true, cond_false] at h2
    cases h3 : nxZ z1 [46] with
    | true => rw [h3] at h2; simp at h2
    | false =>
      cases h4 : nxZ z1 [91] with
      | true => rw [h3, h4] at h2; simp at h2
      | false =>
        rw [h3, h4] at h2 hE
        simp only [cond_false, Option.some.injEq, Prod.mk.injEq] at h2
        obtain ⟨rfl, rfl⟩ := h2
        exact sndR_of hT (by kernel_rfl) hL hE ((asE_c e1).trans (by rw [etaE_eq]))

theorem ok_fi {n : Nat} (h : GOk n) (z : Rdr) (e : ExprR) (z' : Rdr) (hr : readG (n + 1) 9 z = some (e, z')) : SndR 64 z [] (.agg (cExpr e)) z' := by
  have hT := tGt_ok h
  have hL : ∀ code, (Tryz.f64).body = some code → ∀ b ∈ loopsOf code, LoopOk X0 noL b := loops_of (f := 64) (fn := Tryz.f64) (by kernel_rfl) (loops_0 (by kernel_rfl))
  have hr : firstG (readG n) z = some (e, z') := hr
  have hE := eFirst n z
  have fin : ∀ {cs : List (D Pl)} {e1 : ExprR} {z1 : Rdr}, firstK n z (tokZ z) = env z1 cs → asE (.agg cs) = some e1 → some (e1, z1) = some (e, z') → SndR 64 z [] (.agg (cExpr e)) z' := by
    intro cs e1 z1 h1 h2 h3
    simp only [Option.some.injEq, Prod.mk.injEq] at h3
    obtain ⟨rfl, rfl⟩ := h3
    exact sndR_of hT (by kernel_rfl) hL (hE.trans h1) h2
  unfold firstG at hr
  unfold firstK at fin
  cases hc : z.c == 0 with
  | false =>
    rw [hc] at hr fin
    have hf : failZ z (tokZ z).p = z := by unfold failZ; rw [hc]; rfl
    exact fin (by simp only [Bool.not_false, cond_true]; rw [failK_eq, hf]) (show asE (.agg zeroC) = some e00 from rfl) hr
  | true =>
    rw [hc] at hr fin
    simp only [Bool.not_true, cond_false] at hr fin
    cases h2 : (tokZ z).kind == 2 with
    | true => rw [h2] at hr fin; exact fin rfl rfl hr
    | false =>
    rw [h2] at hr fin
    simp only [cond_false] at hr fin
    cases h3 : (tokZ z).kind == 3 with
    | true => rw [h3] at hr; simp at hr
    | false =>
    rw [h3] at hr fin
    simp only [cond_false] at hr fin
    cases h1 : (tokZ z).kind == 1 with
    | true =>
      rw [h1] at hr fin
      simp only [cond_true] at hr fin
      unfold namedG at hr
      unfold namedK namedL namedN at fin
      cases ht : (tokZ z).s == [116, 114, 117, 101] with
      | true => rw [ht] at hr fin; exact fin rfl rfl hr
      | false =>
      rw [ht] at hr fin
      simp only [cond_false] at hr fin
      cases hf : (tokZ z).s == [102, 97, 108, 115, 101] with
      | true => rw [hf] at hr fin; exact fin rfl rfl hr
      | false =>
      rw [hf] at hr fin
      simp only [cond_false] at hr fin
      cases hn : (tokZ z).s == [110, 117, 108, 108] with
      | true => rw [hn] at hr fin; exact fin rfl rfl hr
      | false =>
      rw [hn] at hr fin
      simp only [cond_false] at hr fin
      have hk : (bif resV (tokZ z).s then failK (bump z) (tokZ z).p (namedK2 (tokZ z)) else namedK2 (tokZ z) (bump z)) = namedK2 (tokZ z) (bif resV (tokZ z).s then failZ (bump z) (tokZ z).p else bump z) := by
        cases resV (tokZ z).s with
        | true => exact failK_eq _ _ _
        | false => rfl
      rw [hk] at fin
      generalize (bif resV (tokZ z).s then failZ (bump z) (tokZ z).p else bump z) = w at hr fin
      unfold namedK2 at fin
      cases hb : nxZ w [40] with
      | true => rw [hb] at hr; simp at hr
      | false => rw [hb] at hr fin; exact fin rfl rfl hr
    | false =>
    rw [h1] at hr fin
    simp only [cond_false] at hr fin
    cases hb : nxZ z [40] with
    | true =>
      rw [hb] at hr fin
      simp only [cond_true] at hr
      obtain ⟨e1, z1, h4, h5⟩ := thenG_some hr
      exact fin (by simp only [Bool.not_true, cond_false]; rw [ckG_of h4, mustK_eq]) ((asE_c e1).trans (by rw [etaE_eq])) h5
    | false =>
    rw [hb] at hr fin
    simp only [cond_false, Bool.not_false, cond_true] at hr fin
    cases h5 : nxZ z [91] with
    | true => rw [h5] at hr; simp at hr
    | false =>
    cases h6 : nxZ z [123] with
    | true => rw [h5, h6] at hr; simp at hr
    | false =>
      rw [h5, h6] at hr fin
      exact fin (by rw [failK_eq]; rfl) (show asE (.agg zeroC) = some e00 from rfl) hr

theorem loopG_node {P : Nat → Rdr → Got} {lvl : Nat} : ∀ (m : Nat) (e : ExprR) (z : Rdr) (x : ExprR × Rdr), (goLv lvl z = true ∨ isNode e) → loopG P lvl m e z = some x → isNode x.1
  | 0, _, _, _, _, h => by simp [loopG] at h
  | m + 1, e, z, x, hn, h => by
    simp only [loopG] at h
    cases hg : goLv lvl z with
    | false =>
      rw [hg] at h hn
      simp only [cond_false, Option.some.injEq] at h
      subst h
      simpa using hn
    | true =>
      rw [hg] at h
      obtain ⟨y, z1, _, h2⟩ := thenG_some h
      cases h3 : Nat.beq lvl 2 with
      | true =>
        rw [h3] at h2
        simp only [cond_true, Option.some.injEq] at h2
        subst h2
        exact ⟨_, _, _, _, rfl⟩
      | false =>
        rw [h3] at h2
        exact loopG_node m _ z1 x (.inr ⟨_, _, _, _, rfl⟩) h2

theorem ok_bi {n : Nat} (h : GOk n) (k : Nat) (z : Rdr) (e : ExprR) (z' : Rdr) (hk : k ≤ 5) (hr : readG (n + 1) (k + 1) z = some (e, z')) : SndR 34 z [dI k] (.agg (cExpr e)) z' := by
  have hT := tGt_ok h
  by_cases h5 : k = 5
  · subst h5
    have hr : readG n 7 z = some (e, z') := hr
    have hL : ∀ code, (Tryz.f34).body = some code → ∀ b ∈ loopsOf code, LoopOk X0 noL b := fun _ _ b _ => fun S b' r hl => by simp [noL] at hl
    exact sndR_of hT (by kernel_rfl) hL ((eB5 n z).trans (ckG_of hr _)) ((asE_c e).trans (by rw [etaE_eq]))
  · have hk : k < 5 := by omega
    have hr : (thenG (readG n (k + 2) z) fun e z' => loopG (readG n) k n e z') = some (e, z') := by
      match k, hk with
      | 0, _ => exact hr
      | 1, _ => exact hr
      | 2, _ => exact hr
      | 3, _ => exact hr
      | 4, _ => exact hr
    obtain ⟨e1, z1, h1, h2⟩ := thenG_some hr
    have hL := loops_of (f := 34) (fn := Tryz.f34) (by kernel_rfl) (loops_1 idsB.1 (L := atL 5 (LSB n) noL) (atL_ok (fun _ => LSB_ok hT) fun h => absurd idsB.2.1 h))
    have hE := (eBin n z k hk).trans (show binK n k z = _ from ckG_of h1 _)
    rw [etaE_eq, h2, goodB_t ⟨hk, rfl, rfl⟩] at hE
    have hE : evM (tGt n) noTL (atL 5 (LSB n) noL) 4 Tryz.f34 (decH (encR z)) [.ptr 50000 0, dI k] = bif goLv k z1 then env z' (vB false e) else env z1 (cEk e1 .any) := hE
    cases hg : goLv k z1 with
    | false =>
      rw [hg] at hE
      have := loopG_stop hg (m := n) (e := e1) (P := readG n) (by rw [h2]; rfl)
      rw [h2] at this
      simp only [Option.some.injEq, Prod.mk.injEq] at this
      obtain ⟨rfl, rfl⟩ := this
      exact sndR_of hT (by kernel_rfl) hL hE ((asE_k e .any).trans (by rw [etaE_eq]))
    | true =>
      rw [hg] at hE
      obtain ⟨op, s, l, p, rfl⟩ := loopG_node n e1 z1 _ (.inl hg) h2
      exact sndR_of hT (by kernel_rfl) hL hE rfl

theorem gOk : ∀ n, GOk n
  | 0 => ⟨fun z e z' h => by simp [readG] at h, fun k z e z' _ h => by simp [readG] at h, fun z e z' h => by simp [readG] at h, fun z e z' h => by simp [readG] at h, fun z e z' h => by simp [readG] at h⟩
  | n + 1 => ⟨ok_ex (gOk n), ok_bi (gOk n), ok_un (gOk n), ok_po (gOk n), ok_fi (gOk n)⟩

end Go.Proofs.YtdlgmknlnddioaaGreatDoor

/-
  A TEXT's EXPRESSION, of texts without strings, lists, calls.
-/

namespace Go.Proofs.YtdlgmknlnddioaaGreatDoor
open Go.Eng

set_option maxRecDepth 100000

def tWh (n : Nat) : Eng.Told Pl := tell 16 pAll (tGt n)
theorem tWh_ok (n : Nat) : TOk (tWh n) := tell_ok pAll_ok (tGt_ok (gOk n))

def zS (s : Str) : Rdr := ⟨(allM s).l, 0, 0, ⟨0, 0, 0⟩⟩
def whF (e : ExprR) (z : Rdr) : Option (D Pl) := bif !(z.c == 0) then some (.tup [.agg zeroC, .agg (dgC z.c z.p)]) else some (.tup [.agg (cExpr e), .agg (dgC 0 ⟨0, 0, 0⟩)])
def whK (n : Nat) (s : Str) : Option (D Pl) :=
  bif !((allM s).bad == 0) then some (.tup [.agg zeroC, .agg (dgC (allM s).bad (allM s).bp)])
  else ckG (readG n 0 (zS s)) fun e z => bif (bif z.c == 0 then !((tokZ z).kind == 0) else false) then failK z (tokZ z).p (whF e) else whF e z
theorem eWh (n : Nat) (s : Str) : ev (tWh n) noTL 5 15 [.str s] = whK n s := by kernel_rfl

/-- A text's tree, what is wrong, where. -/
def wholeM (n : Nat) (s : Str) : Option (ExprR × Int × PosR) :=
  bif !((allM s).bad == 0) then some (e00, (allM s).bad, (allM s).bp) else match readG n 0 (zS s) with
    | none => none
    | some (e, z) => bif !((bif (bif z.c == 0 then !((tokZ z).kind == 0) else false) then failZ z (tokZ z).p else z).c == 0)
        then some (e00, (bif (bif z.c == 0 then !((tokZ z).kind == 0) else false) then failZ z (tokZ z).p else z).c, (bif (bif z.c == 0 then !((tokZ z).kind == 0) else false) then failZ z (tokZ z).p else z).p)
        else some (e, 0, ⟨0, 0, 0⟩)

theorem wh_of {n : Nat} {s : Str} {cs : List (D Pl)} {d : D Pl} {e : ExprR} (h : whK n s = some (.tup [.agg cs, d])) (he : asE (.agg cs) = some e) : Snd 15 [.str s] (.tup [.agg (cExpr e), d]) := by
  refine SoundAt.post (RDle.tup (.cons (asE_rdle he) (.cons (RDle.refl _) .nil))) (snd_of (tWh_ok n) (noTL_ok _ _) ((eWh n s).trans h))

theorem wh_sound {n : Nat} {s : Str} {e : ExprR} {c : Int} {p : PosR} (h : wholeM n s = some (e, c, p)) : Snd 15 [.str s] (.tup [.agg (cExpr e), .agg (dgC c p)]) := by
  unfold wholeM at h
  cases hb : (allM s).bad == 0 with
  | false =>
    rw [hb] at h
    simp only [Bool.not_false, cond_true, Option.some.injEq, Prod.mk.injEq] at h
    obtain ⟨rfl, rfl, rfl⟩ := h
    exact wh_of (n := n) (by unfold whK; rw [hb]; rfl) rfl
  | true =>
    rw [hb] at h
    simp only [Bool.not_true, cond_false] at h
    cases hr : readG n 0 (zS s) with
    | none => rw [hr] at h; simp at h
    | some q =>
      obtain ⟨e1, z⟩ := q
      rw [hr] at h
      simp only at h
      have hk : whK n s = whF e1 (bif (bif z.c == 0 then !((tokZ z).kind == 0) else false) then failZ z (tokZ z).p else z) := by
        unfold whK
        rw [hb, ckG_of hr]
        show (bif (bif z.c == 0 then !((tokZ z).kind == 0) else false) then failK z (tokZ z).p (whF e1) else whF e1 z) = _
        cases (bif z.c == 0 then !((tokZ z).kind == 0) else false) with
        | true => exact failK_eq _ _ _
        | false => rfl
      generalize (bif (bif z.c == 0 then !((tokZ z).kind == 0) else false) then failZ z (tokZ z).p else z) = w at h hk
      unfold whF at hk
      cases hw : w.c == 0 with
      | false =>
        rw [hw] at h hk
        simp only [Bool.not_false, cond_true, Option.some.injEq, Prod.mk.injEq] at h
        obtain ⟨rfl, rfl, rfl⟩ := h
        exact wh_of (n := n) hk rfl
      | true =>
        rw [hw] at h hk
        simp only [Bool.not_true, cond_false, Option.some.injEq, Prod.mk.injEq] at h
        obtain ⟨rfl, rfl, rfl⟩ := h
        exact wh_of (n := n) hk ((asE_c e1).trans (by rw [etaE_eq]))

def okW {A : Type} (r : Option A) : Bool := match r with
  | some _ => true
  | none => false
def gotW (r : Option (ExprR × Int × PosR)) : ExprR × Int × PosR := r.getD (e00, 0, ⟨0, 0, 0⟩)
theorem okW_some {r : Option (ExprR × Int × PosR)} (h : okW r = true) : r = some ((gotW r).1, (gotW r).2.1, (gotW r).2.2) := by
  cases r with
  | none => simp [okW] at h
  | some x => rfl
def pWh (M : Str → Option (ExprR × Int × PosR)) : List (D Pl) → Option (Bool × D Pl)
  | [.str s] => some (okW (M s), .tup [.agg (cExpr (gotW (M s)).1), .agg (dgC (gotW (M s)).2.1 (gotW (M s)).2.2)])
  | _ => none
theorem pWh_ok {g : FuncId} {M : Str → Option (ExprR × Int × PosR)} (hM : ∀ s e c p, M s = some (e, c, p) → Snd g [.str s] (.tup [.agg (cExpr e), .agg (dgC c p)])) : ∀ ds b d, pWh M ds = some (b, d) → b = true → Snd g ds d := by
  intro ds b d h hb
  unfold pWh at h
  split at h
  · simp only [Option.some.injEq, Prod.mk.injEq] at h
    obtain ⟨h1, rfl⟩ := h
    exact hM _ _ _ _ (okW_some (h1.trans hb))
  · simp at h

def tPa (n : Nat) : Eng.Told Pl := tell 15 (pWh (wholeM n)) (tell 11 (pe1 fun a => (true, dI (deepE a))) (tell 16 pAll tell0))
theorem tPa_ok (n : Nat) : TOk (tPa n) := tell_ok (pWh_ok fun _ _ _ _ h => wh_sound h) (tell_ok (pe1_ok fun a _ => depth_sound a) (tell_ok pAll_ok (tell0_ok _)))

def paR (e : ExprR) (c : Int) (p : PosR) : Option (D Pl) := bif !(c == 0) then some (.tup [.agg zeroC, .agg (dgC c p)]) else some (.tup [.agg (cExpr e), .agg (dgC c p)])
def paK (s : Str) (e : ExprR) (c : Int) (p : PosR) : Option (D Pl) :=
  bif (c == 0) == true then (bif decide (deepE (etaE e) > 24) then ck_ ((true && decide ((0 : Int) < ((allM s).l.length : Int))) || false) (some (.tup [.agg zeroC, .agg (dgC 12 ((allM s).l.getD (Int.toNat 0) default).p)])) else paR e c p) else paR e c p
theorem ePa (n : Nat) (s : Str) : ev (tPa n) noTL 3 7 [.str s] = ck_ (okW (wholeM n s)) (paK s (gotW (wholeM n s)).1 (gotW (wholeM n s)).2.1 (gotW (wholeM n s)).2.2) := by kernel_rfl

/-- A text's expression, what is wrong, where. -/
def parseM (n : Nat) (s : Str) : Option (ExprR × Int × PosR) := match wholeM n s with
  | none => none
  | some (e, c, p) => bif c == 0 then (bif decide (deepE e > 24) then none else some (e, c, p)) else some (e00, c, p)

theorem pa_of {n : Nat} {s : Str} {cs : List (D Pl)} {d : D Pl} {e : ExprR} (h : ev (tPa n) noTL 3 7 [.str s] = some (.tup [.agg cs, d])) (he : asE (.agg cs) = some e) : Snd 7 [.str s] (.tup [.agg (cExpr e), d]) :=
  SoundAt.post (RDle.tup (.cons (asE_rdle he) (.cons (RDle.refl _) .nil))) (snd_of (tPa_ok n) (noTL_ok _ _) h)

theorem pa_sound {n : Nat} {s : Str} {e : ExprR} {c : Int} {p : PosR} (h : parseM n s = some (e, c, p)) : Snd 7 [.str s] (.tup [.agg (cExpr e), .agg (dgC c p)]) := by
  unfold parseM at h
  cases hw : wholeM n s with
  | none => rw [hw] at h; simp at h
  | some q =>
    obtain ⟨e1, c1, p1⟩ := q
    rw [hw] at h
    simp only at h
    have hE := ePa n s
    rw [hw] at hE
    have hE : ev (tPa n) noTL 3 7 [.str s] = paK s e1 c1 p1 := hE
    unfold paK at hE
    rw [etaE_eq] at hE
    cases hc : c1 == 0 with
    | false =>
      rw [hc] at h hE
      simp only [cond_false, Option.some.injEq, Prod.mk.injEq] at h
      obtain ⟨rfl, rfl, rfl⟩ := h
      exact pa_of (hE.trans (by unfold paR; rw [hc]; rfl)) rfl
    | true =>
      rw [hc] at h hE
      cases hd : decide (deepE e1 > 24) with
      | true => rw [hd] at h; simp at h
      | false =>
        rw [hd] at h hE
        simp only [cond_true, cond_false, Option.some.injEq, Prod.mk.injEq] at h
        obtain ⟨rfl, rfl, rfl⟩ := h
        exact pa_of (hE.trans (by unfold paR; rw [hc]; rfl)) ((asE_c e1).trans (by rw [etaE_eq]))

end Go.Proofs.YtdlgmknlnddioaaGreatDoor
