/-
  TREES OF EXPRESSIONS, plainly: how much one has; whether two are one, places aside; how deep one is.
-/
import Derived.Test.YtdlgmknlnddioaaGreatDoorVals
namespace Go.Proofs.YtdlgmknlnddioaaGreatDoor
open Go.Eng

set_option maxRecDepth 100000

mutual
/-- how many trees there are in it -/
def esz : ExprR → Nat
  | ⟨_, _, _, _, l, _⟩ => 1 + eszs l
def eszs : List ExprR → Nat
  | [] => 0
  | v :: r => esz v + eszs r
end

theorem eszs_mem {l : List ExprR} {x : ExprR} (h : x ∈ l) : esz x ≤ eszs l := by
  induction l with
  | nil => simp at h
  | cons y r ih =>
    simp only [eszs]
    rcases List.mem_cons.1 h with rfl | h
    · omega
    · have := ih h; omega
theorem esz_eq (e : ExprR) : esz e = 1 + eszs e.l := by
  obtain ⟨op, s, s2, v, l, p⟩ := e
  simp only [esz]
theorem esz_elem {v x : ExprR} (h : x ∈ v.l) : esz x < esz v := by
  have := eszs_mem h
  rw [esz_eq v]
  omega

/-- All but the parts. -/
def eHd (a b : ExprR) : Bool := (bif (bif a.op == b.op then a.s == b.s else false) then a.s2 == b.s2 else false) && sameV a.v b.v true

mutual
def sameE : ExprR → ExprR → Bool
  | ⟨op, s, s2, v, l, p⟩, b => eHd ⟨op, s, s2, v, l, p⟩ b && sameEs l b.l
def sameEs : List ExprR → List ExprR → Bool
  | [], l => l.isEmpty
  | x :: r, l => match l with
    | [] => false
    | y :: s => sameE x y && sameEs r s
end

def allE (a b : List ExprR) : Bool := (List.range a.length).all fun i => sameE (a.getD i default) (b.getD i default)
theorem allE_eq : ∀ (l l' : List ExprR), l.length = l'.length → allE l l' = sameEs l l'
  | [], [], _ => rfl
  | [], _ :: _, h => by simp at h
  | _ :: _, [], h => by simp at h
  | x :: r, y :: s, h => by
    unfold allE
    rw [List.length_cons, all_range_succ, sameEs, ← allE_eq r s (by simpa using h)]
    rfl
theorem sameEs_len : ∀ {l l' : List ExprR}, sameEs l l' = true → l.length = l'.length
  | [], [], _ => rfl
  | [], _ :: _, h => by simp [sameEs] at h
  | _ :: _, [], h => by simp [sameEs] at h
  | x :: r, y :: s, h => by
    simp only [sameEs, Bool.and_eq_true] at h
    simp only [List.length_cons, sameEs_len h.2]
theorem sameE_eq (a b : ExprR) : sameE a b = (eHd a b && sameEs a.l b.l) := by
  obtain ⟨op, s, s2, v, l, p⟩ := a
  simp only [sameE]

def etaE (e : ExprR) : ExprR := ⟨e.op, e.s, e.s2, etaV e.v, e.l, e.p⟩
theorem etaE_eq (e : ExprR) : etaE e = e := by
  obtain ⟨op, s, s2, v, l, p⟩ := e
  unfold etaE
  rw [etaV_eq]

def asE : D Pl → Option ExprR
  | .agg cs => dExpr cs
  | _ => none
theorem dExpr_rdle {cs : List (D Pl)} {e : ExprR} (h : dExpr cs = some e) : RDles X0.C cs (cExpr e) := by
  unfold dExpr at h
  split at h
  · split at h
    · rename_i h1 h2 h3
      simp only [Option.some.injEq] at h
      subst h
      exact .cons (RDle.refl _) (.cons (RDle.refl _) (.cons (RDle.refl _) (.cons (RDle.refl _) (.cons (RDle.refl _) (.cons (RDle.refl _) (.cons (asL_rdle h1) (.cons (asL_rdle h2) (.cons (RDle.refl _) (.cons (RDle.refl _) (.cons (RDle.refl _) (.cons (asL_rdle h3) (RDles.refl _))))))))))))
    · simp at h
  · simp at h
theorem asE_rdle {d : D Pl} {e : ExprR} (h : asE d = some e) : RDle X0.C d (.agg (cExpr e)) := by
  unfold asE at h
  split at h
  · exact RDle.agg (dExpr_rdle h)
  · simp at h

/-- exactly a tree's cells -/
def exE : List (D Pl) → Option ExprR
  | [.int .i64 op, .str s, .str s2, .int .i64 k, .int .i64 i, .str vs, .pl ⟨.vals, l⟩ .any, .pl ⟨.strs, ks⟩ .any, .int .i64 tk, .int .i64 tof, .bool sec, .pl ⟨.exprs, x⟩ .any, .int .i64 a, .int .i64 b, .int .i64 c] => some ⟨op, s, s2, ⟨k, i, vs, l, ks, tk, tof, sec⟩, x, ⟨a, b, c⟩⟩
  | _ => none
theorem exE_eq {cs : List (D Pl)} {e : ExprR} (h : exE cs = some e) : cs = cExpr e := by
  unfold exE at h
  split at h
  · simp only [Option.some.injEq] at h; subst h; rfl
  · simp at h

/-- contracts for a tree; for two -/
def pe1 (f : ExprR → Bool × D Pl) : List (D Pl) → Option (Bool × D Pl)
  | [d] => match asE d with
    | some a => some (f a)
    | none => none
  | _ => none
theorem pe1_ok {g : FuncId} {f : ExprR → Bool × D Pl} (h : ∀ a, (f a).1 = true → Snd g [.agg (cExpr a)] (f a).2) : ∀ ds b d, pe1 f ds = some (b, d) → b = true → Snd g ds d := by
  intro ds b d hp hb
  unfold pe1 at hp
  split at hp
  · split at hp
    · rename_i ha
      simp only [Option.some.injEq] at hp
      have h1 := h _ (by rw [hp]; exact hb)
      rw [hp] at h1
      exact h1.pre (.cons (asE_rdle ha) .nil)
    · simp at hp
  · simp at hp
def pe2 (f : ExprR → ExprR → Bool × D Pl) : List (D Pl) → Option (Bool × D Pl)
  | [d, e] => match asE d, asE e with
    | some a, some b => some (f a b)
    | _, _ => none
  | _ => none
theorem pe2_ok {g : FuncId} {f : ExprR → ExprR → Bool × D Pl} (h : ∀ a b, (f a b).1 = true → Snd g [.agg (cExpr a), .agg (cExpr b)] (f a b).2) : ∀ ds b d, pe2 f ds = some (b, d) → b = true → Snd g ds d := by
  intro ds b d hp hb
  unfold pe2 at hp
  split at hp
  · split at hp
    · rename_i h1 h2
      simp only [Option.some.injEq] at hp
      have h3 := h _ _ (by rw [hp]; exact hb)
      rw [hp] at h3
      exact h3.pre (.cons (asE_rdle h1) (.cons (asE_rdle h2) .nil))
    · simp at hp
  · simp at hp
def pe2b (f : ExprR → ExprR → Bool → Bool × D Pl) : List (D Pl) → Option (Bool × D Pl)
  | [d, e, .bool m] => match asE d, asE e with
    | some a, some b => some (f a b m)
    | _, _ => none
  | _ => none
theorem pe2b_ok {g : FuncId} {f : ExprR → ExprR → Bool → Bool × D Pl} (h : ∀ a b m, (f a b m).1 = true → Snd g [.agg (cExpr a), .agg (cExpr b), .bool m] (f a b m).2) : ∀ ds b d, pe2b f ds = some (b, d) → b = true → Snd g ds d := by
  intro ds b d hp hb
  unfold pe2b at hp
  split at hp
  · split at hp
    · rename_i h1 h2
      simp only [Option.some.injEq] at hp
      have h3 := h _ _ _ (by rw [hp]; exact hb)
      rw [hp] at h3
      exact h3.pre (.cons (asE_rdle h1) (.cons (asE_rdle h2) (.cons (RDle.refl _) .nil)))
    · simp at hp
  · simp at hp

end Go.Proofs.YtdlgmknlnddioaaGreatDoor

/-
  WHETHER TWO TREES ARE ONE (the program's 'Same', the document's 'Same'): what the code computes, whatever the two trees are.
-/

namespace Go.Proofs.YtdlgmknlnddioaaGreatDoor
open Go.Eng

set_option maxRecDepth 100000

-- slices.EqualFunc with 'Same'

def s48e (a b : List ExprR) (i : Int) : St Pl := mkS 32 [(1, .pl (pExprs b) .any), (2, .fn 10 []), (6, .bool false), (15, .pl (pExprs a) .any), (16, dI a.length), (17, dI i)] []
def r48e (b : List ExprR) : St Pl := mkS 32 [(1, .pl (pExprs b) .any), (2, .fn 10 []), (6, .bool false)] []
def tEsm (n : Nat) : Eng.Told Pl := tell 10 (pe2 fun a b => (Nat.blt (esz a) n, .bool (sameE a b))) tell0

theorem b48e (a b : List ExprR) (n i : Nat) : evD (tEsm n) noTL noL 1 (loopAt 20 0) [1, 2, 6, 15, 16, 17] [8, 9] (s48e a b i) =
    lt_ i a.length (ix_ i a.length (ix_ i b.length (ck_ (Nat.blt (esz (etaE (a.getD i default))) n) (bif !(sameE (etaE (a.getD i default)) (etaE (b.getD i default))) then some (.ret, s48e a b i) else some (.normal, s48e a b (IntKind.i64.wrap ((i : Int) + 1))))))) (some (.exit 0, s48e a b i)) := by kernel_rfl

theorem ids48e : (loopsAt 20).length = 1 ∧ firstId (loopAt 20 0) = 4 ∧ loopsOf (loopAt 20 0) = [] := ⟨by kernel_rfl, by kernel_rfl, by kernel_rfl⟩

def LS48e (n : Nat) (S : St Pl) : Option (Bool × LR Pl) := match seenS 32 [1, 2, 6, 15, 16, 17] S with
  | some ([.pl ⟨.exprs, b⟩ .any, .fn 10 [], .bool false, .pl ⟨.exprs, a⟩ .any, .int .i64 k, .int .i64 (.ofNat 0)], []) =>
    some (k == (a.length : Int) && (Nat.beq a.length b.length && (Nat.ble a.length big && Nat.blt (eszs a) n)), .ite ((List.range a.length).all fun i => sameE (a.getD i default) (b.getD i default)) (.leaf (.exit 0) (r48e b)) (.leaf .ret (r48e b)))
  | _ => none

theorem LS48e_ok {n : Nat} (hT : TOk (tEsm n)) : SOk X0 (loopAt 20 0) (LS48e n) := by
  intro S c r h hc
  unfold LS48e at h
  split at h
  · rename_i b a k hs
    simp only [Option.some.injEq, Prod.mk.injEq] at h
    obtain ⟨rfl, rfl⟩ := h
    simp only [Bool.and_eq_true, Nat.ble_eq, Nat.blt_eq, beq_iff_eq] at hc
    obtain ⟨rfl, hl, hb, hsz⟩ := hc
    have hl := Nat.eq_of_beq_eq_true hl
    refine Goes.pre (keepOf [1, 2, 6, 15, 16, 17]) ?_
    rw [seenS_mask hs]
    have hstep : ∀ i : Nat, i < a.length → evD (tEsm n) noTL noL 1 (loopAt 20 0) [1, 2, 6, 15, 16, 17] [8, 9] (s48e a b i) = bif !(sameE (a.getD i default) (b.getD i default)) then some (.ret, s48e a b i) else some (.normal, s48e a b ((i + 1 : Nat) : Int)) := by
      intro i hi
      have := eszs_mem (getD_mem (d := default) hi)
      rw [b48e, lt_t hi, ix_t hi, ix_t (by omega), etaE_eq, etaE_eq, ck_t (blt_t (by omega)), wrap_nat (show i ≤ big by omega)]
    refine loop_search (Sf := fun i => s48e a b i) (n := a.length) (p := fun i => sameE (a.getD i default) (b.getD i default)) (by simp) (by simp) (fun i hi hp => ?_) (fun i hi hp => ?_) ?_
    · have hp : sameE (a.getD i default) (b.getD i default) = true := hp
      exact goes_ofD hT (noTL_ok _ _) (noLoops ids48e.2.2) ((hstep i hi).trans (by rw [hp]; rfl))
    · have hp : sameE (a.getD i default) (b.getD i default) = false := hp
      exact (goes_ofD hT (noTL_ok _ _) (noLoops ids48e.2.2) ((hstep i hi).trans (show _ = some (.ret, s48e a b i) by rw [hp]; rfl))).post (keepOf [1, 2, 6])
    · exact (goes_ofD hT (noTL_ok _ _) (noLoops ids48e.2.2) ((b48e a b n a.length).trans (show _ = some (.exit 0, s48e a b a.length) by rw [lt_f (by omega)]))).post (keepOf [1, 2, 6])
  · simp at h

theorem e48e (a b : List ExprR) (n : Nat) : evF (tEsm n) noTL (atL 4 (LS48e n) noL) 1 Tryz.f20 [.pl (pExprs a) .any, .pl (pExprs b) .any, .fn 10 []] =
    bif ((a.length : Int) != (b.length : Int)) then some (.bool false) else ck_ (((a.length : Int) == (a.length : Int)) && (Nat.beq a.length b.length && (Nat.ble a.length big && Nat.blt (eszs a) n))) (bif (List.range a.length).all (fun i => sameE (a.getD i default) (b.getD i default)) then some (.bool true) else some (.bool false)) := by kernel_rfl

def eqEs (a b : List ExprR) : Bool := ((a.length : Int) == (b.length : Int)) && sameEs a b

theorem eqfuncE_n {n : Nat} (hT : TOk (tEsm n)) (a b : List ExprR) (hn : eszs a < n) : Snd 20 [.pl (pExprs a) .any, .pl (pExprs b) .any, .fn 10 []] (.bool (eqEs a b)) := by
  refine SoundAt.rooms fun hroom => snd_fn (n := 1) hT (noTL_ok _ _) (fn := Tryz.f20) (by kernel_rfl) (loops_of (fn := Tryz.f20) (by kernel_rfl) (loops_1 ids48e.1 (atL_ok (fun _ => LS48e_ok hT) fun h => absurd ids48e.2.1 h))) ((e48e a b n).trans ?_)
  have ha : a.length * 192 ≤ big := hroom (.pl (pExprs a) .any) (by simp)
  unfold eqEs
  by_cases hl : a.length = b.length
  · rw [show ((a.length : Int) != (b.length : Int)) = false by rw [hl]; simp, ck_t (by rw [beq_self_eq_true, hl, Nat.beq_refl, ble_t (by omega), blt_t hn]; rfl), show ((List.range a.length).all fun i => sameE (a.getD i default) (b.getD i default)) = sameEs a b from allE_eq a b hl, show ((a.length : Int) == (b.length : Int)) = true by rw [hl]; simp]
    cases sameEs a b <;> rfl
  · rw [show ((a.length : Int) != (b.length : Int)) = true by rw [bne_iff_ne]; omega, show ((a.length : Int) == (b.length : Int)) = false by rw [beq_eq_false_iff_ne]; omega]
    rfl

def pEqE (n : Nat) : List (D Pl) → Option (Bool × D Pl)
  | [d, e, .fn 10 []] => match asL .exprs d, asL .exprs e with
    | some a, some b => some (Nat.blt (eszs a) n, .bool (eqEs a b))
    | _, _ => none
  | _ => none

theorem pEqE_ok {n : Nat} (hT : TOk (tEsm n)) : ∀ ds b d, pEqE n ds = some (b, d) → b = true → Snd 20 ds d := by
  intro ds b d h hb
  unfold pEqE at h
  split at h
  · split at h
    · rename_i h1 h2
      simp only [Option.some.injEq, Prod.mk.injEq] at h
      obtain ⟨rfl, rfl⟩ := h
      simp only [Nat.blt_eq] at hb
      exact (eqfuncE_n hT _ _ (by omega)).pre (.cons (asL_rdle h1) (.cons (asL_rdle h2) (.cons (RDle.refl _) .nil)))
    · simp at h
  · simp at h


end Go.Proofs.YtdlgmknlnddioaaGreatDoor

/-
  TREES OF EXPRESSIONS: whether two are one, how deep one is, how much one has: the program's and the document's.
-/

namespace Go.Proofs.YtdlgmknlnddioaaGreatDoor
open Go.Eng

set_option maxRecDepth 100000

-- the program's Same

def m10 (a b : ExprR) : Bool := bif (bif a.op == b.op then a.s == b.s else false) then a.s2 == b.s2 else false
noncomputable def tS10 (n : Nat) : Eng.Told Pl := tell 19 (pvv fun a b => (true, .bool (sameV a b true))) (tell 20 (pEqE n) tell0)
theorem e10 (a b : ExprR) (n : Nat) : evF (tS10 n) noTL noL 0 Tryz.f10 [.agg (cExpr a), .agg (cExpr b)] =
    bif (m10 a b == true) then (bif (sameV (etaV a.v) (etaV b.v) true == true) then ck_ (Nat.blt (eszs a.l) n) (some (.bool (eqEs a.l b.l))) else some (.bool false)) else some (.bool false) := by kernel_rfl

theorem eqEs_eq (a b : List ExprR) : eqEs a b = sameEs a b := by
  unfold eqEs
  by_cases h : a.length = b.length
  · rw [h]; simp
  · rw [show ((a.length : Int) == (b.length : Int)) = false by rw [beq_eq_false_iff_ne]; omega]
    cases hs : sameEs a b with
    | false => rfl
    | true => exact absurd (sameEs_len hs) h

theorem esame_n : ∀ n a b, esz a < n → Snd 10 [.agg (cExpr a), .agg (cExpr b)] (.bool (sameE a b)) := by
  intro n
  induction n with
  | zero => intro a b h; omega
  | succ n ih =>
    intro a b hlt
    have hT : TOk (tEsm n) := tell_ok (pe2_ok fun a b h => ih a b (by simp only [Nat.blt_eq] at h; exact h)) (tell0_ok _)
    have h1 : eszs a.l < n := by have := esz_eq a; omega
    refine snd_fn (n := 0) (tell_ok (pvv_ok fun a b _ => vsame_sound a b) (tell_ok (pEqE_ok hT) (tell0_ok _))) (noTL_ok _ _) (fn := Tryz.f10) (by kernel_rfl) (loops_of (f := 10) (fn := Tryz.f10) (by kernel_rfl) (loops_0 (by kernel_rfl))) ((e10 a b n).trans ?_)
    rw [sameE_eq, ck_t (blt_t h1), etaV_eq, etaV_eq, eqEs_eq]
    unfold eHd m10
    cases (bif bif a.op == b.op then a.s == b.s else false then a.s2 == b.s2 else false) <;> cases sameV a.v b.v true <;> rfl
theorem esame_sound (a b : ExprR) : Snd 10 [.agg (cExpr a), .agg (cExpr b)] (.bool (sameE a b)) := esame_n _ a b (Nat.lt_succ_self _)

-- the document's Same, places aside

def s8 (a b : ExprR) (i : Int) : St Pl := mkS 74 [(2, .bool false), (3, .ptr 3 0), (4, .ptr 4 0), (6, .bool false), (7, dI i)] [(4, .box false (cExpr b)), (3, .box false (cExpr a))]
def r8 (a b : ExprR) : St Pl := mkS 74 [(2, .bool false), (3, .ptr 3 0), (4, .ptr 4 0), (6, .bool false)] [(4, .box false (cExpr b)), (3, .box false (cExpr a))]
def p8 (n : Nat) : List (D Pl) → Option (Bool × D Pl) := pe2b fun a b m => (Nat.blt (esz a) n && !m, .bool (sameE a b))

theorem b8 (a b : ExprR) (n i : Nat) : evC (tell 8 (p8 n) tell0) noTL noL 1 (loopAt 8 0) [2, 3, 4, 6, 7] (s8 a b i) =
    lt_ i a.l.length (ix_ i a.l.length (ix_ i b.l.length (ck_ (Nat.blt (esz (etaE (a.l.getD i default))) n && true) (bif !(sameE (etaE (a.l.getD i default)) (etaE (b.l.getD i default))) then some (.ret, s8 a b i) else some (.normal, s8 a b (IntKind.i64.wrap ((i : Int) + 1))))))) (some (.exit 0, s8 a b i)) := by kernel_rfl
theorem ids8 : (loopsAt 8).length = 1 ∧ firstId (loopAt 8 0) = 4 ∧ loopsOf (loopAt 8 0) = [] := ⟨by kernel_rfl, by kernel_rfl, by kernel_rfl⟩

def LS8s (n : Nat) (S : St Pl) : Option (Bool × LR Pl) := match seenS 74 [2, 3, 4, 6, 7] S with
  | some ([.bool false, .ptr 3 0, .ptr 4 0, .bool false, .int .i64 (.ofNat 0)], [(4, .box false cb), (3, .box false ca)]) => match exE ca, exE cb with
    | some a, some b => some (Nat.beq a.l.length b.l.length && (Nat.ble a.l.length big && Nat.blt (eszs a.l) n), .ite (allE a.l b.l) (.leaf (.exit 0) (r8 a b)) (.leaf .ret (r8 a b)))
    | _, _ => none
  | _ => none

theorem LS8s_ok {n : Nat} (hT : TOk (tell 8 (p8 n) tell0)) : SOk X0 (loopAt 8 0) (LS8s n) := by
  intro S c r h hc
  unfold LS8s at h
  split at h
  · rename_i cb ca hs
    split at h
    · rename_i a b ha hb
      simp only [Option.some.injEq, Prod.mk.injEq] at h
      obtain ⟨rfl, rfl⟩ := h
      simp only [Bool.and_eq_true, Nat.ble_eq, Nat.blt_eq] at hc
      obtain ⟨hl, hbig, hsz⟩ := hc
      have hl := Nat.eq_of_beq_eq_true hl
      obtain rfl := exE_eq ha
      obtain rfl := exE_eq hb
      refine Goes.pre (keepOf [2, 3, 4, 6, 7]) ?_
      rw [seenS_mask hs]
      have hstep : ∀ i : Nat, i < a.l.length → evC (tell 8 (p8 n) tell0) noTL noL 1 (loopAt 8 0) [2, 3, 4, 6, 7] (s8 a b i) = bif !(sameE (a.l.getD i default) (b.l.getD i default)) then some (.ret, s8 a b i) else some (.normal, s8 a b ((i + 1 : Nat) : Int)) := by
        intro i hi
        have := eszs_mem (getD_mem (d := default) hi)
        rw [b8, lt_t hi, ix_t hi, ix_t (by omega), etaE_eq, etaE_eq, ck_t (by rw [blt_t (by omega)]; rfl), wrap_nat (show i ≤ big by omega)]
      unfold allE
      refine loop_search (Sf := fun i => s8 a b i) (n := a.l.length) (p := fun i => sameE (a.l.getD i default) (b.l.getD i default)) (by simp) (by simp) (fun i hi hp => ?_) (fun i hi hp => ?_) ?_
      · have hp : sameE (a.l.getD i default) (b.l.getD i default) = true := hp
        exact goes_of hT (noTL_ok _ _) (noLoops ids8.2.2) ((hstep i hi).trans (by rw [hp]; rfl))
      · have hp : sameE (a.l.getD i default) (b.l.getD i default) = false := hp
        exact (goes_of hT (noTL_ok _ _) (noLoops ids8.2.2) ((hstep i hi).trans (show _ = some (.ret, s8 a b i) by rw [hp]; rfl))).post (keepOf [2, 3, 4, 6])
      · exact (goes_of hT (noTL_ok _ _) (noLoops ids8.2.2) ((b8 a b n a.l.length).trans (show _ = some (.exit 0, s8 a b a.l.length) by rw [lt_f (by omega)]))).post (keepOf [2, 3, 4, 6])
    · simp at h
  · simp at h

def n8 (a b : ExprR) : Bool := bif (bif a.op != b.op then true else !(a.s == b.s)) then true else !(a.s2 == b.s2)
theorem e8 (a b : ExprR) (n : Nat) : evF (tell 17 pSameA (tell 8 (p8 n) tell0)) noTL (atL 4 (LS8s n) noL) 1 Tryz.f8 [.agg (cExpr a), .agg (cExpr b), .bool false] =
    bif (n8 a b == false) then (bif (bif (bif !(sameV (etaV a.v) (etaV b.v) true) then true else ((a.l.length : Int) != (b.l.length : Int))) then true else false) then some (.bool false)
      else ck_ (Nat.beq a.l.length b.l.length && (Nat.ble a.l.length big && Nat.blt (eszs a.l) n)) (bif allE a.l b.l then some (.bool true) else some (.bool false))) else some (.bool false) := by kernel_rfl

theorem rsame_n : ∀ n a b, esz a < n → Snd 8 [.agg (cExpr a), .agg (cExpr b), .bool false] (.bool (sameE a b)) := by
  intro n
  induction n with
  | zero => intro a b h; omega
  | succ n ih =>
    intro a b hlt
    have hT : TOk (tell 8 (p8 n) tell0) := tell_ok (pe2b_ok fun a b m h => by
      simp only [Bool.and_eq_true, Nat.blt_eq, Bool.not_eq_true'] at h
      obtain ⟨h1, rfl⟩ := h
      exact ih a b h1) (tell0_ok _)
    have h1 : eszs a.l < n := by have := esz_eq a; omega
    refine SoundAt.rooms fun hroom => snd_fn (n := 1) (tSame_ok hT) (noTL_ok _ _) (fn := Tryz.f8) (by kernel_rfl) (loops_of (f := 8) (fn := Tryz.f8) (by kernel_rfl) (loops_1 ids8.1 (atL_ok (fun _ => LS8s_ok hT) fun h => absurd ids8.2.1 h))) ((e8 a b n).trans ?_)
    have hr : Room _ (.agg (cExpr a)) := hroom _ (by simp)
    have hk : a.l.length * 192 ≤ big := hr (.pl (pExprs a.l) .any) (by simp [cExpr])
    rw [sameE_eq, etaV_eq, etaV_eq]
    have hm : (n8 a b == false) = m10 a b := by
      unfold n8 m10
      rw [bne]
      cases a.op == b.op <;> cases a.s == b.s <;> cases a.s2 == b.s2 <;> rfl
    rw [hm]
    unfold eHd
    show _ = some (D.bool (m10 a b && sameV a.v b.v true && sameEs a.l b.l))
    cases m10 a b with
    | false => rfl
    | true =>
      cases sameV a.v b.v true with
      | false => rfl
      | true =>
        by_cases hl : a.l.length = b.l.length
        · rw [show ((a.l.length : Int) != (b.l.length : Int)) = false by rw [hl]; simp, ck_t (by rw [show Nat.beq a.l.length b.l.length = true by rw [hl]; exact Nat.beq_refl _, ble_t (by omega), blt_t h1]; rfl), allE_eq _ _ hl]
          cases sameEs a.l b.l <;> rfl
        · have : sameEs a.l b.l = false := by
            cases hs : sameEs a.l b.l with
            | false => rfl
            | true => exact absurd (sameEs_len hs) hl
          rw [this, show ((a.l.length : Int) != (b.l.length : Int)) = true by rw [bne_iff_ne]; omega]
          rfl
theorem rsame_sound' (a b : ExprR) : Snd 8 [.agg (cExpr a), .agg (cExpr b), .bool false] (.bool (sameE a b)) := rsame_n _ a b (Nat.lt_succ_self _)

end Go.Proofs.YtdlgmknlnddioaaGreatDoor

/-
  TREES OF EXPRESSIONS: how deep one is, how much one has; what is reserved: the program's and the document's.
-/

namespace Go.Proofs.YtdlgmknlnddioaaGreatDoor
open Go.Eng

set_option maxRecDepth 100000

-- how deep

def mx (y x : Int) : Int := bif (bif true then decide (y > x) else decide (y < x)) then y else x
def accD (D : ExprR → Int) (l : List ExprR) : Nat → Int
  | 0 => 0
  | i + 1 => mx (D (l.getD i default)) (accD D l i)
def dpth : Nat → ExprR → Int
  | 0, _ => 0
  | n + 1, e => IntKind.i64.wrap (accD (dpth n) e.l e.l.length + 1)

def tD (f n : Nat) : Eng.Told Pl := tell f (pe1 fun a => (Nat.blt (esz a) n, dI (dpth n a))) tell0

def s11 (e : ExprR) (l : List ExprR) (x i : Int) : St Pl := mkS 20 [(3, dI x), (7, .pl (pExprs l) .any), (8, dI l.length), (9, dI i)] [(1, .box false (cExpr e))]
theorem b11 (e : ExprR) (l : List ExprR) (n : Nat) (x : Int) (i : Nat) : evD (tD 11 n) noTL noL 1 (loopAt 11 0) [3, 7, 8, 9] [5] (s11 e l x i) =
    lt_ i l.length (ix_ i l.length (ck_ (Nat.blt (esz (etaE (l.getD i default))) n) (some (.normal, s11 e l (mx (dpth n (etaE (l.getD i default))) x) (IntKind.i64.wrap ((i : Int) + 1)))))) (some (.exit 0, s11 e l x i)) := by kernel_rfl
theorem ids11 : (loopsAt 11).length = 1 ∧ firstId (loopAt 11 0) = 3 ∧ loopsOf (loopAt 11 0) = [] := ⟨by kernel_rfl, by kernel_rfl, by kernel_rfl⟩
def LS11 (n : Nat) (S : St Pl) : Option (Bool × LR Pl) := match seenS 20 [3, 7, 8, 9] S with
  | some ([.int .i64 (.ofNat 0), .pl ⟨.exprs, l⟩ .any, .int .i64 k, .int .i64 (.ofNat 0)], [(1, .box false c)]) => match exE c with
    | some e => some (k == (l.length : Int) && (Nat.ble l.length big && Nat.blt (eszs l) n), .leaf (.exit 0) (s11 e l (accD (dpth n) l l.length) l.length))
    | none => none
  | _ => none
theorem LS11_ok {n : Nat} (hT : TOk (tD 11 n)) : SOk X0 (loopAt 11 0) (LS11 n) := by
  intro S c r h hc
  unfold LS11 at h
  split at h
  · rename_i l k ce hs
    split at h
    · rename_i e he
      simp only [Option.some.injEq, Prod.mk.injEq] at h
      obtain ⟨rfl, rfl⟩ := h
      simp only [Bool.and_eq_true, Nat.ble_eq, Nat.blt_eq, beq_iff_eq] at hc
      obtain ⟨rfl, hb, hsz⟩ := hc
      obtain rfl := exE_eq he
      refine Goes.pre (keepOf [3, 7, 8, 9]) ?_
      rw [seenS_mask hs]
      refine loop_all (Sf := fun i => s11 e l (accD (dpth n) l i) i) (n := l.length) (by simp) (fun i hi => ?_) ?_
      · refine goes_ofD hT (noTL_ok _ _) (noLoops ids11.2.2) ((b11 e l n _ i).trans ?_)
        have := eszs_mem (getD_mem (d := default) hi)
        rw [lt_t hi, ix_t hi, etaE_eq, ck_t (blt_t (by omega)), wrap_nat (show i ≤ big by omega)]
        rfl
      · exact goes_ofD hT (noTL_ok _ _) (noLoops ids11.2.2) ((b11 e l n _ l.length).trans (by rw [lt_f (by omega)]))
    · simp at h
  · simp at h
theorem e11 (e : ExprR) (n : Nat) : evF (tD 11 n) noTL (atL 3 (LS11 n) noL) 1 Tryz.f11 [.agg (cExpr e)] =
    ck_ (((e.l.length : Int) == (e.l.length : Int)) && (Nat.ble e.l.length big && Nat.blt (eszs e.l) n)) (some (dI (IntKind.i64.wrap (accD (dpth n) e.l e.l.length + 1)))) := by kernel_rfl
theorem depth_n : ∀ n e, esz e < n → Snd 11 [.agg (cExpr e)] (dI (dpth n e)) := by
  intro n
  induction n with
  | zero => intro e h; omega
  | succ n ih =>
    intro e hlt
    have hT : TOk (tD 11 n) := tell_ok (pe1_ok fun a h => ih a (by simp only [Nat.blt_eq] at h; exact h)) (tell0_ok _)
    have h1 : eszs e.l < n := by have := esz_eq e; omega
    refine SoundAt.rooms fun hroom => snd_fn (n := 1) hT (noTL_ok _ _) (fn := Tryz.f11) (by kernel_rfl) (loops_of (f := 11) (fn := Tryz.f11) (by kernel_rfl) (loops_1 ids11.1 (atL_ok (fun _ => LS11_ok hT) fun h => absurd ids11.2.1 h))) ((e11 e n).trans ?_)
    have hr : Room _ (.agg (cExpr e)) := hroom _ (by simp)
    have hk : e.l.length * 192 ≤ big := hr (.pl (pExprs e.l) .any) (by simp [cExpr])
    rw [ck_t (by rw [beq_self_eq_true, ble_t (by omega), blt_t h1]; rfl)]
    rfl

def s12d (e : ExprR) (x i : Int) : St Pl := mkS 22 [(1, .ptr 1 0), (3, dI x), (4, dI i)] [(1, .box false (cExpr e))]
theorem b12d (e : ExprR) (n : Nat) (x : Int) (i : Nat) : evC (tD 12 n) noTL noL 1 (loopAt 12 0) [1, 3, 4] (s12d e x i) =
    lt_ i e.l.length (ix_ i e.l.length (ck_ (Nat.blt (esz (etaE (e.l.getD i default))) n) (some (.normal, s12d e (mx (dpth n (etaE (e.l.getD i default))) x) (IntKind.i64.wrap ((i : Int) + 1)))))) (some (.exit 0, s12d e x i)) := by kernel_rfl
theorem ids12d : (loopsAt 12).length = 1 ∧ firstId (loopAt 12 0) = 3 ∧ loopsOf (loopAt 12 0) = [] := ⟨by kernel_rfl, by kernel_rfl, by kernel_rfl⟩
def LS12d (n : Nat) (S : St Pl) : Option (Bool × LR Pl) := match seenS 22 [1, 3, 4] S with
  | some ([.ptr 1 0, .int .i64 (.ofNat 0), .int .i64 (.ofNat 0)], [(1, .box false c)]) => match exE c with
    | some e => some (Nat.ble e.l.length big && Nat.blt (eszs e.l) n, .leaf (.exit 0) (s12d e (accD (dpth n) e.l e.l.length) e.l.length))
    | none => none
  | _ => none
theorem LS12d_ok {n : Nat} (hT : TOk (tD 12 n)) : SOk X0 (loopAt 12 0) (LS12d n) := by
  intro S c r h hc
  unfold LS12d at h
  split at h
  · rename_i ce hs
    split at h
    · rename_i e he
      simp only [Option.some.injEq, Prod.mk.injEq] at h
      obtain ⟨rfl, rfl⟩ := h
      simp only [Bool.and_eq_true, Nat.ble_eq, Nat.blt_eq] at hc
      obtain ⟨hb, hsz⟩ := hc
      obtain rfl := exE_eq he
      refine Goes.pre (keepOf [1, 3, 4]) ?_
      rw [seenS_mask hs]
      refine loop_all (Sf := fun i => s12d e (accD (dpth n) e.l i) i) (n := e.l.length) (by simp) (fun i hi => ?_) ?_
      · refine goes_of hT (noTL_ok _ _) (noLoops ids12d.2.2) ((b12d e n _ i).trans ?_)
        have := eszs_mem (getD_mem (d := default) hi)
        rw [lt_t hi, ix_t hi, etaE_eq, ck_t (blt_t (by omega)), wrap_nat (show i ≤ big by omega)]
        rfl
      · exact goes_of hT (noTL_ok _ _) (noLoops ids12d.2.2) ((b12d e n _ e.l.length).trans (by rw [lt_f (by omega)]))
    · simp at h
  · simp at h
theorem e12d (e : ExprR) (n : Nat) : evF (tD 12 n) noTL (atL 3 (LS12d n) noL) 1 Tryz.f12 [.agg (cExpr e)] =
    ck_ (Nat.ble e.l.length big && Nat.blt (eszs e.l) n) (some (dI (IntKind.i64.wrap (accD (dpth n) e.l e.l.length + 1)))) := by kernel_rfl
theorem rdepth_n : ∀ n e, esz e < n → Snd 12 [.agg (cExpr e)] (dI (dpth n e)) := by
  intro n
  induction n with
  | zero => intro e h; omega
  | succ n ih =>
    intro e hlt
    have hT : TOk (tD 12 n) := tell_ok (pe1_ok fun a h => ih a (by simp only [Nat.blt_eq] at h; exact h)) (tell0_ok _)
    have h1 : eszs e.l < n := by have := esz_eq e; omega
    refine SoundAt.rooms fun hroom => snd_fn (n := 1) hT (noTL_ok _ _) (fn := Tryz.f12) (by kernel_rfl) (loops_of (f := 12) (fn := Tryz.f12) (by kernel_rfl) (loops_1 ids12d.1 (atL_ok (fun _ => LS12d_ok hT) fun h => absurd ids12d.2.1 h))) ((e12d e n).trans ?_)
    have hr : Room _ (.agg (cExpr e)) := hroom _ (by simp)
    have hk : e.l.length * 192 ≤ big := hr (.pl (pExprs e.l) .any) (by simp [cExpr])
    rw [ck_t (by rw [ble_t (by omega), blt_t h1]; rfl)]
    rfl
def deepE (e : ExprR) : Int := dpth (esz e + 1) e
theorem depth_sound (e : ExprR) : Snd 11 [.agg (cExpr e)] (dI (deepE e)) := depth_n _ e (Nat.lt_succ_self _)
theorem rdepth_sound (e : ExprR) : Snd 12 [.agg (cExpr e)] (dI (deepE e)) := rdepth_n _ e (Nat.lt_succ_self _)

-- how much

def pe1i (f : ExprR → Int → Bool × D Pl) : List (D Pl) → Option (Bool × D Pl)
  | [d, .int .i64 n] => match asE d with
    | some a => some (f a n)
    | none => none
  | _ => none
theorem pe1i_ok {g : FuncId} {f : ExprR → Int → Bool × D Pl} (h : ∀ a n, (f a n).1 = true → Snd g [.agg (cExpr a), dI n] (f a n).2) : ∀ ds b d, pe1i f ds = some (b, d) → b = true → Snd g ds d := by
  intro ds b d hp hb
  unfold pe1i at hp
  split at hp
  · split at hp
    · rename_i ha
      simp only [Option.some.injEq] at hp
      have h1 := h _ _ (by rw [hp]; exact hb)
      rw [hp] at h1
      exact h1.pre (.cons (asE_rdle ha) (.cons (RDle.refl _) .nil))
    · simp at hp
  · simp at hp

def s18e (e : ExprR) (d x i : Int) : St Pl := mkS 49 [(1, dI d), (2, .ptr 2 0), (5, dI x), (6, dI i)] [(2, .box false (cExpr e))]
noncomputable def tSz (n : Nat) (G : Val → Bool) (S : ExprR → Int → Int) : Eng.Told Pl := tell 18 (pe1i fun a d => (Nat.blt (esz a) n, dI (S a d))) (tell 30 (p1 fun v => (true, .bool (G v))) tell0)
def accZ (S : ExprR → Int → Int) (d : Int) (l : List ExprR) : Nat → Int
  | 0 => 1
  | i + 1 => IntKind.i64.wrap (accZ S d l i + S (l.getD i default) (IntKind.i64.wrap (d - 1)))
def endZ (S : ExprR → Int → Int) (d : Int) (l : List ExprR) : Int := accZ S d l (ff (fun i => decide (accZ S d l i ≤ 600)) l.length)
theorem b18e (e : ExprR) (n : Nat) (G : Val → Bool) (S : ExprR → Int → Int) (d x : Int) (i : Nat) : evC (tSz n G S) noTL noL 1 (loopAt 18 0) [1, 2, 5, 6] (s18e e d x i) =
    bif (bif decide ((i : Int) < (e.l.length : Int)) then decide (x ≤ 600) else false) then ix_ i e.l.length (ck_ (Nat.blt (esz (etaE (e.l.getD i default))) n)
      (some (.normal, s18e e d (IntKind.i64.wrap (x + S (etaE (e.l.getD i default)) (IntKind.i64.wrap (d - 1)))) (IntKind.i64.wrap ((i : Int) + 1))))) else some (.exit 0, s18e e d x i) := by kernel_rfl
theorem ids18e : (loopsAt 18).length = 1 ∧ firstId (loopAt 18 0) = 5 ∧ loopsOf (loopAt 18 0) = [] := ⟨by kernel_rfl, by kernel_rfl, by kernel_rfl⟩
def r18e (e : ExprR) (d x : Int) : St Pl := mkS 49 [(1, dI d), (2, .ptr 2 0), (5, dI x)] [(2, .box false (cExpr e))]
def LS18e (n : Nat) (S : ExprR → Int → Int) (T : St Pl) : Option (Bool × LR Pl) := match seenS 49 [1, 2, 5, 6] T with
  | some ([.int .i64 d, .ptr 2 0, .int .i64 (.ofNat 1), .int .i64 (.ofNat 0)], [(2, .box false c)]) => match exE c with
    | some e => some (Nat.ble e.l.length big && Nat.blt (eszs e.l) n, .leaf (.exit 0) (r18e e d (endZ S d e.l)))
    | none => none
  | _ => none
theorem LS18e_ok {n : Nat} {G : Val → Bool} {S : ExprR → Int → Int} (hT : TOk (tSz n G S)) : SOk X0 (loopAt 18 0) (LS18e n S) := by
  intro T b r h hb
  unfold LS18e at h
  split at h
  · rename_i d c hs
    split at h
    · rename_i e he
      simp only [Option.some.injEq, Prod.mk.injEq] at h
      obtain ⟨rfl, rfl⟩ := h
      simp only [Bool.and_eq_true, Nat.ble_eq, Nat.blt_eq] at hb
      obtain ⟨hb, hsz⟩ := hb
      obtain rfl := exE_eq he
      refine Goes.pre (keepOf [1, 2, 5, 6]) ?_
      rw [seenS_mask hs]
      refine loop_until (Sf := fun i => s18e e d (accZ S d e.l i) i) (p := fun i => decide (accZ S d e.l i ≤ 600)) (S2 := fun i => r18e e d (accZ S d e.l i)) (by simp) (fun i hi hp => ?_) (fun i hi hp => ?_)
      · have := eszs_mem (getD_mem (d := default) hi)
        refine goes_of hT (noTL_ok _ _) (noLoops ids18e.2.2) ((b18e e n G S d _ i).trans ?_)
        rw [while_t hi hp, ix_t hi, etaE_eq, ck_t (blt_t (by omega)), wrap_nat (show i ≤ big by omega)]
        rfl
      · exact (goes_of hT (noTL_ok _ _) (noLoops ids18e.2.2) ((b18e e n G S d _ i).trans (show _ = some (.exit 0, s18e e d (accZ S d e.l i) i) by rw [while_f hp]; rfl))).post (keepOf [1, 2, 5])
    · simp at h
  · simp at h

def stopZ (G : Val → Bool) (e : ExprR) : Bool := bif (bif G e.v then true else decide ((e.s.length : Int) > 2000)) then true else decide ((e.s2.length : Int) > 2000)
theorem e18e (e : ExprR) (n : Nat) (G : Val → Bool) (S : ExprR → Int → Int) (d : Int) : evF (tSz n G S) noTL (atL 5 (LS18e n S) noL) 1 Tryz.f18 [.agg (cExpr e), dI d] =
    bif ((d == 0) == false) then (bif stopZ G (etaE e) then some (dI 601) else ck_ (Nat.ble e.l.length big && Nat.blt (eszs e.l) n) (some (dI (mn 601 (endZ S d e.l))))) else some (dI 601) := by kernel_rfl

theorem size_n (G : Val → Bool) (hG : ∀ v, Snd 30 [.agg (cV v)] (.bool (G v))) : ∀ n, ∃ S : ExprR → Int → Int, ∀ e d, esz e < n → Snd 18 [.agg (cExpr e), dI d] (dI (S e d)) := by
  intro n
  induction n with
  | zero => exact ⟨fun _ _ => 0, fun e d h => by omega⟩
  | succ n ih =>
    obtain ⟨S, hS⟩ := ih
    refine ⟨fun e d => bif ((d == 0) == false) then (bif stopZ G e then 601 else mn 601 (endZ S d e.l)) else 601, fun e d hlt => ?_⟩
    have hT : TOk (tSz n G S) := tell_ok (pe1i_ok fun a d h => hS a d (by simp only [Nat.blt_eq] at h; exact h)) (tell_ok (p1_ok fun v _ => hG v) (tell0_ok _))
    have h1 : eszs e.l < n := by have := esz_eq e; omega
    refine SoundAt.rooms fun hroom => snd_fn (n := 1) hT (noTL_ok _ _) (fn := Tryz.f18) (by kernel_rfl) (loops_of (f := 18) (fn := Tryz.f18) (by kernel_rfl) (loops_1 ids18e.1 (atL_ok (fun _ => LS18e_ok hT) fun h => absurd ids18e.2.1 h))) ((e18e e n G S d).trans ?_)
    have hr : Room _ (.agg (cExpr e)) := hroom _ (by simp)
    have hk : e.l.length * 192 ≤ big := hr (.pl (pExprs e.l) .any) (by simp [cExpr])
    rw [etaE_eq, ck_t (by rw [ble_t (by omega), blt_t h1]; rfl)]
    show _ = some (dI (bif ((d == 0) == false) then (bif stopZ G e then 601 else mn 601 (endZ S d e.l)) else 601))
    cases (d == 0) == false <;> cases stopZ G e <;> rfl

theorem e9 (e : ExprR) (S : ExprR → Int → Int) : ev (tell 18 (pe1i fun a d => (true, dI (S a d))) tell0) noTL 1 9 [.agg (cExpr e)] = some (.bool (decide (S (etaE e) 60 > 600))) := by kernel_rfl
theorem egreat_sound : ∃ G : ExprR → Bool, ∀ e, Snd 9 [.agg (cExpr e)] (.bool (G e)) := by
  obtain ⟨G, hG⟩ := Great_sound
  obtain ⟨S, hS⟩ : ∃ S : ExprR → Int → Int, ∀ e d, Snd 18 [.agg (cExpr e), dI d] (dI (S e d)) :=
    ⟨fun e d => (size_n G hG (esz e + 1)).choose e d, fun e d => (size_n G hG (esz e + 1)).choose_spec e d (Nat.lt_succ_self _)⟩
  refine ⟨fun e => decide (S e 60 > 600), fun e => ?_⟩
  have := snd_of (tell_ok (pe1i_ok fun a d _ => hS a d) (tell0_ok _)) (noTL_ok _ _) (e9 e S)
  rwa [etaE_eq] at this

-- what is reserved

def resvd : List Str := [[116, 114, 117, 101], [102, 97, 108, 115, 101], [110, 117, 108, 108], [102, 111, 114], [105, 110], [105, 102]]
def resK (s : Str) : List Str → Option (D Pl)
  | [] => some (.bool false)
  | w :: r => bif s == w then some (.bool true) else resK s r
theorem e13 (s : Str) : ev tell0 noTL 5 13 [.str s] = resK s resvd := by kernel_rfl
def resV (s : Str) : Bool := bif (bif (bif (bif (bif s == [116, 114, 117, 101] then true else s == [102, 97, 108, 115, 101]) then true else s == [110, 117, 108, 108]) then true else s == [102, 111, 114]) then true else s == [105, 110]) then true else s == [105, 102]
theorem e14 (s : Str) : ev tell0 noTL 3 14 [.str s] = some (.bool (resV s)) := by kernel_rfl
theorem resv_sound (s : Str) : Snd 13 [.str s] (.bool (resV s)) := snd_of (tell0_ok _) (noTL_ok _ _) ((e13 s).trans (by
  unfold resV
  simp only [resvd, resK]
  cases s == [116, 114, 117, 101] <;> cases s == [102, 97, 108, 115, 101] <;> cases s == [110, 117, 108, 108] <;> cases s == [102, 111, 114] <;> cases s == [105, 110] <;> cases s == [105, 102] <;> rfl))
theorem rresv_sound (s : Str) : Snd 14 [.str s] (.bool (resV s)) := snd_of (tell0_ok _) (noTL_ok _ _) (e14 s)

end Go.Proofs.YtdlgmknlnddioaaGreatDoor
