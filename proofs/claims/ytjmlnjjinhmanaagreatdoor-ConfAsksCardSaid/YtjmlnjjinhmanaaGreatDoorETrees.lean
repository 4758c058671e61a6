/-
  TREES OF EXPRESSIONS, plainly: how much one has; whether two are one, places aside; how deep one is.
-/
import Derived.Test.YtjmlnjjinhmanaaGreatDoorVals
namespace Go.Proofs.YtjmlnjjinhmanaaGreatDoor
open Go.Eng

set_option maxRecDepth 100000

mutual
/-- how many trees there are in it -/
def esz : ExprR → Nat
  | ⟨_, _, _, _, l, _⟩ => 1 + eszs l
def eszs : List ExprR → Nat
  | [] => 0
  | v :: r => esz v + eszs r
end

theorem eszs_mem {l : List ExprR} {x : ExprR} (h : x ∈ l) : esz x ≤ eszs l := by
  induction l with
  | nil => simp at h
  | cons y r ih =>
    simp only [eszs]
    rcases List.mem_cons.1 h with rfl | h
    · omega
    · have := ih h; omega
theorem esz_eq (e : ExprR) : esz e = 1 + eszs e.l := by
  obtain ⟨op, s, s2, v, l, p⟩ := e
  simp only [esz]
theorem esz_elem {v x : ExprR} (h : x ∈ v.l) : esz x < esz v := by
  have := eszs_mem h
  rw [esz_eq v]
  omega

/-- All but the parts. -/
def eHd (a b : ExprR) : Bool := (bif (bif a.op == b.op then a.s == b.s else false) then a.s2 == b.s2 else false) && sameV a.v b.v true

mutual
def sameE : ExprR → ExprR → Bool
  | ⟨op, s, s2, v, l, p⟩, b => eHd ⟨op, s, s2, v, l, p⟩ b && sameEs l b.l
def sameEs : List ExprR → List ExprR → Bool
  | [], l => l.isEmpty
  | x :: r, l => match l with
    | [] => false
    | y :: s => sameE x y && sameEs r s
end

def allE (a b : List ExprR) : Bool := (List.range a.length).all fun i => sameE (a.getD i default) (b.getD i default)
theorem allE_eq : ∀ (l l' : List ExprR), l.length = l'.length → allE l l' = sameEs l l'
  | [], [], _ => rfl
  | [], _ :: _, h => by simp at h
  | _ :: _, [], h => by simp at h
  | x :: r, y :: s, h => by
    unfold allE
    rw [List.length_cons, all_range_succ, sameEs, ← allE_eq r s (by simpa using h)]
    rfl
theorem sameEs_len : ∀ {l l' : List ExprR}, sameEs l l' = true → l.length = l'.length
  | [], [], _ => rfl
  | [], _ :: _, h => by simp [sameEs] at h
  | _ :: _, [], h => by simp [sameEs] at h
  | x :: r, y :: s, h => by
    simp only [sameEs, Bool.and_eq_true] at h
    simp only [List.length_cons, sameEs_len h.2]
theorem sameE_eq (a b : ExprR) : sameE a b = (eHd a b && sameEs a.l b.l) := by
  obtain ⟨op, s, s2, v, l, p⟩ := a
  simp only [sameE]

def etaE (e : ExprR) : ExprR := ⟨e.op, e.s, e.s2, etaV e.v, e.l, e.p⟩
theorem etaE_eq (e : ExprR) : etaE e = e := by
  obtain ⟨op, s, s2, v, l, p⟩ := e
  unfold etaE
  rw [etaV_eq]

def asE : D Pl → Option ExprR
  | .agg cs => dExpr cs
  | _ => none
theorem dExpr_rdle {cs : List (D Pl)} {e : ExprR} (h : dExpr cs = some e) : RDles X0.C cs (cExpr e) := by
  unfold dExpr at h
  split at h
  · split at h
    · rename_i h1 h2 h3
      simp only [Option.some.injEq] at h
      subst h
      exact .cons (RDle.refl _) (.cons (RDle.refl _) (.cons (RDle.refl _) (.cons (RDle.refl _) (.cons (RDle.refl _) (.cons (RDle.refl _) (.cons (asL_rdle h1) (.cons (asL_rdle h2) (.cons (RDle.refl _) (.cons (RDle.refl _) (.cons (RDle.refl _) (.cons (asL_rdle h3) (RDles.refl _))))))))))))
    · simp at h
  · simp at h
theorem asE_rdle {d : D Pl} {e : ExprR} (h : asE d = some e) : RDle X0.C d (.agg (cExpr e)) := by
  unfold asE at h
  split at h
  · exact RDle.agg (dExpr_rdle h)
  · simp at h

/-- exactly a tree's cells -/
def exE : List (D Pl) → Option ExprR
  | [.int .i64 op, .str s, .str s2, .int .i64 k, .int .i64 i, .str vs, .pl ⟨.vals, l⟩ .any, .pl ⟨.strs, ks⟩ .any, .int .i64 tk, .int .i64 tof, .bool sec, .pl ⟨.exprs, x⟩ .any, .int .i64 a, .int .i64 b, .int .i64 c] => some ⟨op, s, s2, ⟨k, i, vs, l, ks, tk, tof, sec⟩, x, ⟨a, b, c⟩⟩
  | _ => none
theorem exE_eq {cs : List (D Pl)} {e : ExprR} (h : exE cs = some e) : cs = cExpr e := by
  unfold exE at h
  split at h
  · simp only [Option.some.injEq] at h; subst h; rfl
  · simp at h

/-- contracts for a tree; for two -/
def pe1 (f : ExprR → Bool × D Pl) : List (D Pl) → Option (Bool × D Pl)
  | [d] => match asE d with
    | some a => some (f a)
    | none => none
  | _ => none
theorem pe1_ok {g : FuncId} {f : ExprR → Bool × D Pl} (h : ∀ a, (f a).1 = true → Snd g [.agg (cExpr a)] (f a).2) : ∀ ds b d, pe1 f ds = some (b, d) → b = true → Snd g ds d := by
  intro ds b d hp hb
  unfold pe1 at hp
  split at hp
  · split at hp
    · rename_i ha
      simp only [Option.some.injEq] at hp
      have h1 := h _ (by rw [hp]; exact hb)
      rw [hp] at h1
      exact h1.pre (.cons (asE_rdle ha) .nil)
    · simp at hp
  · simp at hp
def pe2 (f : ExprR → ExprR → Bool × D Pl) : List (D Pl) → Option (Bool × D Pl)
  | [d, e] => match asE d, asE e with
    | some a, some b => some (f a b)
    | _, _ => none
  | _ => none
theorem pe2_ok {g : FuncId} {f : ExprR → ExprR → Bool × D Pl} (h : ∀ a b, (f a b).1 = true → Snd g [.agg (cExpr a), .agg (cExpr b)] (f a b).2) : ∀ ds b d, pe2 f ds = some (b, d) → b = true → Snd g ds d := by
  intro ds b d hp hb
  unfold pe2 at hp
  split at hp
  · split at hp
    · rename_i h1 h2
      simp only [Option.some.injEq] at hp
      have h3 := h _ _ (by rw [hp]; exact hb)
      rw [hp] at h3
      exact h3.pre (.cons (asE_rdle h1) (.cons (asE_rdle h2) .nil))
    · simp at hp
  · simp at hp
def pe2b (f : ExprR → ExprR → Bool → Bool × D Pl) : List (D Pl) → Option (Bool × D Pl)
  | [d, e, .bool m] => match asE d, asE e with
    | some a, some b => some (f a b m)
    | _, _ => none
  | _ => none
theorem pe2b_ok {g : FuncId} {f : ExprR → ExprR → Bool → Bool × D Pl} (h : ∀ a b m, (f a b m).1 = true → Snd g [.agg (cExpr a), .agg (cExpr b), .bool m] (f a b m).2) : ∀ ds b d, pe2b f ds = some (b, d) → b = true → Snd g ds d := by
  intro ds b d hp hb
  unfold pe2b at hp
  split at hp
  · split at hp
    · rename_i h1 h2
      simp only [Option.some.injEq] at hp
      have h3 := h _ _ _ (by rw [hp]; exact hb)
      rw [hp] at h3
      exact h3.pre (.cons (asE_rdle h1) (.cons (asE_rdle h2) (.cons (RDle.refl _) .nil)))
    · simp at hp
  · simp at hp

end Go.Proofs.YtjmlnjjinhmanaaGreatDoor

/-
  WHETHER TWO TREES ARE ONE (the program's 'Same', the document's 'Same'): what the code computes, whatever the two trees are.
-/

namespace Go.Proofs.YtjmlnjjinhmanaaGreatDoor
open Go.Eng

set_option maxRecDepth 100000

-- slices.EqualFunc with 'Same'

def s48e (a b : List ExprR) (i : Int) : St Pl := mkS 32 [(1, .pl (pExprs b) .any), (2, .fn 40 []), (6, .bool false), (15, .pl (pExprs a) .any), (16, dI a.length), (17, dI i)] []
def r48e (b : List ExprR) : St Pl := mkS 32 [(1, .pl (pExprs b) .any), (2, .fn 40 []), (6, .bool false)] []
def tEsm (n : Nat) : Eng.Told Pl := tell 40 (pe2 fun a b => (Nat.blt (esz a) n, .bool (sameE a b))) tell0

theorem b48e (a b : List ExprR) (n i : Nat) : evD (tEsm n) noTL noL 1 (loopAt 55 0) [1, 2, 6, 15, 16, 17] [8, 9] (s48e a b i) =
    lt_ i a.length (ix_ i a.length (ix_ i b.length (ck_ (Nat.blt (esz (etaE (a.getD i default))) n) (bif !(sameE (etaE (a.getD i default)) (etaE (b.getD i default))) then some (.ret, s48e a b i) else some (.normal, s48e a b (IntKind.i64.wrap ((i : Int) + 1))))))) (some (.exit 0, s48e a b i)) := by kernel_rfl

theorem ids48e : (loopsAt 55).length = 1 ∧ firstId (loopAt 55 0) = 4 ∧ loopsOf (loopAt 55 0) = [] := ⟨by kernel_rfl, by kernel_rfl, by kernel_rfl⟩

def LS48e (n : Nat) (S : St Pl) : Option (Bool × LR Pl) := match seenS 32 [1, 2, 6, 15, 16, 17] S with
  | some ([.pl ⟨.exprs, b⟩ .any, .fn 40 [], .bool false, .pl ⟨.exprs, a⟩ .any, .int .i64 k, .int .i64 (.ofNat 0)], []) =>
    some (k == (a.length : Int) && (Nat.beq a.length b.length && (Nat.ble a.length big && Nat.blt (eszs a) n)), .ite ((List.range a.length).all fun i => sameE (a.getD i default) (b.getD i default)) (.leaf (.exit 0) (r48e b)) (.leaf .ret (r48e b)))
  | _ => none

theorem LS48e_ok {n : Nat} (hT : TOk (tEsm n)) : SOk X0 (loopAt 55 0) (LS48e n) := by
  intro S c r h hc
  unfold LS48e at h
  split at h
  · rename_i b a k hs
    simp only [Option.some.injEq, Prod.mk.injEq] at h
    obtain ⟨rfl, rfl⟩ := h
    simp only [Bool.and_eq_true, Nat.ble_eq, Nat.blt_eq, beq_iff_eq] at hc
    obtain ⟨rfl, hl, hb, hsz⟩ := hc
    have hl := Nat.eq_of_beq_eq_true hl
    refine Goes.pre (keepOf [1, 2, 6, 15, 16, 17]) ?_
    rw [seenS_mask hs]
    have hstep : ∀ i : Nat, i < a.length → evD (tEsm n) noTL noL 1 (loopAt 55 0) [1, 2, 6, 15, 16, 17] [8, 9] (s48e a b i) = bif !(sameE (a.getD i default) (b.getD i default)) then some (.ret, s48e a b i) else some (.normal, s48e a b ((i + 1 : Nat) : Int)) := by
      intro i hi
      have := eszs_mem (getD_mem (d := default) hi)
      rw [b48e, lt_t hi, ix_t hi, ix_t (by omega), etaE_eq, etaE_eq, ck_t (blt_t (by omega)), wrap_nat (show i ≤ big by omega)]
    refine loop_search (Sf := fun i => s48e a b i) (n := a.length) (p := fun i => sameE (a.getD i default) (b.getD i default)) (by simp) (by simp) (fun i hi hp => ?_) (fun i hi hp => ?_) ?_
    · have hp : sameE (a.getD i default) (b.getD i default) = true := hp
      exact goes_ofD hT (noTL_ok _ _) (noLoops ids48e.2.2) ((hstep i hi).trans (by rw [hp]; rfl))
    · have hp : sameE (a.getD i default) (b.getD i default) = false := hp
      exact (goes_ofD hT (noTL_ok _ _) (noLoops ids48e.2.2) ((hstep i hi).trans (show _ = some (.ret, s48e a b i) by rw [hp]; rfl))).post (keepOf [1, 2, 6])
    · exact (goes_ofD hT (noTL_ok _ _) (noLoops ids48e.2.2) ((b48e a b n a.length).trans (show _ = some (.exit 0, s48e a b a.length) by rw [lt_f (by omega)]))).post (keepOf [1, 2, 6])
  · simp at h

theorem e48e (a b : List ExprR) (n : Nat) : evF (tEsm n) noTL (atL 4 (LS48e n) noL) 1 Tryz.f55 [.pl (pExprs a) .any, .pl (pExprs b) .any, .fn 40 []] =
    bif ((a.length : Int) != (b.length : Int)) then some (.bool false) else ck_ (((a.length : Int) == (a.length : Int)) && (Nat.beq a.length b.length && (Nat.ble a.length big && Nat.blt (eszs a) n))) (bif (List.range a.length).all (fun i => sameE (a.getD i default) (b.getD i default)) then some (.bool true) else some (.bool false)) := by kernel_rfl

def eqEs (a b : List ExprR) : Bool := ((a.length : Int) == (b.length : Int)) && sameEs a b

theorem eqfuncE_n {n : Nat} (hT : TOk (tEsm n)) (a b : List ExprR) (hn : eszs a < n) : Snd 55 [.pl (pExprs a) .any, .pl (pExprs b) .any, .fn 40 []] (.bool (eqEs a b)) := by
  refine SoundAt.rooms fun hroom => snd_fn (n := 1) hT (noTL_ok _ _) (fn := Tryz.f55) (by kernel_rfl) (loops_of (fn := Tryz.f55) (by kernel_rfl) (loops_1 ids48e.1 (atL_ok (fun _ => LS48e_ok hT) fun h => absurd ids48e.2.1 h))) ((e48e a b n).trans ?_)
  have ha : a.length * 192 ≤ big := hroom (.pl (pExprs a) .any) (by simp)
  unfold eqEs
  by_cases hl : a.length = b.length
  · rw [show ((a.length : Int) != (b.length : Int)) = false by rw [hl]; simp, ck_t (by rw [beq_self_eq_true, hl, Nat.beq_refl, ble_t (by omega), blt_t hn]; rfl), show ((List.range a.length).all fun i => sameE (a.getD i default) (b.getD i default)) = sameEs a b from allE_eq a b hl, show ((a.length : Int) == (b.length : Int)) = true by rw [hl]; simp]
    cases sameEs a b <;> rfl
  · rw [show ((a.length : Int) != (b.length : Int)) = true by rw [bne_iff_ne]; omega, show ((a.length : Int) == (b.length : Int)) = false by rw [beq_eq_false_iff_ne]; omega]
    rfl

def pEqE (n : Nat) : List (D Pl) → Option (Bool × D Pl)
  | [d, e, .fn 40 []] => match asL .exprs d, asL .exprs e with
    | some a, some b => some (Nat.blt (eszs a) n, .bool (eqEs a b))
    | _, _ => none
  | _ => none

theorem pEqE_ok {n : Nat} (hT : TOk (tEsm n)) : ∀ ds b d, pEqE n ds = some (b, d) → b = true → Snd 55 ds d := by
  intro ds b d h hb
  unfold pEqE at h
  split at h
  · split at h
    · rename_i h1 h2
      simp only [Option.some.injEq, Prod.mk.injEq] at h
      obtain ⟨rfl, rfl⟩ := h
      simp only [Nat.blt_eq] at hb
      exact (eqfuncE_n hT _ _ (by omega)).pre (.cons (asL_rdle h1) (.cons (asL_rdle h2) (.cons (RDle.refl _) .nil)))
    · simp at h
  · simp at h


end Go.Proofs.YtjmlnjjinhmanaaGreatDoor

/-
  TREES OF EXPRESSIONS: whether two are one, how deep one is, how much one has: the program's and the document's.
-/

namespace Go.Proofs.YtjmlnjjinhmanaaGreatDoor
open Go.Eng

set_option maxRecDepth 100000

-- the program's Same

def m10 (a b : ExprR) : Bool := bif (bif a.op == b.op then a.s == b.s else false) then a.s2 == b.s2 else false
noncomputable def tS10 (n : Nat) : Eng.Told Pl := tell 54 (pvv fun a b => (true, .bool (sameV a b true))) (tell 55 (pEqE n) tell0)
theorem e10 (a b : ExprR) (n : Nat) : evF (tS10 n) noTL noL 0 Tryz.f40 [.agg (cExpr a), .agg (cExpr b)] =
    bif (m10 a b == true) then (bif (sameV (etaV a.v) (etaV b.v) true == true) then ck_ (Nat.blt (eszs a.l) n) (some (.bool (eqEs a.l b.l))) else some (.bool false)) else some (.bool false) := by kernel_rfl

theorem eqEs_eq (a b : List ExprR) : eqEs a b = sameEs a b := by
  unfold eqEs
  by_cases h : a.length = b.length
  · rw [h]; simp
  · rw [show ((a.length : Int) == (b.length : Int)) = false by rw [beq_eq_false_iff_ne]; omega]
    cases hs : sameEs a b with
    | false => rfl
    | true => exact absurd (sameEs_len hs) h

theorem esame_n : ∀ n a b, esz a < n → Snd 40 [.agg (cExpr a), .agg (cExpr b)] (.bool (sameE a b)) := by
  intro n
  induction n with
  | zero => intro a b h; omega
  | succ n ih =>
    intro a b hlt
    have hT : TOk (tEsm n) := tell_ok (pe2_ok fun a b h => ih a b (by simp only [Nat.blt_eq] at h; exact h)) (tell0_ok _)
    have h1 : eszs a.l < n := by have := esz_eq a; omega
    refine snd_fn (n := 0) (tell_ok (pvv_ok fun a b _ => vsame_sound a b) (tell_ok (pEqE_ok hT) (tell0_ok _))) (noTL_ok _ _) (fn := Tryz.f40) (by kernel_rfl) (loops_of (f := 40) (fn := Tryz.f40) (by kernel_rfl) (loops_0 (by kernel_rfl))) ((e10 a b n).trans ?_)
    rw [sameE_eq, ck_t (blt_t h1), etaV_eq, etaV_eq, eqEs_eq]
    unfold eHd m10
    cases (bif bif a.op == b.op then a.s == b.s else false then a.s2 == b.s2 else false) <;> cases sameV a.v b.v true <;> rfl
theorem esame_sound (a b : ExprR) : Snd 40 [.agg (cExpr a), .agg (cExpr b)] (.bool (sameE a b)) := esame_n _ a b (Nat.lt_succ_self _)

-- the greater one

def mx (y x : Int) : Int := bif (bif true then decide (y > x) else decide (y < x)) then y else x
-- how much

def pe1i (f : ExprR → Int → Bool × D Pl) : List (D Pl) → Option (Bool × D Pl)
  | [d, .int .i64 n] => match asE d with
    | some a => some (f a n)
    | none => none
  | _ => none
theorem pe1i_ok {g : FuncId} {f : ExprR → Int → Bool × D Pl} (h : ∀ a n, (f a n).1 = true → Snd g [.agg (cExpr a), dI n] (f a n).2) : ∀ ds b d, pe1i f ds = some (b, d) → b = true → Snd g ds d := by
  intro ds b d hp hb
  unfold pe1i at hp
  split at hp
  · split at hp
    · rename_i ha
      simp only [Option.some.injEq] at hp
      have h1 := h _ _ (by rw [hp]; exact hb)
      rw [hp] at h1
      exact h1.pre (.cons (asE_rdle ha) (.cons (RDle.refl _) .nil))
    · simp at hp
  · simp at hp

def s18e (e : ExprR) (d x i : Int) : St Pl := mkS 49 [(1, dI d), (2, .ptr 2 0), (5, dI x), (6, dI i)] [(2, .box false (cExpr e))]
noncomputable def tSz (n : Nat) (G : Val → Bool) (S : ExprR → Int → Int) : Eng.Told Pl := tell 38 (pe1i fun a d => (Nat.blt (esz a) n, dI (S a d))) (tell 53 (p1 fun v => (true, .bool (G v))) tell0)
def accZ (S : ExprR → Int → Int) (d : Int) (l : List ExprR) : Nat → Int
  | 0 => 1
  | i + 1 => IntKind.i64.wrap (accZ S d l i + S (l.getD i default) (IntKind.i64.wrap (d - 1)))
def endZ (S : ExprR → Int → Int) (d : Int) (l : List ExprR) : Int := accZ S d l (ff (fun i => decide (accZ S d l i ≤ 600)) l.length)
theorem b18e (e : ExprR) (n : Nat) (G : Val → Bool) (S : ExprR → Int → Int) (d x : Int) (i : Nat) : evC (tSz n G S) noTL noL 1 (loopAt 38 0) [1, 2, 5, 6] (s18e e d x i) =
    bif (bif decide ((i : Int) < (e.l.length : Int)) then decide (x ≤ 600) else false) then ix_ i e.l.length (ck_ (Nat.blt (esz (etaE (e.l.getD i default))) n)
      (some (.normal, s18e e d (IntKind.i64.wrap (x + S (etaE (e.l.getD i default)) (IntKind.i64.wrap (d - 1)))) (IntKind.i64.wrap ((i : Int) + 1))))) else some (.exit 0, s18e e d x i) := by kernel_rfl
theorem ids18e : (loopsAt 38).length = 1 ∧ firstId (loopAt 38 0) = 5 ∧ loopsOf (loopAt 38 0) = [] := ⟨by kernel_rfl, by kernel_rfl, by kernel_rfl⟩
def r18e (e : ExprR) (d x : Int) : St Pl := mkS 49 [(1, dI d), (2, .ptr 2 0), (5, dI x)] [(2, .box false (cExpr e))]
def LS18e (n : Nat) (S : ExprR → Int → Int) (T : St Pl) : Option (Bool × LR Pl) := match seenS 49 [1, 2, 5, 6] T with
  | some ([.int .i64 d, .ptr 2 0, .int .i64 (.ofNat 1), .int .i64 (.ofNat 0)], [(2, .box false c)]) => match exE c with
    | some e => some (Nat.ble e.l.length big && Nat.blt (eszs e.l) n, .leaf (.exit 0) (r18e e d (endZ S d e.l)))
    | none => none
  | _ => none
theorem LS18e_ok {n : Nat} {G : Val → Bool} {S : ExprR → Int → Int} (hT : TOk (tSz n G S)) : SOk X0 (loopAt 38 0) (LS18e n S) := by
  intro T b r h hb
  unfold LS18e at h
  split at h
  · rename_i d c hs
    split at h
    · rename_i e he
      simp only [Option.some.injEq, Prod.mk.injEq] at h
      obtain ⟨rfl, rfl⟩ := h
      simp only [Bool.and_eq_true, Nat.ble_eq, Nat.blt_eq] at hb
      obtain ⟨hb, hsz⟩ := hb
      obtain rfl := exE_eq he
      refine Goes.pre (keepOf [1, 2, 5, 6]) ?_
      rw [seenS_mask hs]
      refine loop_until (Sf := fun i => s18e e d (accZ S d e.l i) i) (p := fun i => decide (accZ S d e.l i ≤ 600)) (S2 := fun i => r18e e d (accZ S d e.l i)) (by simp) (fun i hi hp => ?_) (fun i hi hp => ?_)
      · have := eszs_mem (getD_mem (d := default) hi)
        refine goes_of hT (noTL_ok _ _) (noLoops ids18e.2.2) ((b18e e n G S d _ i).trans ?_)
        rw [while_t hi hp, ix_t hi, etaE_eq, ck_t (blt_t (by omega)), wrap_nat (show i ≤ big by omega)]
        rfl
      · exact (goes_of hT (noTL_ok _ _) (noLoops ids18e.2.2) ((b18e e n G S d _ i).trans (show _ = some (.exit 0, s18e e d (accZ S d e.l i) i) by rw [while_f hp]; rfl))).post (keepOf [1, 2, 5])
    · simp at h
  · simp at h

def stopZ (G : Val → Bool) (e : ExprR) : Bool := bif (bif G e.v then true else decide ((e.s.length : Int) > 2000)) then true else decide ((e.s2.length : Int) > 2000)
theorem e18e (e : ExprR) (n : Nat) (G : Val → Bool) (S : ExprR → Int → Int) (d : Int) : evF (tSz n G S) noTL (atL 5 (LS18e n S) noL) 1 Tryz.f38 [.agg (cExpr e), dI d] =
    bif ((d == 0) == false) then (bif stopZ G (etaE e) then some (dI 601) else ck_ (Nat.ble e.l.length big && Nat.blt (eszs e.l) n) (some (dI (mn 601 (endZ S d e.l))))) else some (dI 601) := by kernel_rfl

theorem size_n (G : Val → Bool) (hG : ∀ v, Snd 53 [.agg (cV v)] (.bool (G v))) : ∀ n, ∃ S : ExprR → Int → Int, ∀ e d, esz e < n → Snd 38 [.agg (cExpr e), dI d] (dI (S e d)) := by
  intro n
  induction n with
  | zero => exact ⟨fun _ _ => 0, fun e d h => by omega⟩
  | succ n ih =>
    obtain ⟨S, hS⟩ := ih
    refine ⟨fun e d => bif ((d == 0) == false) then (bif stopZ G e then 601 else mn 601 (endZ S d e.l)) else 601, fun e d hlt => ?_⟩
    have hT : TOk (tSz n G S) := tell_ok (pe1i_ok fun a d h => hS a d (by simp only [Nat.blt_eq] at h; exact h)) (tell_ok (p1_ok fun v _ => hG v) (tell0_ok _))
    have h1 : eszs e.l < n := by have := esz_eq e; omega
    refine SoundAt.rooms fun hroom => snd_fn (n := 1) hT (noTL_ok _ _) (fn := Tryz.f38) (by kernel_rfl) (loops_of (f := 38) (fn := Tryz.f38) (by kernel_rfl) (loops_1 ids18e.1 (atL_ok (fun _ => LS18e_ok hT) fun h => absurd ids18e.2.1 h))) ((e18e e n G S d).trans ?_)
    have hr : Room _ (.agg (cExpr e)) := hroom _ (by simp)
    have hk : e.l.length * 192 ≤ big := hr (.pl (pExprs e.l) .any) (by simp [cExpr])
    rw [etaE_eq, ck_t (by rw [ble_t (by omega), blt_t h1]; rfl)]
    show _ = some (dI (bif ((d == 0) == false) then (bif stopZ G e then 601 else mn 601 (endZ S d e.l)) else 601))
    cases (d == 0) == false <;> cases stopZ G e <;> rfl

theorem e9 (e : ExprR) (S : ExprR → Int → Int) : ev (tell 38 (pe1i fun a d => (true, dI (S a d))) tell0) noTL 1 23 [.agg (cExpr e)] = some (.bool (decide (S (etaE e) 60 > 600))) := by kernel_rfl
theorem egreat_sound : ∃ G : ExprR → Bool, ∀ e, Snd 23 [.agg (cExpr e)] (.bool (G e)) := by
  obtain ⟨G, hG⟩ := Great_sound
  obtain ⟨S, hS⟩ : ∃ S : ExprR → Int → Int, ∀ e d, Snd 38 [.agg (cExpr e), dI d] (dI (S e d)) :=
    ⟨fun e d => (size_n G hG (esz e + 1)).choose e d, fun e d => (size_n G hG (esz e + 1)).choose_spec e d (Nat.lt_succ_self _)⟩
  refine ⟨fun e => decide (S e 60 > 600), fun e => ?_⟩
  have := snd_of (tell_ok (pe1i_ok fun a d _ => hS a d) (tell0_ok _)) (noTL_ok _ _) (e9 e S)
  rwa [etaE_eq] at this

end Go.Proofs.YtjmlnjjinhmanaaGreatDoor
