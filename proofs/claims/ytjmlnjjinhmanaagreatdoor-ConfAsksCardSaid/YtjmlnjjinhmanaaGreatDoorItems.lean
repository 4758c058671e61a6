/-
  ITEMS, plainly: how much they have; whether they are the same, with places or without; how deep they are.
-/
import Derived.Test.YtjmlnjjinhmanaaGreatDoorETrees
namespace Go.Proofs.YtjmlnjjinhmanaaGreatDoor
open Go.Eng

set_option maxRecDepth 100000

-- trees, with places or without

def posEq (p q : PosR) : Bool := p.at' == q.at' && (p.line == q.line && (p.col == q.col && true))

mutual
def sameEm (m : Bool) : ExprR → ExprR → Bool
  | ⟨op, s, s2, v, l, p⟩, b => eHd ⟨op, s, s2, v, l, p⟩ b && ((!m || posEq p b.p) && sameEms m l b.l)
def sameEms (m : Bool) : List ExprR → List ExprR → Bool
  | [], l => l.isEmpty
  | x :: r, l => match l with
    | [] => false
    | y :: s => sameEm m x y && sameEms m r s
end

theorem sameEms_len (m : Bool) : ∀ {l l' : List ExprR}, sameEms m l l' = true → l.length = l'.length
  | [], [], _ => rfl
  | [], _ :: _, h => by simp [sameEms] at h
  | _ :: _, [], h => by simp [sameEms] at h
  | x :: r, y :: s, h => by
    simp only [sameEms, Bool.and_eq_true] at h
    simp only [List.length_cons, sameEms_len m h.2]
theorem sameEm_eq (m : Bool) (a b : ExprR) : sameEm m a b = (eHd a b && ((!m || posEq a.p b.p) && sameEms m a.l b.l)) := by
  obtain ⟨op, s, s2, v, l, p⟩ := a
  simp only [sameEm]
def allEm (m : Bool) (a b : List ExprR) : Bool := (List.range a.length).all fun i => sameEm m (a.getD i default) (b.getD i default)
theorem allEm_eq (m : Bool) : ∀ (l l' : List ExprR), l.length = l'.length → allEm m l l' = sameEms m l l'
  | [], [], _ => rfl
  | [], _ :: _, h => by simp at h
  | _ :: _, [], h => by simp at h
  | x :: r, y :: s, h => by
    unfold allEm
    rw [List.length_cons, all_range_succ, sameEms, ← allEm_eq m r s (by simpa using h)]
    rfl

mutual
theorem sameEm_false : ∀ a b : ExprR, sameEm false a b = sameE a b
  | ⟨op, s, s2, v, l, p⟩, b => by simp only [sameEm, sameE, Bool.not_false, Bool.true_or, Bool.true_and, sameEms_false l b.l]
theorem sameEms_false : ∀ l l' : List ExprR, sameEms false l l' = sameEs l l'
  | [], l => by simp only [sameEms, sameEs]
  | x :: r, [] => by simp only [sameEms, sameEs]
  | x :: r, y :: s => by simp only [sameEms, sameEs, sameEm_false x y, sameEms_false r s]
end

theorem c12_refl (v : Val) (m : Bool) : c12 v v m = false := by
  unfold c12
  cases m <;> simp

mutual
theorem sameV_refl (m : Bool) : ∀ v : Val, sameV v v m = true
  | ⟨k, i, s, l, ks, tk, tof, sec⟩ => by
    simp only [sameV, c12_refl, beq_self_eq_true, Bool.not_false, Bool.true_and]
    exact sameVs_refl m l
theorem sameVs_refl (m : Bool) : ∀ l : List Val, sameVs l l m = true
  | [] => rfl
  | x :: r => by simp only [sameVs, sameV_refl m x, sameVs_refl m r, Bool.true_and]
end

theorem eHd_refl (e : ExprR) : eHd e e = true := by
  unfold eHd
  simp only [beq_self_eq_true, cond_true, sameV_refl, Bool.true_and]
theorem posEq_refl (p : PosR) : posEq p p = true := by unfold posEq; simp

mutual
theorem sameEm_refl (m : Bool) : ∀ e : ExprR, sameEm m e e = true
  | ⟨op, s, s2, v, l, p⟩ => by
    simp only [sameEm, eHd_refl, posEq_refl, Bool.or_true, Bool.true_and]
    exact sameEms_refl m l
theorem sameEms_refl (m : Bool) : ∀ l : List ExprR, sameEms m l l = true
  | [] => rfl
  | x :: r => by simp only [sameEms, sameEm_refl m x, sameEms_refl m r, Bool.true_and]
end
theorem sameE_refl (e : ExprR) : sameE e e = true := by rw [← sameEm_false]; exact sameEm_refl false e

-- items

mutual
def isz : ItemR → Nat
  | ⟨_, _, _, _, l, _⟩ => 1 + iszs l
def iszs : List ItemR → Nat
  | [] => 0
  | v :: r => isz v + iszs r
end
theorem iszs_mem {l : List ItemR} {x : ItemR} (h : x ∈ l) : isz x ≤ iszs l := by
  induction l with
  | nil => simp at h
  | cons y r ih =>
    simp only [iszs]
    rcases List.mem_cons.1 h with rfl | h
    · omega
    · have := ih h; omega
theorem isz_eq (e : ItemR) : isz e = 1 + iszs e.items := by
  obtain ⟨b, n, lb, e, l, p⟩ := e
  simp only [isz]

/-- All but the items of it. -/
def iHd (m : Bool) (a b : ItemR) : Bool := (a.block == b.block && (a.name == b.name && (a.labels == b.labels && (!m || posEq a.p b.p)))) && sameEm m a.e b.e

mutual
def sameI (m : Bool) : ItemR → ItemR → Bool
  | ⟨bl, n, lb, e, l, p⟩, b => iHd m ⟨bl, n, lb, e, l, p⟩ b && sameIs m l b.items
def sameIs (m : Bool) : List ItemR → List ItemR → Bool
  | [], l => l.isEmpty
  | x :: r, l => match l with
    | [] => false
    | y :: s => sameI m x y && sameIs m r s
end
theorem sameI_eq (m : Bool) (a b : ItemR) : sameI m a b = (iHd m a b && sameIs m a.items b.items) := by
  obtain ⟨bl, n, lb, e, l, p⟩ := a
  simp only [sameI]
theorem sameIs_len (m : Bool) : ∀ {l l' : List ItemR}, sameIs m l l' = true → l.length = l'.length
  | [], [], _ => rfl
  | [], _ :: _, h => by simp [sameIs] at h
  | _ :: _, [], h => by simp [sameIs] at h
  | x :: r, y :: s, h => by
    simp only [sameIs, Bool.and_eq_true] at h
    simp only [List.length_cons, sameIs_len m h.2]
def allI (m : Bool) (a b : List ItemR) : Bool := (List.range a.length).all fun i => sameI m (a.getD i default) (b.getD i default)
theorem allI_eq (m : Bool) : ∀ (l l' : List ItemR), l.length = l'.length → allI m l l' = sameIs m l l'
  | [], [], _ => rfl
  | [], _ :: _, h => by simp at h
  | _ :: _, [], h => by simp at h
  | x :: r, y :: s, h => by
    unfold allI
    rw [List.length_cons, all_range_succ, sameIs, ← allI_eq m r s (by simpa using h)]
    rfl
theorem iHd_refl (m : Bool) (x : ItemR) : iHd m x x = true := by
  unfold iHd
  simp only [beq_self_eq_true, posEq_refl, sameEm_refl, Bool.or_true, Bool.true_and]
mutual
theorem sameI_refl (m : Bool) : ∀ e : ItemR, sameI m e e = true
  | ⟨bl, n, lb, e, l, p⟩ => by
    simp only [sameI, iHd_refl, Bool.true_and]
    exact sameIs_refl m l
theorem sameIs_refl (m : Bool) : ∀ l : List ItemR, sameIs m l l = true
  | [] => rfl
  | x :: r => by simp only [sameIs, sameI_refl m x, sameIs_refl m r, Bool.true_and]
end

def etaI (x : ItemR) : ItemR := ⟨x.block, x.name, x.labels, etaE x.e, x.items, x.p⟩
theorem etaI_eq (x : ItemR) : etaI x = x := by
  obtain ⟨b, n, lb, e, l, p⟩ := x
  unfold etaI
  rw [etaE_eq]

/-- exactly an item's cells; what reads as one -/
def exI : List (D Pl) → Option ItemR
  | [.bool bl, .str name, .pl ⟨.strs, lb⟩ .any, .int .i64 op, .str s, .str s2, .int .i64 k, .int .i64 i, .str vs, .pl ⟨.vals, l⟩ .any, .pl ⟨.strs, ks⟩ .any, .int .i64 tk, .int .i64 tof, .bool sec, .pl ⟨.exprs, x⟩ .any, .int .i64 a, .int .i64 b, .int .i64 c, .pl ⟨.items, y⟩ .any, .int .i64 a', .int .i64 b', .int .i64 c'] =>
    some ⟨bl, name, lb, ⟨op, s, s2, ⟨k, i, vs, l, ks, tk, tof, sec⟩, x, ⟨a, b, c⟩⟩, y, ⟨a', b', c'⟩⟩
  | _ => none
theorem exI_eq {cs : List (D Pl)} {e : ItemR} (h : exI cs = some e) : cs = cItem e := by
  unfold exI at h
  split at h
  · simp only [Option.some.injEq] at h; subst h; rfl
  · simp at h

/-- contracts for an item, for two; for lists of them -/
def pi2 (f : ItemR → ItemR → Bool × D Pl) : List (D Pl) → Option (Bool × D Pl)
  | [.agg cs, .agg es] => match exI cs, exI es with
    | some a, some b => some (f a b)
    | _, _ => none
  | _ => none
theorem pi2_ok {g : FuncId} {f : ItemR → ItemR → Bool × D Pl} (h : ∀ a b, (f a b).1 = true → Snd g [.agg (cItem a), .agg (cItem b)] (f a b).2) : ∀ ds b d, pi2 f ds = some (b, d) → b = true → Snd g ds d := by
  intro ds b d hp hb
  unfold pi2 at hp
  split at hp
  · split at hp
    · rename_i h1 h2
      simp only [Option.some.injEq] at hp
      have h3 := h _ _ (by rw [hp]; exact hb)
      rw [hp] at h3
      rw [exI_eq h1, exI_eq h2]
      exact h3
    · simp at hp
  · simp at hp

def asI : D Pl → Option (List ItemR)
  | .nilS => some []
  | .pl ⟨.items, l⟩ _ => some l
  | _ => none
theorem asI_rdle {d : D Pl} {l : List ItemR} (h : asI d = some l) : RDle X0.C d (.pl (pItems l) .any) := by
  unfold asI at h
  split at h
  · simp only [Option.some.injEq] at h; subst h; exact RDle.of (.nil _ rfl)
  · simp only [Option.some.injEq] at h; subst h; exact RDle.of (.any _ _)
  · simp at h
def pl1 (f : List ItemR → Bool × D Pl) : List (D Pl) → Option (Bool × D Pl)
  | [d] => match asI d with
    | some a => some (f a)
    | none => none
  | _ => none
theorem pl1_ok {g : FuncId} {f : List ItemR → Bool × D Pl} (h : ∀ a, (f a).1 = true → Snd g [.pl (pItems a) .any] (f a).2) : ∀ ds b d, pl1 f ds = some (b, d) → b = true → Snd g ds d := by
  intro ds b d hp hb
  unfold pl1 at hp
  split at hp
  · split at hp
    · rename_i ha
      simp only [Option.some.injEq] at hp
      have h1 := h _ (by rw [hp]; exact hb)
      rw [hp] at h1
      exact h1.pre (.cons (asI_rdle ha) .nil)
    · simp at hp
  · simp at hp
def pl2 (f : List ItemR → List ItemR → Bool × D Pl) : List (D Pl) → Option (Bool × D Pl)
  | [d, e] => match asI d, asI e with
    | some a, some b => some (f a b)
    | _, _ => none
  | _ => none
theorem pl2_ok {g : FuncId} {f : List ItemR → List ItemR → Bool × D Pl} (h : ∀ a b, (f a b).1 = true → Snd g [.pl (pItems a) .any, .pl (pItems b) .any] (f a b).2) : ∀ ds b d, pl2 f ds = some (b, d) → b = true → Snd g ds d := by
  intro ds b d hp hb
  unfold pl2 at hp
  split at hp
  · split at hp
    · rename_i h1 h2
      simp only [Option.some.injEq] at hp
      have h3 := h _ _ (by rw [hp]; exact hb)
      rw [hp] at h3
      exact h3.pre (.cons (asI_rdle h1) (.cons (asI_rdle h2) .nil))
    · simp at hp
  · simp at hp
def pl2b (f : List ItemR → List ItemR → Bool → Bool × D Pl) : List (D Pl) → Option (Bool × D Pl)
  | [d, e, .bool m] => match asI d, asI e with
    | some a, some b => some (f a b m)
    | _, _ => none
  | _ => none
theorem pl2b_ok {g : FuncId} {f : List ItemR → List ItemR → Bool → Bool × D Pl} (h : ∀ a b m, (f a b m).1 = true → Snd g [.pl (pItems a) .any, .pl (pItems b) .any, .bool m] (f a b m).2) : ∀ ds b d, pl2b f ds = some (b, d) → b = true → Snd g ds d := by
  intro ds b d hp hb
  unfold pl2b at hp
  split at hp
  · split at hp
    · rename_i h1 h2
      simp only [Option.some.injEq] at hp
      have h3 := h _ _ _ (by rw [hp]; exact hb)
      rw [hp] at h3
      exact h3.pre (.cons (asI_rdle h1) (.cons (asI_rdle h2) (.cons (RDle.refl _) .nil)))
    · simp at hp
  · simp at hp

end Go.Proofs.YtjmlnjjinhmanaaGreatDoor

/-
  WHETHER TREES, AND ITEMS, ARE THE SAME, by the document: with their places or without.
-/

namespace Go.Proofs.YtjmlnjjinhmanaaGreatDoor
open Go.Eng

set_option maxRecDepth 100000

-- the document's Same, with places or without

def s8 (m : Bool) (a b : ExprR) (i : Int) : St Pl := mkS 74 [(2, .bool m), (3, .ptr 3 0), (4, .ptr 4 0), (6, .bool false), (7, dI i)] [(4, .box false (cExpr b)), (3, .box false (cExpr a))]
def r8 (m : Bool) (a b : ExprR) : St Pl := mkS 74 [(2, .bool m), (3, .ptr 3 0), (4, .ptr 4 0), (6, .bool false)] [(4, .box false (cExpr b)), (3, .box false (cExpr a))]
def p8 (n : Nat) : List (D Pl) → Option (Bool × D Pl) := pe2b fun a b m => (Nat.blt (esz a) n, .bool (sameEm m a b))

theorem b8 (m : Bool) (a b : ExprR) (n i : Nat) : evC (tell 22 (p8 n) tell0) noTL noL 1 (loopAt 22 0) [2, 3, 4, 6, 7] (s8 m a b i) =
    lt_ i a.l.length (ix_ i a.l.length (ix_ i b.l.length (ck_ (Nat.blt (esz (etaE (a.l.getD i default))) n) (bif !(sameEm m (etaE (a.l.getD i default)) (etaE (b.l.getD i default))) then some (.ret, s8 m a b i) else some (.normal, s8 m a b (IntKind.i64.wrap ((i : Int) + 1))))))) (some (.exit 0, s8 m a b i)) := by kernel_rfl
theorem ids8 : (loopsAt 22).length = 1 ∧ firstId (loopAt 22 0) = 4 ∧ loopsOf (loopAt 22 0) = [] := ⟨by kernel_rfl, by kernel_rfl, by kernel_rfl⟩

def LS8s (n : Nat) (S : St Pl) : Option (Bool × LR Pl) := match seenS 74 [2, 3, 4, 6, 7] S with
  | some ([.bool m, .ptr 3 0, .ptr 4 0, .bool false, .int .i64 (.ofNat 0)], [(4, .box false cb), (3, .box false ca)]) => match exE ca, exE cb with
    | some a, some b => some (Nat.beq a.l.length b.l.length && (Nat.ble a.l.length big && Nat.blt (eszs a.l) n), .ite (allEm m a.l b.l) (.leaf (.exit 0) (r8 m a b)) (.leaf .ret (r8 m a b)))
    | _, _ => none
  | _ => none

theorem LS8s_ok {n : Nat} (hT : TOk (tell 22 (p8 n) tell0)) : SOk X0 (loopAt 22 0) (LS8s n) := by
  intro S c r h hc
  unfold LS8s at h
  split at h
  · rename_i m cb ca hs
    split at h
    · rename_i a b ha hb
      simp only [Option.some.injEq, Prod.mk.injEq] at h
      obtain ⟨rfl, rfl⟩ := h
      simp only [Bool.and_eq_true, Nat.ble_eq, Nat.blt_eq] at hc
      obtain ⟨hl, hbig, hsz⟩ := hc
      have hl := Nat.eq_of_beq_eq_true hl
      obtain rfl := exE_eq ha
      obtain rfl := exE_eq hb
      refine Goes.pre (keepOf [2, 3, 4, 6, 7]) ?_
      rw [seenS_mask hs]
      have hstep : ∀ i : Nat, i < a.l.length → evC (tell 22 (p8 n) tell0) noTL noL 1 (loopAt 22 0) [2, 3, 4, 6, 7] (s8 m a b i) = bif !(sameEm m (a.l.getD i default) (b.l.getD i default)) then some (.ret, s8 m a b i) else some (.normal, s8 m a b ((i + 1 : Nat) : Int)) := by
        intro i hi
        have := eszs_mem (getD_mem (d := default) hi)
        rw [b8, lt_t hi, ix_t hi, ix_t (by omega), etaE_eq, etaE_eq, ck_t (blt_t (by omega)), wrap_nat (show i ≤ big by omega)]
      unfold allEm
      refine loop_search (Sf := fun i => s8 m a b i) (n := a.l.length) (p := fun i => sameEm m (a.l.getD i default) (b.l.getD i default)) (by simp) (by simp) (fun i hi hp => ?_) (fun i hi hp => ?_) ?_
      · have hp : sameEm m (a.l.getD i default) (b.l.getD i default) = true := hp
        exact goes_of hT (noTL_ok _ _) (noLoops ids8.2.2) ((hstep i hi).trans (by rw [hp]; rfl))
      · have hp : sameEm m (a.l.getD i default) (b.l.getD i default) = false := hp
        exact (goes_of hT (noTL_ok _ _) (noLoops ids8.2.2) ((hstep i hi).trans (show _ = some (.ret, s8 m a b i) by rw [hp]; rfl))).post (keepOf [2, 3, 4, 6])
      · exact (goes_of hT (noTL_ok _ _) (noLoops ids8.2.2) ((b8 m a b n a.l.length).trans (show _ = some (.exit 0, s8 m a b a.l.length) by rw [lt_f (by omega)]))).post (keepOf [2, 3, 4, 6])
    · simp at h
  · simp at h

def n8 (a b : ExprR) : Bool := bif (bif a.op != b.op then true else !(a.s == b.s)) then true else !(a.s2 == b.s2)
theorem e8 (m : Bool) (a b : ExprR) (n : Nat) : evF (tell 37 pSameA (tell 22 (p8 n) tell0)) noTL (atL 4 (LS8s n) noL) 1 Tryz.f22 [.agg (cExpr a), .agg (cExpr b), .bool m] =
    bif (n8 a b == false) then (bif (bif (bif !(sameV (etaV a.v) (etaV b.v) true) then true else ((a.l.length : Int) != (b.l.length : Int))) then true else (bif m then !(posEq a.p b.p) else false)) then some (.bool false)
      else ck_ (Nat.beq a.l.length b.l.length && (Nat.ble a.l.length big && Nat.blt (eszs a.l) n)) (bif allEm m a.l b.l then some (.bool true) else some (.bool false))) else some (.bool false) := by kernel_rfl

theorem rsame_n : ∀ n m a b, esz a < n → Snd 22 [.agg (cExpr a), .agg (cExpr b), .bool m] (.bool (sameEm m a b)) := by
  intro n
  induction n with
  | zero => intro m a b h; omega
  | succ n ih =>
    intro m a b hlt
    have hT : TOk (tell 22 (p8 n) tell0) := tell_ok (pe2b_ok fun a b m h => by
      simp only [Nat.blt_eq] at h
      exact ih m a b h) (tell0_ok _)
    have h1 : eszs a.l < n := by have := esz_eq a; omega
    refine SoundAt.rooms fun hroom => snd_fn (n := 1) (tSame_ok hT) (noTL_ok _ _) (fn := Tryz.f22) (by kernel_rfl) (loops_of (f := 22) (fn := Tryz.f22) (by kernel_rfl) (loops_1 ids8.1 (atL_ok (fun _ => LS8s_ok hT) fun h => absurd ids8.2.1 h))) ((e8 m a b n).trans ?_)
    have hr : Room _ (.agg (cExpr a)) := hroom _ (by simp)
    have hk : a.l.length * 192 ≤ big := hr (.pl (pExprs a.l) .any) (by simp [cExpr])
    rw [sameEm_eq, etaV_eq, etaV_eq]
    have hm : (n8 a b == false) = m10 a b := by
      unfold n8 m10
      rw [bne]
      cases a.op == b.op <;> cases a.s == b.s <;> cases a.s2 == b.s2 <;> rfl
    rw [hm]
    unfold eHd
    show _ = some (D.bool (m10 a b && sameV a.v b.v true && ((!m || posEq a.p b.p) && sameEms m a.l b.l)))
    cases m10 a b with
    | false => rfl
    | true =>
      cases sameV a.v b.v true with
      | false => rfl
      | true =>
        by_cases hl : a.l.length = b.l.length
        · rw [show ((a.l.length : Int) != (b.l.length : Int)) = false by rw [hl]; simp, ck_t (by rw [show Nat.beq a.l.length b.l.length = true by rw [hl]; exact Nat.beq_refl _, ble_t (by omega), blt_t h1]; rfl), allEm_eq _ _ _ hl]
          cases m <;> cases posEq a.p b.p <;> cases sameEms _ a.l b.l <;> rfl
        · have : sameEms m a.l b.l = false := by
            cases hs : sameEms m a.l b.l with
            | false => rfl
            | true => exact absurd (sameEms_len m hs) hl
          rw [this, show ((a.l.length : Int) != (b.l.length : Int)) = true by rw [bne_iff_ne]; omega]
          cases m <;> cases posEq a.p b.p <;> rfl
theorem rsame_sound (m : Bool) (a b : ExprR) : Snd 22 [.agg (cExpr a), .agg (cExpr b), .bool m] (.bool (sameEm m a b)) := rsame_n _ m a b (Nat.lt_succ_self _)

end Go.Proofs.YtjmlnjjinhmanaaGreatDoor

/-
  WHETHER ITEMS ARE THE SAME (the program's): slices.EqualFunc with 'one'.
-/

namespace Go.Proofs.YtjmlnjjinhmanaaGreatDoor
open Go.Eng

set_option maxRecDepth 100000

-- slices.EqualFunc with 'Same'

def s48i (a b : List ItemR) (i : Int) : St Pl := mkS 32 [(1, .pl (pItems b) .any), (2, .fn 25 []), (6, .bool false), (15, .pl (pItems a) .any), (16, dI a.length), (17, dI i)] []
def r48i (b : List ItemR) : St Pl := mkS 32 [(1, .pl (pItems b) .any), (2, .fn 25 []), (6, .bool false)] []
def tIsm (n : Nat) : Eng.Told Pl := tell 25 (pi2 fun a b => (Nat.blt (isz a) n, .bool (sameI false a b))) tell0

theorem b48i (a b : List ItemR) (n i : Nat) : evD (tIsm n) noTL noL 1 (loopAt 24 0) [1, 2, 6, 15, 16, 17] [8, 9] (s48i a b i) =
    lt_ i a.length (ix_ i a.length (ix_ i b.length (ck_ (Nat.blt (isz (etaI (a.getD i default))) n) (bif !(sameI false (etaI (a.getD i default)) (etaI (b.getD i default))) then some (.ret, s48i a b i) else some (.normal, s48i a b (IntKind.i64.wrap ((i : Int) + 1))))))) (some (.exit 0, s48i a b i)) := by kernel_rfl

theorem ids48i : (loopsAt 24).length = 1 ∧ firstId (loopAt 24 0) = 4 ∧ loopsOf (loopAt 24 0) = [] := ⟨by kernel_rfl, by kernel_rfl, by kernel_rfl⟩

def LS48i (n : Nat) (S : St Pl) : Option (Bool × LR Pl) := match seenS 32 [1, 2, 6, 15, 16, 17] S with
  | some ([.pl ⟨.items, b⟩ .any, .fn 25 [], .bool false, .pl ⟨.items, a⟩ .any, .int .i64 k, .int .i64 (.ofNat 0)], []) =>
    some (k == (a.length : Int) && (Nat.beq a.length b.length && (Nat.ble a.length big && Nat.blt (iszs a) n)), .ite ((List.range a.length).all fun i => sameI false (a.getD i default) (b.getD i default)) (.leaf (.exit 0) (r48i b)) (.leaf .ret (r48i b)))
  | _ => none

theorem LS48i_ok {n : Nat} (hT : TOk (tIsm n)) : SOk X0 (loopAt 24 0) (LS48i n) := by
  intro S c r h hc
  unfold LS48i at h
  split at h
  · rename_i b a k hs
    simp only [Option.some.injEq, Prod.mk.injEq] at h
    obtain ⟨rfl, rfl⟩ := h
    simp only [Bool.and_eq_true, Nat.ble_eq, Nat.blt_eq, beq_iff_eq] at hc
    obtain ⟨rfl, hl, hb, hsz⟩ := hc
    have hl := Nat.eq_of_beq_eq_true hl
    refine Goes.pre (keepOf [1, 2, 6, 15, 16, 17]) ?_
    rw [seenS_mask hs]
    have hstep : ∀ i : Nat, i < a.length → evD (tIsm n) noTL noL 1 (loopAt 24 0) [1, 2, 6, 15, 16, 17] [8, 9] (s48i a b i) = bif !(sameI false (a.getD i default) (b.getD i default)) then some (.ret, s48i a b i) else some (.normal, s48i a b ((i + 1 : Nat) : Int)) := by
      intro i hi
      have := iszs_mem (getD_mem (d := default) hi)
      rw [b48i, lt_t hi, ix_t hi, ix_t (by omega), etaI_eq, etaI_eq, ck_t (blt_t (by omega)), wrap_nat (show i ≤ big by omega)]
    refine loop_search (Sf := fun i => s48i a b i) (n := a.length) (p := fun i => sameI false (a.getD i default) (b.getD i default)) (by simp) (by simp) (fun i hi hp => ?_) (fun i hi hp => ?_) ?_
    · have hp : sameI false (a.getD i default) (b.getD i default) = true := hp
      exact goes_ofD hT (noTL_ok _ _) (noLoops ids48i.2.2) ((hstep i hi).trans (by rw [hp]; rfl))
    · have hp : sameI false (a.getD i default) (b.getD i default) = false := hp
      exact (goes_ofD hT (noTL_ok _ _) (noLoops ids48i.2.2) ((hstep i hi).trans (show _ = some (.ret, s48i a b i) by rw [hp]; rfl))).post (keepOf [1, 2, 6])
    · exact (goes_ofD hT (noTL_ok _ _) (noLoops ids48i.2.2) ((b48i a b n a.length).trans (show _ = some (.exit 0, s48i a b a.length) by rw [lt_f (by omega)]))).post (keepOf [1, 2, 6])
  · simp at h

theorem e48i (a b : List ItemR) (n : Nat) : evF (tIsm n) noTL (atL 4 (LS48i n) noL) 1 Tryz.f24 [.pl (pItems a) .any, .pl (pItems b) .any, .fn 25 []] =
    bif ((a.length : Int) != (b.length : Int)) then some (.bool false) else ck_ (((a.length : Int) == (a.length : Int)) && (Nat.beq a.length b.length && (Nat.ble a.length big && Nat.blt (iszs a) n))) (bif (List.range a.length).all (fun i => sameI false (a.getD i default) (b.getD i default)) then some (.bool true) else some (.bool false)) := by kernel_rfl

def eqIs (a b : List ItemR) : Bool := ((a.length : Int) == (b.length : Int)) && sameIs false a b

theorem eqfuncI_n {n : Nat} (hT : TOk (tIsm n)) (a b : List ItemR) (hn : iszs a < n) : Snd 24 [.pl (pItems a) .any, .pl (pItems b) .any, .fn 25 []] (.bool (eqIs a b)) := by
  refine SoundAt.rooms fun hroom => snd_fn (n := 1) hT (noTL_ok _ _) (fn := Tryz.f24) (by kernel_rfl) (loops_of (fn := Tryz.f24) (by kernel_rfl) (loops_1 ids48i.1 (atL_ok (fun _ => LS48i_ok hT) fun h => absurd ids48i.2.1 h))) ((e48i a b n).trans ?_)
  have ha : a.length * 288 ≤ big := hroom (.pl (pItems a) .any) (by simp)
  unfold eqIs
  by_cases hl : a.length = b.length
  · rw [show ((a.length : Int) != (b.length : Int)) = false by rw [hl]; simp, ck_t (by rw [beq_self_eq_true, hl, Nat.beq_refl, ble_t (by omega), blt_t hn]; rfl), show ((List.range a.length).all fun i => sameI false (a.getD i default) (b.getD i default)) = sameIs false a b from allI_eq false a b hl, show ((a.length : Int) == (b.length : Int)) = true by rw [hl]; simp]
    cases sameIs false a b <;> rfl
  · rw [show ((a.length : Int) != (b.length : Int)) = true by rw [bne_iff_ne]; omega, show ((a.length : Int) == (b.length : Int)) = false by rw [beq_eq_false_iff_ne]; omega]
    rfl

def pEqI (n : Nat) : List (D Pl) → Option (Bool × D Pl)
  | [d, e, .fn 25 []] => match asL .items d, asL .items e with
    | some a, some b => some (Nat.blt (iszs a) n, .bool (eqIs a b))
    | _, _ => none
  | _ => none

theorem pEqI_ok {n : Nat} (hT : TOk (tIsm n)) : ∀ ds b d, pEqI n ds = some (b, d) → b = true → Snd 24 ds d := by
  intro ds b d h hb
  unfold pEqI at h
  split at h
  · split at h
    · rename_i h1 h2
      simp only [Option.some.injEq, Prod.mk.injEq] at h
      obtain ⟨rfl, rfl⟩ := h
      simp only [Nat.blt_eq] at hb
      exact (eqfuncI_n hT _ _ (by omega)).pre (.cons (asL_rdle h1) (.cons (asL_rdle h2) (.cons (RDle.refl _) .nil)))
    · simp at h
  · simp at h


end Go.Proofs.YtjmlnjjinhmanaaGreatDoor
