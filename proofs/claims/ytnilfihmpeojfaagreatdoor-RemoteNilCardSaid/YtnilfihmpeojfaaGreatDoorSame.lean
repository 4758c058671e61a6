/-
  WHETHER TWO VALUES ARE THE SAME (the document's 'Same'): what the code computes, whatever the two values are.
-/
import Derived.Test.YtnilfihmpeojfaaGreatDoorModel
namespace Go.Proofs.YtnilfihmpeojfaaGreatDoor
open Go.Eng

set_option maxRecDepth 100000

def hs12 (a b : Val) : Obs Pl := [(4, .box false (cV b)), (3, .box false (cV a))]
def s12 (a b : Val) (m : Bool) (t : Nat) (i : Int) : St Pl := mkS 101 [(2, .bool m), (3, .ptr 3 0), (4, .ptr 4 0), (6, .bool false), (t, dI i)] (hs12 a b)
def r12 (a b : Val) (m : Bool) : St Pl := mkS 101 [(2, .bool m), (3, .ptr 3 0), (4, .ptr 4 0), (6, .bool false)] (hs12 a b)

def pSame (n : Nat) : List (D Pl) → Option (Bool × D Pl)
  | [d, e, .bool m] => match asV d, asV e with
    | some a, some b => some (Nat.blt (vsz a) n, .bool (sameV a b m))
    | _, _ => none
  | _ => none

def L12 (n : Nat) : LK Pl := fun rid S => bif Nat.beq rid 4 then (match getT S.tm 2, getT S.tm 3, getT S.tm 4, getT S.tm 6, getT S.tm 7, S.hs with
  | .bool m, .ptr 3 0, .ptr 4 0, .bool false, .int .i64 (.ofNat 0), [(4, .box false cb), (3, .box false ca)] => (match exV ca, exV cb with
    | some a, some b => some (Nat.beq S.tm.length 101 && (Nat.beq a.keys.length b.keys.length && Nat.ble a.keys.length big), .ite (keysEq a b) (.leaf (.exit 0) (r12 a b m)) (.leaf .ret (r12 a b m)))
    | _, _ => none)
  | _, _, _, _, _, _ => none) else bif Nat.beq rid 9 then (match getT S.tm 2, getT S.tm 3, getT S.tm 4, getT S.tm 6, getT S.tm 8, S.hs with
  | .bool m, .ptr 3 0, .ptr 4 0, .bool false, .int .i64 (.ofNat 0), [(4, .box false cb), (3, .box false ca)] => (match exV ca, exV cb with
    | some a, some b => some (Nat.beq S.tm.length 101 && (Nat.beq a.l.length b.l.length && (Nat.ble a.l.length big && Nat.ble (vsz a) n)), .ite (elemsEq a b m) (.leaf (.exit 2) (r12 a b m)) (.leaf .ret (r12 a b m)))
    | _, _ => none)
  | _, _, _, _, _, _ => none) else none

theorem b12_1 (a b : Val) (m : Bool) (i : Nat) : evC tell0 noTL noL 1 (loopAt 9 0) [2,3,4,6,7] (s12 a b m 7 i) =
    bif decide ((i : Int) < (a.keys.length : Int)) then (bif (true && decide ((i : Int) < (a.keys.length : Int)) || false) then (bif (true && decide ((i : Int) < (b.keys.length : Int)) || false) then
      (bif !(a.keys.getD i [] == b.keys.getD i []) then some (.ret, s12 a b m 7 i) else some (.normal, s12 a b m 7 (IntKind.i64.wrap ((i : Int) + 1)))) else none) else none) else some (.exit 0, s12 a b m 7 i) := by kernel_rfl

theorem b12_2 (a b : Val) (m : Bool) (n i : Nat) : evC (tell 9 (pSame n) tell0) noTL noL 1 (loopAt 9 1) [2,3,4,6,8] (s12 a b m 8 i) =
    bif decide ((i : Int) < (a.l.length : Int)) then (bif (true && decide ((i : Int) < (a.l.length : Int)) || false) then (bif (true && decide ((i : Int) < (b.l.length : Int)) || false) then
      (bif Nat.blt (vsz (etaV (a.l.getD i default))) n then (bif !(sameV (etaV (a.l.getD i default)) (etaV (b.l.getD i default)) m) then some (.ret, s12 a b m 8 i) else some (.normal, s12 a b m 8 (IntKind.i64.wrap ((i : Int) + 1)))) else none) else none) else none) else some (.exit 2, s12 a b m 8 i) := by kernel_rfl

theorem e12 (a b : Val) (m : Bool) (n : Nat) : evF (tell 9 (pSame n) tell0) noTL (L12 n) 0 Tryz.f9 [.agg (cV a), .agg (cV b), .bool m] =
    bif c12 a b m then some (.bool false) else (bif (true && (Nat.beq a.keys.length b.keys.length && Nat.ble a.keys.length big)) then (bif keysEq (etaV a) (etaV b) then
      (bif (true && (Nat.beq a.l.length b.l.length && (Nat.ble a.l.length big && Nat.ble (vsz (etaV a)) n))) then (bif elemsEq (etaV a) (etaV b) m then some (.bool true) else some (.bool false)) else none) else some (.bool false)) else none) := by kernel_rfl

theorem ids12 : (loopsAt 9).length = 2 ∧ firstId (loopAt 9 0) = 4 ∧ firstId (loopAt 9 1) = 9 ∧ loopsOf (loopAt 9 0) = [] ∧ loopsOf (loopAt 9 1) = [] := ⟨by kernel_rfl, by kernel_rfl, by kernel_rfl, by kernel_rfl, by kernel_rfl⟩

theorem loop12_1 (a b : Val) (m : Bool) (hl : a.keys.length = b.keys.length) (hb : a.keys.length ≤ big) :
    GoesTo (.loop (loopAt 9 0)) (s12 a b m 7 0) (pickR (.ite (keysEq a b) (.leaf (.exit 0) (r12 a b m)) (.leaf .ret (r12 a b m)))).1 (pickR (.ite (keysEq a b) (.leaf (.exit 0) (r12 a b m)) (.leaf .ret (r12 a b m)))).2 := by
  have hno := noLoops (L := noL) ids12.2.2.2.1
  have hr : ∀ i : Int, maskS (keepOf [2, 3, 4, 6]) (s12 a b m 7 i) = r12 a b m := fun i => by kernel_rfl
  have hstep : ∀ i : Nat, i < a.keys.length → evC tell0 noTL noL 1 (loopAt 9 0) [2,3,4,6,7] (s12 a b m 7 i) = bif !(a.keys.getD i [] == b.keys.getD i []) then some (.ret, s12 a b m 7 i) else some (.normal, s12 a b m 7 ((i + 1 : Nat) : Int)) := by
    intro i hi
    rw [b12_1, wrap_nat (show i ≤ big by omega), decide_eq_true (show (i : Int) < (a.keys.length : Int) by omega), decide_eq_true (show (i : Int) < (b.keys.length : Int) by omega)]
    rfl
  refine loop_search (Sf := fun i => s12 a b m 7 i) (n := a.keys.length) (p := fun i => a.keys.getD i [] == b.keys.getD i []) (by simp) (by simp) (fun i hi hp => ?_) (fun i hi hp => ?_) ?_
  · refine goes_of (tell0_ok _) (noTL_ok _ _) hno ((hstep i hi).trans ?_)
    have hp : (a.keys.getD i [] == b.keys.getD i []) = true := hp
    rw [hp]; rfl
  · have hp : (a.keys.getD i [] == b.keys.getD i []) = false := hp
    have := (goes_of (tell0_ok _) (noTL_ok _ _) hno ((hstep i hi).trans (show _ = some (.ret, s12 a b m 7 i) by rw [hp]; rfl))).post (keepOf [2, 3, 4, 6])
    rwa [hr] at this
  · have := (goes_of (tell0_ok _) (noTL_ok _ _) hno ((b12_1 a b m a.keys.length).trans (show _ = some (.exit 0, s12 a b m 7 a.keys.length) by rw [decide_eq_false (by omega)]; rfl))).post (keepOf [2, 3, 4, 6])
    rwa [hr] at this

theorem pSame_ok {n : Nat} (ih : ∀ a b m, vsz a < n → Snd 9 [.agg (cV a), .agg (cV b), .bool m] (.bool (sameV a b m))) : TOk (tell 9 (pSame n) tell0) := by
  refine tell_ok (fun ds b d h hb => ?_) (tell0_ok _)
  unfold pSame at h
  split at h
  · split at h
    · rename_i h1 h2
      simp only [Option.some.injEq, Prod.mk.injEq] at h
      obtain ⟨rfl, rfl⟩ := h
      exact (ih _ _ _ (by have h := hb; simp only [Nat.blt_eq] at h; omega)).pre (.cons (asV_rdle h1) (.cons (asV_rdle h2) (.cons (RDle.refl _) .nil)))
    · simp at h
  · simp at h

theorem loop12_2 (a b : Val) (m : Bool) (n : Nat) (hT : TOk (tell 9 (pSame n) tell0)) (hl : a.l.length = b.l.length) (hb : a.l.length ≤ big) (hn : vsz a ≤ n) :
    GoesTo (.loop (loopAt 9 1)) (s12 a b m 8 0) (pickR (.ite (elemsEq a b m) (.leaf (.exit 2) (r12 a b m)) (.leaf .ret (r12 a b m)))).1 (pickR (.ite (elemsEq a b m) (.leaf (.exit 2) (r12 a b m)) (.leaf .ret (r12 a b m)))).2 := by
  have hno := noLoops (L := noL) ids12.2.2.2.2
  have hr : ∀ i : Int, maskS (keepOf [2, 3, 4, 6]) (s12 a b m 8 i) = r12 a b m := fun i => by kernel_rfl
  have hstep : ∀ i : Nat, i < a.l.length → evC (tell 9 (pSame n) tell0) noTL noL 1 (loopAt 9 1) [2,3,4,6,8] (s12 a b m 8 i) = bif !(sameV (a.l.getD i default) (b.l.getD i default) m) then some (.ret, s12 a b m 8 i) else some (.normal, s12 a b m 8 ((i + 1 : Nat) : Int)) := by
    intro i hi
    have hsz := vsz_elem (v := a) (getD_mem (d := default) hi)
    have hlt : Nat.blt (vsz (a.l.getD i default)) n = true := by rw [Nat.blt_eq]; omega
    rw [b12_2, wrap_nat (show i ≤ big by omega), decide_eq_true (show (i : Int) < (a.l.length : Int) by omega), decide_eq_true (show (i : Int) < (b.l.length : Int) by omega), etaV_eq, etaV_eq, hlt]
    rfl
  refine loop_search (Sf := fun i => s12 a b m 8 i) (n := a.l.length) (p := fun i => sameV (a.l.getD i default) (b.l.getD i default) m) (by simp) (by simp) (fun i hi hp => ?_) (fun i hi hp => ?_) ?_
  · refine goes_of hT (noTL_ok _ _) hno ((hstep i hi).trans ?_)
    have hp : sameV (a.l.getD i default) (b.l.getD i default) m = true := hp
    rw [hp]; rfl
  · have hp : sameV (a.l.getD i default) (b.l.getD i default) m = false := hp
    have := (goes_of hT (noTL_ok _ _) hno ((hstep i hi).trans (show _ = some (.ret, s12 a b m 8 i) by rw [hp]; rfl))).post (keepOf [2, 3, 4, 6])
    rwa [hr] at this
  · have := (goes_of hT (noTL_ok _ _) hno ((b12_2 a b m n a.l.length).trans (show _ = some (.exit 2, s12 a b m 8 a.l.length) by rw [decide_eq_false (by omega)]; rfl))).post (keepOf [2, 3, 4, 6])
    rwa [hr] at this

theorem L12_ok {n : Nat} (hT : TOk (tell 9 (pSame n) tell0)) : ∀ i, i < (loopsAt 9).length → LoopOk X0 (L12 n) (loopAt 9 i) := by
  intro i hi S b r h hb
  rw [ids12.1] at hi
  match i, hi with
  | 0, _ =>
    rw [ids12.2.1] at h
    have h : (L12 n) 4 S = some (b, r) := h
    simp only [L12, show Nat.beq 4 4 = true from rfl, cond_true] at h
    split at h
    · split at h
      · rename_i a' b' hca hcb
        simp only [Option.some.injEq, Prod.mk.injEq] at h
        obtain ⟨rfl, rfl⟩ := h
        simp only [Bool.and_eq_true, Nat.beq_eq_true_eq, Nat.ble_eq] at hb
        obtain ⟨hlen, hl, hbig⟩ := hb
        obtain rfl := exV_eq hca
        obtain rfl := exV_eq hcb
        refine Goes.pre (keepOf [2, 3, 4, 6, 7]) ?_
        have := mask_mkS (S := S) (n := 101) (hs := [(4, .box false (cV b')), (3, .box false (cV a'))]) (l := [(2, .bool _), (3, .ptr 3 0), (4, .ptr 4 0), (6, .bool false), (7, dI 0)]) (Nat.eq_of_beq_eq_true hlen) (by assumption) (by
          intro x hx
          simp only [List.mem_cons, List.not_mem_nil, or_false] at hx
          rcases hx with rfl | rfl | rfl | rfl | rfl <;> assumption)
        have this' : maskS (keepOf [2, 3, 4, 6, 7]) S = s12 a' b' _ 7 0 := this
        rw [this']
        exact loop12_1 a' b' _ (Nat.eq_of_beq_eq_true hl) hbig
      · simp at h
    · simp at h
  | 1, _ =>
    rw [ids12.2.2.1] at h
    have h : (L12 n) 9 S = some (b, r) := h
    simp only [L12, show Nat.beq 9 4 = false from rfl, show Nat.beq 9 9 = true from rfl, cond_true, cond_false] at h
    split at h
    · split at h
      · rename_i a' b' hca hcb
        simp only [Option.some.injEq, Prod.mk.injEq] at h
        obtain ⟨rfl, rfl⟩ := h
        simp only [Bool.and_eq_true, Nat.beq_eq_true_eq, Nat.ble_eq] at hb
        obtain ⟨hlen, hl, hbig, hsz⟩ := hb
        obtain rfl := exV_eq hca
        obtain rfl := exV_eq hcb
        refine Goes.pre (keepOf [2, 3, 4, 6, 8]) ?_
        have := mask_mkS (S := S) (n := 101) (hs := [(4, .box false (cV b')), (3, .box false (cV a'))]) (l := [(2, .bool _), (3, .ptr 3 0), (4, .ptr 4 0), (6, .bool false), (8, dI 0)]) (Nat.eq_of_beq_eq_true hlen) (by assumption) (by
          intro x hx
          simp only [List.mem_cons, List.not_mem_nil, or_false] at hx
          rcases hx with rfl | rfl | rfl | rfl | rfl <;> assumption)
        have this' : maskS (keepOf [2, 3, 4, 6, 8]) S = s12 a' b' _ 8 0 := this
        rw [this']
        exact loop12_2 a' b' _ n hT (Nat.eq_of_beq_eq_true hl) hbig hsz
      · simp at h
    · simp at h

theorem same_n : ∀ n a b m, vsz a < n → Snd 9 [.agg (cV a), .agg (cV b), .bool m] (.bool (sameV a b m)) := by
  intro n
  induction n with
  | zero => intro a b m h; omega
  | succ n ih =>
    intro a b m hlt
    have hT := pSame_ok ih
    refine SoundAt.rooms fun hroom => snd_fn (L := L12 n) (n := 0) hT (noTL_ok _ _) (fn := Tryz.f9) (by kernel_rfl) (loops_of (fn := Tryz.f9) (by kernel_rfl) (L12_ok hT)) ((e12 a b m n).trans ?_)
    have h1 : Room _ (.agg (cV a)) := hroom _ (by simp)
    have hk : a.keys.length * 16 ≤ big := h1 (.pl (pStrs a.keys) .any) (by simp [cV])
    have hl : a.l.length * 104 ≤ big := h1 (.pl (pVals a.l) .any) (by simp [cV])
    rw [sameV_eq, etaV_eq, etaV_eq]
    cases hc : c12 a b m with
    | true => rfl
    | false =>
      obtain ⟨g1, g2⟩ := c12_len hc
      have e1 : Nat.beq a.keys.length b.keys.length = true := by rw [g2]; exact Nat.beq_refl _
      have e2 : Nat.beq a.l.length b.l.length = true := by rw [g1]; exact Nat.beq_refl _
      have e3 : Nat.ble a.keys.length big = true := by rw [Nat.ble_eq]; omega
      have e4 : Nat.ble a.l.length big = true := by rw [Nat.ble_eq]; omega
      have e5 : Nat.ble (vsz a) n = true := by rw [Nat.ble_eq]; omega
      rw [e1, e2, e3, e4, e5]
      cases keysEq a b <;> cases elemsEq a b m <;> rfl

/-- 'Same', whatever the values. -/
theorem same_sound (a b : Val) (m : Bool) : Snd 9 [.agg (cV a), .agg (cV b), .bool m] (.bool (sameV a b m)) := same_n _ a b m (Nat.lt_succ_self _)

def pSameA : List (D Pl) → Option (Bool × D Pl)
  | [d, e, .bool m] => match asV d, asV e with
    | some a, some b => some (true, .bool (sameV a b m))
    | _, _ => none
  | _ => none

def tSame (R : Eng.Told Pl) : Eng.Told Pl := tell 9 pSameA R
theorem tSame_ok {R : Eng.Told Pl} (hR : TOk R) : TOk (tSame R) := by
  refine tell_ok (fun ds b d h hb => ?_) hR
  unfold pSameA at h
  split at h
  · split at h
    · rename_i h1 h2
      simp only [Option.some.injEq, Prod.mk.injEq] at h
      obtain ⟨_, rfl⟩ := h
      exact (same_sound _ _ _).pre (.cons (asV_rdle h1) (.cons (asV_rdle h2) (.cons (RDle.refl _) .nil)))
    · simp at h
  · simp at h

end Go.Proofs.YtnilfihmpeojfaaGreatDoor
