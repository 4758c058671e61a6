/-
  WHETHER TWO VALUES ARE THE SAME, MARKS ASIDE (the program's 'Like'): what the code computes, whatever the two values are.
-/
import Derived.Test.YtibfgggccedmdaaDoorSeq
namespace Go.Proofs.YtibfgggccedmdaaDoor
open Go.Eng

set_option maxRecDepth 100000

/-- a contract for two values -/
def pvv (f : Val → Val → Bool × D Pl) : List (D Pl) → Option (Bool × D Pl)
  | [d, e] => match asV d, asV e with
    | some a, some b => some (f a b)
    | _, _ => none
  | _ => none

theorem pvv_ok {g : FuncId} {f : Val → Val → Bool × D Pl} (h : ∀ a b, (f a b).1 = true → Snd g [.agg (cV a), .agg (cV b)] (f a b).2) : ∀ ds b d, pvv f ds = some (b, d) → b = true → Snd g ds d := by
  intro ds b d hp hb
  unfold pvv at hp
  split at hp
  · split at hp
    · rename_i h1 h2
      simp only [Option.some.injEq] at hp
      have h3 := h _ _ (by rw [hp]; exact hb)
      rw [hp] at h3
      exact h3.pre (.cons (asV_rdle h1) (.cons (asV_rdle h2) .nil))
    · simp at hp
  · simp at hp

-- flat

def m47 (a b : Val) : Bool := bif (bif (bif (bif (bif (a.kind == b.kind) then a.i == b.i else false) then a.s == b.s else false) then (a.tk == b.tk && (a.tof == b.tof && true)) else false) then a.sec == b.sec else false) then ((a.l.length : Int) == (b.l.length : Int)) else false
def flatV (a b : Val) : Bool := m47 a b && (a.keys == b.keys)

theorem e47 (a b : Val) : ev (tell 44 pEqual tell0) noTL 1 73 [.agg (cV a), .agg (cV b)] = bif (m47 a b == true) then some (.bool (a.keys == b.keys)) else some (.bool false) := by kernel_rfl

theorem flat_sound (a b : Val) : Snd 73 [.agg (cV a), .agg (cV b)] (.bool (flatV a b)) := by
  refine snd_of (tell_ok pEqual_ok (tell0_ok _)) (noTL_ok _ _) ((e47 a b).trans ?_)
  unfold flatV
  cases m47 a b <;> rfl

-- slices.EqualFunc with 'Like'

def s48 (a b : List Val) (i : Int) : St Pl := mkS 32 [(1, .pl (pVals b) .any), (2, .fn 76 []), (6, .bool false), (15, .pl (pVals a) .any), (16, dI a.length), (17, dI i)] []
def r48 (b : List Val) : St Pl := mkS 32 [(1, .pl (pVals b) .any), (2, .fn 76 []), (6, .bool false)] []
def tLike (n : Nat) : Eng.Told Pl := tell 76 (pvv fun a b => (Nat.blt (vsz a) n, .bool (sameV a b false))) tell0

theorem b48 (a b : List Val) (n i : Nat) : evD (tLike n) noTL noL 1 (loopAt 46 0) [1, 2, 6, 15, 16, 17] [8, 9] (s48 a b i) =
    lt_ i a.length (ix_ i a.length (ix_ i b.length (ck_ (Nat.blt (vsz (etaV (a.getD i default))) n) (bif !(sameV (etaV (a.getD i default)) (etaV (b.getD i default)) false) then some (.ret, s48 a b i) else some (.normal, s48 a b (IntKind.i64.wrap ((i : Int) + 1))))))) (some (.exit 0, s48 a b i)) := by kernel_rfl

theorem ids48 : (loopsAt 46).length = 1 ∧ firstId (loopAt 46 0) = 4 ∧ loopsOf (loopAt 46 0) = [] := ⟨by kernel_rfl, by kernel_rfl, by kernel_rfl⟩

def LS48 (n : Nat) (S : St Pl) : Option (Bool × LR Pl) := match seenS 32 [1, 2, 6, 15, 16, 17] S with
  | some ([.pl ⟨.vals, b⟩ .any, .fn 76 [], .bool false, .pl ⟨.vals, a⟩ .any, .int .i64 k, .int .i64 (.ofNat 0)], []) =>
    some (k == (a.length : Int) && (Nat.beq a.length b.length && (Nat.ble a.length big && Nat.blt (vszs a) n)), .ite ((List.range a.length).all fun i => sameV (a.getD i default) (b.getD i default) false) (.leaf (.exit 0) (r48 b)) (.leaf .ret (r48 b)))
  | _ => none

theorem LS48_ok {n : Nat} (hT : TOk (tLike n)) : SOk X0 (loopAt 46 0) (LS48 n) := by
  intro S c r h hc
  unfold LS48 at h
  split at h
  · rename_i b a k hs
    simp only [Option.some.injEq, Prod.mk.injEq] at h
    obtain ⟨rfl, rfl⟩ := h
    simp only [Bool.and_eq_true, Nat.ble_eq, Nat.blt_eq, beq_iff_eq] at hc
    obtain ⟨rfl, hl, hb, hsz⟩ := hc
    have hl := Nat.eq_of_beq_eq_true hl
    refine Goes.pre (keepOf [1, 2, 6, 15, 16, 17]) ?_
    rw [seenS_mask hs]
    have hstep : ∀ i : Nat, i < a.length → evD (tLike n) noTL noL 1 (loopAt 46 0) [1, 2, 6, 15, 16, 17] [8, 9] (s48 a b i) = bif !(sameV (a.getD i default) (b.getD i default) false) then some (.ret, s48 a b i) else some (.normal, s48 a b ((i + 1 : Nat) : Int)) := by
      intro i hi
      have := vszs_mem (getD_mem (d := default) hi)
      rw [b48, lt_t hi, ix_t hi, ix_t (by omega), etaV_eq, etaV_eq, ck_t (blt_t (by omega)), wrap_nat (show i ≤ big by omega)]
    refine loop_search (Sf := fun i => s48 a b i) (n := a.length) (p := fun i => sameV (a.getD i default) (b.getD i default) false) (by simp) (by simp) (fun i hi hp => ?_) (fun i hi hp => ?_) ?_
    · have hp : sameV (a.getD i default) (b.getD i default) false = true := hp
      exact goes_ofD hT (noTL_ok _ _) (noLoops ids48.2.2) ((hstep i hi).trans (by rw [hp]; rfl))
    · have hp : sameV (a.getD i default) (b.getD i default) false = false := hp
      exact (goes_ofD hT (noTL_ok _ _) (noLoops ids48.2.2) ((hstep i hi).trans (show _ = some (.ret, s48 a b i) by rw [hp]; rfl))).post (keepOf [1, 2, 6])
    · exact (goes_ofD hT (noTL_ok _ _) (noLoops ids48.2.2) ((b48 a b n a.length).trans (show _ = some (.exit 0, s48 a b a.length) by rw [lt_f (by omega)]))).post (keepOf [1, 2, 6])
  · simp at h

theorem e48 (a b : List Val) (n : Nat) : evF (tLike n) noTL (atL 4 (LS48 n) noL) 1 Tryd.f46 [.pl (pVals a) .any, .pl (pVals b) .any, .fn 76 []] =
    bif ((a.length : Int) != (b.length : Int)) then some (.bool false) else ck_ (((a.length : Int) == (a.length : Int)) && (Nat.beq a.length b.length && (Nat.ble a.length big && Nat.blt (vszs a) n))) (bif (List.range a.length).all (fun i => sameV (a.getD i default) (b.getD i default) false) then some (.bool true) else some (.bool false)) := by kernel_rfl

def eqVs (a b : List Val) : Bool := ((a.length : Int) == (b.length : Int)) && sameVs a b false

theorem eqfunc_n {n : Nat} (hT : TOk (tLike n)) (a b : List Val) (hn : vszs a < n) : Snd 46 [.pl (pVals a) .any, .pl (pVals b) .any, .fn 76 []] (.bool (eqVs a b)) := by
  refine SoundAt.rooms fun hroom => snd_fn (n := 1) hT (noTL_ok _ _) (fn := Tryd.f46) (by kernel_rfl) (loops_of (fn := Tryd.f46) (by kernel_rfl) (loops_1 ids48.1 (atL_ok (fun _ => LS48_ok hT) fun h => absurd ids48.2.1 h))) ((e48 a b n).trans ?_)
  have ha : a.length * 104 ≤ big := hroom (.pl (pVals a) .any) (by simp)
  unfold eqVs
  by_cases hl : a.length = b.length
  · rw [show ((a.length : Int) != (b.length : Int)) = false by rw [hl]; simp, ck_t (by rw [beq_self_eq_true, hl, Nat.beq_refl, ble_t (by omega), blt_t hn]; rfl), all_same false a b hl, show ((a.length : Int) == (b.length : Int)) = true by rw [hl]; simp]
    cases sameVs a b false <;> rfl
  · rw [show ((a.length : Int) != (b.length : Int)) = true by rw [bne_iff_ne]; omega, show ((a.length : Int) == (b.length : Int)) = false by rw [beq_eq_false_iff_ne]; omega]
    rfl

def pEqF (n : Nat) : List (D Pl) → Option (Bool × D Pl)
  | [d, e, .fn 76 []] => match asL .vals d, asL .vals e with
    | some a, some b => some (Nat.blt (vszs a) n, .bool (eqVs a b))
    | _, _ => none
  | _ => none

theorem pEqF_ok {n : Nat} (hT : TOk (tLike n)) : ∀ ds b d, pEqF n ds = some (b, d) → b = true → Snd 46 ds d := by
  intro ds b d h hb
  unfold pEqF at h
  split at h
  · split at h
    · rename_i h1 h2
      simp only [Option.some.injEq, Prod.mk.injEq] at h
      obtain ⟨rfl, rfl⟩ := h
      simp only [Nat.blt_eq] at hb
      exact (eqfunc_n hT _ _ (by omega)).pre (.cons (asL_rdle h1) (.cons (asL_rdle h2) (.cons (RDle.refl _) .nil)))
    · simp at h
  · simp at h

-- Like

def etaF (v : Val) : Val := ⟨v.kind, v.i, v.s, v.l, v.keys, v.tk, v.tof, false⟩

theorem e43 (a b : Val) (n : Nat) : evF (tell 73 (pvv fun a b => (true, .bool (flatV a b))) (tell 46 (pEqF n) tell0)) noTL noL 0 Tryd.f76 [.agg (cV a), .agg (cV b)] =
    bif (flatV (etaF a) (etaF b) == true) then ck_ (Nat.blt (vszs a.l) n) (some (.bool (eqVs a.l b.l))) else some (.bool false) := by kernel_rfl

theorem like_eq (a b : Val) : sameV a b false = (flatV (etaF a) (etaF b) && eqVs a.l b.l) := by
  rw [sameV_eq]
  have key : (!(c12 a b false)) = (m47 (etaF a) (etaF b) && ((a.keys.length : Int) == (b.keys.length : Int))) := by
    unfold c12 m47 etaF
    simp only [bne, cond_false]
    cases a.kind == b.kind <;> cases a.i == b.i <;> cases a.s == b.s <;> cases a.tk == b.tk <;> cases a.tof == b.tof <;> cases ((a.l.length : Int) == (b.l.length : Int)) <;> cases ((a.keys.length : Int) == (b.keys.length : Int)) <;> rfl
  cases hc : c12 a b false with
  | true =>
    rw [hc] at key
    unfold flatV
    cases hm : m47 (etaF a) (etaF b) with
    | false => rfl
    | true =>
      rw [hm] at key
      have hk : ((a.keys.length : Int) == (b.keys.length : Int)) = false := by simpa using key.symm
      have : ((etaF a).keys == (etaF b).keys) = false := by
        rw [beq_eq_false_iff_ne]
        intro h
        have h : a.keys = b.keys := h
        rw [h] at hk
        simp at hk
      rw [this]; rfl
  | false =>
    rw [hc] at key
    obtain ⟨h1, h2⟩ := c12_len hc
    have hm : m47 (etaF a) (etaF b) = true := by
      cases hm : m47 (etaF a) (etaF b) with
      | true => rfl
      | false => rw [hm] at key; simp at key
    unfold flatV keysEq elemsEq eqVs
    rw [hm, all_beq [] _ _ h2, all_same false _ _ h1, show ((a.l.length : Int) == (b.l.length : Int)) = true by rw [h1]; simp]
    rfl

theorem like_n : ∀ n a b, vsz a < n → Snd 76 [.agg (cV a), .agg (cV b)] (.bool (sameV a b false)) := by
  intro n
  induction n with
  | zero => intro a b h; omega
  | succ n ih =>
    intro a b hlt
    have hT : TOk (tLike n) := tell_ok (pvv_ok fun a b h => ih a b (by simp only [Nat.blt_eq] at h; exact h)) (tell0_ok _)
    have h1 : vszs a.l < n := by
      obtain ⟨k, i, s, l, ks, tk, tof, sec⟩ := a
      simp only [vsz] at hlt
      simp only
      omega
    refine snd_fn (n := 0) (tell_ok (pvv_ok fun a b _ => flat_sound a b) (tell_ok (pEqF_ok hT) (tell0_ok _))) (noTL_ok _ _) (fn := Tryd.f76) (by kernel_rfl) (loops_of (f := 76) (fn := Tryd.f76) (by kernel_rfl) (loops_0 (by kernel_rfl))) ((e43 a b n).trans ?_)
    rw [like_eq, ck_t (blt_t h1)]
    cases flatV (etaF a) (etaF b) <;> rfl

theorem like_sound (a b : Val) : Snd 76 [.agg (cV a), .agg (cV b)] (.bool (sameV a b false)) := like_n _ a b (Nat.lt_succ_self _)

end Go.Proofs.YtibfgggccedmdaaDoor
