/-
  WHETHER A VALUE REFINES ANOTHER ONE: the program's and the document's answer, the same.
-/
import Derived.Test.YtibfgggccedmdaaDoorFits
namespace Go.Proofs.YtibfgggccedmdaaDoor
open Go.Eng

set_option maxRecDepth 100000

def kDif (a b : Val) (i : Nat) : Bool := bif a.kind == 5 then !(a.keys.getD i [] == b.keys.getD i []) else false
def c29 (a b : Val) : Bool := bif (bif a.kind != b.kind then true else a.i != b.i) then true else !(a.s == b.s)

mutual
def refV : Val → Val → Bool
  | ⟨k, i, s, l, ks, tk, tof, sec⟩, b => bif b.kind == 6 then fitsV ⟨k, i, s, l, ks, tk, tof, sec⟩ b.tk b.tof else bif c29 ⟨k, i, s, l, ks, tk, tof, sec⟩ b then false else bif lenV ⟨k, i, s, l, ks, tk, tof, sec⟩ != lenV b then false else
    ((List.range (lenN ⟨k, i, s, l, ks, tk, tof, sec⟩)).all (fun j => !(kDif ⟨k, i, s, l, ks, tk, tof, sec⟩ b j)) && refVs l b.l (lenN ⟨k, i, s, l, ks, tk, tof, sec⟩))
def refVs : List Val → List Val → Nat → Bool
  | [], _, _ => true
  | x :: r, l, n => match n with
    | 0 => true
    | m + 1 => match l with
      | [] => false
      | y :: s => refV x y && refVs r s m
end

theorem refVs_eq : ∀ (l l' : List Val) (n : Nat), n ≤ l.length → n ≤ l'.length → refVs l l' n = (List.range n).all fun i => refV (l.getD i default) (l'.getD i default)
  | [], l', n, h, _ => by
    obtain rfl : n = 0 := by simpa using h
    rfl
  | x :: r, l', 0, _, _ => rfl
  | x :: r, [], n + 1, _, h => by simp at h
  | x :: r, y :: s, n + 1, h, h' => by
    rw [refVs, all_range_succ, refVs_eq r s n (by simpa using h) (by simpa using h')]
    rfl

theorem all_and (n : Nat) (p q : Nat → Bool) : (List.range n).all (fun i => p i && q i) = ((List.range n).all p && (List.range n).all q) := by
  rw [Bool.eq_iff_iff, Bool.and_eq_true, List.all_eq_true, List.all_eq_true, List.all_eq_true]
  simp only [Bool.and_eq_true]
  exact ⟨fun h => ⟨fun x hx => (h x hx).1, fun x hx => (h x hx).2⟩, fun h x hx => ⟨h.1 x hx, h.2 x hx⟩⟩

theorem refV_eq (a b : Val) : refV a b = bif b.kind == 6 then fitsV a b.tk b.tof else bif c29 a b then false else bif lenV a != lenV b then false else (List.range (lenN a)).all fun i => !(kDif a b i) && refV (a.l.getD i default) (b.l.getD i default) := by
  rw [all_and (lenN a) (fun i => !(kDif a b i)) fun i => refV (a.l.getD i default) (b.l.getD i default)]
  cases h : lenV a != lenV b with
  | true =>
    obtain ⟨k, i, s, l, ks, tk, tof, sec⟩ := a
    rw [refV, h]
    rfl
  | false =>
    have hn : lenN a = lenN b := by
      rw [lenV_eq, lenV_eq] at h
      have := bne_eq_false_iff_eq.1 h
      omega
    have h1 := lenN_le a
    have h2 := lenN_le b
    rw [← refVs_eq a.l b.l (lenN a) h1 (by omega)]
    obtain ⟨k, i, s, l, ks, tk, tof, sec⟩ := a
    rw [refV, h]

-- the document's

def hR4 (a b : Val) : Obs Pl := [(3, .box false (cV b)), (2, .box false (cV a))]
def sR4 (a b : Val) (i : Int) : St Pl := mkS 75 [(2, .ptr 2 0), (3, .ptr 3 0), (4, .bool false), (5, dI i)] (hR4 a b)
def rR4 (a b : Val) : St Pl := mkS 75 [(2, .ptr 2 0), (3, .ptr 3 0), (4, .bool false)] (hR4 a b)
def tR4 (n : Nat) : Eng.Told Pl := tell 29 (pvv fun a b => (Nat.blt (vsz a) n, .bool (refV a b))) (tell 47 (pvt fun v a b => (true, .bool (fitsV v a b))) (tLen tell0))

theorem bR4 (a b : Val) (n i : Nat) : evC (tR4 n) noTL noL 1 (loopAt 29 0) [2, 3, 4, 5] (sR4 a b i) =
    bif decide ((i : Int) < lenV (etaV a)) then ixo_ i a.keys.length ((a.kind == 5) == true) (ixo_ i b.keys.length ((a.kind == 5) == true) (ixo_ i a.l.length (kDif a b i == false) (ixo_ i b.l.length (kDif a b i == false)
      (bif (kDif a b i == false) then ck_ (Nat.blt (vsz (etaV (a.l.getD i default))) n) (bif !(refV (etaV (a.l.getD i default)) (etaV (b.l.getD i default))) then some (.ret, sR4 a b i) else some (.normal, sR4 a b (IntKind.i64.wrap ((i : Int) + 1)))) else some (.ret, sR4 a b i))))) else some (.exit 0, sR4 a b i) := by kernel_rfl

theorem idsR4 : (loopsAt 29).length = 1 ∧ firstId (loopAt 29 0) = 6 ∧ loopsOf (loopAt 29 0) = [] := ⟨by kernel_rfl, by kernel_rfl, by kernel_rfl⟩

def okR (a b : Val) (i : Nat) : Bool := !(kDif a b i) && refV (a.l.getD i default) (b.l.getD i default)

def LSR4 (n : Nat) (S : St Pl) : Option (Bool × LR Pl) := match seenS 75 [2, 3, 4, 5] S with
  | some ([.ptr 2 0, .ptr 3 0, .bool false, .int .i64 (.ofNat 0)], [(3, .box false cb), (2, .box false ca)]) => (match exV ca, exV cb with
    | some a, some b => some (Nat.ble a.l.length big && (Nat.ble (vsz a) n && (Nat.beq (lenN a) (lenN b) && a.kind == b.kind)), .ite ((List.range (lenN a)).all (okR a b)) (.leaf (.exit 0) (rR4 a b)) (.leaf .ret (rR4 a b)))
    | _, _ => none)
  | _ => none

theorem lenN_keys {v : Val} (h : (v.kind == 5) = true) : lenN v ≤ v.keys.length := by
  unfold lenN
  have : (v.kind == 4) = false := by
    have := beq_iff_eq.1 h
    rw [this]; rfl
  rw [this, h]
  simp only [cond_true, cond_false]; omega

theorem ixo_f {β : Type} {i n : Nat} (x : Option β) : ixo_ i n false x = x := by unfold ixo_; simp

theorem LSR4_ok {n : Nat} (hT : TOk (tR4 n)) : SOk X0 (loopAt 29 0) (LSR4 n) := by
  intro S c r h hb
  unfold LSR4 at h
  split at h
  · rename_i cb ca hs
    split at h
    · rename_i a b hva hvb
      simp only [Option.some.injEq, Prod.mk.injEq] at h
      obtain ⟨rfl, rfl⟩ := h
      simp only [Bool.and_eq_true, Nat.ble_eq] at hb
      obtain ⟨hbig, hsz, hn, hkd⟩ := hb
      have hkd : a.kind = b.kind := by simpa using hkd
      have hn := Nat.eq_of_beq_eq_true hn
      obtain rfl := exV_eq hva
      obtain rfl := exV_eq hvb
      refine Goes.pre (keepOf [2, 3, 4, 5]) ?_
      rw [seenS_mask hs]
      refine search_of hT idsR4.2.2 (k := 1) (keep := [2, 3, 4, 5]) (keep2 := [2, 3, 4]) (Sf := fun i => sR4 a b i) (S2' := fun i => sR4 a b i) (n := lenN a) (p := okR a b) (by simp) (by simp) (fun i hi => ?_) ?_ (by kernel_rfl) (fun i => by kernel_rfl)
      · have hl := lenN_le a
        have hl' := lenN_le b
        have hlt : i < a.l.length := by omega
        have hs := vsz_elem (getD_mem (d := default) hlt)
        refine (bR4 a b n i).trans ?_
        rw [etaV_eq, etaV_eq, etaV_eq, lenV_eq, decide_eq_true (show (i : Int) < (lenN a : Int) by omega), ixo_t hlt, ixo_t (show i < b.l.length by omega), ck_t (blt_t (by omega)), wrap_nat (show i ≤ big by omega)]
        unfold okR
        cases h5 : a.kind == 5 with
        | false =>
          rw [show ((false == true) : Bool) = false from rfl, ixo_f, ixo_f]
          have : kDif a b i = false := by unfold kDif; rw [h5]; rfl
          rw [this]
          cases refV (a.l.getD i default) (b.l.getD i default) <;> rfl
        | true =>
          have h1 := lenN_keys h5
          have h2 := lenN_keys (v := b) (by rw [← hkd]; exact h5)
          rw [show ((true == true) : Bool) = true from rfl, ixo_t (show i < a.keys.length by omega), ixo_t (show i < b.keys.length by omega)]
          cases kDif a b i <;> cases refV (a.l.getD i default) (b.l.getD i default) <;> rfl
      · refine (bR4 a b n (lenN a)).trans ?_
        rw [etaV_eq, lenV_eq, decide_eq_false (by omega)]
        rfl
    · simp at h
  · simp at h

theorem eR4 (a b : Val) (n : Nat) : evF (tR4 n) noTL (atL 6 (LSR4 n) noL) 1 Tryd.f29 [.agg (cV a), .agg (cV b)] =
    bif b.kind == 6 then some (.bool (fitsV (etaV a) b.tk b.tof)) else bif (c29 a b == false) then (bif lenV (etaV a) != lenV (etaV b) then some (.bool false) else
      ck_ (Nat.ble a.l.length big && (Nat.ble (vsz (etaV a)) n && (Nat.beq (lenN (etaV a)) (lenN (etaV b)) && a.kind == b.kind))) (bif (List.range (lenN (etaV a))).all (okR (etaV a) (etaV b)) then some (.bool true) else some (.bool false))) else some (.bool false) := by kernel_rfl

theorem c29_kind {a b : Val} (h : c29 a b = false) : (a.kind == b.kind) = true := by
  unfold c29 at h
  simp only [bne] at h
  cases hk : a.kind == b.kind with
  | true => rfl
  | false => rw [hk] at h; simp at h

theorem ref4_n : ∀ n a b, vsz a < n → Snd 29 [.agg (cV a), .agg (cV b)] (.bool (refV a b)) := by
  intro n
  induction n with
  | zero => intro a b h; omega
  | succ n ih =>
    intro a b hv
    refine SoundAt.rooms fun hroom => ?_
    have hT : TOk (tR4 n) := tell_ok (pvv_ok fun a b h => ih a b (by simp only [Nat.blt_eq] at h; exact h)) (tell_ok (pvt_ok fun v a b _ => fits4_sound v a b) (tLen_ok (tell0_ok _)))
    have h1 : Room _ (.agg (cV a)) := hroom _ (by simp)
    have hl : a.l.length * 104 ≤ big := h1 (.pl (pVals a.l) .any) (by simp [cV])
    refine snd_fn (n := 1) hT (noTL_ok _ _) (fn := Tryd.f29) (by kernel_rfl) (loops_of (f := 29) (fn := Tryd.f29) (by kernel_rfl) (loops_1 idsR4.1 (atL_ok (fun _ => LSR4_ok hT) fun h => absurd idsR4.2.1 h))) ((eR4 a b n).trans ?_)
    rw [etaV_eq, etaV_eq, refV_eq a b]
    cases h6 : b.kind == 6 with
    | true => rfl
    | false =>
      cases hc : c29 a b with
      | true => rfl
      | false =>
        cases hn : lenV a != lenV b with
        | true => rfl
        | false =>
          have hn' : Nat.beq (lenN a) (lenN b) = true := by
            rw [lenV_eq, lenV_eq] at hn
            have := bne_eq_false_iff_eq.1 hn
            rw [show lenN a = lenN b by omega]; exact Nat.beq_refl _
          simp only [cond_false, beq_self_eq_true, cond_true]
          rw [hn', c29_kind hc, ck_t (by rw [ble_t (by omega), ble_t (by omega)]; rfl)]
          show (bif (List.range (lenN a)).all (okR a b) then _ else _) = some (D.bool ((List.range (lenN a)).all (okR a b)))
          cases (List.range (lenN a)).all (okR a b) <;> rfl

theorem ref4_sound (a b : Val) : Snd 29 [.agg (cV a), .agg (cV b)] (.bool (refV a b)) := ref4_n _ a b (Nat.lt_succ_self _)

-- slices.EqualFunc with 'Refines'

def s48R (a b : List Val) (i : Int) : St Pl := mkS 32 [(1, .pl (pVals b) .any), (2, .fn 26 []), (6, .bool false), (15, .pl (pVals a) .any), (16, dI a.length), (17, dI i)] []
def r48R (b : List Val) : St Pl := mkS 32 [(1, .pl (pVals b) .any), (2, .fn 26 []), (6, .bool false)] []
def tRefP (n : Nat) : Eng.Told Pl := tell 26 (pvv fun a b => (Nat.blt (vsz a) n, .bool (refV a b))) tell0

theorem b48R (a b : List Val) (n i : Nat) : evD (tRefP n) noTL noL 1 (loopAt 46 0) [1, 2, 6, 15, 16, 17] [8, 9] (s48R a b i) =
    lt_ i a.length (ix_ i a.length (ix_ i b.length (ck_ (Nat.blt (vsz (etaV (a.getD i default))) n) (bif !(refV (etaV (a.getD i default)) (etaV (b.getD i default))) then some (.ret, s48R a b i) else some (.normal, s48R a b (IntKind.i64.wrap ((i : Int) + 1))))))) (some (.exit 0, s48R a b i)) := by kernel_rfl

theorem ids48RR : (loopsAt 46).length = 1 ∧ firstId (loopAt 46 0) = 4 ∧ loopsOf (loopAt 46 0) = [] := ⟨by kernel_rfl, by kernel_rfl, by kernel_rfl⟩

def LS48R (n : Nat) (S : St Pl) : Option (Bool × LR Pl) := match seenS 32 [1, 2, 6, 15, 16, 17] S with
  | some ([.pl ⟨.vals, b⟩ .any, .fn 26 [], .bool false, .pl ⟨.vals, a⟩ .any, .int .i64 k, .int .i64 (.ofNat 0)], []) =>
    some (k == (a.length : Int) && (Nat.beq a.length b.length && (Nat.ble a.length big && Nat.blt (vszs a) n)), .ite ((List.range a.length).all fun i => refV (a.getD i default) (b.getD i default)) (.leaf (.exit 0) (r48R b)) (.leaf .ret (r48R b)))
  | _ => none

theorem LS48R_ok {n : Nat} (hT : TOk (tRefP n)) : SOk X0 (loopAt 46 0) (LS48R n) := by
  intro S c r h hc
  unfold LS48R at h
  split at h
  · rename_i b a k hs
    simp only [Option.some.injEq, Prod.mk.injEq] at h
    obtain ⟨rfl, rfl⟩ := h
    simp only [Bool.and_eq_true, Nat.ble_eq, Nat.blt_eq, beq_iff_eq] at hc
    obtain ⟨rfl, hl, hb, hsz⟩ := hc
    have hl := Nat.eq_of_beq_eq_true hl
    refine Goes.pre (keepOf [1, 2, 6, 15, 16, 17]) ?_
    rw [seenS_mask hs]
    have hstep : ∀ i : Nat, i < a.length → evD (tRefP n) noTL noL 1 (loopAt 46 0) [1, 2, 6, 15, 16, 17] [8, 9] (s48R a b i) = bif !(refV (a.getD i default) (b.getD i default)) then some (.ret, s48R a b i) else some (.normal, s48R a b ((i + 1 : Nat) : Int)) := by
      intro i hi
      have := vszs_mem (getD_mem (d := default) hi)
      rw [b48R, lt_t hi, ix_t hi, ix_t (by omega), etaV_eq, etaV_eq, ck_t (blt_t (by omega)), wrap_nat (show i ≤ big by omega)]
    refine loop_search (Sf := fun i => s48R a b i) (n := a.length) (p := fun i => refV (a.getD i default) (b.getD i default)) (by simp) (by simp) (fun i hi hp => ?_) (fun i hi hp => ?_) ?_
    · have hp : refV (a.getD i default) (b.getD i default) = true := hp
      exact goes_ofD hT (noTL_ok _ _) (noLoops ids48RR.2.2) ((hstep i hi).trans (by rw [hp]; rfl))
    · have hp : refV (a.getD i default) (b.getD i default) = false := hp
      exact (goes_ofD hT (noTL_ok _ _) (noLoops ids48RR.2.2) ((hstep i hi).trans (show _ = some (.ret, s48R a b i) by rw [hp]; rfl))).post (keepOf [1, 2, 6])
    · exact (goes_ofD hT (noTL_ok _ _) (noLoops ids48RR.2.2) ((b48R a b n a.length).trans (show _ = some (.exit 0, s48R a b a.length) by rw [lt_f (by omega)]))).post (keepOf [1, 2, 6])
  · simp at h

theorem e48R (a b : List Val) (n : Nat) : evF (tRefP n) noTL (atL 4 (LS48R n) noL) 1 Tryd.f46 [.pl (pVals a) .any, .pl (pVals b) .any, .fn 26 []] =
    bif ((a.length : Int) != (b.length : Int)) then some (.bool false) else ck_ (((a.length : Int) == (a.length : Int)) && (Nat.beq a.length b.length && (Nat.ble a.length big && Nat.blt (vszs a) n))) (bif (List.range a.length).all (fun i => refV (a.getD i default) (b.getD i default)) then some (.bool true) else some (.bool false)) := by kernel_rfl

def eqR (a b : List Val) : Bool := ((a.length : Int) == (b.length : Int)) && (List.range a.length).all fun i => refV (a.getD i default) (b.getD i default)

theorem eqfuncR {n : Nat} (hT : TOk (tRefP n)) (a b : List Val) (hn : vszs a < n) : Snd 46 [.pl (pVals a) .any, .pl (pVals b) .any, .fn 26 []] (.bool (eqR a b)) := by
  refine SoundAt.rooms fun hroom => snd_fn (n := 1) hT (noTL_ok _ _) (fn := Tryd.f46) (by kernel_rfl) (loops_of (fn := Tryd.f46) (by kernel_rfl) (loops_1 ids48RR.1 (atL_ok (fun _ => LS48R_ok hT) fun h => absurd ids48RR.2.1 h))) ((e48R a b n).trans ?_)
  have ha : a.length * 104 ≤ big := hroom (.pl (pVals a) .any) (by simp)
  unfold eqR
  by_cases hl : a.length = b.length
  · rw [show ((a.length : Int) != (b.length : Int)) = false by rw [hl]; simp, ck_t (by rw [beq_self_eq_true, hl, Nat.beq_refl, ble_t (by omega), blt_t hn]; rfl), show ((a.length : Int) == (b.length : Int)) = true by rw [hl]; simp]
    cases (List.range a.length).all (fun i => refV (a.getD i default) (b.getD i default)) <;> rfl
  · rw [show ((a.length : Int) != (b.length : Int)) = true by rw [bne_iff_ne]; omega, show ((a.length : Int) == (b.length : Int)) = false by rw [beq_eq_false_iff_ne]; omega]
    rfl

def pEqFR (n : Nat) : List (D Pl) → Option (Bool × D Pl)
  | [d, e, .fn 26 []] => match asL .vals d, asL .vals e with
    | some a, some b => some (Nat.blt (vszs a) n, .bool (eqR a b))
    | _, _ => none
  | _ => none

theorem pEqFR_ok {n : Nat} (hT : TOk (tRefP n)) : ∀ ds b d, pEqFR n ds = some (b, d) → b = true → Snd 46 ds d := by
  intro ds b d h hb
  unfold pEqFR at h
  split at h
  · split at h
    · rename_i h1 h2
      simp only [Option.some.injEq, Prod.mk.injEq] at h
      obtain ⟨rfl, rfl⟩ := h
      simp only [Nat.blt_eq] at hb
      exact (eqfuncR hT _ _ (by omega)).pre (.cons (asL_rdle h1) (.cons (asL_rdle h2) (.cons (RDle.refl _) .nil)))
    · simp at h
  · simp at h


def tRP (n : Nat) : Eng.Told Pl := tell 42 (pvt fun v a b => (true, .bool (fitsV v a b))) (tKeys (tItems (tell 44 pEqual (tell 46 (pEqFR n) tell0))))

theorem eRP (a b : Val) (n : Nat) : ev (tRP n) noTL 1 26 [.agg (cV a), .agg (cV b)] =
    bif b.kind == 6 then some (.bool (fitsV (etaV a) b.tk b.tof)) else bif (c29 a b == false) then (bif !(keysV (etaV a) == keysV (etaV b)) then some (.bool false) else ck_ (Nat.blt (vszs (itemsV (etaV a))) n) (some (.bool (eqR (itemsV (etaV a)) (itemsV (etaV b)))))) else some (.bool false) := by kernel_rfl

theorem keysV_len5 {v : Val} (h : (v.kind == 5) = true) : (keysV v).length = lenN v := by
  have h5 := beq_iff_eq.1 h
  have h4 : (v.kind == 4) = false := by rw [h5]; rfl
  unfold keysV lenN
  rw [h4, show (v.kind != 5) = false by rw [h5]; rfl, h]
  simp only [cond_true, cond_false, List.length_take]; omega

theorem keysV_get {v : Val} (h : (v.kind == 5) = true) {i : Nat} (hi : i < lenN v) : (keysV v).getD i [] = v.keys.getD i [] := by
  have h5 := beq_iff_eq.1 h
  have h4 : (v.kind == 4) = false := by rw [h5]; rfl
  unfold lenN at hi
  unfold keysV
  rw [h4, h] at hi
  simp only [cond_true, cond_false] at hi
  rw [show (v.kind != 5) = false by rw [h5]; rfl]
  have hi2 : i < v.keys.length := by omega
  simp [List.getD_eq_getElem?_getD, List.getElem?_take, hi, hi2]

theorem keys_dif {a b : Val} (hk : (a.kind == b.kind) = true) (hn : lenN a = lenN b) : (keysV a == keysV b) = (List.range (lenN a)).all fun i => !(kDif a b i) := by
  have hk' := beq_iff_eq.1 hk
  cases h5 : a.kind == 5 with
  | false =>
    have h5b : (b.kind == 5) = false := by rw [← hk']; exact h5
    have : ∀ i, kDif a b i = false := by intro i; unfold kDif; rw [h5]; rfl
    have e : ((List.range (lenN a)).all fun i => !(kDif a b i)) = true := by rw [List.all_eq_true]; intro i _; rw [this]; rfl
    rw [e]
    unfold keysV
    rw [show (a.kind != 5) = true by unfold bne; rw [h5]; rfl, show (b.kind != 5) = true by unfold bne; rw [h5b]; rfl]
    rfl
  | true =>
    have h5b : (b.kind == 5) = true := by rw [← hk']; exact h5
    rw [← all_beq [] (keysV a) (keysV b) (by rw [keysV_len5 h5, keysV_len5 h5b, hn]), keysV_len5 h5, Bool.eq_iff_iff, List.all_eq_true, List.all_eq_true]
    have key : ∀ i, i < lenN a → ((keysV a).getD i [] == (keysV b).getD i []) = !(kDif a b i) := by
      intro i hi
      unfold kDif
      rw [keysV_get h5 hi, keysV_get h5b (by omega), h5]
      simp
    exact ⟨fun h i hi => by rw [← key i (by simpa using hi)]; exact h i hi, fun h i hi => by rw [key i (by simpa using hi)]; exact h i hi⟩

theorem eqR_items (a b : Val) : eqR (itemsV a) (itemsV b) = (decide (lenN a = lenN b) && (List.range (lenN a)).all fun i => refV ((itemsV a).getD i default) ((itemsV b).getD i default)) := by
  unfold eqR
  rw [itemsV_len, itemsV_len]
  congr 1
  rw [Bool.eq_iff_iff, beq_iff_eq, decide_eq_true_eq]
  omega

theorem ref_n : ∀ n a b, vsz a < n → Snd 26 [.agg (cV a), .agg (cV b)] (.bool (refV a b)) := by
  intro n
  induction n with
  | zero => intro a b h; omega
  | succ n ih =>
    intro a b hv
    have hT : TOk (tRefP n) := tell_ok (pvv_ok fun a b h => ih a b (by simp only [Nat.blt_eq] at h; exact h)) (tell0_ok _)
    have h1 := vszs_items a
    refine snd_of (tell_ok (pvt_ok fun v a b _ => fits_sound v a b) (tKeys_ok (tItems_ok (tell_ok pEqual_ok (tell_ok (pEqFR_ok hT) (tell0_ok _)))))) (noTL_ok _ _) ((eRP a b n).trans ?_)
    rw [etaV_eq, etaV_eq, ck_t (blt_t (by omega)), refV_eq a b]
    cases h6 : b.kind == 6 with
    | true => rfl
    | false =>
      cases hc : c29 a b with
      | true => rfl
      | false =>
        simp only [cond_false, beq_self_eq_true, cond_true]
        have hk := c29_kind hc
        rw [eqR_items]
        by_cases hn : lenN a = lenN b
        · rw [keys_dif hk hn, show (lenV a != lenV b) = false by rw [lenV_eq, lenV_eq, hn]; simp, all_and (lenN a) (fun i => !(kDif a b i)) fun i => refV (a.l.getD i default) (b.l.getD i default)]
          have e : ((List.range (lenN a)).all fun i => refV ((itemsV a).getD i default) ((itemsV b).getD i default)) = (List.range (lenN a)).all fun i => refV (a.l.getD i default) (b.l.getD i default) := by
            rw [Bool.eq_iff_iff, List.all_eq_true, List.all_eq_true]
            have key : ∀ i, i < lenN a → refV ((itemsV a).getD i default) ((itemsV b).getD i default) = refV (a.l.getD i default) (b.l.getD i default) := fun i hi => by rw [itemsV_get a hi, itemsV_get b (by omega)]
            exact ⟨fun h i hi => by rw [← key i (by simpa using hi)]; exact h i hi, fun h i hi => by rw [key i (by simpa using hi)]; exact h i hi⟩
          rw [e]
          simp only [cond_false, hn, decide_true, Bool.true_and]
          cases (List.range (lenN b)).all (fun i => !(kDif a b i)) <;> rfl
        · rw [show (lenV a != lenV b) = true by rw [lenV_eq, lenV_eq, bne_iff_ne]; omega, decide_eq_false hn]
          cases !(keysV a == keysV b) <;> rfl

theorem ref_sound (a b : Val) : Snd 26 [.agg (cV a), .agg (cV b)] (.bool (refV a b)) := ref_n _ a b (Nat.lt_succ_self _)

end Go.Proofs.YtibfgggccedmdaaDoor
