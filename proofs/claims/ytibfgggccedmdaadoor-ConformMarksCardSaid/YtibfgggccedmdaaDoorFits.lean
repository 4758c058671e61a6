/-
  WHETHER A VALUE FITS A TYPE: the program's and the document's answer, the same.
-/
import Derived.Test.YtibfgggccedmdaaDoorSecret
namespace Go.Proofs.YtibfgggccedmdaaDoor
open Go.Eng

set_option maxRecDepth 100000

mutual
def fitsV : Val → Int → Int → Bool
  | ⟨k, i, s, l, ks, tk, tof, sec⟩, a, b => bif !(tck a b) then false else bif (bif a == 0 then true else k == 0) then true else bif k == 6 then wth tk tof a b else bif k != a then false else fitsVs l (lenN ⟨k, i, s, l, ks, tk, tof, sec⟩) b
def fitsVs : List Val → Nat → Int → Bool
  | [], _, _ => true
  | x :: r, n, b => match n with
    | 0 => true
    | m + 1 => fitsV x b 0 && fitsVs r m b
end

theorem fitsVs_eq (b : Int) : ∀ (l : List Val) (n : Nat), n ≤ l.length → fitsVs l n b = (List.range n).all fun i => fitsV (l.getD i default) b 0
  | [], n, h => by
    obtain rfl : n = 0 := by simpa using h
    rfl
  | x :: r, 0, _ => rfl
  | x :: r, n + 1, h => by
    rw [fitsVs, all_range_succ, fitsVs_eq b r n (by simpa using h)]
    rfl

theorem fitsV_eq (v : Val) (a b : Int) : fitsV v a b = bif !(tck a b) then false else bif (bif a == 0 then true else v.kind == 0) then true else bif v.kind == 6 then wth v.tk v.tof a b else bif v.kind != a then false else (List.range (lenN v)).all fun i => fitsV (v.l.getD i default) b 0 := by
  obtain ⟨k, i, s, l, ks, tk, tof, sec⟩ := v
  rw [fitsV, fitsVs_eq b l _ (lenN_le ⟨k, i, s, l, ks, tk, tof, sec⟩)]

/-- a contract for a value and a type; for two types -/
def pvt (f : Val → Int → Int → Bool × D Pl) : List (D Pl) → Option (Bool × D Pl)
  | [d, .agg [.int .i64 a, .int .i64 b]] => match asV d with
    | some v => some (f v a b)
    | none => none
  | _ => none
theorem pvt_ok {g : FuncId} {f : Val → Int → Int → Bool × D Pl} (h : ∀ v a b, (f v a b).1 = true → Snd g [.agg (cV v), .agg [dI a, dI b]] (f v a b).2) : ∀ ds b d, pvt f ds = some (b, d) → b = true → Snd g ds d := by
  intro ds b d hp hb
  unfold pvt at hp
  split at hp
  · split at hp
    · rename_i ha
      simp only [Option.some.injEq] at hp
      have h1 := h _ _ _ (by rw [hp]; exact hb)
      rw [hp] at h1
      exact h1.pre (.cons (asV_rdle ha) (.cons (RDle.refl _) .nil))
    · simp at hp
  · simp at hp
def pTT (f : Int → Int → Int → Int → D Pl) : List (D Pl) → Option (Bool × D Pl)
  | [.agg [.int .i64 a, .int .i64 b], .agg [.int .i64 c, .int .i64 d]] => some (true, f a b c d)
  | _ => none
theorem pTT_ok {g : FuncId} {f : Int → Int → Int → Int → D Pl} (h : ∀ a b c d, Snd g [.agg [dI a, dI b], .agg [dI c, dI d]] (f a b c d)) : ∀ ds b d, pTT f ds = some (b, d) → b = true → Snd g ds d := by
  intro ds b d hp hb
  unfold pTT at hp
  split at hp
  · simp only [Option.some.injEq, Prod.mk.injEq] at hp
    obtain ⟨_, rfl⟩ := hp
    exact h _ _ _ _
  · simp at hp

-- the document's

def h47 (v : Val) (a b : Int) : Obs Pl := [(3, .box false [dI a, dI b]), (2, .box false (cV v))]
def s47 (v : Val) (a b : Int) (i : Int) : St Pl := mkS 45 [(2, .ptr 2 0), (3, .ptr 3 0), (4, .bool false), (5, dI i)] (h47 v a b)
def r47 (v : Val) (a b : Int) : St Pl := mkS 45 [(2, .ptr 2 0), (3, .ptr 3 0), (4, .bool false)] (h47 v a b)
def tF4 (n : Nat) : Eng.Told Pl := tell 47 (pvt fun v a b => (Nat.blt (vsz v) n, .bool (fitsV v a b))) (tell 30 pT (tell 64 (pTT fun a b c d => .bool (wth a b c d)) (tLen tell0)))

theorem b47 (v : Val) (a b : Int) (n i : Nat) : evC (tF4 n) noTL noL 1 (loopAt 47 0) [2, 3, 4, 5] (s47 v a b i) =
    bif decide ((i : Int) < lenV (etaV v)) then ix_ i v.l.length (ck_ (Nat.blt (vsz (etaV (v.l.getD i default))) n) (bif !(fitsV (etaV (v.l.getD i default)) b 0) then some (.ret, s47 v a b i) else some (.normal, s47 v a b (IntKind.i64.wrap ((i : Int) + 1))))) else some (.exit 0, s47 v a b i) := by kernel_rfl

theorem ids47 : (loopsAt 47).length = 1 ∧ firstId (loopAt 47 0) = 10 ∧ loopsOf (loopAt 47 0) = [] := ⟨by kernel_rfl, by kernel_rfl, by kernel_rfl⟩

def LS47 (n : Nat) (S : St Pl) : Option (Bool × LR Pl) := match seenS 45 [2, 3, 4, 5] S with
  | some ([.ptr 2 0, .ptr 3 0, .bool false, .int .i64 (.ofNat 0)], [(3, .box false [.int .i64 a, .int .i64 b]), (2, .box false c)]) => (match exV c with
    | some v => some (Nat.ble v.l.length big && Nat.ble (vsz v) n, .ite ((List.range (lenN v)).all fun i => fitsV (v.l.getD i default) b 0) (.leaf (.exit 0) (r47 v a b)) (.leaf .ret (r47 v a b)))
    | none => none)
  | _ => none

theorem LS47_ok {n : Nat} (hT : TOk (tF4 n)) : SOk X0 (loopAt 47 0) (LS47 n) := by
  intro S c r h hb
  unfold LS47 at h
  split at h
  · rename_i a b c hs
    split at h
    · rename_i v hv
      simp only [Option.some.injEq, Prod.mk.injEq] at h
      obtain ⟨rfl, rfl⟩ := h
      simp only [Bool.and_eq_true, Nat.ble_eq] at hb
      obtain ⟨hbig, hsz⟩ := hb
      obtain rfl := exV_eq hv
      refine Goes.pre (keepOf [2, 3, 4, 5]) ?_
      rw [seenS_mask hs]
      refine search_of hT ids47.2.2 (k := 1) (keep := [2, 3, 4, 5]) (keep2 := [2, 3, 4]) (Sf := fun i => s47 v a b i) (S2' := fun i => s47 v a b i) (n := lenN v) (p := fun i => fitsV (v.l.getD i default) b 0) (by simp) (by simp) (fun i hi => ?_) ?_ (by kernel_rfl) (fun i => by kernel_rfl)
      · have hl := lenN_le v
        have hlt : i < v.l.length := by omega
        have hs := vsz_elem (getD_mem (d := default) hlt)
        refine (b47 v a b n i).trans ?_
        rw [etaV_eq, etaV_eq, lenV_eq, decide_eq_true (show (i : Int) < (lenN v : Int) by omega), ix_t hlt, ck_t (blt_t (by omega)), wrap_nat (show i ≤ big by omega)]
        cases fitsV (v.l.getD i default) b 0 <;> rfl
      · refine (b47 v a b n (lenN v)).trans ?_
        rw [etaV_eq, lenV_eq, decide_eq_false (by omega)]
        rfl
    · simp at h
  · simp at h

theorem e47f (v : Val) (a b : Int) (n : Nat) : evF (tF4 n) noTL (atL 10 (LS47 n) noL) 1 Tryd.f47 [.agg (cV v), .agg [dI a, dI b]] =
    bif !(tck a b) then some (.bool false) else bif (bif a == 0 then true else v.kind == 0) then some (.bool true) else bif v.kind == 6 then some (.bool (wth v.tk v.tof a b)) else bif v.kind != a then some (.bool false) else
    ck_ (Nat.ble v.l.length big && Nat.ble (vsz (etaV v)) n) (bif (List.range (lenN (etaV v))).all (fun i => fitsV (v.l.getD i default) b 0) then some (.bool true) else some (.bool false)) := by kernel_rfl

theorem if_some {c : Bool} {x y : Option (D Pl)} {d e : Bool} (hx : x = some (.bool d)) (hy : y = some (.bool e)) : (bif c then x else y) = some (.bool (bif c then d else e)) := by
  subst hx hy; cases c <;> rfl

theorem fits4_n : ∀ n v a b, vsz v < n → Snd 47 [.agg (cV v), .agg [dI a, dI b]] (.bool (fitsV v a b)) := by
  intro n
  induction n with
  | zero => intro v a b h; omega
  | succ n ih =>
    intro v a b hv
    refine SoundAt.rooms fun hroom => ?_
    have hT : TOk (tF4 n) := tell_ok (pvt_ok fun v a b h => ih v a b (by simp only [Nat.blt_eq] at h; exact h)) (tell_ok pT_ok (tell_ok (pTT_ok w03_sound) (tLen_ok (tell0_ok _))))
    have h1 : Room _ (.agg (cV v)) := hroom _ (by simp)
    have hl : v.l.length * 104 ≤ big := h1 (.pl (pVals v.l) .any) (by simp [cV])
    refine snd_fn (n := 1) hT (noTL_ok _ _) (fn := Tryd.f47) (by kernel_rfl) (loops_of (f := 47) (fn := Tryd.f47) (by kernel_rfl) (loops_1 ids47.1 (atL_ok (fun _ => LS47_ok hT) fun h => absurd ids47.2.1 h))) ((e47f v a b n).trans ?_)
    rw [etaV_eq, ck_t (by rw [ble_t (by omega), ble_t (by omega)]; rfl), fitsV_eq v]
    refine if_some rfl (if_some rfl (if_some rfl (if_some rfl ?_)))
    cases (List.range (lenN v)).all (fun i => fitsV (v.l.getD i default) b 0) <;> rfl

theorem fits4_sound (v : Val) (a b : Int) : Snd 47 [.agg (cV v), .agg [dI a, dI b]] (.bool (fitsV v a b)) := fits4_n _ v a b (Nat.lt_succ_self _)

-- the program's: slices.IndexFunc with its closure

def pvr (f : Val → Int → Int → Bool × D Pl) : List (D Pl) → Option (Bool × D Pl)
  | [d, .ref [.int .i64 a, .int .i64 b]] => match asV d with
    | some v => some (f v a b)
    | none => none
  | _ => none
theorem pvr_ok {g : FuncId} {f : Val → Int → Int → Bool × D Pl} (h : ∀ v a b, (f v a b).1 = true → Snd g [.agg (cV v), .ref [dI a, dI b]] (f v a b).2) : ∀ ds b d, pvr f ds = some (b, d) → b = true → Snd g ds d := by
  intro ds b d hp hb
  unfold pvr at hp
  split at hp
  · split at hp
    · rename_i ha
      simp only [Option.some.injEq] at hp
      have h1 := h _ _ _ (by rw [hp]; exact hb)
      rw [hp] at h1
      exact h1.pre (.cons (asV_rdle ha) (.cons (RDle.refl _) .nil))
    · simp at hp
  · simp at hp

def tFc (n : Nat) : Eng.Told Pl := tell 63 (pvr fun v _ b => (Nat.blt (vsz v) n, .bool (!(fitsV v b 0)))) tell0

def s57f (a b : Int) (l : List Val) (x i : Int) : St Pl := mkS 19 [(0, .pl (pVals l) .any), (1, .fn 63 [.ref [dI a, dI b]]), (4, dI x), (7, dI l.length), (8, dI i)] []
def r57f (a b : Int) (l : List Val) (x : Int) : St Pl := mkS 19 [(0, .pl (pVals l) .any), (1, .fn 63 [.ref [dI a, dI b]]), (4, dI x)] []

theorem b57f (a b : Int) (l : List Val) (n i : Nat) : evC (tFc n) noTL noL 1 (loopAt 57 0) [0, 1, 4, 7, 8] (s57f a b l 0 i) =
    lt_ i l.length (ix_ i l.length (ck_ (Nat.blt (vsz (etaV (l.getD i default))) n) (bif !(fitsV (etaV (l.getD i default)) b 0) then some (.ret, s57f a b l i i) else some (.normal, s57f a b l 0 (IntKind.i64.wrap ((i : Int) + 1)))))) (some (.exit 0, s57f a b l 0 i)) := by kernel_rfl

def LS57f (n : Nat) (S : St Pl) : Option (Bool × LR Pl) := match seenS 19 [0, 1, 4, 7, 8] S with
  | some ([.pl ⟨.vals, l⟩ .any, .fn 63 [.ref [.int .i64 a, .int .i64 b]], .int .i64 (.ofNat 0), .int .i64 k, .int .i64 (.ofNat 0)], []) =>
    some (k == (l.length : Int) && (Nat.ble l.length big && Nat.blt (vszs l) n), loopR l.length (fun i => !(!(fitsV (l.getD i default) b 0))) (.exit 0) (r57f a b l 0) .ret (fun i => r57f a b l i))
  | _ => none

theorem LS57f_ok {n : Nat} (hT : TOk (tFc n)) : SOk X0 (loopAt 57 0) (LS57f n) := by
  intro S c r h hc
  unfold LS57f at h
  split at h
  · rename_i l a b k hs
    simp only [Option.some.injEq, Prod.mk.injEq] at h
    obtain ⟨rfl, rfl⟩ := h
    simp only [Bool.and_eq_true, Nat.ble_eq, Nat.blt_eq, beq_iff_eq] at hc
    obtain ⟨rfl, hb, hsz⟩ := hc
    refine Goes.pre (keepOf [0, 1, 4, 7, 8]) ?_
    rw [seenS_mask hs]
    have hstep : ∀ i : Nat, i < l.length → evC (tFc n) noTL noL 1 (loopAt 57 0) [0, 1, 4, 7, 8] (s57f a b l 0 i) = bif !(fitsV (l.getD i default) b 0) then some (.ret, s57f a b l i i) else some (.normal, s57f a b l 0 ((i + 1 : Nat) : Int)) := by
      intro i hi
      have := vszs_mem (getD_mem (d := default) hi)
      rw [b57f, lt_t hi, ix_t hi, etaV_eq, ck_t (blt_t (by omega)), wrap_nat (show i ≤ big by omega)]
    refine loop_gen (Sf := fun i => s57f a b l 0 i) (n := l.length) (p := fun i => !(!(fitsV (l.getD i default) b 0))) (by simp) (by simp) (fun i hi hp => ?_) (fun i hi hp => ?_) ?_
    · have hp : (!(fitsV (l.getD i default) b 0)) = false := by simpa using hp
      exact goes_of hT (noTL_ok _ _) (noLoops ids57.2.2) ((hstep i hi).trans (by rw [hp]; rfl))
    · have hp : (!(fitsV (l.getD i default) b 0)) = true := by simpa using hp
      exact (goes_of hT (noTL_ok _ _) (noLoops ids57.2.2) ((hstep i hi).trans (show _ = some (.ret, s57f a b l i i) by rw [hp]; rfl))).post (keepOf [0, 1, 4])
    · exact (goes_of hT (noTL_ok _ _) (noLoops ids57.2.2) ((b57f a b l n l.length).trans (show _ = some (.exit 0, s57f a b l 0 l.length) by rw [lt_f (by omega)]))).post (keepOf [0, 1, 4])
  · simp at h

def q57f (a b : Int) (x : Val) : Bool := !(fitsV x b 0)

theorem e57f (a b : Int) (l : List Val) (n : Nat) : evF (tFc n) noTL (atL 2 (LS57f n) noL) 1 Tryd.f57 [.pl (pVals l) .any, .fn 63 [.ref [dI a, dI b]]] =
    ck_ (((l.length : Int) == (l.length : Int)) && (Nat.ble l.length big && Nat.blt (vszs l) n)) (bif Nat.beq (posQ (q57f a b) l) l.length then some (dI (-1)) else some (dI (posQ (q57f a b) l))) := by kernel_rfl

theorem index57f {n : Nat} (hT : TOk (tFc n)) (a b : Int) (l : List Val) (hl : vszs l < n) : Snd 57 [.pl (pVals l) .any, .fn 63 [.ref [dI a, dI b]]] (dI (idxQ (q57f a b) l)) := by
  refine SoundAt.rooms fun hroom => snd_fn (n := 1) hT (noTL_ok _ _) (fn := Tryd.f57) (by kernel_rfl) (loops_of (f := 57) (fn := Tryd.f57) (by kernel_rfl) (loops_1 ids57.1 (atL_ok (fun _ => LS57f_ok hT) fun h => absurd ids57.2.1 h))) ((e57f a b l n).trans ?_)
  have ha : l.length * 104 ≤ big := hroom (.pl (pVals l) .any) (by simp)
  rw [ck_t (by rw [beq_self_eq_true, ble_t (by omega), blt_t hl]; rfl)]
  unfold idxQ
  cases Nat.beq (posQ (q57f a b) l) l.length <;> rfl

def pIFf (n : Nat) : List (D Pl) → Option (Bool × D Pl)
  | [d, .fn 63 [.ref [.int .i64 a, .int .i64 b]]] => match asL .vals d with
    | some l => some (Nat.blt (vszs l) n, dI (idxQ (q57f a b) l))
    | none => none
  | _ => none

theorem pIFf_ok {n : Nat} (hT : TOk (tFc n)) : ∀ ds b d, pIFf n ds = some (b, d) → b = true → Snd 57 ds d := by
  intro ds b d hp hb
  unfold pIFf at hp
  split at hp
  · split at hp
    · rename_i l hl
      simp only [Option.some.injEq, Prod.mk.injEq] at hp
      obtain ⟨h1, rfl⟩ := hp
      rw [hb] at h1
      simp only [Nat.blt_eq] at h1
      exact (index57f hT _ _ l h1).pre (.cons (asL_rdle hl) (.cons (RDle.refl _) .nil))
    · simp at hp
  · simp at hp

def tFp (n : Nat) : Eng.Told Pl := tell 57 (pIFf n) (tTyp (tell 62 (pTT fun a b c d => .bool (wth a b c d)) (tItems tell0)))

theorem e42f (v : Val) (a b : Int) (n : Nat) : ev (tFp n) noTL 2 42 [.agg (cV v), .agg [dI a, dI b]] =
    bif ((bif tck a b then 0 else 1) != (0 : Int)) then some (.bool false) else bif (bif a == 0 then true else v.kind == 0) then some (.bool true) else bif v.kind == 6 then some (.bool (wth v.tk v.tof a b)) else bif v.kind != a then some (.bool false) else
    ck_ (Nat.blt (vszs (itemsV (etaV v))) n) (some (.bool (!(decide (idxQ (q57f a b) (itemsV (etaV v)) ≥ 0))))) := by kernel_rfl

theorem e63 (v : Val) (a b : Int) (n : Nat) : ev (tell 42 (pvt fun v a b => (Nat.blt (vsz v) n, .bool (fitsV v a b))) tell0) noTL 1 63 [.agg (cV v), .ref [dI a, dI b]] = ck_ (Nat.blt (vsz (etaV v)) n) (some (.bool (!(fitsV (etaV v) b 0)))) := by kernel_rfl

theorem fits_n : ∀ n v a b, vsz v < n → Snd 42 [.agg (cV v), .agg [dI a, dI b]] (.bool (fitsV v a b)) := by
  intro n
  induction n with
  | zero => intro v a b h; omega
  | succ n ih =>
    intro v a b hv
    have hT : TOk (tFc n) := tell_ok (pvr_ok fun v a b h => by
      have h : vsz v < n := by simp only [Nat.blt_eq] at h; exact h
      refine snd_of (tell_ok (pvt_ok fun v a b h => ih v a b (by simp only [Nat.blt_eq] at h; exact h)) (tell0_ok _)) (noTL_ok _ _) ((e63 v a b n).trans ?_)
      rw [etaV_eq, ck_t (blt_t h)]) (tell0_ok _)
    have h1 := vszs_items v
    refine snd_of (tell_ok (pIFf_ok hT) (tTyp_ok (tell_ok (pTT_ok wt_sound) (tItems_ok (tell0_ok _))))) (noTL_ok _ _) ((e42f v a b n).trans ?_)
    have hq : (!(decide (idxQ (q57f a b) (itemsV v) ≥ 0))) = (List.range (lenN v)).all fun i => fitsV (v.l.getD i default) b 0 := by
      rw [idxQ_any, Bool.not_not, items_all v (fun x => !(q57f a b x))]
      unfold q57f
      simp only [Bool.not_not]
    rw [etaV_eq, ck_t (blt_t (by omega)), fitsV_eq v, hq]
    have hc : ((bif tck a b then 0 else 1) != (0 : Int)) = !(tck a b) := by cases tck a b <;> rfl
    rw [hc]
    exact if_some rfl (if_some rfl (if_some rfl (if_some rfl rfl)))

theorem fits_sound (v : Val) (a b : Int) : Snd 42 [.agg (cV v), .agg [dI a, dI b]] (.bool (fitsV v a b)) := fits_n _ v a b (Nat.lt_succ_self _)

end Go.Proofs.YtibfgggccedmdaaDoor
