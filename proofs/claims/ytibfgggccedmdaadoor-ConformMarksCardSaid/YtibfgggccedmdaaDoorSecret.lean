/-
  WHETHER ANYTHING IN A VALUE IS MARKED: the program's and the document's answer, the same.
-/
import Derived.Test.YtibfgggccedmdaaDoorItems
namespace Go.Proofs.YtibfgggccedmdaaDoor
open Go.Eng

set_option maxRecDepth 100000

mutual
def secV : Val → Bool
  | ⟨k, i, s, l, ks, tk, tof, sec⟩ => sec || secVs l (lenN ⟨k, i, s, l, ks, tk, tof, sec⟩)
def secVs : List Val → Nat → Bool
  | [], _ => false
  | x :: r, n => match n with
    | 0 => false
    | m + 1 => secV x || secVs r m
end

theorem secVs_eq : ∀ (l : List Val) (n : Nat), n ≤ l.length → secVs l n = !((List.range n).all fun i => !(secV (l.getD i default)))
  | [], n, h => by
    obtain rfl : n = 0 := by simpa using h
    rfl
  | x :: r, 0, _ => rfl
  | x :: r, n + 1, h => by
    rw [secVs, all_range_succ, secVs_eq r n (by simpa using h)]
    show (secV x || !_) = !(!(secV x) && _)
    cases secV x <;> rfl

theorem secV_eq (v : Val) : secV v = (v.sec || !((List.range (lenN v)).all fun i => !(secV (v.l.getD i default)))) := by
  obtain ⟨k, i, s, l, ks, tk, tof, sec⟩ := v
  rw [secV, secVs_eq l _ (lenN_le ⟨k, i, s, l, ks, tk, tof, sec⟩)]

-- the document's

def s22 (v : Val) (b : Bool) (i : Int) : St Pl := mkS 18 [(1, .ptr 1 0), (2, .bool b), (3, dI i)] [(1, .box false (cV v))]
def r22 (v : Val) (b : Bool) : St Pl := mkS 18 [(1, .ptr 1 0), (2, .bool b)] [(1, .box false (cV v))]
def tSec4 (n : Nat) : Eng.Told Pl := tell 22 (p1 fun v => (Nat.blt (vsz v) n, .bool (secV v))) (tLen tell0)

theorem b22 (v : Val) (n i : Nat) : evC (tSec4 n) noTL noL 1 (loopAt 22 0) [1, 2, 3] (s22 v false i) =
    bif decide ((i : Int) < lenV (etaV v)) then ix_ i v.l.length (ck_ (Nat.blt (vsz (etaV (v.l.getD i default))) n) (bif secV (etaV (v.l.getD i default)) then some (.ret, s22 v true i) else some (.normal, s22 v false (IntKind.i64.wrap ((i : Int) + 1))))) else some (.exit 0, s22 v false i) := by kernel_rfl

theorem ids22 : (loopsAt 22).length = 1 ∧ firstId (loopAt 22 0) = 2 ∧ loopsOf (loopAt 22 0) = [] := ⟨by kernel_rfl, by kernel_rfl, by kernel_rfl⟩

def LS22 (n : Nat) (S : St Pl) : Option (Bool × LR Pl) := match seenS 18 [1, 2, 3] S with
  | some ([.ptr 1 0, .bool false, .int .i64 (.ofNat 0)], [(1, .box false c)]) => (match exV c with
    | some v => some (Nat.ble v.l.length big && Nat.ble (vsz v) n, .ite ((List.range (lenN v)).all fun i => !(secV (v.l.getD i default))) (.leaf (.exit 0) (r22 v false)) (.leaf .ret (r22 v true)))
    | none => none)
  | _ => none

theorem LS22_ok {n : Nat} (hT : TOk (tSec4 n)) : SOk X0 (loopAt 22 0) (LS22 n) := by
  intro S b r h hb
  unfold LS22 at h
  split at h
  · rename_i c hs
    split at h
    · rename_i v hv
      simp only [Option.some.injEq, Prod.mk.injEq] at h
      obtain ⟨rfl, rfl⟩ := h
      simp only [Bool.and_eq_true, Nat.ble_eq] at hb
      obtain ⟨hbig, hsz⟩ := hb
      obtain rfl := exV_eq hv
      refine Goes.pre (keepOf [1, 2, 3]) ?_
      rw [seenS_mask hs]
      refine search_of hT ids22.2.2 (k := 1) (keep := [1, 2, 3]) (keep2 := [1, 2]) (Sf := fun i => s22 v false i) (S2' := fun i => s22 v true i) (n := lenN v) (p := fun i => !(secV (v.l.getD i default))) (by simp) (by simp) (fun i hi => ?_) ?_ (by kernel_rfl) (fun i => by kernel_rfl)
      · have hl := lenN_le v
        have hlt : i < v.l.length := by omega
        have hs := vsz_elem (getD_mem (d := default) hlt)
        refine (b22 v n i).trans ?_
        rw [etaV_eq, etaV_eq, lenV_eq, decide_eq_true (show (i : Int) < (lenN v : Int) by omega), ix_t hlt, ck_t (blt_t (by omega)), wrap_nat (show i ≤ big by omega)]
        cases secV (v.l.getD i default) <;> rfl
      · refine (b22 v n (lenN v)).trans ?_
        rw [etaV_eq, lenV_eq, decide_eq_false (by omega)]
        rfl
    · simp at h
  · simp at h

theorem e22 (v : Val) (n : Nat) : evF (tSec4 n) noTL (atL 2 (LS22 n) noL) 1 Tryd.f22 [.agg (cV v)] = ck_ (Nat.ble v.l.length big && Nat.ble (vsz (etaV v)) n) (bif (List.range (lenN (etaV v))).all fun i => !(secV (v.l.getD i default)) then some (.bool v.sec) else some (.bool true)) := by kernel_rfl

theorem sec4_n : ∀ n v, vsz v < n → Snd 22 [.agg (cV v)] (.bool (secV v)) := by
  intro n
  induction n with
  | zero => intro v h; omega
  | succ n ih =>
    intro v hv
    refine SoundAt.rooms fun hroom => ?_
    have hT : TOk (tSec4 n) := tell_ok (p1_ok fun v h => ih v (by simp only [Nat.blt_eq] at h; exact h)) (tLen_ok (tell0_ok _))
    have h1 : Room _ (.agg (cV v)) := hroom _ (by simp)
    have hl : v.l.length * 104 ≤ big := h1 (.pl (pVals v.l) .any) (by simp [cV])
    refine snd_fn (n := 1) hT (noTL_ok _ _) (fn := Tryd.f22) (by kernel_rfl) (loops_of (f := 22) (fn := Tryd.f22) (by kernel_rfl) (loops_1 ids22.1 (atL_ok (fun _ => LS22_ok hT) fun h => absurd ids22.2.1 h))) ((e22 v n).trans ?_)
    rw [etaV_eq, ck_t (by rw [ble_t (by omega), ble_t (by omega)]; rfl), secV_eq v]
    cases (List.range (lenN v)).all fun i => !(secV (v.l.getD i default)) <;> cases v.sec <;> rfl

theorem sec4_sound (v : Val) : Snd 22 [.agg (cV v)] (.bool (secV v)) := sec4_n _ v (Nat.lt_succ_self _)

-- slices.IndexFunc with the program's

def s57 (l : List Val) (x i : Int) : St Pl := mkS 19 [(0, .pl (pVals l) .any), (1, .fn 19 []), (4, dI x), (7, dI l.length), (8, dI i)] []
def r57 (l : List Val) (x : Int) : St Pl := mkS 19 [(0, .pl (pVals l) .any), (1, .fn 19 []), (4, dI x)] []
def tSecP (n : Nat) : Eng.Told Pl := tell 19 (p1 fun v => (Nat.blt (vsz v) n, .bool (secV v))) tell0

theorem b57 (l : List Val) (n i : Nat) : evC (tSecP n) noTL noL 1 (loopAt 57 0) [0, 1, 4, 7, 8] (s57 l 0 i) =
    lt_ i l.length (ix_ i l.length (ck_ (Nat.blt (vsz (etaV (l.getD i default))) n) (bif secV (etaV (l.getD i default)) then some (.ret, s57 l i i) else some (.normal, s57 l 0 (IntKind.i64.wrap ((i : Int) + 1)))))) (some (.exit 0, s57 l 0 i)) := by kernel_rfl

theorem ids57 : (loopsAt 57).length = 1 ∧ firstId (loopAt 57 0) = 2 ∧ loopsOf (loopAt 57 0) = [] := ⟨by kernel_rfl, by kernel_rfl, by kernel_rfl⟩

def posQ (q : Val → Bool) (l : List Val) : Nat := ff (fun i => !(q (l.getD i default))) l.length
def idxQ (q : Val → Bool) (l : List Val) : Int := bif Nat.beq (posQ q l) l.length then -1 else (posQ q l : Int)

theorem idxQ_any (q : Val → Bool) (l : List Val) : decide (idxQ q l ≥ 0) = !((List.range l.length).all fun i => !(q (l.getD i default))) := by
  unfold idxQ posQ
  rcases ff_spec l.length (fun i => !(q (l.getD i default))) with ⟨h1, h2⟩ | ⟨h1, h2, _⟩
  · rw [h1, Nat.beq_refl]
    have : ((List.range l.length).all fun i => !(q (l.getD i default))) = true := by
      rw [List.all_eq_true]; intro i hi; exact h2 i (by simpa using hi)
    rw [this]; rfl
  · have hb : Nat.beq (ff (fun i => !(q (l.getD i default))) l.length) l.length = false := by
      cases hb : Nat.beq (ff (fun i => !(q (l.getD i default))) l.length) l.length with
      | false => rfl
      | true => have := Nat.eq_of_beq_eq_true hb; omega
    have : ((List.range l.length).all fun i => !(q (l.getD i default))) = false := by
      refine List.all_eq_false.2 ⟨ff (fun i => !(q (l.getD i default))) l.length, List.mem_range.2 h1, ?_⟩
      show ¬ (!(q (l.getD (ff (fun i => !(q (l.getD i default))) l.length) default))) = true
      rw [h2]; simp
    rw [hb, this]
    simp only [cond_false, Bool.not_false, decide_eq_true_eq]
    omega

def LS57 (n : Nat) (S : St Pl) : Option (Bool × LR Pl) := match seenS 19 [0, 1, 4, 7, 8] S with
  | some ([.pl ⟨.vals, l⟩ .any, .fn 19 [], .int .i64 (.ofNat 0), .int .i64 k, .int .i64 (.ofNat 0)], []) =>
    some (k == (l.length : Int) && (Nat.ble l.length big && Nat.blt (vszs l) n), loopR l.length (fun i => !(secV (l.getD i default))) (.exit 0) (r57 l 0) .ret (fun i => r57 l i))
  | _ => none

theorem LS57_ok {n : Nat} (hT : TOk (tSecP n)) : SOk X0 (loopAt 57 0) (LS57 n) := by
  intro S c r h hc
  unfold LS57 at h
  split at h
  · rename_i l k hs
    simp only [Option.some.injEq, Prod.mk.injEq] at h
    obtain ⟨rfl, rfl⟩ := h
    simp only [Bool.and_eq_true, Nat.ble_eq, Nat.blt_eq, beq_iff_eq] at hc
    obtain ⟨rfl, hb, hsz⟩ := hc
    refine Goes.pre (keepOf [0, 1, 4, 7, 8]) ?_
    rw [seenS_mask hs]
    have hstep : ∀ i : Nat, i < l.length → evC (tSecP n) noTL noL 1 (loopAt 57 0) [0, 1, 4, 7, 8] (s57 l 0 i) = bif secV (l.getD i default) then some (.ret, s57 l i i) else some (.normal, s57 l 0 ((i + 1 : Nat) : Int)) := by
      intro i hi
      have := vszs_mem (getD_mem (d := default) hi)
      rw [b57, lt_t hi, ix_t hi, etaV_eq, ck_t (blt_t (by omega)), wrap_nat (show i ≤ big by omega)]
    refine loop_gen (Sf := fun i => s57 l 0 i) (n := l.length) (p := fun i => !(secV (l.getD i default))) (by simp) (by simp) (fun i hi hp => ?_) (fun i hi hp => ?_) ?_
    · have hp : secV (l.getD i default) = false := by simpa using hp
      exact goes_of hT (noTL_ok _ _) (noLoops ids57.2.2) ((hstep i hi).trans (by rw [hp]; rfl))
    · have hp : secV (l.getD i default) = true := by simpa using hp
      exact (goes_of hT (noTL_ok _ _) (noLoops ids57.2.2) ((hstep i hi).trans (show _ = some (.ret, s57 l i i) by rw [hp]; rfl))).post (keepOf [0, 1, 4])
    · exact (goes_of hT (noTL_ok _ _) (noLoops ids57.2.2) ((b57 l n l.length).trans (show _ = some (.exit 0, s57 l 0 l.length) by rw [lt_f (by omega)]))).post (keepOf [0, 1, 4])
  · simp at h

theorem e57 (l : List Val) (n : Nat) : evF (tSecP n) noTL (atL 2 (LS57 n) noL) 1 Tryd.f57 [.pl (pVals l) .any, .fn 19 []] =
    ck_ (((l.length : Int) == (l.length : Int)) && (Nat.ble l.length big && Nat.blt (vszs l) n)) (bif Nat.beq (posQ secV l) l.length then some (dI (-1)) else some (dI (posQ secV l))) := by kernel_rfl

theorem index57 {n : Nat} (hT : TOk (tSecP n)) (l : List Val) (hl : vszs l < n) : Snd 57 [.pl (pVals l) .any, .fn 19 []] (dI (idxQ secV l)) := by
  refine SoundAt.rooms fun hroom => snd_fn (n := 1) hT (noTL_ok _ _) (fn := Tryd.f57) (by kernel_rfl) (loops_of (f := 57) (fn := Tryd.f57) (by kernel_rfl) (loops_1 ids57.1 (atL_ok (fun _ => LS57_ok hT) fun h => absurd ids57.2.1 h))) ((e57 l n).trans ?_)
  have ha : l.length * 104 ≤ big := hroom (.pl (pVals l) .any) (by simp)
  rw [ck_t (by rw [beq_self_eq_true, ble_t (by omega), blt_t hl]; rfl)]
  unfold idxQ
  cases Nat.beq (posQ secV l) l.length <;> rfl

def pIF (g : FuncId) (n : Nat) (q : Val → Bool) : List (D Pl) → Option (Bool × D Pl)
  | [d, .fn f []] => match asL .vals d with
    | some l => bif Nat.beq f g then some (Nat.blt (vszs l) n, dI (idxQ q l)) else none
    | none => none
  | _ => none

theorem pIF_ok {F g : FuncId} {n : Nat} {q : Val → Bool} (h : ∀ l, vszs l < n → Snd F [.pl (pVals l) .any, .fn g []] (dI (idxQ q l))) : ∀ ds b d, pIF g n q ds = some (b, d) → b = true → Snd F ds d := by
  intro ds b d hp hb
  unfold pIF at hp
  split at hp
  · split at hp
    · rename_i f _ l hl
      cases hf : Nat.beq f g with
      | false => rw [hf] at hp; simp at hp
      | true =>
        rw [hf] at hp
        simp only [cond_true, Option.some.injEq, Prod.mk.injEq] at hp
        obtain ⟨h1, rfl⟩ := hp
        obtain rfl := Nat.eq_of_beq_eq_true hf
        rw [hb] at h1
        simp only [Nat.blt_eq] at h1
        exact (h l h1).pre (.cons (asL_rdle hl) (.cons (RDle.refl _) .nil))
    · simp at hp
  · simp at hp

theorem e19p (v : Val) (n : Nat) : ev (tell 57 (pIF 19 n secV) (tItems tell0)) noTL 2 19 [.agg (cV v)] =
    bif (v.sec == false) then ck_ (Nat.blt (vszs (itemsV (etaV v))) n) (some (.bool (decide (idxQ secV (itemsV (etaV v)) ≥ 0)))) else some (.bool true) := by kernel_rfl

theorem vszs_take : ∀ (l : List Val) (n : Nat), vszs (l.take n) ≤ vszs l
  | [], n => by simp
  | x :: r, 0 => by simp [vszs]
  | x :: r, n + 1 => by have := vszs_take r n; simp only [List.take_succ_cons, vszs]; omega

theorem vszs_items (v : Val) : vszs (itemsV v) < vsz v := by
  have := vszs_take v.l (lenN v)
  obtain ⟨k, i, s, l, ks, tk, tof, sec⟩ := v
  simp only [itemsV, vsz] at *
  omega

theorem items_all (v : Val) (q : Val → Bool) : ((List.range (itemsV v).length).all fun i => q ((itemsV v).getD i default)) = (List.range (lenN v)).all fun i => q (v.l.getD i default) := by
  rw [itemsV_len, Bool.eq_iff_iff, List.all_eq_true, List.all_eq_true]
  constructor <;> intro h i hi <;> have h1 := h i hi <;> have hi : i < lenN v := by simpa using hi
  · rwa [itemsV_get v hi] at h1
  · rwa [itemsV_get v hi]

theorem sec_n : ∀ n v, vsz v < n → Snd 19 [.agg (cV v)] (.bool (secV v)) := by
  intro n
  induction n with
  | zero => intro v h; omega
  | succ n ih =>
    intro v hv
    have hT : TOk (tSecP n) := tell_ok (p1_ok fun v h => ih v (by simp only [Nat.blt_eq] at h; exact h)) (tell0_ok _)
    have h1 := vszs_items v
    refine snd_of (tell_ok (pIF_ok fun l hl => index57 hT l hl) (tItems_ok (tell0_ok _))) (noTL_ok _ _) ((e19p v n).trans ?_)
    rw [etaV_eq, ck_t (blt_t (by omega)), idxQ_any, items_all v (fun x => !(secV x)), secV_eq v]
    cases v.sec <;> rfl

theorem sec_sound (v : Val) : Snd 19 [.agg (cV v)] (.bool (secV v)) := sec_n _ v (Nat.lt_succ_self _)

end Go.Proofs.YtibfgggccedmdaaDoor
