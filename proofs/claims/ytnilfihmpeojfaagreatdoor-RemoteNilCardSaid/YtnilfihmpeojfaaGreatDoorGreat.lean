/-
  HOW MUCH A VALUE HAS (the document's 'great'): the call returns, whatever the value.
-/
import Derived.Test.YtnilfihmpeojfaaGreatDoorSame
namespace Go.Proofs.YtnilfihmpeojfaaGreatDoor
open Go.Eng

set_option maxRecDepth 100000

/-- a contract for one value -/
def p1 (f : Val → Bool × D Pl) : List (D Pl) → Option (Bool × D Pl)
  | [d] => match asV d with
    | some a => some (f a)
    | none => none
  | _ => none

theorem p1_ok {g : FuncId} {f : Val → Bool × D Pl} (h : ∀ v, (f v).1 = true → Snd g [.agg (cV v)] (f v).2) : ∀ ds b d, p1 f ds = some (b, d) → b = true → Snd g ds d := by
  intro ds b d hp hb
  unfold p1 at hp
  split at hp
  · split at hp
    · rename_i ha
      simp only [Option.some.injEq] at hp
      have h1 := h _ (by rw [hp]; exact hb)
      rw [hp] at h1
      exact h1.pre (.cons (asV_rdle ha) .nil)
    · simp at hp
  · simp at hp

/-- for a value and a number -/
def p2 (f : Val → Int → Bool × D Pl) : List (D Pl) → Option (Bool × D Pl)
  | [d, .int .i64 n] => match asV d with
    | some a => some (f a n)
    | none => none
  | _ => none

theorem p2_ok {g : FuncId} {f : Val → Int → Bool × D Pl} (h : ∀ v n, (f v n).1 = true → Snd g [.agg (cV v), dI n] (f v n).2) : ∀ ds b d, p2 f ds = some (b, d) → b = true → Snd g ds d := by
  intro ds b d hp hb
  unfold p2 at hp
  split at hp
  · split at hp
    · rename_i ha
      simp only [Option.some.injEq] at hp
      have h1 := h _ _ (by rw [hp]; exact hb)
      rw [hp] at h1
      exact h1.pre (.cons (asV_rdle ha) (.cons (RDle.refl _) .nil))
    · simp at hp
  · simp at hp

-- great

def mn (y x : Int) : Int := bif (bif false then decide (y > x) else decide (y < x)) then y else x

def s17 (v : Val) (d : Int) (t : Nat) (x i : Int) : St Pl := mkS 65 [(1, dI d), (2, .ptr 2 0), (5, dI x), (t, dI i)] [(2, .box false (cV v))]
def r17 (v : Val) (d : Int) (x : Int) : St Pl := mkS 65 [(1, dI d), (2, .ptr 2 0), (5, dI x)] [(2, .box false (cV v))]
def tG (n : Nat) (G : Val → Int → Int) : Eng.Told Pl := tell 15 (p2 fun v d => (Nat.blt (vsz v) n, dI (G v d))) tell0

def addS (x : Int) (s : Str) : Int := IntKind.i64.wrap (x + IntKind.i64.wrap ((mn 4000 (s.length : Int)).tdiv 4))

theorem b17_1 (v : Val) (d x : Int) (i : Nat) : evC tell0 noTL noL 1 (loopAt 15 0) [1, 2, 5, 6] (s17 v d 6 x i) =
    bif (bif decide ((i : Int) < (v.keys.length : Int)) then decide (x ≤ 600) else false) then ix_ i v.keys.length (some (.normal, s17 v d 6 (addS x (v.keys.getD i [])) (IntKind.i64.wrap ((i : Int) + 1)))) else some (.exit 0, s17 v d 6 x i) := by kernel_rfl

theorem b17_2 (v : Val) (d x : Int) (n : Nat) (G : Val → Int → Int) (i : Nat) : evC (tG n G) noTL noL 1 (loopAt 15 1) [1, 2, 5, 7] (s17 v d 7 x i) =
    bif (bif decide ((i : Int) < (v.l.length : Int)) then decide (x ≤ 600) else false) then ix_ i v.l.length (ck_ (Nat.blt (vsz (etaV (v.l.getD i default))) n)
      (some (.normal, s17 v d 7 (IntKind.i64.wrap (x + G (etaV (v.l.getD i default)) (IntKind.i64.wrap (d - 1)))) (IntKind.i64.wrap ((i : Int) + 1))))) else some (.exit 2, s17 v d 7 x i) := by kernel_rfl

def acc1 (ks : List Str) (x : Int) : Nat → Int
  | 0 => x
  | i + 1 => addS (acc1 ks x i) (ks.getD i [])
def acc2 (G : Val → Int → Int) (d : Int) (l : List Val) (x : Int) : Nat → Int
  | 0 => x
  | i + 1 => IntKind.i64.wrap (acc2 G d l x i + G (l.getD i default) (IntKind.i64.wrap (d - 1)))
def end1 (ks : List Str) (x : Int) : Int := acc1 ks x (ff (fun i => decide (acc1 ks x i ≤ 600)) ks.length)
def end2 (G : Val → Int → Int) (d : Int) (l : List Val) (x : Int) : Int := acc2 G d l x (ff (fun i => decide (acc2 G d l x i ≤ 600)) l.length)

def LS17a (S : St Pl) : Option (Bool × LR Pl) := match seenS 65 [1, 2, 5, 6] S with
  | some ([.int .i64 d, .ptr 2 0, .int .i64 x, .int .i64 (.ofNat 0)], [(2, .box false c)]) => (match exV c with
    | some v => some (Nat.ble v.keys.length big, .leaf (.exit 0) (r17 v d (end1 v.keys x)))
    | none => none)
  | _ => none
def LS17b (n : Nat) (G : Val → Int → Int) (S : St Pl) : Option (Bool × LR Pl) := match seenS 65 [1, 2, 5, 7] S with
  | some ([.int .i64 d, .ptr 2 0, .int .i64 x, .int .i64 (.ofNat 0)], [(2, .box false c)]) => (match exV c with
    | some v => some (Nat.ble v.l.length big && Nat.ble (vsz v) n, .leaf (.exit 2) (r17 v d (end2 G d v.l x)))
    | none => none)
  | _ => none

theorem ids17 : (loopsAt 15).length = 2 ∧ firstId (loopAt 15 0) = 5 ∧ firstId (loopAt 15 1) = 9 ∧ loopsOf (loopAt 15 0) = [] ∧ loopsOf (loopAt 15 1) = [] := ⟨by kernel_rfl, by kernel_rfl, by kernel_rfl, by kernel_rfl, by kernel_rfl⟩

theorem while_t {i n : Nat} {q : Bool} (h : i < n) (hq : q = true) : (bif decide ((i : Int) < (n : Int)) then q else false) = true := by
  rw [decide_eq_true (show (i : Int) < (n : Int) by omega), hq]; rfl
theorem while_f {i n : Nat} {q : Bool} (h : i < n → q = false) : (bif decide ((i : Int) < (n : Int)) then q else false) = false := by
  by_cases hi : i < n
  · rw [decide_eq_true (show (i : Int) < (n : Int) by omega), h hi]; rfl
  · rw [decide_eq_false (show ¬ (i : Int) < (n : Int) by omega)]; rfl

theorem LS17a_ok : SOk X0 (loopAt 15 0) LS17a := by
  intro S b r h hb
  unfold LS17a at h
  split at h
  · rename_i d x c hs
    split at h
    · rename_i v hv
      simp only [Option.some.injEq, Prod.mk.injEq] at h
      obtain ⟨rfl, rfl⟩ := h
      simp only [Nat.ble_eq] at hb
      obtain rfl := exV_eq hv
      refine Goes.pre (keepOf [1, 2, 5, 6]) ?_
      rw [seenS_mask hs]
      refine loop_until (Sf := fun i => s17 v d 6 (acc1 v.keys x i) i) (p := fun i => decide (acc1 v.keys x i ≤ 600)) (S2 := fun i => r17 v d (acc1 v.keys x i)) (by simp) (fun i hi hp => ?_) (fun i hi hp => ?_)
      · refine goes_of (tell0_ok _) (noTL_ok _ _) (noLoops ids17.2.2.2.1) ((b17_1 v d _ i).trans ?_)
        rw [while_t hi hp, ix_t hi, wrap_nat (show i ≤ big by omega)]
        rfl
      · have := (goes_of (tell0_ok _) (noTL_ok _ _) (noLoops ids17.2.2.2.1) ((b17_1 v d _ i).trans (show _ = some (.exit 0, s17 v d 6 (acc1 v.keys x i) i) by rw [while_f hp]; rfl))).post (keepOf [1, 2, 5])
        exact this
    · simp at h
  · simp at h

theorem LS17b_ok {n : Nat} {G : Val → Int → Int} (hT : TOk (tG n G)) : SOk X0 (loopAt 15 1) (LS17b n G) := by
  intro S b r h hb
  unfold LS17b at h
  split at h
  · rename_i d x c hs
    split at h
    · rename_i v hv
      simp only [Option.some.injEq, Prod.mk.injEq] at h
      obtain ⟨rfl, rfl⟩ := h
      simp only [Bool.and_eq_true, Nat.ble_eq] at hb
      obtain ⟨hb, hsz⟩ := hb
      obtain rfl := exV_eq hv
      refine Goes.pre (keepOf [1, 2, 5, 7]) ?_
      rw [seenS_mask hs]
      refine loop_until (Sf := fun i => s17 v d 7 (acc2 G d v.l x i) i) (p := fun i => decide (acc2 G d v.l x i ≤ 600)) (S2 := fun i => r17 v d (acc2 G d v.l x i)) (by simp) (fun i hi hp => ?_) (fun i hi hp => ?_)
      · have hs := vsz_elem (getD_mem (d := default) hi)
        refine goes_of hT (noTL_ok _ _) (noLoops ids17.2.2.2.2) ((b17_2 v d _ n G i).trans ?_)
        rw [while_t hi hp, ix_t hi, etaV_eq, ck_t (blt_t (by omega)), wrap_nat (show i ≤ big by omega)]
        rfl
      · have := (goes_of hT (noTL_ok _ _) (noLoops ids17.2.2.2.2) ((b17_2 v d _ n G i).trans (show _ = some (.exit 2, s17 v d 7 (acc2 G d v.l x i) i) by rw [while_f hp]; rfl))).post (keepOf [1, 2, 5])
        exact this
    · simp at h
  · simp at h

def start17 (v : Val) : Int := IntKind.i64.wrap (IntKind.i64.wrap (1 + IntKind.i64.wrap ((mn 2000 (v.s.length : Int)).tdiv 4)) + mn 700 (v.keys.length : Int))

theorem e17 (v : Val) (d : Int) (n : Nat) (G : Val → Int → Int) : evF (tG n G) noTL (atL 5 LS17a (atL 9 (LS17b n G) noL)) 1 Tryz.f15 [.agg (cV v), dI d] =
    bif d == 0 then some (dI 601) else ck_ (Nat.ble v.keys.length big) (ck_ (Nat.ble v.l.length big && Nat.ble (vsz (etaV v)) n) (some (dI (mn 601 (end2 G d v.l (end1 v.keys (start17 v))))))) := by kernel_rfl

theorem great_n : ∀ n, ∃ G : Val → Int → Int, ∀ v d, vsz v < n → Snd 15 [.agg (cV v), dI d] (dI (G v d)) := by
  intro n
  induction n with
  | zero => exact ⟨fun _ _ => 0, fun v d h => by omega⟩
  | succ n ih =>
    obtain ⟨G, hG⟩ := ih
    refine ⟨fun v d => bif d == 0 then 601 else mn 601 (end2 G d v.l (end1 v.keys (start17 v))), fun v d hv => SoundAt.rooms fun hroom => ?_⟩
    have hT : TOk (tG n G) := tell_ok (p2_ok fun v d h => hG v d (by simp only [Nat.blt_eq] at h; exact h)) (tell0_ok _)
    have h1 : Room _ (.agg (cV v)) := hroom _ (by simp)
    have hl : v.l.length * 104 ≤ big := h1 (.pl (pVals v.l) .any) (by simp [cV])
    have hk : v.keys.length * 16 ≤ big := h1 (.pl (pStrs v.keys) .any) (by simp [cV])
    refine snd_fn (n := 1) hT (noTL_ok _ _) (fn := Tryz.f15) (by kernel_rfl) (loops_of (fn := Tryz.f15) (by kernel_rfl) (loops_2 ids17.1
      (atL_ok (fun _ => LS17a_ok) fun h => absurd ids17.2.1 h) (atL_ok (fun h => absurd (ids17.2.2.1.symm.trans h) (by decide)) fun _ => atL_ok (fun _ => LS17b_ok hT) fun h => absurd ids17.2.2.1 h))) ((e17 v d n G).trans ?_)
    rw [etaV_eq, ck_t (ble_t (by omega)), ck_t (by rw [ble_t (by omega), ble_t (by omega)]; rfl)]
    show _ = some (dI (bif d == 0 then 601 else mn 601 (end2 G d v.l (end1 v.keys (start17 v)))))
    cases d == 0 <;> rfl

theorem great_sound : ∃ G : Val → Int → Int, ∀ v d, Snd 15 [.agg (cV v), dI d] (dI (G v d)) :=
  ⟨fun v d => (great_n (vsz v + 1)).choose v d, fun v d => (great_n (vsz v + 1)).choose_spec v d (Nat.lt_succ_self _)⟩

theorem e6 (v : Val) (G : Val → Int → Int) : ev (tell 15 (p2 fun v d => (true, dI (G v d))) tell0) noTL 1 5 [.agg (cV v)] = some (.bool (decide (G (etaV v) 10 > 600))) := by kernel_rfl

theorem Great_sound : ∃ G : Val → Bool, ∀ v, Snd 5 [.agg (cV v)] (.bool (G v)) := by
  obtain ⟨G, hG⟩ := great_sound
  refine ⟨fun v => decide (G v 10 > 600), fun v => ?_⟩
  have := snd_of (tell_ok (p2_ok fun v d _ => hG v d) (tell0_ok _)) (noTL_ok _ _) (e6 v G)
  rwa [etaV_eq] at this

end Go.Proofs.YtnilfihmpeojfaaGreatDoor
