/-
  LISTS OF NAMES: where one stands, whether two are the same: what the code computes.
-/
import Derived.Test.YtibfgggccedmdaaDoorCheck
namespace Go.Proofs.YtibfgggccedmdaaDoor
open Go.Eng

set_option maxRecDepth 100000

-- slices.Equal of names

def s49 (a b : List Str) (i : Int) : St Pl := mkS 26 [(0, .pl (pStrs a) .any), (1, .pl (pStrs b) .any), (4, .bool false), (12, dI a.length), (13, dI i)] []
def r49 (a b : List Str) : St Pl := mkS 26 [(0, .pl (pStrs a) .any), (1, .pl (pStrs b) .any), (4, .bool false)] []

theorem b49 (a b : List Str) (i : Nat) : evC tell0 noTL noL 1 (loopAt 44 0) [0, 1, 4, 12, 13] (s49 a b i) =
    lt_ i a.length (ix_ i a.length (ix_ i b.length (bif !(a.getD i [] == b.getD i []) then some (.ret, s49 a b i) else some (.normal, s49 a b (IntKind.i64.wrap ((i : Int) + 1)))))) (some (.exit 0, s49 a b i)) := by kernel_rfl

theorem ids49 : (loopsAt 44).length = 1 ∧ firstId (loopAt 44 0) = 4 ∧ loopsOf (loopAt 44 0) = [] := ⟨by kernel_rfl, by kernel_rfl, by kernel_rfl⟩

def LS49 (S : St Pl) : Option (Bool × LR Pl) := match seenS 26 [0, 1, 4, 12, 13] S with
  | some ([.pl ⟨.strs, a⟩ .any, .pl ⟨.strs, b⟩ .any, .bool false, .int .i64 n, .int .i64 (.ofNat 0)], []) =>
    some (n == (a.length : Int) && (Nat.beq a.length b.length && Nat.ble a.length big), .ite ((List.range a.length).all fun i => a.getD i [] == b.getD i []) (.leaf (.exit 0) (r49 a b)) (.leaf .ret (r49 a b)))
  | _ => none

theorem LS49_ok : SOk X0 (loopAt 44 0) LS49 := by
  intro S c r h hc
  unfold LS49 at h
  split at h
  · rename_i a b n hs
    simp only [Option.some.injEq, Prod.mk.injEq] at h
    obtain ⟨rfl, rfl⟩ := h
    simp only [Bool.and_eq_true, Nat.ble_eq, beq_iff_eq] at hc
    obtain ⟨rfl, hl, hb⟩ := hc
    have hl := Nat.eq_of_beq_eq_true hl
    refine Goes.pre (keepOf [0, 1, 4, 12, 13]) ?_
    rw [seenS_mask hs]
    have hstep : ∀ i : Nat, i < a.length → evC tell0 noTL noL 1 (loopAt 44 0) [0, 1, 4, 12, 13] (s49 a b i) = bif !(a.getD i [] == b.getD i []) then some (.ret, s49 a b i) else some (.normal, s49 a b ((i + 1 : Nat) : Int)) := by
      intro i hi
      rw [b49, lt_t hi, ix_t hi, ix_t (by omega), wrap_nat (show i ≤ big by omega)]
    refine loop_search (Sf := fun i => s49 a b i) (n := a.length) (p := fun i => a.getD i [] == b.getD i []) (by simp) (by simp) (fun i hi hp => ?_) (fun i hi hp => ?_) ?_
    · have hp : (a.getD i [] == b.getD i []) = true := hp
      exact goes_of (tell0_ok _) (noTL_ok _ _) (noLoops ids49.2.2) ((hstep i hi).trans (by rw [hp]; rfl))
    · have hp : (a.getD i [] == b.getD i []) = false := hp
      exact (goes_of (tell0_ok _) (noTL_ok _ _) (noLoops ids49.2.2) ((hstep i hi).trans (show _ = some (.ret, s49 a b i) by rw [hp]; rfl))).post (keepOf [0, 1, 4])
    · exact (goes_of (tell0_ok _) (noTL_ok _ _) (noLoops ids49.2.2) ((b49 a b a.length).trans (show _ = some (.exit 0, s49 a b a.length) by rw [lt_f (by omega)]))).post (keepOf [0, 1, 4])
  · simp at h

theorem e49 (a b : List Str) : evF tell0 noTL (atL 4 LS49 noL) 1 Tryd.f44 [.pl (pStrs a) .any, .pl (pStrs b) .any] =
    bif ((a.length : Int) != (b.length : Int)) then some (.bool false) else ck_ (((a.length : Int) == (a.length : Int)) && (Nat.beq a.length b.length && Nat.ble a.length big)) (bif (List.range a.length).all (fun i => a.getD i [] == b.getD i []) then some (.bool true) else some (.bool false)) := by kernel_rfl

theorem equal_sound (a b : List Str) : Snd 44 [.pl (pStrs a) .any, .pl (pStrs b) .any] (.bool (a == b)) := by
  refine SoundAt.rooms fun hroom => snd_fn (n := 1) (tell0_ok _) (noTL_ok _ _) (fn := Tryd.f44) (by kernel_rfl) (loops_of (fn := Tryd.f44) (by kernel_rfl) (loops_1 ids49.1 (atL_ok (fun _ => LS49_ok) fun h => absurd ids49.2.1 h))) ((e49 a b).trans ?_)
  have ha : a.length * 16 ≤ big := hroom (.pl (pStrs a) .any) (by simp)
  by_cases hl : a.length = b.length
  · rw [all_beq [] a b hl, show ((a.length : Int) != (b.length : Int)) = false by rw [hl]; simp, ck_t (by rw [beq_self_eq_true, hl, Nat.beq_refl, ble_t (by omega)]; rfl)]
    cases a == b <;> rfl
  · have h1 : ((a.length : Int) != (b.length : Int)) = true := by rw [bne_iff_ne]; omega
    have h2 : (a == b) = false := by rw [beq_eq_false_iff_ne]; intro h; exact hl (by rw [h])
    rw [h1, h2]; rfl

def pEqual : List (D Pl) → Option (Bool × D Pl)
  | [d, e] => match asL .strs d, asL .strs e with
    | some a, some b => some (true, .bool ((a : List Str) == b))
    | _, _ => none
  | _ => none

theorem pEqual_ok : ∀ ds b d, pEqual ds = some (b, d) → b = true → Snd 44 ds d := by
  intro ds b d h hb
  unfold pEqual at h
  split at h
  · split at h
    · rename_i h1 h2
      simp only [Option.some.injEq, Prod.mk.injEq] at h
      obtain ⟨_, rfl⟩ := h
      exact (equal_sound _ _).pre (.cons (asL_rdle h1) (.cons (asL_rdle h2) .nil))
    · simp at h
  · simp at h

-- slices.Index of names

def s26 (l : List Str) (k : Str) (i : Int) : St Pl := mkS 19 [(0, .pl (pStrs l) .any), (1, .str k), (4, dI 0), (7, dI l.length), (8, dI i)] []
def r26 (l : List Str) (k : Str) (i : Int) : St Pl := mkS 19 [(0, .pl (pStrs l) .any), (1, .str k), (4, dI i)] []

theorem b26 (l : List Str) (k : Str) (i : Nat) : evC tell0 noTL noL 1 (loopAt 59 0) [0, 1, 4, 7, 8] (s26 l k i) =
    lt_ i l.length (ix_ i l.length (bif k == l.getD i [] then some (.ret, mkS 19 [(0, .pl (pStrs l) .any), (1, .str k), (4, dI i), (7, dI l.length), (8, dI i)] []) else some (.normal, s26 l k (IntKind.i64.wrap ((i : Int) + 1))))) (some (.exit 0, s26 l k i)) := by kernel_rfl

theorem ids26 : (loopsAt 59).length = 1 ∧ firstId (loopAt 59 0) = 2 ∧ loopsOf (loopAt 59 0) = [] := ⟨by kernel_rfl, by kernel_rfl, by kernel_rfl⟩

def LS26 (S : St Pl) : Option (Bool × LR Pl) := match seenS 19 [0, 1, 4, 7, 8] S with
  | some ([.pl ⟨.strs, l⟩ .any, .str k, .int .i64 (.ofNat 0), .int .i64 n, .int .i64 (.ofNat 0)], []) =>
    some (n == (l.length : Int) && Nat.ble l.length big, loopR l.length (fun i => !(k == l.getD i [])) (.exit 0) (r26 l k 0) .ret (fun i => r26 l k i))
  | _ => none

theorem LS26_ok : SOk X0 (loopAt 59 0) LS26 := by
  intro S c r h hc
  unfold LS26 at h
  split at h
  · rename_i l k n hs
    simp only [Option.some.injEq, Prod.mk.injEq] at h
    obtain ⟨rfl, rfl⟩ := h
    simp only [Bool.and_eq_true, Nat.ble_eq, beq_iff_eq] at hc
    obtain ⟨rfl, hb⟩ := hc
    refine Goes.pre (keepOf [0, 1, 4, 7, 8]) ?_
    rw [seenS_mask hs]
    refine loop_gen (Sf := fun i => s26 l k i) (n := l.length) (p := fun i => !(k == l.getD i [])) (by simp) (by simp) (fun i hi hp => ?_) (fun i hi hp => ?_) ?_
    · have hp : (k == l.getD i []) = false := by simpa using hp
      refine goes_of (tell0_ok _) (noTL_ok _ _) (noLoops ids26.2.2) ((b26 l k i).trans ?_)
      rw [lt_t hi, ix_t hi, hp, wrap_nat (show i ≤ big by omega)]
      rfl
    · have hp : (k == l.getD i []) = true := by simpa using hp
      exact (goes_of (tell0_ok _) (noTL_ok _ _) (noLoops ids26.2.2) ((b26 l k i).trans (show _ = some (.ret, mkS 19 [(0, .pl (pStrs l) .any), (1, .str k), (4, dI i), (7, dI l.length), (8, dI i)] []) by rw [lt_t hi, ix_t hi, hp]; rfl))).post (keepOf [0, 1, 4])
    · exact (goes_of (tell0_ok _) (noTL_ok _ _) (noLoops ids26.2.2) ((b26 l k l.length).trans (show _ = some (.exit 0, s26 l k l.length) by rw [lt_f (by omega)]))).post (keepOf [0, 1, 4])
  · simp at h

/-- the first place of a name; the list's length: none -/
def posN (l : List Str) (k : Str) : Nat := ff (fun i => !(k == l.getD i [])) l.length

theorem e26 (l : List Str) (k : Str) : evF tell0 noTL (atL 2 LS26 noL) 1 Tryd.f59 [.pl (pStrs l) .any, .str k] =
    ck_ (((l.length : Int) == (l.length : Int)) && Nat.ble l.length big) (bif Nat.beq (posN l k) l.length then some (dI (-1)) else some (dI (posN l k))) := by kernel_rfl

def idxV (l : List Str) (k : Str) : Int := bif Nat.beq (posN l k) l.length then -1 else (posN l k : Int)

theorem index_sound (l : List Str) (k : Str) : Snd 59 [.pl (pStrs l) .any, .str k] (dI (idxV l k)) := by
  refine SoundAt.rooms fun hroom => snd_fn (n := 1) (tell0_ok _) (noTL_ok _ _) (fn := Tryd.f59) (by kernel_rfl) (loops_of (fn := Tryd.f59) (by kernel_rfl) (loops_1 ids26.1 (atL_ok (fun _ => LS26_ok) fun h => absurd ids26.2.1 h))) ((e26 l k).trans ?_)
  have ha : l.length * 16 ≤ big := hroom (.pl (pStrs l) .any) (by simp)
  rw [ck_t (by rw [beq_self_eq_true, ble_t (by omega)]; rfl)]
  unfold idxV
  cases Nat.beq (posN l k) l.length <;> rfl

def pIndex : List (D Pl) → Option (Bool × D Pl)
  | [d, .str k] => match asL .strs d with
    | some l => some (true, dI (idxV l k))
    | none => none
  | _ => none

theorem pIndex_ok : ∀ ds b d, pIndex ds = some (b, d) → b = true → Snd 59 ds d := by
  intro ds b d h hb
  unfold pIndex at h
  split at h
  · split at h
    · rename_i h1
      simp only [Option.some.injEq, Prod.mk.injEq] at h
      obtain ⟨_, rfl⟩ := h
      exact (index_sound _ _).pre (.cons (asL_rdle h1) (.cons (RDle.refl _) .nil))
    · simp at h
  · simp at h

end Go.Proofs.YtibfgggccedmdaaDoor
