/-
  TEXTS OF NUMBERS: what the program's inner functions compute.
-/
import Derived.Test.YtlfohmdclcdejaaDoorConv
import Derived.Test.YtlfohmdclcdejaaDoorLib
namespace Go.Proofs.YtlfohmdclcdejaaDoor.Nu
open Go.Eng

set_option maxRecDepth 100000

def badD (c : Int) : Bool := bif decide (c < 48) then true else decide (c > 57)
def allB (P : Int → Bool) (s : Str) : Bool := (List.range s.length).all fun i => P (byt s i)
def digB (s : Str) : Bool := allB (fun c => !(badD c)) s

def s32 (s : Str) (i : Int) : St Pl := mkS 45 [(0, .str s), (2, .bool false), (30, dI s.length), (31, dI i)] []
def r32 : St Pl := mkS 45 [(2, .bool false)] []

theorem b32 (s : Str) (i : Nat) : evC tell0 noTL noL 1 (loopAt 60 0) [0, 2, 30, 31] (s32 s i) =
    lt_ i s.length (ix_ i s.length (ixo_ i s.length (decide (byt s i < 48) == false) (bif badD (byt s i) then some (.ret, s32 s i) else some (.normal, s32 s (IntKind.i64.wrap ((i : Int) + 1)))))) (some (.exit 0, s32 s i)) := by kernel_rfl
theorem ids32 : (loopsAt 60).length = 1 ∧ firstId (loopAt 60 0) = 8 ∧ loopsOf (loopAt 60 0) = [] := ⟨by kernel_rfl, by kernel_rfl, by kernel_rfl⟩

def LS32 (S : St Pl) : Option (Bool × LR Pl) := match seenS 45 [0, 2, 30, 31] S with
  | some ([.str s, .bool false, .int .i64 n, .int .i64 (.ofNat 0)], []) => some (n == (s.length : Int) && Nat.ble s.length big, .ite (digB s) (.leaf (.exit 0) r32) (.leaf .ret r32))
  | _ => none

theorem LS32_ok : SOk X0 (loopAt 60 0) LS32 := by
  intro S b r h hb
  unfold LS32 at h
  split at h
  · rename_i s n hs
    simp only [Option.some.injEq, Prod.mk.injEq] at h
    obtain ⟨rfl, rfl⟩ := h
    simp only [Bool.and_eq_true, Nat.ble_eq, beq_iff_eq] at hb
    obtain ⟨rfl, hb⟩ := hb
    refine Goes.pre (keepOf [0, 2, 30, 31]) ?_
    rw [seenS_mask hs]
    exact search_of (tell0_ok _) ids32.2.2 (Sf := fun i => s32 s i) (S2' := fun i => s32 s i) (keep2 := [2]) (p := fun i => !(badD (byt s i))) (by simp) (by simp)
      (fun i hi => by
        rw [b32, lt_t hi, ix_t hi, wrap_nat (show i ≤ big by omega), ixo_t hi]
        cases badD (byt s i) <;> rfl) (by rw [b32, lt_f (by omega)]) rfl (fun i => rfl)
  · simp at h

def t1 (s : Str) : Str := List.take (((s.length : Int)).toNat - Int.toNat 1) (List.drop (Int.toNat 1) s)
theorem t1_eq (s : Str) : t1 s = s.drop 1 := by
  unfold t1
  rw [show Int.toNat 1 = 1 from rfl, show ((s.length : Int)).toNat = s.length from rfl]
  exact List.take_of_length_le (by simp)

def negW (s : Str) : Bool := bif decide ((s.length : Int) > 1) then byt s 0 == 45 else false
def zeroL (s : Str) : Bool := bif s == [] then true else bif byt s 0 == 48 then decide ((s.length : Int) > 1) else false
def restW (s : Str) : Option (D Pl) := ck_ ((true && decide ((0 : Int) < (s.length : Int))) || !((s == []) == false)) (bif zeroL s then some (.bool false) else ck_ (((s.length : Int) == (s.length : Int)) && Nat.ble s.length big) (bif digB s then some (.bool true) else some (.bool false)))
theorem e32 (s : Str) : evF tell0 noTL (atL 8 LS32 noL) 1 Tryd.f60 [.str s] = ck_ ((true && decide ((0 : Int) < (s.length : Int))) || !(decide ((s.length : Int) > 1) == true))
    (bif negW s then ck_ ((true && decide ((1 : Int) ≤ (s.length : Int)) && decide ((s.length : Int) ≤ (s.length : Int))) || false) (ck_ ((true && decide ((0 : Int) < ((t1 s).length : Int))) || false) (bif byt (t1 s) 0 == 48 then some (.bool false) else restW (t1 s))) else restW s) := by kernel_rfl

def wholeV (s : Str) : Bool := bif negW s then (bif byt (t1 s) 0 == 48 then false else bif zeroL (t1 s) then false else digB (t1 s)) else bif zeroL s then false else digB s

theorem restW_eq {s : Str} (h : s.length ≤ big) : restW s = some (.bool (bif zeroL s then false else digB s)) := by
  unfold restW
  rw [ck_t (by
    cases s with
    | nil => rfl
    | cons a r => rw [decide_eq_true (show (0 : Int) < ((a :: r).length : Int) by simp only [List.length_cons]; omega)]; rfl),
    ck_t (by rw [ble_t h, beq_self_eq_true]; rfl)]
  cases zeroL s <;> cases digB s <;> rfl

theorem t1_len (s : Str) : (t1 s).length = s.length - 1 := by rw [t1_eq, List.length_drop]

theorem whole_sound (s : Str) : Snd 60 [.str s] (.bool (wholeV s)) := by
  refine SoundAt.rooms fun hroom => snd_fn (n := 1) (tell0_ok _) (noTL_ok _ _) (fn := Tryd.f60) (by kernel_rfl) (loops_of (fn := Tryd.f60) (by kernel_rfl) (loops_1 ids32.1 (atL_ok (fun _ => LS32_ok) fun h => absurd ids32.2.1 h))) ((e32 s).trans ?_)
  have h1 : s.length ≤ big := hroom (.str s) (by simp)
  have h2 : (t1 s).length ≤ big := by rw [t1_len]; omega
  rw [restW_eq h1, restW_eq h2, ck_t (by
    by_cases h : s.length > 1
    · rw [decide_eq_true (show (0 : Int) < (s.length : Int) by omega)]; rfl
    · rw [decide_eq_false (show ¬ (s.length : Int) > 1 by omega)]; cases decide ((0 : Int) < (s.length : Int)) <;> rfl)]
  unfold wholeV
  cases hn : negW s with
  | false => rfl
  | true =>
    have hl : s.length > 1 := by
      unfold negW at hn
      by_cases h : s.length > 1
      · exact h
      · rw [decide_eq_false (show ¬ (s.length : Int) > 1 by omega)] at hn; cases hn
    rw [ck_t (by rw [decide_eq_true (show (1 : Int) ≤ (s.length : Int) by omega), decide_eq_true (show (s.length : Int) ≤ (s.length : Int) by omega)]; rfl),
      ck_t (by rw [decide_eq_true (show (0 : Int) < ((t1 s).length : Int) by rw [t1_len]; omega)]; rfl)]
    cases byt (t1 s) 0 == 48 <;> rfl

-- the program's Parse and Print

def tW (R : Eng.Told Pl) : Eng.Told Pl := tell 60 (pS fun s => .bool (wholeV s)) R
theorem tW_ok {R : Eng.Told Pl} (h : TOk R) : TOk (tW R) := tell_ok (pS_ok whole_sound) h

def pI1 : List (D Pl) → Option (Bool × D Pl)
  | [.str s, .int .i64 (.ofNat 10), .int .i64 (.ofNat 64)] => some (pOk s, .tup [dI (pVal s), .nilI])
  | _ => none
def pI2 : List (D Pl) → Option (Bool × D Pl)
  | [.str s, .int .i64 (.ofNat 10), .int .i64 (.ofNat 64)] => some (!(pOk s), .tup [dI (pVal s), .ifa])
  | _ => none
theorem pI1_ok : ∀ ds b d, pI1 ds = some (b, d) → b = true → Snd 61 ds d := by
  intro ds b d h hb
  unfold pI1 at h
  split at h
  · simp only [Option.some.injEq, Prod.mk.injEq] at h; obtain ⟨rfl, rfl⟩ := h; exact parse_ok _ hb
  · simp at h
theorem pI2_ok : ∀ ds b d, pI2 ds = some (b, d) → b = true → Snd 61 ds d := by
  intro ds b d h hb
  unfold pI2 at h
  split at h
  · simp only [Option.some.injEq, Prod.mk.injEq] at h; obtain ⟨rfl, rfl⟩ := h; exact parse_no _ (by simpa using hb)
  · simp at h

theorem e17a (s : Str) : evF (tW (tell 61 pI1 tell0)) noTL noL 1 Tryd.f49 [.str s] = bif !(wholeV s) then some (.tup [dI 0, dI 4]) else ck_ (pOk s) (some (.tup [dI (pVal s), dI 0])) := by kernel_rfl
theorem e17b (s : Str) : evF (tW (tell 61 pI2 tell0)) noTL noL 1 Tryd.f49 [.str s] = bif !(wholeV s) then some (.tup [dI 0, dI 4]) else ck_ (!(pOk s)) (some (.tup [dI 0, dI 6])) := by kernel_rfl

def parseV (s : Str) : Int × Int := bif wholeV s then (bif pOk s then (pVal s, 0) else (0, 6)) else (0, 4)
def prT (p : Int × Int) : D Pl := .tup [dI p.1, dI p.2]

theorem parse_sound (s : Str) : Snd 49 [.str s] (prT (parseV s)) := by
  have hl : (loopsAt 49).length = 0 := by kernel_rfl
  cases h : pOk s with
  | true =>
    refine snd_fn (n := 1) (tW_ok (tell_ok pI1_ok (tell0_ok _))) (noTL_ok _ _) (fn := Tryd.f49) (by kernel_rfl) (loops_of (fn := Tryd.f49) (by kernel_rfl) (loops_0 hl)) ((e17a s).trans ?_)
    unfold parseV
    rw [h]
    cases wholeV s <;> rfl
  | false =>
    refine snd_fn (n := 1) (tW_ok (tell_ok pI2_ok (tell0_ok _))) (noTL_ok _ _) (fn := Tryd.f49) (by kernel_rfl) (loops_of (fn := Tryd.f49) (by kernel_rfl) (loops_0 hl)) ((e17b s).trans ?_)
    unfold parseV
    rw [h]
    cases wholeV s <;> rfl

def pFm : List (D Pl) → Option (Bool × D Pl)
  | [.int .i64 n, .int .i64 (.ofNat 10)] => some (true, .str (Lib.itoa n))
  | _ => none
theorem pFm_ok : ∀ ds b d, pFm ds = some (b, d) → b = true → Snd 51 ds d := by
  intro ds b d h hb
  unfold pFm at h
  split at h
  · simp only [Option.some.injEq, Prod.mk.injEq] at h; obtain ⟨rfl, rfl⟩ := h; exact format_sound _
  · simp at h
theorem e16 (n : Int) : ev (tell 51 pFm tell0) noTL 1 39 [dI n] = some (.str (Lib.itoa n)) := by kernel_rfl
theorem print_sound (n : Int) : Snd 39 [dI n] (.str (Lib.itoa n)) := snd_of (tell_ok pFm_ok (tell0_ok _)) (noTL_ok _ _) (e16 n)

end Go.Proofs.YtlfohmdclcdejaaDoor.Nu
