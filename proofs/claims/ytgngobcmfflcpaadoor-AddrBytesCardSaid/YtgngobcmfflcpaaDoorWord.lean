/-
  NAMES AND KEYS, by the program and by the document: what the code computes.
-/
import Derived.Test.YtgngobcmfflcpaaDoorLib
namespace Go.Proofs.YtgngobcmfflcpaaDoor
open Go.Eng

set_option maxRecDepth 100000

def smallB (c : Int) : Bool := bif decide (c ≥ 97) then decide (c ≤ 122) else false
def digitB (c : Int) : Bool := bif decide (c ≥ 48) then decide (c ≤ 57) else false
def nameB (c : Int) : Bool := bif (bif smallB c then true else digitB c) then true else c == 95
def wordB (c : Int) : Bool := bif (bif (bif (bif smallB (bitsE .or .u8 c 32) then true else digitB c) then true else c == 95) then true else c == 45) then true else c == 46

theorem e25 (c : Int) : ev tell0 noTL 2 76 [.int .u8 c] = some (.bool (smallB c)) := by kernel_rfl
theorem e26 (c : Int) : ev tell0 noTL 2 77 [.int .u8 c] = some (.bool (digitB c)) := by kernel_rfl
theorem e27 (c : Int) : ev tell0 noTL 2 61 [.int .u8 c] = some (.bool (smallB c)) := by kernel_rfl

def tSm (R : Eng.Told Pl) : Eng.Told Pl := tell 76 (pU8 fun c => .bool (smallB c)) (tell 77 (pU8 fun c => .bool (digitB c)) (tell 61 (pU8 fun c => .bool (smallB c)) R))
theorem tSm_ok {R : Eng.Told Pl} (h : TOk R) : TOk (tSm R) :=
  tell_ok (pU8_ok fun c => snd_of (tell0_ok _) (noTL_ok _ _) (e25 c)) (tell_ok (pU8_ok fun c => snd_of (tell0_ok _) (noTL_ok _ _) (e26 c)) (tell_ok (pU8_ok fun c => snd_of (tell0_ok _) (noTL_ok _ _) (e27 c)) h))

theorem e24 (c : Int) : ev (tSm tell0) noTL 2 75 [.int .u8 c] = bif smallB c == false then some (.bool (bif digitB c then true else c == 95)) else some (.bool true) := by kernel_rfl
theorem e28 (c : Int) : ev (tSm tell0) noTL 2 78 [.int .u8 c] = bif smallB (bitsE .or .u8 c 32) == false then some (.bool (bif (bif (bif digitB c then true else c == 95) then true else c == 45) then true else c == 46)) else some (.bool true) := by kernel_rfl

theorem name1_sound (c : Int) : Snd 75 [.int .u8 c] (.bool (nameB c)) := by
  refine snd_of (tSm_ok (tell0_ok _)) (noTL_ok _ _) ((e24 c).trans ?_)
  unfold nameB; cases smallB c <;> rfl
theorem word1_sound (c : Int) : Snd 78 [.int .u8 c] (.bool (wordB c)) := by
  refine snd_of (tSm_ok (tell0_ok _)) (noTL_ok _ _) ((e28 c).trans ?_)
  unfold wordB; cases smallB (bitsE .or .u8 c 32) <;> rfl

def tB : Eng.Told Pl := tell 75 (pU8 fun c => .bool (nameB c)) (tell 78 (pU8 fun c => .bool (wordB c)) tell0)
theorem tB_ok : TOk tB := tell_ok (pU8_ok name1_sound) (tell_ok (pU8_ok word1_sound) (tell0_ok _))

-- spelled

def allB (P : Int → Bool) (s : Str) : Bool := (List.range s.length).all fun i => P (byt s i)

def s23 (g : Nat) (s : Str) (i : Int) : St Pl := mkS 25 [(0, .str s), (1, .fn g []), (4, .bool false), (14, dI s.length), (15, dI i)] []
def r23 (g : Nat) (s : Str) : St Pl := mkS 25 [(0, .str s), (1, .fn g []), (4, .bool false)] []

theorem b23n (s : Str) (i : Nat) : evC tB noTL noL 1 (loopAt 74 0) [0, 1, 4, 14, 15] (s23 75 s i) =
    lt_ i s.length (ix_ i s.length (bif !(nameB (byt s i)) then some (.ret, s23 75 s i) else some (.normal, s23 75 s (IntKind.i64.wrap ((i : Int) + 1))))) (some (.exit 0, s23 75 s i)) := by kernel_rfl
theorem b23w (s : Str) (i : Nat) : evC tB noTL noL 1 (loopAt 74 0) [0, 1, 4, 14, 15] (s23 78 s i) =
    lt_ i s.length (ix_ i s.length (bif !(wordB (byt s i)) then some (.ret, s23 78 s i) else some (.normal, s23 78 s (IntKind.i64.wrap ((i : Int) + 1))))) (some (.exit 0, s23 78 s i)) := by kernel_rfl

theorem ids23 : (loopsAt 74).length = 1 ∧ firstId (loopAt 74 0) = 4 ∧ loopsOf (loopAt 74 0) = [] := ⟨by kernel_rfl, by kernel_rfl, by kernel_rfl⟩

theorem go23 {g : Nat} {P : Int → Bool} (hb : ∀ (s : Str) (i : Nat), evC tB noTL noL 1 (loopAt 74 0) [0, 1, 4, 14, 15] (s23 g s i) =
    lt_ i s.length (ix_ i s.length (bif !(P (byt s i)) then some (.ret, s23 g s i) else some (.normal, s23 g s (IntKind.i64.wrap ((i : Int) + 1))))) (some (.exit 0, s23 g s i))) (s : Str) (hl : s.length ≤ big) :
    Goes X0 (.loop (loopAt 74 0)) (s23 g s 0) (pickR (.ite (allB P s) (.leaf (.exit 0) (r23 g s)) (.leaf .ret (r23 g s)))).1 (pickR (.ite (allB P s) (.leaf (.exit 0) (r23 g s)) (.leaf .ret (r23 g s)))).2 :=
  search_of tB_ok ids23.2.2 (Sf := fun i => s23 g s i) (S2' := fun i => s23 g s i) (keep2 := [0, 1, 4]) (p := fun i => P (byt s i)) (by simp) (by simp)
    (fun i hi => by rw [hb, lt_t hi, ix_t hi, wrap_nat (show i ≤ big by omega)]; cases P (byt s i) <;> rfl) (by rw [hb, lt_f (by omega)]) rfl (fun i => rfl)

def LS23 (S : St Pl) : Option (Bool × LR Pl) := match seenS 25 [0, 1, 4, 14, 15] S with
  | some ([.str s, .fn 75 [], .bool false, .int .i64 n, .int .i64 (.ofNat 0)], []) => some (n == (s.length : Int) && Nat.ble s.length big, .ite (allB nameB s) (.leaf (.exit 0) (r23 75 s)) (.leaf .ret (r23 75 s)))
  | some ([.str s, .fn 78 [], .bool false, .int .i64 n, .int .i64 (.ofNat 0)], []) => some (n == (s.length : Int) && Nat.ble s.length big, .ite (allB wordB s) (.leaf (.exit 0) (r23 78 s)) (.leaf .ret (r23 78 s)))
  | _ => none

theorem LS23_ok : SOk X0 (loopAt 74 0) LS23 := by
  intro S b r h hb
  unfold LS23 at h
  split at h
  · rename_i s n hs
    simp only [Option.some.injEq, Prod.mk.injEq] at h
    obtain ⟨rfl, rfl⟩ := h
    simp only [Bool.and_eq_true, Nat.ble_eq, beq_iff_eq] at hb
    obtain ⟨rfl, hb⟩ := hb
    refine Goes.pre (keepOf [0, 1, 4, 14, 15]) ?_
    rw [seenS_mask hs]
    exact go23 b23n s hb
  · rename_i s n hs
    simp only [Option.some.injEq, Prod.mk.injEq] at h
    obtain ⟨rfl, rfl⟩ := h
    simp only [Bool.and_eq_true, Nat.ble_eq, beq_iff_eq] at hb
    obtain ⟨rfl, hb⟩ := hb
    refine Goes.pre (keepOf [0, 1, 4, 14, 15]) ?_
    rw [seenS_mask hs]
    exact go23 b23w s hb
  · simp at h

def lenBad (s : Str) : Bool := bif s == [] then true else decide ((s.length : Int) > 24)
def spelt (P : Int → Bool) (s : Str) : Bool := bif lenBad s then false else allB P s

theorem e23n (s : Str) : evF tell0 noTL (atL 4 LS23 noL) 1 Tryd.f74 [.str s, .fn 75 []] = bif lenBad s then some (.bool false) else ck_ (((s.length : Int) == (s.length : Int)) && Nat.ble s.length big) (bif allB nameB s then some (.bool true) else some (.bool false)) := by kernel_rfl
theorem e23w (s : Str) : evF tell0 noTL (atL 4 LS23 noL) 1 Tryd.f74 [.str s, .fn 78 []] = bif lenBad s then some (.bool false) else ck_ (((s.length : Int) == (s.length : Int)) && Nat.ble s.length big) (bif allB wordB s then some (.bool true) else some (.bool false)) := by kernel_rfl

theorem spelt_of {g : Nat} {P : Int → Bool} (s : Str) (h : evF tell0 noTL (atL 4 LS23 noL) 1 Tryd.f74 [.str s, .fn g []] = bif lenBad s then some (.bool false) else ck_ (((s.length : Int) == (s.length : Int)) && Nat.ble s.length big) (bif allB P s then some (.bool true) else some (.bool false))) :
    Snd 74 [.str s, .fn g []] (.bool (spelt P s)) := by
  refine SoundAt.rooms fun hroom => snd_fn (n := 1) (tell0_ok _) (noTL_ok _ _) (fn := Tryd.f74) (by kernel_rfl) (loops_of (fn := Tryd.f74) (by kernel_rfl) (loops_1 ids23.1 (atL_ok (fun _ => LS23_ok) fun h => absurd ids23.2.1 h))) (h.trans ?_)
  have h1 : s.length ≤ big := hroom (.str s) (by simp)
  rw [ck_t (by rw [ble_t h1, beq_self_eq_true]; rfl)]
  unfold spelt
  cases lenBad s <;> cases allB P s <;> rfl

def pSp : List (D Pl) → Option (Bool × D Pl)
  | [.str s, .fn 75 []] => some (true, .bool (spelt nameB s))
  | [.str s, .fn 78 []] => some (true, .bool (spelt wordB s))
  | _ => none
theorem pSp_ok : ∀ ds b d, pSp ds = some (b, d) → b = true → Snd 74 ds d := by
  intro ds b d h hb
  unfold pSp at h
  split at h
  · simp only [Option.some.injEq, Prod.mk.injEq] at h; obtain ⟨_, rfl⟩ := h; exact spelt_of _ (e23n _)
  · simp only [Option.some.injEq, Prod.mk.injEq] at h; obtain ⟨_, rfl⟩ := h; exact spelt_of _ (e23w _)
  · simp at h

def tSp (R : Eng.Told Pl) : Eng.Told Pl := tell 74 pSp (tSm R)
theorem tSp_ok {R : Eng.Told Pl} (h : TOk R) : TOk (tSp R) := tell_ok pSp_ok (tSm_ok h)

def nameV (s : Str) : Bool := bif spelt nameB s then smallB (byt s 0) else false

theorem e13 (s : Str) : ev (tSp tell0) noTL 2 59 [.str s] = ck_ ((true && decide ((0 : Int) < (s.length : Int))) || !(spelt nameB s == true)) (bif (spelt nameB s == true) then some (.bool (smallB (byt s 0))) else some (.bool false)) := by kernel_rfl
theorem e15 (s : Str) : ev (tSp tell0) noTL 2 60 [.str s] = some (.bool (spelt wordB s)) := by kernel_rfl

theorem spelt_pos {P : Int → Bool} {s : Str} (h : spelt P s = true) : 0 < s.length := by
  cases s with
  | nil => simp [spelt, lenBad] at h
  | cons a r => simp

theorem name_sound (s : Str) : Snd 59 [.str s] (.bool (nameV s)) := by
  refine snd_of (tSp_ok (tell0_ok _)) (noTL_ok _ _) ((e13 s).trans ?_)
  unfold nameV
  cases h : spelt nameB s with
  | true => rw [ck_t (by rw [decide_eq_true (show (0 : Int) < (s.length : Int) by have := spelt_pos h; omega)]; rfl)]; rfl
  | false => rw [ck_t (by cases decide ((0 : Int) < (s.length : Int)) <;> rfl)]; rfl
theorem word_sound (s : Str) : Snd 60 [.str s] (.bool (spelt wordB s)) := snd_of (tSp_ok (tell0_ok _)) (noTL_ok _ _) (e15 s)

-- by the document

def badN (c : Int) : Bool := bif (bif !(smallB c) then !(digitB c) else false) then c != 95 else false
def s14 (s : Str) (i : Int) : St Pl := mkS 48 [(0, .str s), (2, .bool false), (3, dI i)] []
def r14 (s : Str) : St Pl := mkS 48 [(0, .str s), (2, .bool false)] []
theorem b14 (s : Str) (i : Nat) : evC (tSm tell0) noTL noL 1 (loopAt 42 0) [0, 2, 3] (s14 s i) =
    lt_ i s.length (ix_ i s.length (ixo_ i s.length ((!(smallB (byt s i))) == true) (ixo_ i s.length ((decide (byt s i ≥ 48) == true) && ((!(smallB (byt s i))) == true)) (ixo_ i s.length ((bif !(smallB (byt s i)) then !(digitB (byt s i)) else false) == true) (bif badN (byt s i) then some (.ret, s14 s i) else some (.normal, s14 s (IntKind.i64.wrap ((i : Int) + 1)))))))) (some (.exit 0, s14 s i)) := by kernel_rfl

def cap (c : Int) : Bool := bif decide (c ≥ 65) then decide (c ≤ 90) else false
def badW (c : Int) : Bool := bif (bif (bif (bif (bif !(smallB c) then !(cap c) else false) then !(digitB c) else false) then c != 95 else false) then c != 45 else false) then c != 46 else false
def s16 (s : Str) (i : Int) : St Pl := mkS 55 [(0, .str s), (2, .bool false), (3, dI i)] []
def r16 (s : Str) : St Pl := mkS 55 [(0, .str s), (2, .bool false)] []
theorem b16 (s : Str) (i : Nat) : evC (tSm tell0) noTL noL 1 (loopAt 43 0) [0, 2, 3] (s16 s i) =
    lt_ i s.length (ix_ i s.length (bif badW (byt s i) then some (.ret, s16 s i) else some (.normal, s16 s (IntKind.i64.wrap ((i : Int) + 1))))) (some (.exit 0, s16 s i)) := by kernel_rfl
theorem ids14 : (loopsAt 42).length = 1 ∧ firstId (loopAt 42 0) = 4 ∧ loopsOf (loopAt 42 0) = [] := ⟨by kernel_rfl, by kernel_rfl, by kernel_rfl⟩
theorem ids16 : (loopsAt 43).length = 1 ∧ firstId (loopAt 43 0) = 4 ∧ loopsOf (loopAt 43 0) = [] := ⟨by kernel_rfl, by kernel_rfl, by kernel_rfl⟩


def LS14 (S : St Pl) : Option (Bool × LR Pl) := match seenS 48 [0, 2, 3] S with
  | some ([.str s, .bool false, .int .i64 (.ofNat 0)], []) => some (Nat.ble s.length big, .ite (allB (fun c => !(badN c)) s) (.leaf (.exit 0) (r14 s)) (.leaf .ret (r14 s)))
  | _ => none

theorem LS14_ok : SOk X0 (loopAt 42 0) LS14 := by
  intro S b r h hb
  unfold LS14 at h
  split at h
  · rename_i s hs
    simp only [Option.some.injEq, Prod.mk.injEq] at h
    obtain ⟨rfl, rfl⟩ := h
    simp only [Nat.ble_eq] at hb
    refine Goes.pre (keepOf [0, 2, 3]) ?_
    rw [seenS_mask hs]
    exact search_of (tSm_ok (tell0_ok _)) ids14.2.2 (Sf := fun i => s14 s i) (S2' := fun i => s14 s i) (keep2 := [0, 2]) (p := fun i => !(badN (byt s i))) (by simp) (by simp)
      (fun i hi => by
        rw [b14, lt_t hi, ix_t hi, wrap_nat (show i ≤ big by omega)]
        try rw [ixo_t hi, ixo_t hi, ixo_t hi]
        cases badN (byt s i) <;> rfl) (by rw [b14, lt_f (by omega)]) rfl (fun i => rfl)
  · simp at h

def LS16 (S : St Pl) : Option (Bool × LR Pl) := match seenS 55 [0, 2, 3] S with
  | some ([.str s, .bool false, .int .i64 (.ofNat 0)], []) => some (Nat.ble s.length big, .ite (allB (fun c => !(badW c)) s) (.leaf (.exit 0) (r16 s)) (.leaf .ret (r16 s)))
  | _ => none

theorem LS16_ok : SOk X0 (loopAt 43 0) LS16 := by
  intro S b r h hb
  unfold LS16 at h
  split at h
  · rename_i s hs
    simp only [Option.some.injEq, Prod.mk.injEq] at h
    obtain ⟨rfl, rfl⟩ := h
    simp only [Nat.ble_eq] at hb
    refine Goes.pre (keepOf [0, 2, 3]) ?_
    rw [seenS_mask hs]
    exact search_of (tSm_ok (tell0_ok _)) ids16.2.2 (Sf := fun i => s16 s i) (S2' := fun i => s16 s i) (keep2 := [0, 2]) (p := fun i => !(badW (byt s i))) (by simp) (by simp)
      (fun i hi => by
        rw [b16, lt_t hi, ix_t hi, wrap_nat (show i ≤ big by omega)]
        try rw [ixo_t hi, ixo_t hi, ixo_t hi]
        cases badW (byt s i) <;> rfl) (by rw [b16, lt_f (by omega)]) rfl (fun i => rfl)
  · simp at h

def shortV (s : Str) : Bool := bif decide ((s.length : Int) < 1) then true else decide ((s.length : Int) > 24)
theorem e14 (s : Str) : evF (tSm tell0) noTL (atL 4 LS14 noL) 1 Tryd.f42 [.str s] = ck_ ((true && decide ((0 : Int) < (s.length : Int))) || !(shortV s == false))
    (bif (shortV s == false) then (bif !(smallB (byt s 0)) then some (.bool false) else ck_ (Nat.ble s.length big) (bif allB (fun c => !(badN c)) s then some (.bool true) else some (.bool false))) else some (.bool false)) := by kernel_rfl
theorem e16 (s : Str) : evF (tSm tell0) noTL (atL 4 LS16 noL) 1 Tryd.f43 [.str s] = bif shortV s then some (.bool false) else ck_ (Nat.ble s.length big) (bif allB (fun c => !(badW c)) s then some (.bool true) else some (.bool false)) := by kernel_rfl

/-- bytes are a byte's values -/
theorem byte_all {P : Int → Prop} (h : ∀ c : Fin 256, P (Int.ofNat c.val)) (u : UInt8) : P (Int.ofNat u.toNat) := h ⟨u.toNat, u.toNat_lt⟩

theorem bad_name (u : UInt8) : (!(badN (Int.ofNat u.toNat))) = nameB (Int.ofNat u.toNat) := byte_all (P := fun c => (!(badN c)) = nameB c) (by decide +kernel) u
theorem bad_word (u : UInt8) : (!(badW (Int.ofNat u.toNat))) = wordB (Int.ofNat u.toNat) := byte_all (P := fun c => (!(badW c)) = wordB c) (by decide +kernel) u

theorem allB_congr {P Q : Int → Bool} (h : ∀ u : UInt8, P (Int.ofNat u.toNat) = Q (Int.ofNat u.toNat)) (s : Str) : allB P s = allB Q s := by
  unfold allB byt
  congr 1
  funext i
  exact h _

theorem short_eq (s : Str) : shortV s = lenBad s := by
  unfold shortV lenBad
  cases s with
  | nil => rfl
  | cons a r =>
    rw [decide_eq_false (show ¬ (((a :: r).length : Int) < 1) by simp only [List.length_cons]; omega)]
    rfl

theorem refName_sound (s : Str) : Snd 42 [.str s] (.bool (nameV s)) := by
  refine SoundAt.rooms fun hroom => snd_fn (n := 1) (tSm_ok (tell0_ok _)) (noTL_ok _ _) (fn := Tryd.f42) (by kernel_rfl) (loops_of (fn := Tryd.f42) (by kernel_rfl) (loops_1 ids14.1 (atL_ok (fun _ => LS14_ok) fun h => absurd ids14.2.1 h))) ((e14 s).trans ?_)
  have h1 : s.length ≤ big := hroom (.str s) (by simp)
  rw [allB_congr bad_name, short_eq]
  unfold nameV spelt
  cases hb : lenBad s with
  | true => cases decide ((0 : Int) < (s.length : Int)) <;> rfl
  | false =>
    have : 0 < s.length := by
      cases s with
      | nil => simp [lenBad] at hb
      | cons a r => simp
    rw [decide_eq_true (show (0 : Int) < (s.length : Int) by omega), ck_t (ble_t h1)]
    cases smallB (byt s 0) <;> cases allB nameB s <;> rfl

theorem refWord_sound (s : Str) : Snd 43 [.str s] (.bool (spelt wordB s)) := by
  refine SoundAt.rooms fun hroom => snd_fn (n := 1) (tSm_ok (tell0_ok _)) (noTL_ok _ _) (fn := Tryd.f43) (by kernel_rfl) (loops_of (fn := Tryd.f43) (by kernel_rfl) (loops_1 ids16.1 (atL_ok (fun _ => LS16_ok) fun h => absurd ids16.2.1 h))) ((e16 s).trans ?_)
  have h1 : s.length ≤ big := hroom (.str s) (by simp)
  rw [allB_congr bad_word, short_eq, ck_t (ble_t h1)]
  unfold spelt
  cases lenBad s <;> cases allB wordB s <;> rfl

end Go.Proofs.YtgngobcmfflcpaaDoor
