/-
  PLACES OF A TEXT, by the program and by the document; whether two tokens are one.
-/
import Derived.Test.YtcopmdhjambfjaaDoorStep
namespace Go.Proofs.YtcopmdhjambfjaaDoor
open Go.Eng

set_option maxRecDepth 100000

def mn (s : Str) (a : Int) : Int := bif decide ((s.length : Int) < a) then (s.length : Int) else a
def cl (s : Str) (a : Int) : Int := bif decide (mn s a > 0) then mn s a else 0
def cm (s : Str) (a : Int) : Nat := (cl s a).toNat
def posW (s : Str) (p : Nat) : List (D Pl) := [dI p, dI (ln s p), dI (w64 (w64 ((p : Int) - sn s p) + 1))]
def posM (s : Str) (p : Nat) : List (D Pl) := [dI p, dI (ln s p), dI ((p : Int) - sn s p + 1)]

theorem eAt (s : Str) (a : Int) : ev (tSt tell0) noTL 3 9 [.str s, dI a] =
    ck_ (decide (0 ≤ cl s a) && ((1 : Int) == ln s 0 && ((0 : Int) == sn s 0 && (Nat.ble (0 + (cl s a).toNat) s.length && Nat.ble s.length big)))) (some (.agg (posW s (0 + (cl s a).toNat)))) := by kernel_rfl

theorem cl_in (s : Str) (a : Int) : 0 ≤ cl s a ∧ cl s a ≤ (s.length : Int) := by
  unfold cl mn
  by_cases h : (s.length : Int) < a
  · simp only [decide_eq_true h, cond_true]
    by_cases h2 : (s.length : Int) > 0
    · simp only [decide_eq_true h2, cond_true]; omega
    · simp only [decide_eq_false h2, cond_false]; omega
  · simp only [decide_eq_false h, cond_false]
    by_cases h2 : a > 0
    · simp only [decide_eq_true h2, cond_true]; omega
    · simp only [decide_eq_false h2, cond_false]; omega

theorem cm_le (s : Str) (a : Int) : cm s a ≤ s.length := by
  have := cl_in s a
  unfold cm
  omega

theorem at_sound (s : Str) (a : Int) : Snd 9 [.str s, dI a] (.agg (posM s (cm s a))) := by
  refine SoundAt.rooms fun hroom => snd_of (tSt_ok (tell0_ok _)) (noTL_ok _ _) ((eAt s a).trans ?_)
  have hl : s.length ≤ big := hroom (.str s) (by simp)
  have hbig : big = 140737488355328 := rfl
  have h1 := cl_in s a
  have h2 := cm_le s a
  have h3 := sn_in s (cm s a)
  have e : 0 + (cl s a).toNat = cm s a := by unfold cm; omega
  rw [e]
  rw [ck_t (by rw [decide_eq_true h1.1, ble_t h2, ble_t hl]; rfl)]
  unfold posW posM
  have w1 : w64 (((cm s a : Nat) : Int) - sn s (cm s a)) = ((cm s a : Nat) : Int) - sn s (cm s a) := wrap_in _ (by omega)
  have w2 : w64 (((cm s a : Nat) : Int) - sn s (cm s a) + 1) = ((cm s a : Nat) : Int) - sn s (cm s a) + 1 := wrap_in _ (by omega)
  rw [w1, w2]

-- by the document

def s10 (s : Str) (n i a l c : Int) : St Pl := mkS 37 [(0, .str s), (1, dI n), (4, .ptr 4 0), (5, .ptr 5 0), (6, dI i)] [(5, .box false [dI a, dI l, dI c]), (4, .box false [dI 0, dI 0, dI 0])]
def r10 (s : Str) (a l c : Int) : St Pl := mkS 37 [(0, .str s), (4, .ptr 4 0), (5, .ptr 5 0)] [(5, .box false [dI a, dI l, dI c]), (4, .box false [dI 0, dI 0, dI 0])]

theorem b10 (s : Str) (n a l c : Int) (i : Nat) : evC tell0 noTL noL 1 (loopAt 10 0) [0, 1, 4, 5, 6] (s10 s n i a l c) =
    bif (bif decide ((i : Int) < (s.length : Int)) then decide ((i : Int) < n) else false) then ix_ i s.length (bif byt s i == 10 then some (.normal, s10 s n (w64 ((i : Int) + 1)) (w64 (a + 1)) (w64 (l + 1)) 1) else some (.normal, s10 s n (w64 ((i : Int) + 1)) (w64 (a + 1)) l (w64 (c + 1))))
      else some (.exit 0, s10 s n i a l c) := by kernel_rfl

theorem ids10 : (loopsAt 10).length = 1 ∧ firstId (loopAt 10 0) = 3 ∧ loopsOf (loopAt 10 0) = [] := ⟨by kernel_rfl, by kernel_rfl, by kernel_rfl⟩

theorem cm_lt {s : Str} {n : Int} {i : Nat} (h : i < cm s n) : i < s.length ∧ (i : Int) < n := by
  have h1 := cm_le s n
  refine ⟨by omega, ?_⟩
  have h2 : (i : Int) < cl s n := by unfold cm at h; omega
  unfold cl mn at h2
  by_cases h3 : (s.length : Int) < n
  · omega
  · simp only [decide_eq_false h3, cond_false] at h2
    by_cases h4 : n > 0
    · simp only [decide_eq_true h4, cond_true] at h2; omega
    · simp only [decide_eq_false h4, cond_false] at h2; omega

theorem cm_end (s : Str) (n : Int) : ¬ (cm s n < s.length ∧ (cm s n : Int) < n) := by
  rintro ⟨h1, h2⟩
  have h3 := cl_in s n
  have h4 : ((cm s n : Nat) : Int) = cl s n := by unfold cm; omega
  rw [h4] at h2
  have h5 : cl s n < (s.length : Int) := by omega
  unfold cl mn at h2 h5
  by_cases h : (s.length : Int) < n
  · simp only [decide_eq_true h, cond_true] at h2 h5
    by_cases h6 : (s.length : Int) > 0
    · simp only [decide_eq_true h6, cond_true] at h5; omega
    · simp only [decide_eq_false h6, cond_false] at h5; omega
  · simp only [decide_eq_false h, cond_false] at h2 h5
    by_cases h6 : n > 0
    · simp only [decide_eq_true h6, cond_true] at h2; omega
    · simp only [decide_eq_false h6, cond_false] at h2; omega

theorem go10 (s : Str) (n : Int) (hl : s.length ≤ big) :
    Goes X0 (.loop (loopAt 10 0)) (s10 s n 0 0 1 1) (pickR (.leaf (.exit 0) (r10 s (cm s n) (ln s (cm s n)) (((cm s n : Nat) : Int) - sn s (cm s n) + 1)))).1 (pickR (.leaf (.exit 0) (r10 s (cm s n) (ln s (cm s n)) (((cm s n : Nat) : Int) - sn s (cm s n) + 1)))).2 := by
  have hbig : big = 140737488355328 := rfl
  have hcm := cm_le s n
  refine loop_all (Sf := fun i => s10 s n i i (ln s i) ((i : Int) - sn s i + 1)) (n := cm s n) (e1 := .exit 0) (by simp) (fun i hi => ?_) ?_
  · refine goes_of (tell0_ok _) (noTL_ok _ _) (noLoops ids10.2.2) ((b10 s n i (ln s i) _ i).trans ?_)
    obtain ⟨h1, h2⟩ := cm_lt hi
    have h3 := ln_in s i
    have h4 := sn_in s i
    rw [decide_eq_true (show (i : Int) < (s.length : Int) by omega), decide_eq_true h2, cond_true, cond_true, ix_t h1]
    have e1 : w64 ((i : Int) + 1) = ((i + 1 : Nat) : Int) := wrap_nat (by omega)
    have e2 : w64 (ln s i + 1) = ln s i + 1 := wrap_in _ (by omega)
    have e3 : w64 ((i : Int) - sn s i + 1 + 1) = (i : Int) - sn s i + 1 + 1 := wrap_in _ (by omega)
    rw [e1, e2, e3]
    simp only [ln, sn]
    cases byt s i == 10
    · simp only [cond_false]
      rw [show (i : Int) - sn s i + 1 + 1 = ((i + 1 : Nat) : Int) - sn s i + 1 by omega]
    · simp only [cond_true]
      rw [show ((i + 1 : Nat) : Int) - ((i : Int) + 1) + 1 = 1 by omega]
  · have he := cm_end s n
    have hc : (bif decide (((cm s n : Nat) : Int) < (s.length : Int)) then decide (((cm s n : Nat) : Int) < n) else false) = false := by
      by_cases h : ((cm s n : Nat) : Int) < (s.length : Int)
      · rw [decide_eq_true h, cond_true]; exact decide_eq_false fun h2 => he ⟨by omega, h2⟩
      · rw [decide_eq_false h, cond_false]
    exact (goes_of (tell0_ok _) (noTL_ok _ _) (noLoops ids10.2.2) ((b10 s n (cm s n) (ln s (cm s n)) _ (cm s n)).trans (by rw [hc]; rfl))).post (keepOf [0, 4, 5])

def LS10 (S : St Pl) : Option (Bool × LR Pl) := match seenS 37 [0, 1, 4, 5, 6] S with
  | some ([.str s, .int .i64 n, .ptr 4 0, .ptr 5 0, .int .i64 (.ofNat 0)], [(5, .box false [.int .i64 (.ofNat 0), .int .i64 (.ofNat 1), .int .i64 (.ofNat 1)]), (4, .box false [.int .i64 (.ofNat 0), .int .i64 (.ofNat 0), .int .i64 (.ofNat 0)])]) =>
    some (Nat.ble s.length big, .leaf (.exit 0) (r10 s (cm s n) (ln s (cm s n)) (((cm s n : Nat) : Int) - sn s (cm s n) + 1)))
  | _ => none

theorem LS10_ok : SOk X0 (loopAt 10 0) LS10 := by
  intro S b r h hb
  unfold LS10 at h
  split at h
  · rename_i s n hs
    simp only [Option.some.injEq, Prod.mk.injEq] at h
    obtain ⟨rfl, rfl⟩ := h
    refine Goes.pre (keepOf [0, 1, 4, 5, 6]) ?_
    rw [seenS_mask hs]
    exact go10 s n (Nat.le_of_ble_eq_true hb)
  · simp at h

theorem e10 (s : Str) (a : Int) : evF tell0 noTL (atL 3 LS10 noL) 1 Tryd.f10 [.str s, dI a] = ck_ (Nat.ble s.length big) (some (.agg (posM s (cm s a)))) := by kernel_rfl

theorem rat_sound (s : Str) (a : Int) : Snd 10 [.str s, dI a] (.agg (posM s (cm s a))) := by
  refine SoundAt.rooms fun hroom => snd_fn (n := 1) (tell0_ok _) (noTL_ok _ _) (fn := Tryd.f10) (by kernel_rfl) (loops_of (fn := Tryd.f10) (by kernel_rfl) (loops_1 ids10.1 (atL_ok (fun _ => LS10_ok) fun h => absurd ids10.2.1 h))) ((e10 s a).trans ?_)
  have hl : s.length ≤ big := hroom (.str s) (by simp)
  rw [ck_t (ble_t hl)]

-- tokens

def posEq (a b : PosR) : Bool := a.at' == b.at' && (a.line == b.line && (a.col == b.col && true))
def eqP (a b : PartR) : Bool := a.expr == b.expr && (a.s == b.s && (posEq a.p b.p && true))
def px (x : List PartR) (i : Nat) : PartR := x.getD i default
def allE (x y : List PartR) : Bool := (List.range x.length).all fun i => eqP (px x i) (px y i)

def s19 (x y : List PartR) (i : Int) : St Pl := mkS 26 [(0, .pl (pParts x) .any), (1, .pl (pParts y) .any), (4, .bool false), (12, dI x.length), (13, dI i)] []
def r19 (x y : List PartR) : St Pl := mkS 26 [(0, .pl (pParts x) .any), (1, .pl (pParts y) .any), (4, .bool false)] []
theorem b19 (x y : List PartR) (i : Nat) : evC tell0 noTL noL 1 (loopAt 19 0) [0, 1, 4, 12, 13] (s19 x y i) =
    lt_ i x.length (ix_ i x.length (ix_ i y.length (bif !(eqP (px x i) (px y i)) then some (.ret, s19 x y i) else some (.normal, s19 x y (w64 ((i : Int) + 1)))))) (some (.exit 0, s19 x y i)) := by kernel_rfl
theorem ids19 : (loopsAt 19).length = 1 ∧ firstId (loopAt 19 0) = 4 ∧ loopsOf (loopAt 19 0) = [] := ⟨by kernel_rfl, by kernel_rfl, by kernel_rfl⟩

def LS19 (S : St Pl) : Option (Bool × LR Pl) := match seenS 26 [0, 1, 4, 12, 13] S with
  | some ([.pl ⟨.parts, x⟩ .any, .pl ⟨.parts, y⟩ .any, .bool false, .int .i64 n, .int .i64 (.ofNat 0)], []) =>
    some (n == (x.length : Int) && ((x.length : Int) == (y.length : Int) && Nat.ble x.length big), .ite (allE x y) (.leaf (.exit 0) (r19 x y)) (.leaf .ret (r19 x y)))
  | _ => none

theorem LS19_ok : SOk X0 (loopAt 19 0) LS19 := by
  intro S b r h hb
  unfold LS19 at h
  split at h
  · rename_i x y n hs
    simp only [Option.some.injEq, Prod.mk.injEq] at h
    obtain ⟨rfl, rfl⟩ := h
    simp only [Bool.and_eq_true, Nat.ble_eq, beq_iff_eq] at hb
    obtain ⟨rfl, h2, h3⟩ := hb
    have h2 : x.length = y.length := by omega
    refine Goes.pre (keepOf [0, 1, 4, 12, 13]) ?_
    rw [seenS_mask hs]
    exact search_of (tell0_ok _) ids19.2.2 (Sf := fun i => s19 x y i) (S2' := fun i => s19 x y i) (keep2 := [0, 1, 4]) (p := fun i => eqP (px x i) (px y i)) (n := x.length) (by simp) (by simp)
      (fun i hi => by rw [b19, lt_t hi, ix_t hi, ix_t (by omega), show w64 ((i : Int) + 1) = ((i + 1 : Nat) : Int) from wrap_nat (by omega)]; cases eqP (px x i) (px y i) <;> rfl) (by rw [b19, lt_f (by omega)]) rfl (fun i => rfl)
  · simp at h

theorem e19 (x y : List PartR) : evF tell0 noTL (atL 4 LS19 noL) 1 Tryd.f19 [.pl (pParts x) .any, .pl (pParts y) .any] =
    bif (x.length : Int) != (y.length : Int) then some (.bool false) else ck_ (((x.length : Int) == (x.length : Int)) && ((x.length : Int) == (y.length : Int) && Nat.ble x.length big)) (bif allE x y then some (.bool true) else some (.bool false)) := by kernel_rfl

def eqL (x y : List PartR) : Bool := bif (x.length : Int) != (y.length : Int) then false else allE x y

theorem room_parts {x : List PartR} (h : x.length * 48 ≤ big) : x.length ≤ big := by omega

theorem equal_sound (x y : List PartR) : Snd 19 [.pl (pParts x) .any, .pl (pParts y) .any] (.bool (eqL x y)) := by
  refine SoundAt.rooms fun hroom => snd_fn (n := 1) (tell0_ok _) (noTL_ok _ _) (fn := Tryd.f19) (by kernel_rfl) (loops_of (fn := Tryd.f19) (by kernel_rfl) (loops_1 ids19.1 (atL_ok (fun _ => LS19_ok) fun h => absurd ids19.2.1 h))) ((e19 x y).trans ?_)
  have hl : x.length ≤ big := room_parts (hroom (.pl (pParts x) .any) (by simp))
  unfold eqL
  cases h : (x.length : Int) != (y.length : Int) with
  | true => rfl
  | false =>
    have h' : ((x.length : Int) == (y.length : Int)) = true := by simpa [bne] using h
    simp only [cond_false]
    rw [ck_t (by rw [beq_self_eq_true, h', ble_t hl]; rfl)]
    cases allE x y <;> rfl

def pEqL : List (D Pl) → Option (Bool × D Pl)
  | [.pl ⟨.parts, x⟩ .any, .pl ⟨.parts, y⟩ .any] => some (true, .bool (eqL x y))
  | _ => none
theorem pEqL_ok : ∀ ds b d, pEqL ds = some (b, d) → b = true → Snd 19 ds d := by
  intro ds b d h hb
  unfold pEqL at h
  split at h
  · simp only [Option.some.injEq, Prod.mk.injEq] at h; obtain ⟨_, rfl⟩ := h; exact equal_sound _ _
  · simp at h
def tEq : Eng.Told Pl := tell 19 pEqL tell0
theorem tEq_ok : TOk tEq := tell_ok pEqL_ok (tell0_ok _)

def hdEq (x y : TokR) : Bool := (bif (bif (bif x.kind == y.kind then x.s == y.s else false) then x.n == y.n else false) then posEq x.p y.p else false)
def tokEq (x y : TokR) : Bool := bif hdEq x y then eqL x.parts y.parts else false

theorem eSame (x y : TokR) : ev tEq noTL 1 11 [.agg (cTok x), .agg (cTok y)] = bif hdEq x y == true then some (.bool (eqL x.parts y.parts)) else some (.bool false) := by kernel_rfl

theorem same_sound (x y : TokR) : Snd 11 [.agg (cTok x), .agg (cTok y)] (.bool (tokEq x y)) := by
  refine snd_of tEq_ok (noTL_ok _ _) ((eSame x y).trans ?_)
  unfold tokEq
  cases hdEq x y <;> rfl

def s12 (x y : TokR) (i : Int) : St Pl := mkS 59 [(2, .ptr 2 0), (3, .ptr 3 0), (4, .bool false), (5, dI i)] [(3, .box false (cTok y)), (2, .box false (cTok x))]
def r12 (x y : TokR) : St Pl := mkS 59 [(4, .bool false)] [(3, .box false (cTok y)), (2, .box false (cTok x))]
theorem b12 (x y : TokR) (i : Nat) : evC tell0 noTL noL 1 (loopAt 12 0) [2, 3, 4, 5] (s12 x y i) =
    lt_ i x.parts.length (ix_ i x.parts.length (ix_ i y.parts.length (bif !(eqP (px x.parts i) (px y.parts i)) then some (.ret, s12 x y i) else some (.normal, s12 x y (w64 ((i : Int) + 1)))))) (some (.exit 0, s12 x y i)) := by kernel_rfl
theorem ids12 : (loopsAt 12).length = 1 ∧ firstId (loopAt 12 0) = 4 ∧ loopsOf (loopAt 12 0) = [] := ⟨by kernel_rfl, by kernel_rfl, by kernel_rfl⟩

def LS12 (S : St Pl) : Option (Bool × LR Pl) := match seenS 59 [2, 3, 4, 5] S with
  | some ([.ptr 2 0, .ptr 3 0, .bool false, .int .i64 (.ofNat 0)], [(3, .box false [.int .i64 k', .str s', .int .i64 n', .pl ⟨.parts, y⟩ .any, .int .i64 a', .int .i64 b', .int .i64 c']), (2, .box false [.int .i64 k, .str s, .int .i64 n, .pl ⟨.parts, x⟩ .any, .int .i64 a, .int .i64 b, .int .i64 c])]) =>
    some ((x.length : Int) == (y.length : Int) && Nat.ble x.length big, .ite (allE x y) (.leaf (.exit 0) (r12 ⟨k, s, n, x, ⟨a, b, c⟩⟩ ⟨k', s', n', y, ⟨a', b', c'⟩⟩)) (.leaf .ret (r12 ⟨k, s, n, x, ⟨a, b, c⟩⟩ ⟨k', s', n', y, ⟨a', b', c'⟩⟩)))
  | _ => none

theorem go12 (x y : TokR) (h2 : x.parts.length = y.parts.length) (h3 : x.parts.length ≤ big) : Goes X0 (.loop (loopAt 12 0)) (s12 x y 0) (pickR (.ite (allE x.parts y.parts) (.leaf (.exit 0) (r12 x y)) (.leaf .ret (r12 x y)))).1
    (pickR (.ite (allE x.parts y.parts) (.leaf (.exit 0) (r12 x y)) (.leaf .ret (r12 x y)))).2 :=
  search_of (tell0_ok _) ids12.2.2 (Sf := fun i => s12 x y i) (S2' := fun i => s12 x y i) (keep2 := [4]) (p := fun i => eqP (px x.parts i) (px y.parts i)) (n := x.parts.length) (by simp) (by simp)
      (fun i hi => by rw [b12, lt_t hi, ix_t hi, ix_t (by omega), show w64 ((i : Int) + 1) = ((i + 1 : Nat) : Int) from wrap_nat (by omega)]; cases eqP (px x.parts i) (px y.parts i) <;> rfl) (by rw [b12, lt_f (by omega)]) rfl (fun i => rfl)

theorem LS12_ok : SOk X0 (loopAt 12 0) LS12 := by
  intro S b r h hb
  unfold LS12 at h
  split at h
  · rename_i k' s' n' y a' b' c' k s n x a b c hs
    simp only [Option.some.injEq, Prod.mk.injEq] at h
    obtain ⟨rfl, rfl⟩ := h
    simp only [Bool.and_eq_true, Nat.ble_eq, beq_iff_eq] at hb
    obtain ⟨h2, h3⟩ := hb
    refine Goes.pre (keepOf [2, 3, 4, 5]) ?_
    rw [seenS_mask hs]
    exact go12 ⟨k, s, n, x, ⟨a, b, c⟩⟩ ⟨k', s', n', y, ⟨a', b', c'⟩⟩ (by show x.length = y.length; omega) h3
  · simp at h

def hdNe (x y : TokR) : Bool := bif (bif (bif (bif x.kind != y.kind then true else !(x.s == y.s)) then true else x.n != y.n) then true else !(posEq x.p y.p)) then true else (x.parts.length : Int) != (y.parts.length : Int)

theorem e12 (x y : TokR) : evF tell0 noTL (atL 4 LS12 noL) 1 Tryd.f12 [.agg (cTok x), .agg (cTok y)] =
    bif hdNe x y then some (.bool false) else ck_ ((x.parts.length : Int) == (y.parts.length : Int) && Nat.ble x.parts.length big) (bif allE x.parts y.parts then some (.bool true) else some (.bool false)) := by kernel_rfl

theorem rsame_sound (x y : TokR) (hl : x.parts.length ≤ big) : Snd 12 [.agg (cTok x), .agg (cTok y)] (.bool (tokEq x y)) := by
  refine snd_fn (n := 1) (tell0_ok _) (noTL_ok _ _) (fn := Tryd.f12) (by kernel_rfl) (loops_of (fn := Tryd.f12) (by kernel_rfl) (loops_1 ids12.1 (atL_ok (fun _ => LS12_ok) fun h => absurd ids12.2.1 h))) ((e12 x y).trans ?_)
  have hne : hdNe x y = !(bif hdEq x y then !((x.parts.length : Int) != (y.parts.length : Int)) else false) := by
    unfold hdNe hdEq
    simp only [bne]
    cases x.kind == y.kind <;> cases x.s == y.s <;> cases x.n == y.n <;> cases posEq x.p y.p <;> cases (x.parts.length : Int) == (y.parts.length : Int) <;> rfl
  rw [hne]
  unfold tokEq eqL
  cases hdEq x y with
  | false => rfl
  | true =>
    simp only [cond_true, Bool.not_not]
    cases h : (x.parts.length : Int) != (y.parts.length : Int) with
    | true => rfl
    | false =>
      have h' : ((x.parts.length : Int) == (y.parts.length : Int)) = true := by simpa [bne] using h
      simp only [cond_false]
      rw [ck_t (by rw [h', ble_t hl]; rfl)]
      cases allE x.parts y.parts <;> rfl

end Go.Proofs.YtcopmdhjambfjaaDoor
