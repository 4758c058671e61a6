/-
  THE SCANNER GOES ON BY SOME BYTES; its place.
-/
import Derived.Test.YtmhmelmoionoiaaGreatDoorLib
namespace Go.Proofs.YtmhmelmoionoiaaGreatDoor
open Go.Eng

set_option maxRecDepth 100000

/-- The line of a place; where it begins. -/
def ln (s : Str) : Nat → Int
  | 0 => 1
  | p + 1 => bif byt s p == 10 then ln s p + 1 else ln s p
def sn (s : Str) : Nat → Int
  | 0 => 0
  | p + 1 => bif byt s p == 10 then (p : Int) + 1 else sn s p

theorem ln_in (s : Str) : ∀ p, 1 ≤ ln s p ∧ ln s p ≤ (p : Int) + 1
  | 0 => ⟨Int.le_refl 1, by simp [ln]⟩
  | p + 1 => by
    have h := ln_in s p
    simp only [ln]
    cases byt s p == 10 <;> simp only [cond_true, cond_false] <;> omega
theorem sn_in (s : Str) : ∀ p, 0 ≤ sn s p ∧ sn s p ≤ (p : Int)
  | 0 => ⟨Int.le_refl 0, by simp [sn]⟩
  | p + 1 => by
    have h := sn_in s p
    simp only [sn]
    cases byt s p == 10 <;> simp only [cond_true, cond_false] <;> omega

/-- The scanner's first cells. -/
def bxc (s : Str) (p : Nat) (l t : Int) (r : List (D Pl)) : List (D Pl) := .str s :: dI p :: dI l :: dI t :: r

def s18 (s : Str) (p : Nat) (l t n : Int) (i : Int) (r : List (D Pl)) : St Pl := mkS 40 [(0, .ptr 50000 0), (4, dI n), (5, dI i)] [(50000, .box false (bxc s p l t r))]
def r18 (s : Str) (p : Nat) (l t : Int) (r : List (D Pl)) : St Pl := mkS 40 [(0, .ptr 50000 0)] [(50000, .box false (bxc s p l t r))]

def w64 (z : Int) : Int := IntKind.i64.wrap z
def s18w (s : Str) (p : Int) (l t n : Int) (i : Int) (r : List (D Pl)) : St Pl := mkS 40 [(0, .ptr 50000 0), (4, dI n), (5, dI i)] [(50000, .box false (.str s :: dI p :: dI l :: dI t :: r))]

theorem b18 (s : Str) (p : Nat) (l t n : Int) (i : Nat) (r : List (D Pl)) : evC tell0 noTL noL 1 (loopAt 16 0) [0, 4, 5] (s18 s p l t n i r) =
    bif decide ((i : Int) < n) then ix_ p s.length (bif byt s p == 10 then some (.normal, s18w s (w64 ((p : Int) + 1)) (w64 (l + 1)) (w64 ((p : Int) + 1)) n (w64 ((i : Int) + 1)) r) else some (.normal, s18w s (w64 ((p : Int) + 1)) l t n (w64 ((i : Int) + 1)) r))
      else some (.exit 0, s18 s p l t n i r) := by kernel_rfl

theorem ids18 : (loopsAt 16).length = 1 ∧ firstId (loopAt 16 0) = 1 ∧ loopsOf (loopAt 16 0) = [] := ⟨by kernel_rfl, by kernel_rfl, by kernel_rfl⟩

theorem go18 (s : Str) (p n : Nat) (r : List (D Pl)) (hp : p + n ≤ s.length) (hl : s.length ≤ big) :
    Goes X0 (.loop (loopAt 16 0)) (s18 s p (ln s p) (sn s p) n 0 r) (pickR (.leaf (.exit 0) (r18 s (p + n) (ln s (p + n)) (sn s (p + n)) r))).1 (pickR (.leaf (.exit 0) (r18 s (p + n) (ln s (p + n)) (sn s (p + n)) r))).2 := by
  have hbig : big = 140737488355328 := rfl
  refine loop_all (Sf := fun i => s18 s (p + i) (ln s (p + i)) (sn s (p + i)) n i r) (n := n) (by simp) (fun i hi => ?_) ?_
  · refine goes_of (tell0_ok _) (noTL_ok _ _) (noLoops ids18.2.2) ((b18 s (p + i) _ _ n i r).trans ?_)
    have h1 := ln_in s (p + i)
    rw [decide_eq_true (show (i : Int) < (n : Int) by omega), cond_true, ix_t (show p + i < s.length by omega)]
    have e1 : w64 (((p + i : Nat) : Int) + 1) = ((p + (i + 1) : Nat) : Int) := wrap_nat (by omega)
    have e2 : w64 ((i : Int) + 1) = ((i + 1 : Nat) : Int) := wrap_nat (by omega)
    have e3 : w64 (ln s (p + i) + 1) = ln s (p + i) + 1 := wrap_in _ (by omega)
    rw [e1, e2, e3]
    show _ = some (Ex.normal, s18 s (p + (i + 1)) (ln s (p + i + 1)) (sn s (p + i + 1)) n ((i + 1 : Nat) : Int) r)
    simp only [ln, sn]
    cases byt s (p + i) == 10 <;> rfl
  · have := (goes_of (tell0_ok _) (noTL_ok _ _) (noLoops ids18.2.2) ((b18 s (p + n) (ln s (p + n)) (sn s (p + n)) n n r).trans (by rw [decide_eq_false (by omega)]; rfl))).post (keepOf [0])
    exact this

def LS18 (S : St Pl) : Option (Bool × LR Pl) := match seenS 40 [0, 4, 5] S with
  | some ([.ptr 50000 0, .int .i64 n, .int .i64 (.ofNat 0)], [(50000, .box false (.str s :: .int .i64 (.ofNat p) :: .int .i64 l :: .int .i64 t :: r))]) =>
    some (decide (0 ≤ n) && (l == ln s p && (t == sn s p && (Nat.ble (p + n.toNat) s.length && Nat.ble s.length big))), .leaf (.exit 0) (r18 s (p + n.toNat) (ln s (p + n.toNat)) (sn s (p + n.toNat)) r))
  | _ => none

theorem LS18_ok : SOk X0 (loopAt 16 0) LS18 := by
  intro S b r h hb
  unfold LS18 at h
  split at h
  · rename_i n s p l t r' hs
    simp only [Option.some.injEq, Prod.mk.injEq] at h
    obtain ⟨rfl, rfl⟩ := h
    simp only [Bool.and_eq_true, Nat.ble_eq, beq_iff_eq, decide_eq_true_eq] at hb
    obtain ⟨h0, rfl, rfl, h1, h2⟩ := hb
    obtain ⟨n, rfl⟩ := Int.eq_ofNat_of_zero_le h0
    refine Goes.pre (keepOf [0, 4, 5]) ?_
    rw [seenS_mask hs]
    exact go18 s p n r' h1 h2
  · simp at h

/-- All else of a scanner: its classes, no tokens, nothing wrong. -/
def rst (a b c d e f : Int) (bc bat bl bcol : Int) (bw : Str) (tk : D Pl) : List (D Pl) := [.int .u64 a, .int .u64 b, .int .u64 c, .int .u64 d, .int .u64 e, .int .u64 f, tk, dI bc, dI bat, dI bl, dI bcol, .str bw]

theorem e18 (s : Str) (p : Nat) (l t n : Int) (a b c d e f bc bat bl bcol : Int) (bw : Str) : evM tell0 noTL (atL 1 LS18 noL) 1 Tryz.f16 [(50000, .box false (bxc s p l t (rst a b c d e f bc bat bl bcol bw .nilS)))] [.ptr 50000 0, dI n] =
    ck_ (decide (0 ≤ n) && (l == ln s p && (t == sn s p && (Nat.ble (p + n.toNat) s.length && Nat.ble s.length big))))
      (some (.env [.obB 50000 (bxc s (p + n.toNat) (ln s (p + n.toNat)) (sn s (p + n.toNat)) (rst a b c d e f bc bat bl bcol bw .nilS))] (.tup []))) := by kernel_rfl

theorem step_sound (s : Str) (p : Nat) (n : Int) (a b c d e f bc bat bl bcol : Int) (bw : Str) (h0 : 0 ≤ n) (h1 : p + n.toNat ≤ s.length) (h2 : s.length ≤ big) :
    SndM 16 [(50000, .box false (bxc s p (ln s p) (sn s p) (rst a b c d e f bc bat bl bcol bw .nilS)))] [.ptr 50000 0, dI n] (.tup [])
      (decH [.obB 50000 (bxc s (p + n.toNat) (ln s (p + n.toNat)) (sn s (p + n.toNat)) (rst a b c d e f bc bat bl bcol bw .nilS))]) := by
  refine snd_m (n := 1) (tell0_ok _) (noTL_ok _ _) (fn := Tryz.f16) (by kernel_rfl) (loops_of (fn := Tryz.f16) (by kernel_rfl) (loops_1 ids18.1 (atL_ok (fun _ => LS18_ok) fun h => absurd ids18.2.1 h))) ((e18 s p _ _ n a b c d e f bc bat bl bcol bw).trans ?_)
  rw [ck_t]
  rw [decide_eq_true h0, beq_self_eq_true, beq_self_eq_true, ble_t h1, ble_t h2]
  rfl

def pSt : List (D Pl) → List (D Pl) → Option (Bool × D Pl × List (D Pl))
  | [.obB 50000 (.str s :: .int .i64 (.ofNat p) :: .int .i64 l :: .int .i64 t :: [.int .u64 a, .int .u64 b, .int .u64 c, .int .u64 d, .int .u64 e, .int .u64 f, .nilS, .int .i64 bc, .int .i64 bat, .int .i64 bl, .int .i64 bcol, .str bw])], [.ptr 50000 0, .int .i64 n] =>
    some (decide (0 ≤ n) && (l == ln s p && (t == sn s p && (Nat.ble (p + n.toNat) s.length && Nat.ble s.length big))), .tup [], [.obB 50000 (bxc s (p + n.toNat) (ln s (p + n.toNat)) (sn s (p + n.toNat)) (rst a b c d e f bc bat bl bcol bw .nilS))])
  | _, _ => none

theorem pSt_ok : ∀ os ds b d os', pSt os ds = some (b, d, os') → b = true → SndM 16 (decH os) ds d (decH os') := by
  intro os ds b d os' h hb
  unfold pSt at h
  split at h
  · simp only [Option.some.injEq, Prod.mk.injEq] at h
    obtain ⟨rfl, rfl, rfl⟩ := h
    simp only [Bool.and_eq_true, Nat.ble_eq, beq_iff_eq, decide_eq_true_eq] at hb
    obtain ⟨h0, rfl, rfl, h1, h2⟩ := hb
    exact step_sound _ _ _ _ _ _ _ _ _ _ _ _ _ _ h0 h1 h2
  · simp at h

def tSt (R : Eng.Told Pl) : Eng.Told Pl := tellM 16 pSt R
theorem tSt_ok {R : Eng.Told Pl} (h : TOk R) : TOk (tSt R) := tellM_ok pSt_ok h

end Go.Proofs.YtmhmelmoionoiaaGreatDoor
