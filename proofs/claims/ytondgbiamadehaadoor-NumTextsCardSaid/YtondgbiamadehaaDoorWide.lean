/-
  WIDE NUMBERS, as the document reckons with them: what the code computes.
-/
import Derived.Test.YtondgbiamadehaaDoorLib
namespace Go.Proofs.YtondgbiamadehaaDoor
open Go.Eng

set_option maxRecDepth 100000

abbrev w64 (z : Int) : Int := IntKind.u64.wrap z
abbrev i64 (z : Int) : Int := IntKind.i64.wrap z
def B32 : Int := 4294967296

structure W5 where
  b : Bool
  d0 : Int
  d1 : Int
  d2 : Int
  d3 : Int
  d4 : Int

abbrev dU (n : Int) : D Pl := .int .u64 n
def c5 (w : W5) : List (D Pl) := [dU w.d0, dU w.d1, dU w.d2, dU w.d3, dU w.d4]
def cW (w : W5) : List (D Pl) := [.bool w.b, dU w.d0, dU w.d1, dU w.d2, dU w.d3, dU w.d4]

def d5 : List (D Pl) → Option W5
  | [.int .u64 a, .int .u64 b, .int .u64 c, .int .u64 d, .int .u64 e] => some ⟨false, a, b, c, d, e⟩
  | _ => none
def dW : List (D Pl) → Option W5
  | [.bool x, .int .u64 a, .int .u64 b, .int .u64 c, .int .u64 d, .int .u64 e] => some ⟨x, a, b, c, d, e⟩
  | _ => none
theorem d5_eq {cs : List (D Pl)} {w : W5} (h : d5 cs = some w) : cs = c5 w := by
  unfold d5 at h
  split at h
  · simp only [Option.some.injEq] at h; subst h; rfl
  · simp at h
theorem dW_eq {cs : List (D Pl)} {w : W5} (h : dW cs = some w) : cs = cW w := by
  unfold dW at h
  split at h
  · simp only [Option.some.injEq] at h; subst h; rfl
  · simp at h

/-- no sign -/
def W5.abs (w : W5) : W5 := ⟨false, w.d0, w.d1, w.d2, w.d3, w.d4⟩
def W5.with (w : W5) (b : Bool) : W5 := ⟨b, w.d0, w.d1, w.d2, w.d3, w.d4⟩

def ofU (b : Bool) (u : Int) : W5 := ⟨b, u.tmod B32, w64 (u.tdiv B32), 0, 0, 0⟩
def ofN (n : Int) : W5 := bif decide (n < 0) then ofU (decide (n < 0)) (w64 (0 - w64 n)) else ofU (decide (n < 0)) (w64 n)

theorem e25 (n : Int) : ev tell0 noTL 2 25 [dI n] = bif decide (n < 0) then some (.agg (cW (ofU (decide (n < 0)) (w64 (0 - w64 n))))) else some (.agg (cW (ofU (decide (n < 0)) (w64 n)))) := by kernel_rfl
theorem of_sound (n : Int) : Snd 25 [dI n] (.agg (cW (ofN n))) := by
  refine snd_of (tell0_ok _) (noTL_ok _ _) ((e25 n).trans ?_)
  unfold ofN
  cases decide (n < 0) <;> rfl

def plusW (a b : W5) : W5 :=
  let s0 := w64 (w64 (a.d0 + b.d0) + 0)
  let s1 := w64 (w64 (a.d1 + b.d1) + w64 (s0.tdiv B32))
  let s2 := w64 (w64 (a.d2 + b.d2) + w64 (s1.tdiv B32))
  let s3 := w64 (w64 (a.d3 + b.d3) + w64 (s2.tdiv B32))
  let s4 := w64 (w64 (a.d4 + b.d4) + w64 (s3.tdiv B32))
  ⟨false, s0.tmod B32, s1.tmod B32, s2.tmod B32, s3.tmod B32, s4.tmod B32⟩

theorem e36 (a b : W5) : ev tell0 noTL 2 36 [.agg (c5 a), .agg (c5 b)] = some (.agg (c5 (plusW a b))) := by kernel_rfl

def minusW (a b : W5) : W5 :=
  let s0 := w64 (w64 (w64 (a.d0 + B32) - b.d0) - 0)
  let s1 := w64 (w64 (w64 (a.d1 + B32) - b.d1) - w64 (1 - w64 (s0.tdiv B32)))
  let s2 := w64 (w64 (w64 (a.d2 + B32) - b.d2) - w64 (1 - w64 (s1.tdiv B32)))
  let s3 := w64 (w64 (w64 (a.d3 + B32) - b.d3) - w64 (1 - w64 (s2.tdiv B32)))
  let s4 := w64 (w64 (w64 (a.d4 + B32) - b.d4) - w64 (1 - w64 (s3.tdiv B32)))
  ⟨false, s0.tmod B32, s1.tmod B32, s2.tmod B32, s3.tmod B32, s4.tmod B32⟩

theorem e38 (a b : W5) : ev tell0 noTL 2 38 [.agg (c5 a), .agg (c5 b)] = some (.agg (c5 (minusW a b))) := by kernel_rfl

def lessW (a b : W5) : Bool := bif a.d4 != b.d4 then decide (a.d4 < b.d4) else bif a.d3 != b.d3 then decide (a.d3 < b.d3) else bif a.d2 != b.d2 then decide (a.d2 < b.d2) else bif a.d1 != b.d1 then decide (a.d1 < b.d1) else bif a.d0 != b.d0 then decide (a.d0 < b.d0) else false
def ifn (c : Bool) (x : Bool) (r : Option (D Pl)) : Option (D Pl) := bif c then some (.bool x) else r
theorem ifn_eq (c x y : Bool) : ifn c x (some (.bool y)) = some (.bool (bif c then x else y)) := by cases c <;> rfl
theorem e37 (a b : W5) : ev tell0 noTL 2 37 [.agg (c5 a), .agg (c5 b)] = ifn (a.d4 != b.d4) (decide (a.d4 < b.d4)) (ifn (a.d3 != b.d3) (decide (a.d3 < b.d3)) (ifn (a.d2 != b.d2) (decide (a.d2 < b.d2)) (ifn (a.d1 != b.d1) (decide (a.d1 < b.d1)) (ifn (a.d0 != b.d0) (decide (a.d0 < b.d0)) (some (.bool false)))))) := by kernel_rfl

theorem less_sound (a b : W5) : Snd 37 [.agg (c5 a), .agg (c5 b)] (.bool (lessW a b)) := by
  refine snd_of (tell0_ok _) (noTL_ok _ _) ((e37 a b).trans ?_)
  simp only [ifn_eq]; rfl

def p55 (f : W5 → W5 → D Pl) : List (D Pl) → Option (Bool × D Pl)
  | [.agg x, .agg y] => match d5 x, d5 y with
    | some a, some b => some (true, f a b)
    | _, _ => none
  | _ => none
theorem p55_ok {g : FuncId} {f : W5 → W5 → D Pl} (hf : ∀ a b, Snd g [.agg (c5 a), .agg (c5 b)] (f a b)) : ∀ ds b d, p55 f ds = some (b, d) → b = true → Snd g ds d := by
  intro ds b d h hb
  unfold p55 at h
  split at h
  · split at h
    · rename_i h1 h2
      simp only [Option.some.injEq, Prod.mk.injEq] at h
      obtain ⟨_, rfl⟩ := h
      rw [d5_eq h1, d5_eq h2]
      exact hf _ _
    · simp at h
  · simp at h

def t5 (R : Eng.Told Pl) : Eng.Told Pl := tell 36 (p55 fun a b => .agg (c5 (plusW a b))) (tell 37 (p55 fun a b => .bool (lessW a b)) (tell 38 (p55 fun a b => .agg (c5 (minusW a b))) R))
theorem t5_ok {R : Eng.Told Pl} (h : TOk R) : TOk (t5 R) :=
  tell_ok (p55_ok fun a b => snd_of (tell0_ok _) (noTL_ok _ _) (e36 a b)) (tell_ok (p55_ok less_sound) (tell_ok (p55_ok fun a b => snd_of (tell0_ok _) (noTL_ok _ _) (e38 a b)) h))

def sumW (a b : W5) : W5 := bif a.b == b.b then (plusW a.abs b.abs).with a.b else bif lessW a.abs b.abs then (minusW b.abs a.abs).with b.b else (minusW a.abs b.abs).with a.b
theorem e24 (a b : W5) : ev (t5 tell0) noTL 2 24 [.agg (cW a), .agg (cW b)] = bif a.b == b.b then some (.agg (cW ((plusW a.abs b.abs).with a.b))) else bif lessW a.abs b.abs then some (.agg (cW ((minusW b.abs a.abs).with b.b))) else some (.agg (cW ((minusW a.abs b.abs).with a.b))) := by kernel_rfl
theorem sum_sound (a b : W5) : Snd 24 [.agg (cW a), .agg (cW b)] (.agg (cW (sumW a b))) := by
  refine snd_of (t5_ok (tell0_ok _)) (noTL_ok _ _) ((e24 a b).trans ?_)
  unfold sumW
  cases a.b == b.b <;> cases lessW a.abs b.abs <;> rfl

def turnW (a : W5) : W5 := a.with (!a.b)
theorem e26 (a : W5) : ev tell0 noTL 2 26 [.agg (cW a)] = some (.agg (cW (turnW a))) := by kernel_rfl

def mulD (p : Int) (i : Nat) : W5 := match i with
  | 0 => ⟨false, p.tmod B32, w64 (p.tdiv B32), 0, 0, 0⟩
  | 1 => ⟨false, 0, p.tmod B32, w64 (p.tdiv B32), 0, 0⟩
  | _ => ⟨false, 0, 0, p.tmod B32, w64 (p.tdiv B32), 0⟩
def timesW (a b : W5) : W5 := (plusW (plusW (plusW (plusW ⟨false, 0, 0, 0, 0, 0⟩ (mulD (w64 (a.d0 * b.d0)) 0)) (mulD (w64 (a.d0 * b.d1)) 1)) (mulD (w64 (a.d1 * b.d0)) 1)) (mulD (w64 (a.d1 * b.d1)) 2)).with (!(a.b == b.b))
theorem e28 (a b : W5) : ev (t5 tell0) noTL 2 28 [.agg (cW a), .agg (cW b)] = some (.agg (cW (timesW a b))) := by kernel_rfl

def no6 : Option (D Pl) := some (.tup [dI 0, dI 6])
def yes0 (z : Int) : Option (D Pl) := some (.tup [dI z, dI 0])
theorem e23 (a : W5) : ev tell0 noTL 2 23 [.agg (cW a)] = bif (bif (bif a.d2 != 0 then true else a.d3 != 0) then true else a.d4 != 0) then no6 else bif a.b then (bif decide (w64 (w64 (a.d1 * B32) + a.d0) > 9223372036854775808) then no6 else yes0 (i64 (w64 (0 - w64 (w64 (a.d1 * B32) + a.d0)))))
    else (bif decide (w64 (w64 (a.d1 * B32) + a.d0) > 9223372036854775807) then no6 else yes0 (i64 (w64 (w64 (a.d1 * B32) + a.d0)))) := by kernel_rfl

end Go.Proofs.YtondgbiamadehaaDoor
