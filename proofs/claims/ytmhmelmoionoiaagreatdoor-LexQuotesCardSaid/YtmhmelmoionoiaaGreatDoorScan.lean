/-
  THE SCANNER AS DATA: its box, with its tokens; it goes on by some bytes.
-/
import Derived.Test.YtmhmelmoionoiaaGreatDoorStep
namespace Go.Proofs.YtmhmelmoionoiaaGreatDoor
open Go.Eng

set_option maxRecDepth 100000

/-- A scanner: its text, where it is, its tokens, what is wrong. -/
structure Scn where
  s : Str
  p : Nat
  toks : List TokR
  bad : Int
  bp : PosR

def cF : Int := 576460745860972544
def cN : Int := 287948901175001088

def tailD (tk : D Pl) (bad : Int) (bp : PosR) : List (D Pl) := [.int .u64 0, .int .u64 576460745860972544, .int .u64 287948901175001088, .int .u64 576460745860972544, .int .u64 287948901175001088, .int .u64 0, tk, dI bad, dI bp.at', dI bp.line, dI bp.col, .str []]

def encS (z : Scn) : List (D Pl) := match z.toks with
  | [] => [.obB 50000 (bxc z.s z.p (ln z.s z.p) (sn z.s z.p) (tailD .nilS z.bad z.bp))]
  | t :: l => [.obB 50000 (bxc z.s z.p (ln z.s z.p) (sn z.s z.p) (tailD (.arr 100010) z.bad z.bp)), .obA 100010 ⟨.toks, t :: l⟩]

/-- What a scanner's objects are; under a condition. -/
def decS : List (D Pl) → Option (Bool × Scn)
  | [.obB 50000 (.str s :: .int .i64 (.ofNat p) :: .int .i64 l :: .int .i64 t :: [.int .u64 (.ofNat 0), .int .u64 a, .int .u64 b, .int .u64 c, .int .u64 d, .int .u64 (.ofNat 0), .nilS, .int .i64 bad, .int .i64 ba, .int .i64 bl, .int .i64 bc, .str []])] =>
    some ((l == ln s p && t == sn s p) && ((a == cF && b == cN) && (c == cF && d == cN)), ⟨s, p, [], bad, ⟨ba, bl, bc⟩⟩)
  | [.obB 50000 (.str s :: .int .i64 (.ofNat p) :: .int .i64 l :: .int .i64 t :: [.int .u64 (.ofNat 0), .int .u64 a, .int .u64 b, .int .u64 c, .int .u64 d, .int .u64 (.ofNat 0), .arr 100010, .int .i64 bad, .int .i64 ba, .int .i64 bl, .int .i64 bc, .str []]), .obA 100010 ⟨.toks, x :: r⟩] =>
    some ((l == ln s p && t == sn s p) && ((a == cF && b == cN) && (c == cF && d == cN)), ⟨s, p, x :: r, bad, ⟨ba, bl, bc⟩⟩)
  | _ => none

theorem decS_enc {os : List (D Pl)} {b : Bool} {z : Scn} (h : decS os = some (b, z)) (hb : b = true) : os = encS z := by
  unfold decS at h
  split at h
  · simp only [Option.some.injEq, Prod.mk.injEq] at h
    obtain ⟨rfl, rfl⟩ := h
    simp only [Bool.and_eq_true, beq_iff_eq] at hb
    obtain ⟨⟨rfl, rfl⟩, ⟨rfl, rfl⟩, rfl, rfl⟩ := hb
    rfl
  · simp only [Option.some.injEq, Prod.mk.injEq] at h
    obtain ⟨rfl, rfl⟩ := h
    simp only [Bool.and_eq_true, beq_iff_eq] at hb
    obtain ⟨⟨rfl, rfl⟩, ⟨rfl, rfl⟩, rfl, rfl⟩ := hb
    rfl
  · simp at h

/-- A method's contract, told: 'f' of the scanner and the arguments: a condition, the answer, the scanner then. -/
def pM (f : Scn → List (D Pl) → Option (Bool × D Pl × Scn)) : List (D Pl) → List (D Pl) → Option (Bool × D Pl × List (D Pl)) := fun os ds => match os with
  | o :: r => match decS (o :: r) with
    | some (b, z) => (match ds with
      | .ptr 50000 0 :: args => (match f z args with
        | some (c, d, z') => some (b && c, d, encS z')
        | none => none)
      | _ => none)
    | none => none
  | _ => none

abbrev SndS (g : FuncId) (z : Scn) (args : List (D Pl)) (d : D Pl) (z' : Scn) : Prop := SndM g (decH (encS z)) (.ptr 50000 0 :: args) d (decH (encS z'))

theorem pM_ok {g : FuncId} {f : Scn → List (D Pl) → Option (Bool × D Pl × Scn)} (hf : ∀ z args c d z', f z args = some (c, d, z') → c = true → SndS g z args d z') : ∀ os ds b d os', pM f os ds = some (b, d, os') → b = true → SndM g (decH os) ds d (decH os') := by
  intro os ds b d os' h hb
  unfold pM at h
  split at h
  · split at h
    · rename_i b0 z hz
      split at h
      · split at h
        · rename_i c d0 z' hfz
          simp only [Option.some.injEq, Prod.mk.injEq] at h
          obtain ⟨rfl, rfl, rfl⟩ := h
          simp only [Bool.and_eq_true] at hb
          rw [decS_enc hz hb.1]
          exact hf _ _ _ _ _ hfz hb.2
        · simp at h
      · simp at h
    · simp at h
  · simp at h

-- it goes on

def s18q (s : Str) (p : Nat) (l t n : Int) (i : Int) (r : List (D Pl)) (q : Obs Pl) : St Pl := mkS 40 [(0, .ptr 50000 0), (4, dI n), (5, dI i)] ((50000, .box false (bxc s p l t r)) :: q)
def r18q (s : Str) (p : Nat) (l t : Int) (r : List (D Pl)) (q : Obs Pl) : St Pl := mkS 40 [(0, .ptr 50000 0)] ((50000, .box false (bxc s p l t r)) :: q)
def s18v (s : Str) (p : Int) (l t n : Int) (i : Int) (r : List (D Pl)) (q : Obs Pl) : St Pl := mkS 40 [(0, .ptr 50000 0), (4, dI n), (5, dI i)] ((50000, .box false (.str s :: dI p :: dI l :: dI t :: r)) :: q)

theorem b18q (s : Str) (p : Nat) (l t n : Int) (i : Nat) (r : List (D Pl)) (q : Obs Pl) : evC tell0 noTL noL 1 (loopAt 16 0) [0, 4, 5] (s18q s p l t n i r q) =
    bif decide ((i : Int) < n) then ix_ p s.length (bif byt s p == 10 then some (.normal, s18v s (w64 ((p : Int) + 1)) (w64 (l + 1)) (w64 ((p : Int) + 1)) n (w64 ((i : Int) + 1)) r q) else some (.normal, s18v s (w64 ((p : Int) + 1)) l t n (w64 ((i : Int) + 1)) r q))
      else some (.exit 0, s18q s p l t n i r q) := by kernel_rfl

theorem go18q (s : Str) (p n : Nat) (r : List (D Pl)) (q : Obs Pl) (hp : p + n ≤ s.length) (hl : s.length ≤ big) :
    Goes X0 (.loop (loopAt 16 0)) (s18q s p (ln s p) (sn s p) n 0 r q) (pickR (.leaf (.exit 0) (r18q s (p + n) (ln s (p + n)) (sn s (p + n)) r q))).1 (pickR (.leaf (.exit 0) (r18q s (p + n) (ln s (p + n)) (sn s (p + n)) r q))).2 := by
  have hbig : big = 140737488355328 := rfl
  refine loop_all (Sf := fun i => s18q s (p + i) (ln s (p + i)) (sn s (p + i)) n i r q) (n := n) (by simp) (fun i hi => ?_) ?_
  · refine goes_of (tell0_ok _) (noTL_ok _ _) (noLoops ids18.2.2) ((b18q s (p + i) _ _ n i r q).trans ?_)
    have h1 := ln_in s (p + i)
    rw [decide_eq_true (show (i : Int) < (n : Int) by omega), cond_true, ix_t (show p + i < s.length by omega)]
    have e1 : w64 (((p + i : Nat) : Int) + 1) = ((p + (i + 1) : Nat) : Int) := wrap_nat (by omega)
    have e2 : w64 ((i : Int) + 1) = ((i + 1 : Nat) : Int) := wrap_nat (by omega)
    have e3 : w64 (ln s (p + i) + 1) = ln s (p + i) + 1 := wrap_in _ (by omega)
    rw [e1, e2, e3]
    show _ = some (Ex.normal, s18q s (p + (i + 1)) (ln s (p + i + 1)) (sn s (p + i + 1)) n ((i + 1 : Nat) : Int) r q)
    simp only [ln, sn]
    cases byt s (p + i) == 10 <;> rfl
  · have := (goes_of (tell0_ok _) (noTL_ok _ _) (noLoops ids18.2.2) ((b18q s (p + n) (ln s (p + n)) (sn s (p + n)) n n r q).trans (by rw [decide_eq_false (by omega)]; rfl))).post (keepOf [0])
    exact this

def LS18q (S : St Pl) : Option (Bool × LR Pl) := match seenS 40 [0, 4, 5] S with
  | some ([.ptr 50000 0, .int .i64 n, .int .i64 (.ofNat 0)], (50000, .box false (.str s :: .int .i64 (.ofNat p) :: .int .i64 l :: .int .i64 t :: r)) :: q) =>
    some (decide (0 ≤ n) && (l == ln s p && (t == sn s p && (Nat.ble (p + n.toNat) s.length && Nat.ble s.length big))), .leaf (.exit 0) (r18q s (p + n.toNat) (ln s (p + n.toNat)) (sn s (p + n.toNat)) r q))
  | _ => none

theorem LS18q_ok : SOk X0 (loopAt 16 0) LS18q := by
  intro S b r h hb
  unfold LS18q at h
  split at h
  · rename_i n s p l t r' q hs
    simp only [Option.some.injEq, Prod.mk.injEq] at h
    obtain ⟨rfl, rfl⟩ := h
    simp only [Bool.and_eq_true, Nat.ble_eq, beq_iff_eq, decide_eq_true_eq] at hb
    obtain ⟨h0, rfl, rfl, h1, h2⟩ := hb
    obtain ⟨n, rfl⟩ := Int.eq_ofNat_of_zero_le h0
    refine Goes.pre (keepOf [0, 4, 5]) ?_
    rw [seenS_mask hs]
    exact go18q s p n r' q h1 h2
  · simp at h

/-- It stands elsewhere. -/
def Scn.go (z : Scn) (p : Nat) : Scn := { z with p := p }

def stepOk (z : Scn) (n : Int) : Bool := decide (0 ≤ n) && (Nat.ble (z.p + n.toNat) z.s.length && Nat.ble z.s.length big)

theorem e18n (s : Str) (p : Nat) (bad : Int) (bp : PosR) (n : Int) : evM tell0 noTL (atL 1 LS18q noL) 1 Tryz.f16 (decH (encS ⟨s, p, [], bad, bp⟩)) [.ptr 50000 0, dI n] =
    ck_ (decide (0 ≤ n) && (ln s p == ln s p && (sn s p == sn s p && (Nat.ble (p + n.toNat) s.length && Nat.ble s.length big)))) (some (.env (encS ⟨s, p + n.toNat, [], bad, bp⟩) (.tup []))) := by kernel_rfl
theorem e18c (s : Str) (p : Nat) (t : TokR) (l : List TokR) (bad : Int) (bp : PosR) (n : Int) : evM tell0 noTL (atL 1 LS18q noL) 1 Tryz.f16 (decH (encS ⟨s, p, t :: l, bad, bp⟩)) [.ptr 50000 0, dI n] =
    ck_ (decide (0 ≤ n) && (ln s p == ln s p && (sn s p == sn s p && (Nat.ble (p + n.toNat) s.length && Nat.ble s.length big)))) (some (.env (encS ⟨s, p + n.toNat, t :: l, bad, bp⟩) (.tup []))) := by kernel_rfl

theorem steps (z : Scn) (n : Int) (h : stepOk z n = true) : SndS 16 z [dI n] (.tup []) (z.go (z.p + n.toNat)) := by
  simp only [stepOk, Bool.and_eq_true, Nat.ble_eq, decide_eq_true_eq] at h
  obtain ⟨h0, h1, h2⟩ := h
  obtain ⟨s, p, toks, bad, bp⟩ := z
  have hck : (decide (0 ≤ n) && (ln s p == ln s p && (sn s p == sn s p && (Nat.ble (p + n.toNat) s.length && Nat.ble s.length big)))) = true := by
    rw [decide_eq_true h0, beq_self_eq_true, beq_self_eq_true, ble_t h1, ble_t h2]; rfl
  cases toks with
  | nil => exact snd_m (n := 1) (tell0_ok _) (noTL_ok _ _) (fn := Tryz.f16) (by kernel_rfl) (loops_of (fn := Tryz.f16) (by kernel_rfl) (loops_1 ids18.1 (atL_ok (fun _ => LS18q_ok) fun h => absurd ids18.2.1 h))) ((e18n s p bad bp n).trans (by rw [ck_t hck]; rfl))
  | cons t l => exact snd_m (n := 1) (tell0_ok _) (noTL_ok _ _) (fn := Tryz.f16) (by kernel_rfl) (loops_of (fn := Tryz.f16) (by kernel_rfl) (loops_1 ids18.1 (atL_ok (fun _ => LS18q_ok) fun h => absurd ids18.2.1 h))) ((e18c s p t l bad bp n).trans (by rw [ck_t hck]; rfl))

def pStep (z : Scn) : List (D Pl) → Option (Bool × D Pl × Scn)
  | [.int .i64 n] => some (stepOk z n, .tup [], z.go (z.p + n.toNat))
  | _ => none
theorem pStep_ok : ∀ z args c d z', pStep z args = some (c, d, z') → c = true → SndS 16 z args d z' := by
  intro z args c d z' h hc
  unfold pStep at h
  split at h
  · simp only [Option.some.injEq, Prod.mk.injEq] at h
    obtain ⟨rfl, rfl, rfl⟩ := h
    exact steps _ _ hc
  · simp at h

end Go.Proofs.YtmhmelmoionoiaaGreatDoor
