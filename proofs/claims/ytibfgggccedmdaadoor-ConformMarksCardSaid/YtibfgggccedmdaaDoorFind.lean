/-
  A MAP's ELEMENT by the document ('Find', 'Element'): the same as the program's.
-/
import Derived.Test.YtibfgggccedmdaaDoorGet
namespace Go.Proofs.YtibfgggccedmdaaDoor
open Go.Eng

set_option maxRecDepth 100000

def s15 (v : Val) (k : Str) (x i : Int) : St Pl := mkS 25 [(1, .str k), (2, .ptr 2 0), (4, dI x), (5, dI i)] [(2, .box false (cV v))]
def r15 (v : Val) (k : Str) (x : Int) : St Pl := mkS 25 [(1, .str k), (2, .ptr 2 0), (4, dI x)] [(2, .box false (cV v))]

theorem b15 (v : Val) (k : Str) (i : Nat) : evC (tLen tell0) noTL noL 1 (loopAt 40 0) [1, 2, 4, 5] (s15 v k 0 i) =
    bif (bif decide ((i : Int) < lenV (etaV v)) then v.kind == 5 else false) then ix_ i v.keys.length (bif v.keys.getD i [] == k then some (.ret, s15 v k i i) else some (.normal, s15 v k 0 (IntKind.i64.wrap ((i : Int) + 1)))) else some (.exit 0, s15 v k 0 i) := by kernel_rfl

theorem ids15 : (loopsAt 40).length = 1 ∧ firstId (loopAt 40 0) = 2 ∧ loopsOf (loopAt 40 0) = [] := ⟨by kernel_rfl, by kernel_rfl, by kernel_rfl⟩

theorem keysV_map {v : Val} (hk : (v.kind == 5) = true) : (keysV v).length = lenN v ∧ (keysV v).length ≤ v.keys.length ∧ ∀ i, i < (keysV v).length → (keysV v).getD i [] = v.keys.getD i [] := by
  have h1 : (v.kind != 5) = false := by simp [bne, hk]
  have h2 : (v.kind == 4) = false := by
    have : v.kind = 5 := by simpa using hk
    rw [this]; rfl
  unfold keysV lenN
  rw [h1, h2, hk]
  simp only [cond_false, cond_true, List.length_take]
  refine ⟨by omega, by omega, fun i hi => ?_⟩
  rw [List.getD_eq_getElem?_getD, List.getD_eq_getElem?_getD, List.getElem?_take, if_pos (by omega)]

def LS15 (S : St Pl) : Option (Bool × LR Pl) := match seenS 25 [1, 2, 4, 5] S with
  | some ([.str k, .ptr 2 0, .int .i64 (.ofNat 0), .int .i64 (.ofNat 0)], [(2, .box false c)]) => (match exV c with
    | some v => some (Nat.ble v.keys.length big, loopR (keysV v).length (fun i => !(k == (keysV v).getD i [])) (.exit 0) (r15 v k 0) .ret (fun i => r15 v k i))
    | none => none)
  | _ => none

theorem LS15_ok : SOk X0 (loopAt 40 0) LS15 := by
  intro S c r h hc
  unfold LS15 at h
  split at h
  · rename_i k cc hs
    split at h
    · rename_i v hv
      simp only [Option.some.injEq, Prod.mk.injEq] at h
      obtain ⟨rfl, rfl⟩ := h
      simp only [Nat.ble_eq] at hc
      obtain rfl := exV_eq hv
      have hT : TOk (tLen tell0) := tLen_ok (tell0_ok _)
      refine Goes.pre (keepOf [1, 2, 4, 5]) ?_
      rw [seenS_mask hs]
      have hnot : ∀ i : Nat, ¬ i < (keysV v).length → evC (tLen tell0) noTL noL 1 (loopAt 40 0) [1, 2, 4, 5] (s15 v k 0 i) = some (.exit 0, s15 v k 0 i) := by
        intro i hi
        rw [b15, etaV_eq, lenV_eq]
        cases hk : v.kind == 5 with
        | false => cases decide ((i : Int) < (lenN v : Int)) <;> rfl
        | true =>
          have := (keysV_map hk).1
          rw [decide_eq_false (by omega)]; rfl
      have hstep : ∀ i : Nat, i < (keysV v).length → evC (tLen tell0) noTL noL 1 (loopAt 40 0) [1, 2, 4, 5] (s15 v k 0 i) = bif k == (keysV v).getD i [] then some (.ret, s15 v k i i) else some (.normal, s15 v k 0 ((i + 1 : Nat) : Int)) := by
        intro i hi
        have hk : (v.kind == 5) = true := by
          cases hk : v.kind == 5 with
          | true => rfl
          | false =>
            have : (v.kind != 5) = true := by simp [bne, hk]
            unfold keysV at hi
            rw [this] at hi; simp at hi
        obtain ⟨g1, g2, g3⟩ := keysV_map hk
        rw [b15, etaV_eq, lenV_eq, hk, decide_eq_true (show (i : Int) < (lenN v : Int) by omega), ix_t (by omega), g3 i hi, wrap_nat (show i ≤ big by omega), BEq.comm (a := v.keys.getD i []) (b := k)]
        rfl
      refine loop_gen (Sf := fun i => s15 v k 0 i) (n := (keysV v).length) (p := fun i => !(k == (keysV v).getD i [])) (by simp) (by simp) (fun i hi hp => ?_) (fun i hi hp => ?_) ?_
      · have hp : (k == (keysV v).getD i []) = false := by simpa using hp
        exact goes_of hT (noTL_ok _ _) (noLoops ids15.2.2) ((hstep i hi).trans (by rw [hp]; rfl))
      · have hp : (k == (keysV v).getD i []) = true := by simpa using hp
        exact (goes_of hT (noTL_ok _ _) (noLoops ids15.2.2) ((hstep i hi).trans (show _ = some (.ret, s15 v k i i) by rw [hp]; rfl))).post (keepOf [1, 2, 4])
      · exact (goes_of hT (noTL_ok _ _) (noLoops ids15.2.2) (hnot _ (by omega))).post (keepOf [1, 2, 4])
    · simp at h
  · simp at h

theorem e15 (v : Val) (k : Str) : evF (tLen tell0) noTL (atL 2 LS15 noL) 1 Tryd.f40 [.agg (cV v), .str k] =
    ck_ (Nat.ble v.keys.length big) (bif Nat.beq (posN (keysV (etaV v)) k) (keysV (etaV v)).length then some (dI (-1)) else some (dI (posN (keysV (etaV v)) k))) := by kernel_rfl

theorem find_sound (v : Val) (k : Str) : Snd 40 [.agg (cV v), .str k] (dI (idxV (keysV v) k)) := by
  refine SoundAt.rooms fun hroom => snd_fn (n := 1) (tLen_ok (tell0_ok _)) (noTL_ok _ _) (fn := Tryd.f40) (by kernel_rfl) (loops_of (fn := Tryd.f40) (by kernel_rfl) (loops_1 ids15.1 (atL_ok (fun _ => LS15_ok) fun h => absurd ids15.2.1 h))) ((e15 v k).trans ?_)
  have h1 : Room _ (.agg (cV v)) := hroom _ (by simp)
  have hk : v.keys.length * 16 ≤ big := h1 (.pl (pStrs v.keys) .any) (by simp [cV])
  rw [etaV_eq, ck_t (ble_t (by omega))]
  unfold idxV
  cases Nat.beq (posN (keysV v) k) (keysV v).length <;> rfl

def tFind (R : Eng.Told Pl) : Eng.Told Pl := tell 40 (pvs fun v k => (true, dI (idxV (keysV v) k))) R
theorem tFind_ok {R : Eng.Told Pl} (hR : TOk R) : TOk (tFind R) := tell_ok (pvs_ok fun v k _ => find_sound v k) hR

theorem e30 (v : Val) (k : Str) : ev (tFind tell0) noTL 2 23 [.agg (cV v), .str k] = bif decide (idxV (keysV (etaV v)) k ≥ 0) then
    ck_ ((decide (0 ≤ idxV (keysV (etaV v)) k) && decide (idxV (keysV (etaV v)) k < (v.l.length : Int))) || false) (some (.agg (cV (fromV v (v.l.getD (idxV (keysV (etaV v)) k).toNat default))))) else some (.agg cZ) := by kernel_rfl

theorem Element_sound (v : Val) (k : Str) : Snd 23 [.agg (cV v), .str k] (.agg (cV (elemV v k))) := by
  have he := e30 v k
  rw [etaV_eq] at he
  have hT : TOk (tFind tell0) := tFind_ok (tell0_ok _)
  have hle := posN_le (keysV v) k
  have hll := keysV_len v
  unfold elemV
  cases h1 : hasV v k with
  | false =>
    have h2 : Nat.beq (posN (keysV v) k) (keysV v).length = true := by simpa [hasV] using h1
    have h3 : idxV (keysV v) k = -1 := by unfold idxV; rw [h2]; rfl
    rw [h3] at he
    exact (snd_of hT (noTL_ok _ _) he).post cZ_rdle
  | true =>
    have h2 : Nat.beq (posN (keysV v) k) (keysV v).length = false := by simpa [hasV] using h1
    have h3 : idxV (keysV v) k = (posN (keysV v) k : Int) := by unfold idxV; rw [h2]; rfl
    have h4 : posN (keysV v) k < (keysV v).length := by
      rcases Nat.lt_or_ge (posN (keysV v) k) (keysV v).length with h | h
      · exact h
      · have : posN (keysV v) k = (keysV v).length := by omega
        rw [this, Nat.beq_refl] at h2; simp at h2
    rw [h3, decide_eq_true (show (posN (keysV v) k : Int) ≥ 0 by omega), ck_t (by rw [decide_eq_true (show (posN (keysV v) k : Int) < (v.l.length : Int) by omega)]; rfl), Int.toNat_natCast] at he
    exact snd_of hT (noTL_ok _ _) he

end Go.Proofs.YtibfgggccedmdaaDoor
