/-
  THE SCANNER's CLASSES: of any byte; how long a run of a class is; the scanner's place.
-/
import Derived.Test.YtmhmelmoionoiaaGreatDoorScan
namespace Go.Proofs.YtmhmelmoionoiaaGreatDoor
open Go.Eng

set_option maxRecDepth 100000

def letB (c : Int) : Bool := (decide (97 ≤ c) && decide (c ≤ 122)) || c == 95
def digB (c : Int) : Bool := decide (48 ≤ c) && decide (c ≤ 57)
def allB (c : Int) : Bool := letB c || digB c

def resB (x : Option (D Pl)) (b : Bool) : Bool := match x with
  | some (.bool c) => c == b
  | _ => false
theorem resB_eq {x : Option (D Pl)} {b : Bool} (h : resB x b = true) : x = some (.bool b) := by
  unfold resB at h
  split at h
  · rw [beq_iff_eq] at h; rw [h]
  · simp at h

theorem hasF : (List.range 256).all (fun n => resB (ev tell0 noTL 2 18 [.agg [.int .u64 0, .int .u64 576460745860972544], .int .u8 (Int.ofNat n)]) (letB (Int.ofNat n))) = true := by kernel_rfl
theorem hasN : (List.range 256).all (fun n => resB (ev tell0 noTL 2 18 [.agg [.int .u64 287948901175001088, .int .u64 0], .int .u8 (Int.ofNat n)]) (digB (Int.ofNat n))) = true := by kernel_rfl
theorem hasA : (List.range 256).all (fun n => resB (ev tell0 noTL 2 18 [.agg [.int .u64 287948901175001088, .int .u64 576460745860972544], .int .u8 (Int.ofNat n)]) (allB (Int.ofNat n))) = true := by kernel_rfl

theorem has_any {cs : List (D Pl)} {f : Int → Bool} (h : (List.range 256).all (fun n => resB (ev tell0 noTL 2 18 [.agg cs, .int .u8 (Int.ofNat n)]) (f (Int.ofNat n))) = true) (c : Int) (h0 : 0 ≤ c) (h1 : c < 256) : Snd 18 [.agg cs, .int .u8 c] (.bool (f c)) := by
  obtain ⟨n, rfl⟩ := Int.eq_ofNat_of_zero_le h0
  have := List.all_eq_true.1 h n (List.mem_range.2 (by omega))
  exact snd_of (tell0_ok _) (noTL_ok _ _) (resB_eq this)

def byB (c : Int) : Bool := decide (0 ≤ c) && decide (c < 256)
/-- A class, by its numbers. -/
def clsOf (a b : Int) : Option (Int → Bool) := bif a == 0 && b == 576460745860972544 then some letB else bif a == 287948901175001088 && b == 0 then some digB else bif a == 287948901175001088 && b == 576460745860972544 then some allB else none

theorem cls_sound {a b : Int} {f : Int → Bool} (h : clsOf a b = some f) (c : Int) (hc : byB c = true) : Snd 18 [.agg [.int .u64 a, .int .u64 b], .int .u8 c] (.bool (f c)) := by
  simp only [byB, Bool.and_eq_true, decide_eq_true_eq] at hc
  unfold clsOf at h
  cases h1 : a == 0 && b == 576460745860972544 with
  | true =>
    rw [h1] at h
    simp only [cond_true, Option.some.injEq] at h
    simp only [Bool.and_eq_true, beq_iff_eq] at h1
    obtain ⟨rfl, rfl⟩ := h1
    subst h
    exact has_any hasF c hc.1 hc.2
  | false =>
    rw [h1] at h
    cases h2 : a == 287948901175001088 && b == 0 with
    | true =>
      rw [h2] at h
      simp only [cond_false, cond_true, Option.some.injEq] at h
      simp only [Bool.and_eq_true, beq_iff_eq] at h2
      obtain ⟨rfl, rfl⟩ := h2
      subst h
      exact has_any hasN c hc.1 hc.2
    | false =>
      rw [h2] at h
      cases h3 : a == 287948901175001088 && b == 576460745860972544 with
      | true =>
        rw [h3] at h
        simp only [cond_false, cond_true, Option.some.injEq] at h
        simp only [Bool.and_eq_true, beq_iff_eq] at h3
        obtain ⟨rfl, rfl⟩ := h3
        subst h
        exact has_any hasA c hc.1 hc.2
      | false => rw [h3] at h; simp at h

def pHas : List (D Pl) → Option (Bool × D Pl)
  | [.agg [.int .u64 a, .int .u64 b], .int .u8 c] => match clsOf a b with
    | some f => some (byB c, .bool (f c))
    | none => none
  | _ => none
theorem pHas_ok : ∀ ds b d, pHas ds = some (b, d) → b = true → Snd 18 ds d := by
  intro ds b d h hb
  unfold pHas at h
  split at h
  · split at h
    · rename_i hf
      simp only [Option.some.injEq, Prod.mk.injEq] at h
      obtain ⟨rfl, rfl⟩ := h
      exact cls_sound hf _ hb
    · simp at h
  · simp at h
def tHas (R : Eng.Told Pl) : Eng.Told Pl := tell 18 pHas R
theorem tHas_ok {R : Eng.Told Pl} (h : TOk R) : TOk (tHas R) := tell_ok pHas_ok h

end Go.Proofs.YtmhmelmoionoiaaGreatDoor

/-
  HOW LONG A RUN OF A NAME's BYTES IS.
-/

namespace Go.Proofs.YtmhmelmoionoiaaGreatDoor
open Go.Eng

set_option maxRecDepth 100000

def bytI (s : Str) (w : Int) : Int := Int.ofNat (s.getD w.toNat 0).toNat
theorem byB_bytI (s : Str) (w : Int) : byB (bytI s w) = true := by
  have := (s.getD w.toNat 0).toNat_lt
  have h1 : (0 : Int) ≤ bytI s w := Int.natCast_nonneg _
  have h2 : bytI s w < 256 := by
    show ((s.getD w.toNat 0).toNat : Int) < 256
    omega
  unfold byB
  rw [decide_eq_true h1, decide_eq_true h2]; rfl

def s27 (s : Str) (p : Nat) (l t : Int) (r : List (D Pl)) (n : Int) : St Pl := mkS 36 [(0, .ref (bxc s p l t r)), (3, .ptr 3 0), (5, dI n)] [(3, .box false [.int .u64 287948901175001088, .int .u64 576460745860972544])]

theorem b27 (s : Str) (p n : Nat) (l t : Int) (r : List (D Pl)) : evC (tHas tell0) noTL noL 1 (loopAt 27 0) [0, 3, 5] (s27 s p l t r n) =
    ck_ ((decide (0 ≤ w64 ((p : Int) + (n : Int))) && decide (w64 ((p : Int) + (n : Int)) < (s.length : Int))) || !(decide (w64 ((p : Int) + (n : Int)) < (s.length : Int)) == true))
      (bif decide (w64 ((p : Int) + (n : Int)) < (s.length : Int)) == true then ck_ (byB (bytI s (w64 ((p : Int) + (n : Int))))) (bif allB (bytI s (w64 ((p : Int) + (n : Int)))) then some (.normal, s27 s p l t r (w64 ((n : Int) + 1))) else some (.exit 0, s27 s p l t r n))
        else some (.exit 0, s27 s p l t r n)) := by kernel_rfl

theorem ids27 : (loopsAt 27).length = 1 ∧ firstId (loopAt 27 0) = 2 ∧ loopsOf (loopAt 27 0) = [] := ⟨by kernel_rfl, by kernel_rfl, by kernel_rfl⟩

/-- How many bytes of a name stand there. -/
def runM (s : Str) (p : Nat) : Nat := ff (fun i => allB (byt s (p + i))) (s.length - p)

theorem go27 (s : Str) (p : Nat) (l t : Int) (r : List (D Pl)) (hp : p ≤ s.length) (hl : s.length ≤ big) :
    Goes X0 (.loop (loopAt 27 0)) (s27 s p l t r 0) (pickR (.leaf (.exit 0) (s27 s p l t r (runM s p)))).1 (pickR (.leaf (.exit 0) (s27 s p l t r (runM s p)))).2 := by
  have hbig : big = 140737488355328 := rfl
  have hw : ∀ i : Nat, i ≤ s.length - p → w64 ((p : Int) + (i : Int)) = ((p + i : Nat) : Int) := by
    intro i hi
    rw [show (p : Int) + (i : Int) = ((p + i : Nat) : Int) by omega]
    exact wrap_in _ (by omega)
  have hby : ∀ i : Nat, bytI s ((p + i : Nat) : Int) = byt s (p + i) := fun i => rfl
  refine loop_until (Sf := fun i => s27 s p l t r i) (S2 := fun i => s27 s p l t r i) (e := .exit 0) (by simp) (fun i hi hpi => ?_) (fun i hi hpi => ?_)
  · refine goes_of (tHas_ok (tell0_ok _)) (noTL_ok _ _) (noLoops ids27.2.2) ((b27 s p i l t r).trans ?_)
    rw [hw i (by omega), decide_eq_true (show ((p + i : Nat) : Int) < (s.length : Int) by omega), decide_eq_true (show (0 : Int) ≤ ((p + i : Nat) : Int) by omega), ck_t (c := (true && true || !(true == true))) rfl, beq_self_eq_true, cond_true, ck_t (byB_bytI _ _), hby, hpi,
      show w64 ((i : Int) + 1) = ((i + 1 : Nat) : Int) from wrap_nat (by omega)]
    rfl
  · refine goes_of (tHas_ok (tell0_ok _)) (noTL_ok _ _) (noLoops ids27.2.2) ((b27 s p i l t r).trans ?_)
    rw [hw i hi]
    by_cases h : i < s.length - p
    · rw [decide_eq_true (show ((p + i : Nat) : Int) < (s.length : Int) by omega), decide_eq_true (show (0 : Int) ≤ ((p + i : Nat) : Int) by omega), ck_t (c := (true && true || !(true == true))) rfl, beq_self_eq_true, cond_true, ck_t (byB_bytI _ _), hby, hpi h]
      rfl
    · rw [decide_eq_false (show ¬ ((p + i : Nat) : Int) < (s.length : Int) by omega), ck_t (by simp)]
      rfl

def LS27 (S : St Pl) : Option (Bool × LR Pl) := match seenS 36 [0, 3, 5] S with
  | some ([.ref (.str s :: .int .i64 (.ofNat p) :: .int .i64 l :: .int .i64 t :: r), .ptr 3 0, .int .i64 (.ofNat 0)], [(3, .box false [.int .u64 a, .int .u64 b])]) =>
    some ((a == 287948901175001088 && b == 576460745860972544) && (Nat.ble p s.length && Nat.ble s.length big), .leaf (.exit 0) (s27 s p l t r (runM s p)))
  | _ => none

theorem LS27_ok : SOk X0 (loopAt 27 0) LS27 := by
  intro S b r h hb
  unfold LS27 at h
  split at h
  · rename_i s p l t r' a b' hs
    simp only [Option.some.injEq, Prod.mk.injEq] at h
    obtain ⟨rfl, rfl⟩ := h
    simp only [Bool.and_eq_true, Nat.ble_eq, beq_iff_eq] at hb
    obtain ⟨⟨rfl, rfl⟩, h1, h2⟩ := hb
    refine Goes.pre (keepOf [0, 3, 5]) ?_
    rw [seenS_mask hs]
    exact go27 s p l t r' h1 h2
  · simp at h

theorem e27 (s : Str) (p : Nat) (l t : Int) (r : List (D Pl)) : evF (tHas tell0) noTL (atL 2 LS27 noL) 1 Tryz.f27 [.ref (bxc s p l t r), .agg [.int .u64 287948901175001088, .int .u64 576460745860972544]] =
    ck_ (Nat.ble p s.length && Nat.ble s.length big) (some (dI (runM s p))) := by kernel_rfl

theorem run_sound (s : Str) (p : Nat) (l t : Int) (r : List (D Pl)) (hp : p ≤ s.length) (hl : s.length ≤ big) : Snd 27 [.ref (bxc s p l t r), .agg [.int .u64 287948901175001088, .int .u64 576460745860972544]] (dI (runM s p)) := by
  refine snd_fn (n := 1) (tHas_ok (tell0_ok _)) (noTL_ok _ _) (fn := Tryz.f27) (by kernel_rfl) (loops_of (fn := Tryz.f27) (by kernel_rfl) (loops_1 ids27.1 (atL_ok (fun _ => LS27_ok) fun h => absurd ids27.2.1 h))) ((e27 s p l t r).trans ?_)
  rw [ck_t (by rw [ble_t hp, ble_t hl]; rfl)]

end Go.Proofs.YtmhmelmoionoiaaGreatDoor
