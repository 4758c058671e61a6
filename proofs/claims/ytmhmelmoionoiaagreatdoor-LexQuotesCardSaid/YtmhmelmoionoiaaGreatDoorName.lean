/-
  THE SCANNER READS A NAME.
-/
import Derived.Test.YtmhmelmoionoiaaGreatDoorRun
import Derived.Test.YtmhmelmoionoiaaGreatDoorRounds
import Derived.Test.YtmhmelmoionoiaaGreatDoorLook
namespace Go.Proofs.YtmhmelmoionoiaaGreatDoor
open Go.Eng

set_option maxRecDepth 100000

def pRun : List (D Pl) → Option (Bool × D Pl)
  | [.ref (.str s :: .int .i64 (.ofNat p) :: .int .i64 _ :: .int .i64 _ :: _), .agg [.int .u64 a, .int .u64 b]] => bif a == 287948901175001088 && b == 576460745860972544 then some (Nat.ble p s.length && Nat.ble s.length big, dI (runM s p)) else none
  | _ => none
theorem pRun_ok : ∀ ds b d, pRun ds = some (b, d) → b = true → Snd 27 ds d := by
  intro ds b d h hb
  unfold pRun at h
  split at h
  · rename_i s p l t r a b'
    cases hc : a == 287948901175001088 && b' == 576460745860972544 with
    | false => rw [hc] at h; simp at h
    | true =>
      rw [hc] at h
      simp only [cond_true, Option.some.injEq, Prod.mk.injEq] at h
      obtain ⟨rfl, rfl⟩ := h
      simp only [Bool.and_eq_true, beq_iff_eq, Nat.ble_eq] at hc hb
      obtain ⟨rfl, rfl⟩ := hc
      exact run_sound s p l t r hb.1 hb.2
  · simp at h

def tRun (R : Eng.Told Pl) : Eng.Told Pl := tell 27 pRun (tellM 16 (pM pStep) (tellM 28 (pM pFail) R))
theorem tRun_ok {R : Eng.Told Pl} (h : TOk R) : TOk (tRun R) := tell_ok pRun_ok (tellM_ok (pM_ok pStep_ok) (tellM_ok (pM_ok pFail_ok) h))

def okS (s : Str) (p : Nat) : Bool := ((ln s p == ln s p) && (sn s p == sn s p)) && ((cF == cF && cN == cN) && (cF == cF && cN == cN))
theorem okS_t (s : Str) (p : Nat) : okS s p = true := by simp [okS]
def slO (p : Nat) (w : Int) (n : Nat) : Bool := (decide ((0 : Int) ≤ (p : Int)) && decide ((p : Int) ≤ w) && decide (w ≤ (n : Int))) || false
def slS (s : Str) (p : Nat) (w : Int) : Str := List.take (w.toNat - (p : Int).toNat) (List.drop (p : Int).toNat s)
def tokN (t : TokR) (s : Str) : TokR := { t with kind := 1, s := s }

def nameR (z : Scn) (t : TokR) (n : Nat) : Option (D Pl) :=
  ck_ (slO z.p (w64 ((z.p : Int) + (n : Int))) z.s.length) (ck_ (okS z.s z.p && stepOk z (n : Int)) (some (.env (encS (z.go (z.p + (n : Int).toNat))) (.agg (cTok (tokN t (slS z.s z.p (w64 ((z.p : Int) + (n : Int))))))))))

theorem e22n (s : Str) (p : Nat) (bad : Int) (bp : PosR) (t : TokR) : evM (tRun tell0) noTL noL 2 Tryz.f19 (decH (encS ⟨s, p, [], bad, bp⟩)) [.ptr 50000 0, .agg (cTok t)] =
    ck_ (Nat.ble p s.length && Nat.ble s.length big) (bif decide ((runM s p : Int) > 24) then ck_ (okS s p && true) (nameR (Scn.fail ⟨s, p, [], bad, bp⟩ 3 t.p) t (runM s p)) else nameR ⟨s, p, [], bad, bp⟩ t (runM s p)) := by kernel_rfl

theorem e22c (s : Str) (p : Nat) (x : TokR) (l : List TokR) (bad : Int) (bp : PosR) (t : TokR) : evM (tRun tell0) noTL noL 2 Tryz.f19 (decH (encS ⟨s, p, x :: l, bad, bp⟩)) [.ptr 50000 0, .agg (cTok t)] =
    ck_ (Nat.ble p s.length && Nat.ble s.length big) (bif decide ((runM s p : Int) > 24) then ck_ (okS s p && true) (nameR (Scn.fail ⟨s, p, x :: l, bad, bp⟩ 3 t.p) t (runM s p)) else nameR ⟨s, p, x :: l, bad, bp⟩ t (runM s p)) := by kernel_rfl

theorem runM_le (s : Str) (p : Nat) : runM s p ≤ s.length - p := by
  rcases ff_spec (s.length - p) (fun i => allB (byt s (p + i))) with ⟨h, _⟩ | ⟨h, _⟩ <;> unfold runM <;> omega

/-- The scanner behind a name. -/
def Scn.named (z : Scn) (t : TokR) : Scn := ({ z with bad := bif decide ((runM z.s z.p : Int) > 24) then (z.fail 3 t.p).bad else z.bad, bp := bif decide ((runM z.s z.p : Int) > 24) then (z.fail 3 t.p).bp else z.bp } : Scn).go (z.p + runM z.s z.p)

def nameT (z : Scn) (t : TokR) : TokR := tokN t ((z.s.drop z.p).take (runM z.s z.p))

theorem nameR_eq (z : Scn) (t : TokR) (n : Nat) (hn : n ≤ z.s.length - z.p) (hp : z.p ≤ z.s.length) (hl : z.s.length ≤ big) : nameR z t n = some (.env (encS (z.go (z.p + n))) (.agg (cTok (tokN t ((z.s.drop z.p).take n))))) := by
  have hbig : big = 140737488355328 := rfl
  unfold nameR
  have hw : w64 ((z.p : Int) + (n : Int)) = ((z.p + n : Nat) : Int) := by
    rw [show (z.p : Int) + (n : Int) = ((z.p + n : Nat) : Int) by omega]
    exact wrap_in _ (by omega)
  rw [hw, ck_t (by unfold slO; rw [decide_eq_true (by omega), decide_eq_true (by omega), decide_eq_true (by omega)]; rfl), ck_t (by
    rw [okS_t, Bool.true_and]
    unfold stepOk
    rw [decide_eq_true (by omega), ble_t (show z.p + (n : Int).toNat ≤ z.s.length by omega), ble_t hl]; rfl)]
  have e1 : (n : Int).toNat = n := by omega
  have e2 : slS z.s z.p ((z.p + n : Nat) : Int) = (z.s.drop z.p).take n := by
    unfold slS
    rw [show ((z.p + n : Nat) : Int).toNat - (z.p : Int).toNat = n by omega, show (z.p : Int).toNat = z.p by omega]
  rw [e1, e2]

theorem ids22 : (loopsAt 19).length = 0 := by kernel_rfl

theorem names (z : Scn) (t : TokR) (hp : z.p ≤ z.s.length) (hl : z.s.length ≤ big) : SndS 19 z [.agg (cTok t)] (.agg (cTok (nameT z t))) (z.named t) := by
  have hL := loops_of (f := 19) (fn := Tryz.f19) (by kernel_rfl) (loops_0 ids22 (L := noL))
  obtain ⟨s, p, toks, bad, bp⟩ := z
  have hn := runM_le s p
  have key : ∀ toks, ck_ (Nat.ble p s.length && Nat.ble s.length big) (bif decide ((runM s p : Int) > 24) then ck_ (okS s p && true) (nameR (Scn.fail ⟨s, p, toks, bad, bp⟩ 3 t.p) t (runM s p)) else nameR ⟨s, p, toks, bad, bp⟩ t (runM s p)) =
      some (.env (encS (Scn.named ⟨s, p, toks, bad, bp⟩ t)) (.agg (cTok (nameT ⟨s, p, toks, bad, bp⟩ t)))) := by
    intro toks
    rw [ck_t (by rw [ble_t hp, ble_t hl]; rfl)]
    unfold Scn.named
    cases h : decide ((runM s p : Int) > 24) with
    | true => rw [cond_true, ck_t (by rw [okS_t]; rfl)]; exact (nameR_eq (Scn.fail ⟨s, p, toks, bad, bp⟩ 3 t.p) t (runM s p) hn hp hl).trans rfl
    | false => rw [cond_false]; exact (nameR_eq ⟨s, p, toks, bad, bp⟩ t (runM s p) hn hp hl).trans rfl
  cases toks with
  | nil => exact snd_m (n := 2) (tRun_ok (tell0_ok _)) (noTL_ok _ _) (fn := Tryz.f19) (by kernel_rfl) hL ((e22n s p bad bp t).trans (key []))
  | cons x l => exact snd_m (n := 2) (tRun_ok (tell0_ok _)) (noTL_ok _ _) (fn := Tryz.f19) (by kernel_rfl) hL ((e22c s p x l bad bp t).trans (key (x :: l)))

end Go.Proofs.YtmhmelmoionoiaaGreatDoor

/-
  WHAT STANDS FOR A BYTE BEHIND A BACKSLASH.
-/

namespace Go.Proofs.YtmhmelmoionoiaaGreatDoor
open Go.Eng

set_option maxRecDepth 100000

def escV (c : Int) : Int := bif c == 34 then c else bif c == 92 then c else bif c == 36 then c else bif c == 110 then 10 else bif c == 116 then 9 else 0
def escB (c : Int) : Bool := bif c == 34 then true else bif c == 92 then true else bif c == 36 then true else bif c == 110 then true else bif c == 116 then true else false

def escR (c : Int) : Option (D Pl) := bif c == 110 then some (.tup [.int .u8 10, .bool true]) else bif c == 116 then some (.tup [.int .u8 9, .bool true]) else some (.tup [.int .u8 0, .bool false])
def escC (c k : Int) : Option (D Pl) := bif c == k then some (.tup [.int .u8 c, .bool true]) else escR c
theorem e37 (c : Int) : ev tell0 noTL 2 43 [.int .u8 c] = bif c == 34 then escC c 34 else bif c == 92 then escC c 92 else escC c 36 := by kernel_rfl

theorem esc_sound (c : Int) : Snd 43 [.int .u8 c] (.tup [.int .u8 (escV c), .bool (escB c)]) := by
  refine snd_of (tell0_ok _) (noTL_ok _ _) ((e37 c).trans ?_)
  unfold escV escB escC escR
  cases c == 34 <;> cases c == 92 <;> cases c == 36 <;> cases c == 110 <;> cases c == 116 <;> rfl

end Go.Proofs.YtmhmelmoionoiaaGreatDoor
