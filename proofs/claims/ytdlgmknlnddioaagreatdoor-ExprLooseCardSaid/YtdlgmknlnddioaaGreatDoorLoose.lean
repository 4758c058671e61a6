/-
  THE LAW ON SIGNS: which go ahead of which.
-/
import Derived.Test.YtdlgmknlnddioaaGreatDoorReads
import Derived.Test.YtdlgmknlnddioaaGreatDoorSAwake
namespace Go.Proofs.YtdlgmknlnddioaaGreatDoor
open Go.Eng

set_option maxRecDepth 100000

def pAwL : List (D Pl) → Option (Bool × D Pl)
  | [] => some (true, .bool true)
  | _ => none
theorem pAwL_ok : ∀ ds b d, pAwL ds = some (b, d) → b = true → Snd 6 ds d := by
  intro ds b d h hb
  unfold pAwL at h
  split at h
  · simp only [Option.some.injEq, Prod.mk.injEq] at h; obtain ⟨_, rfl⟩ := h; exact awake_sound
  · simp at h

/-- What is parsed is told by any 'M'. -/
def tLo (M : Str → Option (ExprR × Int × PosR)) : Eng.Told Pl := tell 7 (pWh M) (tell 8 (pe2b fun a b m => (!m, .bool (sameE a b))) (tell 6 pAwL tell0))
theorem tLo_ok : TOk (tLo (parseM 40)) := tell_ok (pWh_ok fun _ _ _ _ h => pa_sound h) (tell_ok (pe2b_ok fun a b m h => by
    simp only [Bool.not_eq_true'] at h
    subst h
    exact rsame_sound' a b) (tell_ok pAwL_ok (tell0_ok _)))

def tail4 : Code → Code
  | .seq _ (.seq _ (.seq _ (.seq _ r))) => r
  | c => c
noncomputable def restC : Code := match (Tryz.f4).body with
  | some c => tail4 c
  | none => .skip
def signsL : List Str := [[124, 124], [38, 38], [61, 61], [33, 61], [60], [60, 61], [62], [62, 61], [43], [45], [42], [47], [37]]
def levelsL : List Int := [1, 2, 3, 3, 3, 3, 3, 3, 4, 4, 5, 5, 5]
/-- The state once both signs are chosen. -/
def S4 (a b i k : Int) : St Pl := mkS 130 [(0, .int .u8 a), (1, .int .u8 b), (4, .bool false), (5, .pl (pStrs signsL) .full), (6, .pl (pInts levelsL) .full), (7, dI i), (8, dI k), (15, .pl (pStrs signsL) .full), (16, .pl (pInts levelsL) .full),
  (17, .int .u8 a), (18, dI (IntKind.i64.wrap a)), (19, dI i), (20, .int .u8 b), (21, dI (IntKind.i64.wrap b)), (22, dI k)] []
noncomputable def bodyC : Code := match (Tryz.f4).body with
  | some c => c
  | none => .skip
def putTail : Code → Code → Code
  | .seq a (.seq b (.seq c (.seq d _))), r => .seq a (.seq b (.seq c (.seq d r)))
  | c, _ => c
theorem bodyC_is : (Tryz.f4).body = some bodyC := by kernel_rfl
theorem bodyC_put : putTail bodyC restC = bodyC := by kernel_rfl
theorem run4 {γ : Type} (RK : CK Pl γ) (a b : Int) (r : Code) (K : Ex → St Pl → Option γ) : exec X0 RK noL (putTail bodyC r) ⟨[.int .u8 a, .int .u8 b] ++ List.replicate ((Tryz.f4).ntmps - 2) .bad, []⟩ K =
    exec X0 RK noL r (S4 a b ((IntKind.i64.wrap a).tmod 13) ((IntKind.i64.wrap b).tmod 13)) K := by kernel_rfl

noncomputable def finK (e : Ex) (S : St Pl) : Option (D Pl) := match e with
  | .exit _ => none
  | _ => match finD X0 Tryz.f4 S with
    | some d => some d
    | none => none
noncomputable def restEv (M : Str → Option (ExprR × Int × PosR)) (S : St Pl) : Option (D Pl) := exec X0 (callK X0 F0 (tLo M) noTL 2) noL restC S finK

noncomputable def S0l (a b : Int) : St Pl := ⟨[.int .u8 a, .int .u8 b] ++ List.replicate ((Tryz.f4).ntmps - 2) .bad, []⟩
noncomputable abbrev exL (M : Str → Option (ExprR × Int × PosR)) (c : Code) (S : St Pl) : Option (D Pl) := exec X0 (callK X0 F0 (tLo M) noTL 2) noL c S finK
theorem eLo0 (M : Str → Option (ExprR × Int × PosR)) (a b : Int) : evF (tLo M) noTL noL 2 Tryz.f4 [.int .u8 a, .int .u8 b] = exL M bodyC (S0l a b) := by kernel_rfl
theorem eLo1 (M : Str → Option (ExprR × Int × PosR)) (a b : Int) : exL M bodyC (S0l a b) = exL M (putTail bodyC restC) (S0l a b) := congrArg (fun c => exL M c (S0l a b)) bodyC_put.symm
theorem eLo2 (M : Str → Option (ExprR × Int × PosR)) (a b : Int) : exL M (putTail bodyC restC) (S0l a b) = exL M restC (S4 a b ((IntKind.i64.wrap a).tmod 13) ((IntKind.i64.wrap b).tmod 13)) := run4 _ a b restC finK
theorem eLo (M : Str → Option (ExprR × Int × PosR)) (a b : Int) : evF (tLo M) noTL noL 2 Tryz.f4 [.int .u8 a, .int .u8 b] = restEv M (S4 a b ((IntKind.i64.wrap a).tmod 13) ((IntKind.i64.wrap b).tmod 13)) := (eLo0 M a b).trans ((eLo1 M a b).trans (eLo2 M a b))

def isT : Option (D Pl) → Bool
  | some (.bool b) => b
  | _ => false
theorem isT_eq {o : Option (D Pl)} (h : isT o = true) : o = some (.bool true) := by
  unfold isT at h
  split at h
  · subst h; rfl
  · simp at h

-- what the rest comes to, whatever is parsed

def sg (i : Int) : Str := signsL.getD i.toNat []
def lv (i : Int) : Int := levelsL.getD i.toNat 0
section
variable {β : Type}
def ckI (i : Int) (k : Option β) : Option β := ck_ ((decide (0 ≤ i) && decide (i < (signsL.length : Int))) || false) k
def ckL (i : Int) (k : Option β) : Option β := ck_ ((decide (0 ≤ i) && decide (i < (levelsL.length : Int))) || false) k
def ckA (a b : Str) (k : Option β) : Option β := ck_ (Nat.ble (a.length + b.length) big || false) k
def mkS3 (p q r : Str) (i k : Int) (K : Option β) : Option β := ckI i (ckA p (sg i) (ckA (p ++ sg i) q (ckI k (ckA (p ++ sg i ++ q) (sg k) (ckA (p ++ sg i ++ q ++ sg k) r K)))))
end
def str3 (p q r : Str) (i k : Int) : Str := p ++ sg i ++ q ++ sg k ++ r
def yes (b : Bool) : Option (D Pl) := bif b == true then some (.bool true) else some (.bool false)
def endL (x l r : ExprR × Int × PosR) (i k : Int) : Option (D Pl) :=
  bif (bif l.2.1 != 0 then true else r.2.1 != 0) then some (.bool false)
  else ckL i (ck_ ((decide (0 ≤ k) && decide (k < (levelsL.length : Int))) || !((lv i == 3) == true)) (bif (bif lv i == 3 then lv k == 3 else false) then yes (x.2.1 == 4)
    else ckL i (ckL k (bif decide (lv i ≥ lv k) then (bif (x.2.1 == 0) == true then yes (sameE (etaE x.1) (etaE l.1)) else some (.bool false)) else (bif (x.2.1 == 0) == true then yes (sameE (etaE x.1) (etaE r.1)) else some (.bool false))))))
def ruleL (M : Str → Option (ExprR × Int × PosR)) (i k : Int) : Option (D Pl) :=
  mkS3 [120, 32] [32, 121, 32] [32, 122] i k (ck_ (okW (M (str3 [120, 32] [32, 121, 32] [32, 122] i k)))
  (mkS3 [40, 120, 32] [32, 121, 41, 32] [32, 122] i k (ck_ (okW (M (str3 [40, 120, 32] [32, 121, 41, 32] [32, 122] i k)))
  (mkS3 [120, 32] [32, 40, 121, 32] [32, 122, 41] i k (ck_ (okW (M (str3 [120, 32] [32, 40, 121, 32] [32, 122, 41] i k)))
    (endL (gotW (M (str3 [120, 32] [32, 121, 32] [32, 122] i k))) (gotW (M (str3 [40, 120, 32] [32, 121, 41, 32] [32, 122] i k))) (gotW (M (str3 [120, 32] [32, 40, 121, 32] [32, 122, 41] i k))) i k))))))

theorem eRest (M : Str → Option (ExprR × Int × PosR)) (a b i k : Int) : restEv M (S4 a b i k) = ruleL M i k := by kernel_rfl

end Go.Proofs.YtdlgmknlnddioaaGreatDoor
