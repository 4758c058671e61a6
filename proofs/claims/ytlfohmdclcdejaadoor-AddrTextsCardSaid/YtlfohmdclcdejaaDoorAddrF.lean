/-
  THE LAW OF ADDRESSES' TEXTS: true of any object and any text.
-/
import Derived.Test.YtlfohmdclcdejaaDoorAddrE
namespace Go.Proofs.YtlfohmdclcdejaaDoor
open Go.Eng
open Nu (parseV refParseV back isD dec_ok byt_get parse_eq dgs)

set_option maxRecDepth 100000

def pKc (f : KeyR → Bool × D Pl) : List (D Pl) → Option (Bool × D Pl)
  | [.agg x] => match dKy x with
    | some a => some (f a)
    | none => none
  | _ => none
theorem pKc_ok {g : FuncId} {f : KeyR → Bool × D Pl} (hf : ∀ a, (f a).1 = true → Snd g [.agg (cK a)] (f a).2) : ∀ ds b d, pKc f ds = some (b, d) → b = true → Snd g ds d := by
  intro ds b d h hb
  unfold pKc at h
  split at h
  · split at h
    · rename_i h1
      simp only [Option.some.injEq] at h
      rw [dKy_eq h1]
      have := hf _ (by rw [h]; exact hb)
      rw [h] at this
      exact this
    · simp at h
  · simp at h

/-- parsed, told: the parts by themselves -/
def p1a (s : Str) : KeyR := (parse1 s).1
def p1e (s : Str) : Int := (parse1 s).2
def baseV (a : KeyR) : KeyR := ⟨a.ty, a.name, .ofNat 0, .ofNat 0, [], .ofNat 0⟩
def tTx : Eng.Told Pl := tell 6 (pA1 fun a => .bool (grt a)) (tAwake (tell 20 (pS fun s => .tup [.agg (cAd (p1a s)), dI (p1e s)]) (tell 21 (pS fun s => .tup [.agg (cAd (p1a s)), dI (p1e s)])
  (tell 24 (pKc fun a => (smA a, .str (keyT a))) (tell 25 (pKc fun a => (smA a, .str (keyT a))) (tell 26 (pA1 fun a => .agg (cAd (baseV a))) (tC (tAP tell0))))))))
theorem tTx_ok : TOk tTx := tell_ok (pA1_ok fun a => snd_of (tell0_ok _) (noTL_ok _ _) (e5 a)) (tAwake_ok (tell_ok (pS_ok parse_sound) (tell_ok (pS_ok refParse_sound)
  (tell_ok (pKc_ok fun _ h => printKey_sound h) (tell_ok (pKc_ok fun _ h => refPrintKey_sound h) (tell_ok (pA1_ok base_sound) (tC_ok (tAP_ok (tell0_ok _)))))))))

def eqB (x y : KeyR) : Bool := x.ty == y.ty && (x.name == y.name && (x.kind == y.kind && (x.i == y.i && (x.k == y.k && true))))
theorem eqB_refl (x : KeyR) : eqB x x = true := by unfold eqB; simp

theorem e5t (a : KeyR) (s : Str) : ev tTx noTL 1 5 [.agg (cK a), .str s] = bif (bif grt (ad0 a) then true else decide ((s.length : Int) > 200)) then yes else
    ck_ (smA (ad0 a)) (bif (bif okA (ad0 a) then (bif p1e (printV (ad0 a)) != 0 then true else !(eqB (p1a (printV (ad0 a))) a)) else false) then no else
      bif (bif eqB (p1a s) (p1a s) then p1e s == p1e s else false) == true then ck_ (smA (ad0 a)) (bif (printV (ad0 a) == printV (ad0 a)) == true then ck_ (smA a) (ck_ (smA a)
        (bif (keyT a == keyT a) == true then (bif eqB (baseV (ad0 a)) (baseV a) == true then yes else no) else no)) else no) else no) := by kernel_rfl

theorem grt_sm {a : KeyR} (h : grt a = false) : smA a = true := by
  have key : ∀ A B C : Bool, (bif (bif A then true else B) then true else C) = false → A = false ∧ B = false ∧ C = false := by decide
  obtain ⟨h1, h2, h3⟩ := key _ _ _ h
  have h1 := of_decide_eq_false h1
  have h2 := of_decide_eq_false h2
  have h3 := of_decide_eq_false h3
  unfold smA
  rw [ble_t (show a.ty.length ≤ 1000 by omega), ble_t (show a.name.length ≤ 1000 by omega), ble_t (show a.k.length ≤ 1000 by omega)]; rfl

theorem addrTexts_sound (a : KeyR) (s : Str) : Snd 5 [.agg (cK a), .str s] (.bool true) := by
  refine snd_of tTx_ok (noTL_ok _ _) ((e5t a s).trans ?_)
  cases hg : grt (ad0 a) with
  | true => rfl
  | false =>
    have hs : smA a = true := grt_sm hg
    have hs0 : smA (ad0 a) = true := hs
    cases decide ((s.length : Int) > 200) with
    | true => rfl
    | false =>
      rw [ck_t hs0, ck_t hs0, ck_t hs, ck_t hs, eqB_refl, beq_self_eq_true (p1e s), beq_self_eq_true (printV (ad0 a)), beq_self_eq_true (keyT a), show eqB (baseV (ad0 a)) (baseV a) = true from eqB_refl _]
      cases ho : okA (ad0 a) with
      | false => rfl
      | true =>
        have hp := parse_print ho
        have h1 : p1e (printV (ad0 a)) = 0 := by unfold p1e; rw [hp]
        have h2 : eqB (p1a (printV (ad0 a))) a = true := by unfold p1a; rw [hp]; exact eqB_refl a
        rw [h1, h2]; rfl

end Go.Proofs.YtlfohmdclcdejaaDoor
