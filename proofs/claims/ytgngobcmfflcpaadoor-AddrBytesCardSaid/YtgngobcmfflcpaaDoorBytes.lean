/-
  WHAT THE STATEMENT COMPUTES: laid behind any bytes, read from any bytes, read as it was laid.
-/
import Derived.Test.YtgngobcmfflcpaaDoorLent
namespace Go.Proofs.YtgngobcmfflcpaaDoor
open Go.Eng

set_option maxRecDepth 100000

section
variable (T K : KeyR → Bool) (F : KeyR → List UInt8) (G : List UInt8 → KeyR × Nat × Nat)
def pPutF (b : Bool) : List (D Pl) → Option (Bool × D Pl)
  | [d, .agg x] => match asBy d, dKy x with
    | some l, some a => some (Nat.ble (l.length + 1000) big && (bif b then K a else !(K a)), .ow [] (.pl (pBytes (bif b then l ++ F a else l)) .any))
    | _, _ => none
  | _ => none
def pFormF : List (D Pl) → Option (Bool × D Pl)
  | [.agg x] => match dKy x with
    | some a => some (K a, .ow [] (.pl (pBytes (F a)) .any))
    | _ => none
  | _ => none
def pGetF : List (D Pl) → Option (Bool × D Pl)
  | [d] => match asBy d with
    | some l => some (true, gtD (G l))
    | _ => none
  | _ => none
def pRCkF (b : Bool) : List (D Pl) → Option (Bool × D Pl)
  | [.agg x] => match dKy x with
    | some a => some (bif b then K a else !(K a), .bool b)
    | _ => none
  | _ => none
noncomputable def tAB (b : Bool) : Eng.Told Pl := tell 5 (pA1 fun a => .bool (T a)) (tAwake (tell 8 (pPutF K F b) (tell 9 (pRCkF K b) (tell 10 (pFormF K F) (tell 11 (pGetF G) (tell 12 (pGetF G) tLents))))))
end
theorem pPutF_ok (b : Bool) : ∀ ds c d, pPutF okK fmL b ds = some (c, d) → c = true → Snd 8 ds d := by
  intro ds c d h hc
  unfold pPutF at h
  split at h
  · split at h
    · rename_i x l a hl hx
      simp only [Option.some.injEq, Prod.mk.injEq] at h
      obtain ⟨rfl, rfl⟩ := h
      simp only [Bool.and_eq_true, Nat.ble_eq] at hc
      obtain ⟨h1, h2⟩ := hc
      have := put_sound l a h1
      have hb : okK a = b := by cases b <;> simpa using h2
      rw [hb] at this
      rw [dKy_eq hx]
      exact this.pre (.cons (asBy_rdle hl) (.cons (RDle.refl _) .nil))
    · simp at h
  · simp at h
theorem pFormF_ok : ∀ ds c d, pFormF okK fmL ds = some (c, d) → c = true → Snd 10 ds d := by
  intro ds c d h hc
  unfold pFormF at h
  split at h
  · split at h
    · rename_i x a hx
      simp only [Option.some.injEq, Prod.mk.injEq] at h
      obtain ⟨rfl, rfl⟩ := h
      rw [dKy_eq hx]
      exact form_sound a hc
    · simp at h
  · simp at h
theorem pRCkF_ok (b : Bool) : ∀ ds c d, pRCkF okK b ds = some (c, d) → c = true → Snd 9 ds d := by
  intro ds c d h hc
  have hk : ∀ a, (bif b then okK a else !(okK a)) = (okK a == b) := by intro a; cases b <;> cases okK a <;> rfl
  unfold pRCkF at h
  split at h
  · split at h
    · rename_i x a hx
      simp only [Option.some.injEq, Prod.mk.injEq] at h
      obtain ⟨rfl, rfl⟩ := h
      refine pRCk_ok b _ (okK a == b) _ ?_ (by rw [← hk]; exact hc)
      unfold pRCk
      simp only [hx]
    · simp at h
  · simp at h
theorem pGetF_ok {f : FuncId} (hf : ∀ l, Snd f [.pl (pBytes l) .any] (gtD (gtM l))) : ∀ ds c d, pGetF gtM ds = some (c, d) → c = true → Snd f ds d := by
  intro ds c d h hc
  unfold pGetF at h
  split at h
  · split at h
    · rename_i l hl
      simp only [Option.some.injEq, Prod.mk.injEq] at h
      obtain ⟨_, rfl⟩ := h
      exact (hf l).pre (.cons (asBy_rdle hl) .nil)
    · simp at h
  · simp at h
theorem tAB_ok (b : Bool) : TOk (tAB grt okK fmL gtM b) := tell_ok (pA1_ok fun a => snd_of (tell0_ok _) (noTL_ok _ _) (e5 a)) (tAwake_ok (tell_ok (pPutF_ok b) (tell_ok (pRCkF_ok b) (tell_ok pFormF_ok (tell_ok (pGetF_ok get_sound) (tell_ok (pGetF_ok refget_sound) tLents_ok))))))

-- the statement

def yesB : Option (D Pl) := some (.bool true)
def noB : Option (D Pl) := some (.bool false)
def eqK (x y : KeyR) : Bool := x.ty == y.ty && (x.name == y.name && (x.kind == y.kind && (x.i == y.i && (x.k == y.k && true)))) && (x.n == y.n && true)
def minI (x y : Int) : Int := bif decide (x < y) then x else y
def unlike (leqV : List UInt8 → List UInt8 → Bool) (p w : List UInt8) (g : KeyR × Nat × Nat) : Bool := bif (bif (bif !(leqV p w) then true else !(eqK g.1 g.1)) then true else ((g.2.1 : Int) != (g.2.1 : Int))) then true else ((g.2.2 : Int) != (g.2.2 : Int))
def lastE (g : KeyR × Nat × Nat) (a : KeyR) (d : Int) : Bool := bif (bif eqK g.1 a then ((g.2.1 : Int) == d) else false) then ((g.2.2 : Int) == 0) else false
def restG (p : List UInt8) (m : Int) : List UInt8 := (p.drop m.toNat).take ((p.length : Int).toNat - m.toNat)
def okRs (p : List UInt8) (m : Int) : Bool := true && decide (0 ≤ m) && decide (m ≤ (p.length : Int)) && decide ((p.length : Int) ≤ (p.length : Int))
theorem eAB0 (l : List UInt8) (a : KeyR) (T K : KeyR → Bool) (F : KeyR → List UInt8) (G : List UInt8 → KeyR × Nat × Nat) : evF (tAB T K F G false) noTL noL 1 Tryd.f3 [.pl (pBytes l) .any, .agg (cK a)] =
    bif (bif T (ad0 a) then true else decide ((l.length : Int) > 500)) then yesB else
    ck_ (Nat.ble l.length 1000) (ck_ (Nat.ble (l.length + 1000) big && !(K a)) (ck_ (Nat.ble ((0 + l.length) * 1) big) (ck_ (!(K a)) (bif (unlike leq l ([] ++ l) (G l) == false) then
      ck_ (Nat.ble l.length 1000) (bif !(leq l l) then noB else ck_ (okRs l (minI (l.length : Int) (l.length : Int))) (ck_ (!(K a)) yesB)) else noB)))) := by kernel_rfl
theorem eAB1 (l : List UInt8) (a : KeyR) (T K : KeyR → Bool) (F : KeyR → List UInt8) (G : List UInt8 → KeyR × Nat × Nat) : evF (tAB T K F G true) noTL noL 1 Tryd.f3 [.pl (pBytes l) .any, .agg (cK a)] =
    bif (bif T (ad0 a) then true else decide ((l.length : Int) > 500)) then yesB else
    ck_ (Nat.ble l.length 1000) (ck_ (Nat.ble (l.length + 1000) big && K a) (ck_ (Nat.ble ((0 + l.length) * 1) big) (ck_ (K a) (ck_ (K a) (ck_ (Nat.ble ((([] ++ l).length + (F a).length) * 1) big) (bif (unlike leq (l ++ F a) (([] ++ l) ++ F a) (G l) == false) then
      ck_ (Nat.ble l.length 1000) (bif !(leq l l) then noB else ck_ (okRs (l ++ F a) (minI ((l ++ F a).length : Int) (l.length : Int))) (ck_ (K a)
        (bif (lastE (G (restG (l ++ F a) (minI ((l ++ F a).length : Int) (l.length : Int)))) a (IntKind.i64.wrap (((l ++ F a).length : Int) - (l.length : Int))) == true) then yesB else noB))) else noB)))))) := by kernel_rfl

theorem eqK_refl (x : KeyR) : eqK x x = true := by simp [eqK]
theorem unlike_no (l w : List UInt8) (h : l = w) (g : KeyR × Nat × Nat) : (unlike leq l w g == false) = true := by
  unfold unlike
  rw [leq_iff.2 h, eqK_refl]
  simp
theorem ck_leq (l : List UInt8) : (!(leq l l)) = false := by rw [leq_iff.2 rfl]; rfl

theorem fmL_len {a : KeyR} (hk : okK a = true) : (fmL a).length ≤ 1000 := by
  obtain ⟨h1, h2, h3, h4⟩ := okK_lens hk
  have l1 := stL_len h1
  have l2 := stL_len h2
  have lu := shL_len (wrap_lt a.i)
  have ln := shL_len (wrap_lt a.n)
  have hm : (bif a.kind == 1 then shL (ua a).toNat else bif a.kind == 2 then stL a.k else []).length ≤ 100 := by
    rcases h3 with ⟨k, _, _⟩ | ⟨k, _, _, _⟩ | ⟨k, _, hl⟩ <;> rw [k]
    · show ([] : List UInt8).length ≤ 100; simp
    · show (shL (ua a).toNat).length ≤ 100; unfold ua; omega
    · show (stL a.k).length ≤ 100; have := stL_len hl; omega
  unfold fmL fm2 fm1
  simp only [List.length_append, List.length_singleton]
  unfold un
  omega

theorem bytes_sound (l : List UInt8) (a : KeyR) (h0 : 0 ≤ a.n) (h1 : a.n ≤ 4294967295) : Snd 3 [.pl (pBytes l) .any, .agg (cK a)] (.bool true) := by
  have hbig : big = 140737488355328 := rfl
  cases hk : okK a with
  | false =>
    refine snd_fn (n := 1) (tAB_ok false) (noTL_ok _ _) (fn := Tryd.f3) (by kernel_rfl) (loops_of (f := 3) (fn := Tryd.f3) (by kernel_rfl) (loops_0 (by kernel_rfl))) ((eAB0 l a grt okK fmL gtM).trans ?_)
    cases hg : (bif grt (ad0 a) then true else decide ((l.length : Int) > 500)) with
    | true => rfl
    | false =>
      have hl : l.length ≤ 500 := by
        revert hg
        cases grt (ad0 a) with
        | true => simp
        | false =>
          intro hg
          have := of_decide_eq_false hg
          omega
      rw [cond_false, hk, ck_t (ble_t (by omega)), ck_t (by rw [ble_t (by omega)]; rfl), ck_t (ble_t (by omega)), Bool.not_false, ck_t rfl, unlike_no l ([] ++ l) rfl, cond_true, ck_t (ble_t (by omega)), ck_leq, cond_false, ck_t, ck_t rfl]
      · rfl
      · unfold okRs minI
        rw [decide_eq_false (show ¬ (l.length : Int) < (l.length : Int) by omega), cond_false, decide_eq_true (show (0 : Int) ≤ (l.length : Int) by omega), decide_eq_true (Int.le_refl _)]
        rfl
  | true =>
    refine snd_fn (n := 1) (tAB_ok true) (noTL_ok _ _) (fn := Tryd.f3) (by kernel_rfl) (loops_of (f := 3) (fn := Tryd.f3) (by kernel_rfl) (loops_0 (by kernel_rfl))) ((eAB1 l a grt okK fmL gtM).trans ?_)
    cases hg : (bif grt (ad0 a) then true else decide ((l.length : Int) > 500)) with
    | true => rfl
    | false =>
      have hl : l.length ≤ 500 := by
        revert hg
        cases grt (ad0 a) with
        | true => simp
        | false =>
          intro hg
          have := of_decide_eq_false hg
          omega
      have hf : (fmL a).length ≤ 1000 := fmL_len hk
      have hm : minI ((l ++ fmL a).length : Int) (l.length : Int) = (l.length : Int) := by
        unfold minI
        rw [decide_eq_false (show ¬ ((l ++ fmL a).length : Int) < (l.length : Int) by rw [List.length_append]; omega)]
        rfl
      have hr : restG (l ++ fmL a) (l.length : Int) = fmL a := by
        unfold restG
        rw [Int.toNat_natCast, Int.toNat_natCast, List.drop_left', List.length_append, Nat.add_sub_cancel_left, List.take_length]
        rfl
      rw [cond_false, hk, hm, hr, gtM_form hk ⟨h1, h0⟩, ck_t (ble_t (by omega)), ck_t (by rw [ble_t (by omega)]; rfl), ck_t (ble_t (by omega)), ck_t rfl, ck_t rfl, ck_t (ble_t (by simp only [List.nil_append]; omega)), unlike_no (l ++ fmL a) ([] ++ l ++ fmL a) rfl, cond_true, ck_t (ble_t (by omega)), ck_leq, cond_false, ck_t, ck_t rfl]
      · have : lastE (a, (fmL a).length, 0) a (IntKind.i64.wrap (((l ++ fmL a).length : Int) - (l.length : Int))) = true := by
          unfold lastE
          rw [wrap_in _ (by rw [List.length_append]; omega), eqK_refl, List.length_append, show ((l.length + (fmL a).length : Nat) : Int) - (l.length : Int) = ((fmL a).length : Int) by omega]
          simp
        rw [this]
        rfl
      · unfold okRs
        rw [decide_eq_true (show (0 : Int) ≤ (l.length : Int) by omega), decide_eq_true (show (l.length : Int) ≤ ((l ++ fmL a).length : Int) by rw [List.length_append]; omega), decide_eq_true (Int.le_refl _)]
        rfl
end Go.Proofs.YtgngobcmfflcpaaDoor
