/-
  THE LAW OF REFERENCES, plainly; and the program's function answers true.
-/
import Derived.Test.YtcfdmfijlaafkaaBrLaw2
import Derived.Test.YtcfdmfijlaafkaaOfP
namespace Go.Proofs.Ytcfdmfijlaafkaa
open Go.Eng

set_option maxRecDepth 100000

theorem parse_inv {s : Str} (h : (parseV s).c = 0) : ∃ w, W2 s = some w ∧ w.c = 0 ∧ (parseV s).e = w.e := by
  have e := parseV_eq s
  unfold parseM at e
  cases hw : W2 s with
  | none => rw [hw] at e; cases e
  | some w =>
    rw [hw] at e
    simp only [thn] at e
    refine ⟨w, rfl, ?_⟩
    cases c1 : w.c == 0 with
    | false =>
      rw [c1] at e
      have := congrArg WR.c (Option.some.inj e)
      rw [h] at this
      rw [beq_eq_false_iff_ne] at c1
      exact absurd this c1
    | true =>
      rw [c1, cond_true] at e
      cases c2 : decide (deepE w.e > 24) with
      | false =>
        rw [c2] at e
        have := congrArg WR.e (Option.some.inj e)
        exact ⟨by simpa using c1, this.symm⟩
      | true =>
        rw [c2, cond_true] at e
        cases c3 : Nat.blt 0 (allM s).l.length with
        | false => rw [c3] at e; cases e
        | true =>
          rw [c3] at e
          have := congrArg WR.c (Option.some.inj e)
          rw [h] at this
          cases this
theorem okA_sz {e : ExprR} (h : esz e ≤ 150000000000) : okA [] e = true := by
  unfold okA
  have hbig : big = 140737488355328 := rfl
  exact ble_t (by simp only [List.length_nil]; omega)
theorem parse_br {s : Str} (hs : s.length ≤ 2000) (h : (parseV s).c = 0) : okA [] (parseV s).e = true ∧ ((parseV (br s)).c = 0 → okA [] (parseV (br s)).e = true ∧ noP (parseV (br s)).e = noP (parseV s).e) := by
  obtain ⟨w, hw, hc, he⟩ := parse_inv h
  obtain ⟨g1, g2⟩ := W2_br hs hw hc
  rw [he]
  refine ⟨okA_sz g1, fun h2 => ?_⟩
  obtain ⟨w2, hw2, hc2, he2⟩ := parse_inv h2
  have := g2 w2 hw2 hc2
  rw [he2]
  refine ⟨okA_sz ?_, this⟩
  rw [← esz_noP, this, esz_noP]
  exact g1

-- places do not matter

theorem noPs_getD {l l' : List ExprR} (h : noPs l' = noPs l) {i : Nat} (hi : i < l.length) : noP (l'.getD i default) = noP (l.getD i default) := by
  induction l generalizing l' i with
  | nil => simp at hi
  | cons x r ih =>
    cases l' with
    | nil => simp [noPs] at h
    | cons y r' =>
      simp only [noPs, List.cons.injEq] at h
      cases i with
      | zero => exact h.1
      | succ i => exact ih h.2 (by simpa using hi)
theorem noPs_length {l l' : List ExprR} (h : noPs l' = noPs l) : l'.length = l.length := by rw [← noPs_len, h, noPs_len]
theorem noP_parts {e e' : ExprR} (h : noP e' = noP e) : e'.op = e.op ∧ e'.s = e.s ∧ e'.s2 = e.s2 ∧ noPs e'.l = noPs e.l := by
  rw [noP_eq, noP_eq] at h
  simp only [ExprR.mk.injEq] at h
  exact ⟨h.1, h.2.1, h.2.2.1, h.2.2.2.2.1⟩
def rsA (l : List AskedR) : List RefR := l.map fun x => x.r
theorem accA_noP {A : List Str → ExprR → List AskedR} (hA : ∀ b x y, noP y = noP x → rsA (A b y) = rsA (A b x)) (b : List Str) {e e' : ExprR} (h : noP e' = noP e) : ∀ i, i ≤ e.l.length → rsA (accA A b e' i) = rsA (accA A b e i)
  | 0, _ => rfl
  | i + 1, hi => by
    obtain ⟨h1, h2, h3, h4⟩ := noP_parts h
    have hb : bnd b e' i = bnd b e i := by unfold bnd; rw [h1, h2, h3]
    have := accA_noP hA b h i (by omega)
    unfold rsA at *
    rw [accA, accA, List.map_append, List.map_append, this, hb, hA _ _ _ (noPs_getD h4 (by omega))]
theorem isD_noP {e e' : ExprR} (h : noP e' = noP e) : isD e' = isD e := by
  obtain ⟨h1, _, _, h4⟩ := noP_parts h
  unfold isD
  rw [h1, noPs_length h4]
  cases c : (bif e.op == 3 then (e.l.length : Int) == 1 else false) with
  | false => rfl
  | true => rw [(noP_parts (noPs_getD h4 (isD_len c))).1]
theorem allR_noP : ∀ n b e e', noP e' = noP e → rsA (allR n b e') = rsA (allR n b e)
  | 0, _, _, _, _ => rfl
  | n + 1, b, e, e', h => by
    obtain ⟨h1, h2, h3, h4⟩ := noP_parts h
    rw [allR, allR, h1, h2, isD_noP h]
    cases e.op == 2 with
    | true =>
      simp only [cond_true]
      cases hasS b e.s <;> rfl
    | false =>
      simp only [cond_false]
      cases c : isD e with
      | true =>
        have hl : 0 < e.l.length := by
          unfold isD at c
          cases c2 : (bif e.op == 3 then (e.l.length : Int) == 1 else false) with
          | true => exact isD_len c2
          | false => rw [c2] at c; cases c
        have hx := (noP_parts (noPs_getD h4 hl)).2.1
        simp only [cond_true]
        rw [hx]
        cases hasS b (e.l.getD 0 default).s <;> rfl
      | false =>
        simp only [cond_false]
        rw [noPs_length h4]
        exact accA_noP (fun b x y => allR_noP n b x y) b h _ (Nat.le_refl _)
theorem docR_rs (l : List AskedR) : docR l = (rsA l).foldl insR [] := by
  unfold docR rsA
  rw [List.foldl_map]
theorem ofD_noP {e e' : ExprR} (h : noP e' = noP e) : ofD e' = ofD e := by
  unfold ofD
  rw [docR_rs, docR_rs, show esz e' = esz e by rw [← esz_noP, h, esz_noP], allR_noP _ _ _ _ h]

-- the program's function

def tParse (P : Str → WR) (R : Eng.Told Pl) : Eng.Told Pl := tell 4 (pS fun s => .tup [.agg (cExpr (P s).e), .agg (cDg (P s).c (P s).p)]) R
def pOfE (f : ExprR → List RefR) : List (D Pl) → Option (Bool × D Pl) := pe1 fun e => (okA [] e, .pl (pRefs (f e)) .any)
def pTrue : List (D Pl) → Option (Bool × D Pl)
  | [] => some (true, .bool true)
  | _ => none
/-- Where they are the same: true. -/
def pSmV (S : List RefR → List RefR → Bool) : List (D Pl) → Option (Bool × D Pl)
  | [d, e] => match asRf d, asRf e with
    | some a, some b => some (S a b, .bool true)
    | _, _ => none
  | _ => none
theorem pSmV_ok : ∀ ds b d, pSmV sameR ds = some (b, d) → b = true → Snd 6 ds d := by
  intro ds b d h hb
  unfold pSmV at h
  split at h
  · split at h
    · rename_i h1 h2
      simp only [Option.some.injEq, Prod.mk.injEq] at h
      obtain ⟨rfl, rfl⟩ := h
      rw [← hb]
      exact (sameR_sound _ _).pre (.cons (asRf_rdle h1) (.cons (asRf_rdle h2) .nil))
    · simp at h
  · simp at h
def tRefs (P : Str → WR) (F : ExprR → List RefR) (S : List RefR → List RefR → Bool) : Eng.Told Pl := tParse P (tell 8 (pOfE F) (tell 7 (pOfE F) (tell 6 (pSmV S) (tell 5 pTrue tell0))))
theorem tRefs_ok (h : Snd 5 [] (.bool true)) : TOk (tRefs parseV ofD sameR) := by
  refine tell_ok (pS_ok parseV_sound) (tell_ok (pe1_ok fun e h => of_sound e h) (tell_ok (pe1_ok fun e h => ofP_sound e h) (tell_ok pSmV_ok (tell_ok (fun ds b d hp _ => ?_) (tell0_ok _)))))
  unfold pTrue at hp
  split at hp
  · simp only [Option.some.injEq, Prod.mk.injEq] at hp; obtain ⟨_, rfl⟩ := hp; exact h
  · simp at hp
theorem eRefs (P : Str → WR) (F : ExprR → List RefR) (S : List RefR → List RefR → Bool) (s : Str) : ev (tRefs P F S) noTL 1 3 [.str s] =
   bif (bif decide ((s.length : Int) > 2000) then true else (P s).c != 0) then some (.bool true) else catK [40] s fun x => catK x [10, 41] fun y =>
     let E := etaE (P s).e
     let E2 := etaE (P y).e
     ck_ (okA [] E) (ck_ (okA [] E) (ck_ (S (F E) (F E)) (bif ((P y).c != 0) == false && true then ck_ (okA [] E2) (ck_ (okA [] E) (ck_ (S (F E2) (F E)) (some (.bool true)))) else some (.bool true)))) := by kernel_rfl

def awT : Eng.Told Pl := tParse parseV (tell 8 (pOfE ofD) (tell 7 (pOfE ofD) (tell 6 pSameR tell0)))
theorem awT_ok : TOk awT := tell_ok (pS_ok parseV_sound) (tell_ok (pe1_ok fun e h => of_sound e h) (tell_ok (pe1_ok fun e h => ofP_sound e h) (tell_ok pSameR_ok (tell0_ok _))))
theorem eAwake : ev awT noTL 1 5 [] = some (.bool true) := by kernel_rfl
theorem awake_sound : Snd 5 [] (.bool true) := snd_of awT_ok (noTL_ok _ _) eAwake

theorem catK_tt {β : Type} {x y : Str} {k : Str → Option β} (h : x.length + y.length ≤ big) : catK x y k = k (x ++ y) := catK_t h
/-- 'suretylaw15.RefsOf' answers true, whatever the text. -/
theorem refsOf_sound (s : Str) : Snd 3 [.str s] (.bool true) := by
  refine snd_of (tRefs_ok awake_sound) (noTL_ok _ _) ((eRefs parseV ofD sameR s).trans ?_)
  have hbig : big = 140737488355328 := rfl
  cases c1 : (bif decide ((s.length : Int) > 2000) then true else (parseV s).c != 0) with
  | true => rfl
  | false =>
    have hs : s.length ≤ 2000 := by
      by_cases h : s.length ≤ 2000
      · exact h
      · rw [decide_eq_true (show (s.length : Int) > 2000 by omega)] at c1; cases c1
    rw [decide_eq_false (show ¬ (s.length : Int) > 2000 by omega), cond_false] at c1
    have hc : (parseV s).c = 0 := by simpa using c1
    obtain ⟨g1, g2⟩ := parse_br hs hc
    rw [cond_false, catK_t (by simp only [List.length_cons, List.length_nil]; omega), catK_t (by simp only [List.length_append, List.length_cons, List.length_nil]; omega)]
    simp only [etaE_eq]
    rw [ck_t g1, ck_t g1, ck_t (sameR_refl _)]
    have hy : ([40] ++ s ++ [10, 41] : Str) = br s := by simp [br]
    rw [hy]
    cases c2 : (parseV (br s)).c != 0 with
    | true => rfl
    | false =>
      obtain ⟨g3, g4⟩ := g2 (by simpa using c2)
      rw [show ((false == false) && true) = true from rfl, cond_true, ck_t g3, ck_t g1, ck_t (by rw [ofD_noP g4]; exact sameR_refl _)]
end Go.Proofs.Ytcfdmfijlaafkaa
