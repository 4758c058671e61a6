/-
  addr's document: Has, Sort, SameKeys, by the engine.
-/
import Derived.Test.YtgngobcmfflcpaaDoorSLaw
import Derived.Test.YtgngobcmfflcpaaDoorLib
import Derived.Test.YtgngobcmfflcpaaDoorEngRn
namespace Go.Proofs.YtgngobcmfflcpaaDoor
open Go.Eng

set_option maxRecDepth 100000

theorem all_range_succ (n : Nat) (p : Nat → Bool) : (List.range (n + 1)).all p = (p 0 && (List.range n).all fun i => p (i + 1)) := by
  rw [List.range_succ_eq_map, List.all_cons, List.all_map]
  rfl

def asK : D Pl → Option (List KeyR)
  | .nilS => some []
  | .pl ⟨.keys, l⟩ _ => some l
  | _ => none
theorem asK_rdle {d : D Pl} {l : List KeyR} (h : asK d = some l) : RDle X0.C d (.pl (pKeys l) .any) := by
  unfold asK at h
  split at h
  · simp only [Option.some.injEq] at h; subst h; exact RDle.of (.nil _ rfl)
  · simp only [Option.some.injEq] at h; subst h; exact RDle.of (.any _ _)
  · simp at h

-- Has

def sH (l : List KeyR) (k : KeyR) (i : Int) : St Pl := mkS 18 [(0, .pl (pKeys l) .any), (3, .ptr 3 0), (5, dI i)] [(3, .box false (cK k))]
def sHr (l : List KeyR) (k : KeyR) (i : Int) : St Pl := mkS 18 [(0, .pl (pKeys l) .any), (3, .ptr 3 0), (4, .bool true), (5, dI i)] [(3, .box false (cK k))]
theorem bH (l : List KeyR) (k : KeyR) (i : Nat) : evD tell0 noTL noL 1 (loopAt 36 0) [0, 3, 4, 5] [] (sH l k i) =
    lt_ i l.length (ix_ i l.length (bif eqKy (l.getD i default) k then some (.ret, sHr l k i) else some (.normal, sH l k (IntKind.i64.wrap ((i : Int) + 1))))) (some (.exit 0, sH l k i)) := by kernel_rfl
theorem idsH : (loopsAt 36).length = 1 ∧ firstId (loopAt 36 0) = 2 ∧ loopsOf (loopAt 36 0) = [] := ⟨by kernel_rfl, by kernel_rfl, by kernel_rfl⟩
def rH (k : KeyR) : St Pl := mkS 18 [] [(3, .box false (cK k))]
def rHt (k : KeyR) : St Pl := mkS 18 [(4, .bool true)] [(3, .box false (cK k))]
def LSH (S : St Pl) : Option (Bool × LR Pl) := match seenS 18 [0, 3, 5] S with
  | some ([.pl ⟨.keys, l⟩ .any, .ptr 3 0, .int .i64 (.ofNat 0)], [(3, .box false cs)]) => match dKy cs with
    | some k => some (Nat.ble l.length big, .ite ((List.range l.length).all fun i => !(eqKy (l.getD i default) k)) (.leaf (.exit 0) (rH k)) (.leaf .ret (rHt k)))
    | none => none
  | _ => none
theorem LSH_ok : SOk X0 (loopAt 36 0) LSH := by
  intro S c r h hc
  unfold LSH at h
  split at h
  · rename_i l cs hs
    split at h
    · rename_i k hk
      simp only [Option.some.injEq, Prod.mk.injEq] at h
      obtain ⟨rfl, rfl⟩ := h
      simp only [Nat.ble_eq] at hc
      rw [dKy_eq hk] at hs
      refine Goes.pre (keepOf [0, 3, 5]) ?_
      rw [seenS_mask hs]
      refine search_ofD (tell0_ok _) idsH.2.2 (k := 1) (keep := [0, 3, 4, 5]) (lose := []) (keep2 := [4]) (Sf := fun i => sH l k i) (S2' := fun i => sHr l k i) (p := fun i => !(eqKy (l.getD i default) k)) (by simp) (by simp) (fun i hi => ?_) ?_ rfl (fun i => rfl)
      · show evD tell0 noTL noL 1 (loopAt 36 0) [0, 3, 4, 5] [] (sH l k i) = _
        rw [bH, lt_t hi, ix_t hi, wrap_nat (by omega)]
        cases eqKy (l.getD i default) k <;> rfl
      · show evD tell0 noTL noL 1 (loopAt 36 0) [0, 3, 4, 5] [] (sH l k l.length) = _
        rw [bH, lt_f (by omega)]
    · simp at h
  · simp at h
theorem eH (l : List KeyR) (k : KeyR) : evF tell0 noTL (atL 2 LSH noL) 1 Tryd.f36 [.pl (pKeys l) .any, .agg (cK k)] =
    ck_ (Nat.ble l.length big) (bif (List.range l.length).all (fun i => !(eqKy (l.getD i default) k)) then some (.bool false) else some (.bool true)) := by kernel_rfl
theorem any_range (l : List KeyR) (k : KeyR) : ((List.range l.length).all fun i => !(eqKy (l.getD i default) k)) = !(hasK l k) := by
  induction l with
  | nil => rfl
  | cons x r ih =>
    rw [List.length_cons, all_range_succ]
    simp only [hasK, List.any_cons, Bool.not_or]
    rw [show (!List.any r fun y => eqKy y k) = !(hasK r k) from rfl, ← ih]
    rfl
theorem has_sound (l : List KeyR) (k : KeyR) : Snd 36 [.pl (pKeys l) .any, .agg (cK k)] (.bool (hasK l k)) := by
  refine SoundAt.rooms fun hroom => snd_fn (n := 1) (tell0_ok _) (noTL_ok _ _) (fn := Tryd.f36) (by kernel_rfl) (loops_of (fn := Tryd.f36) (by kernel_rfl) (loops_1 idsH.1 (atL_ok (fun _ => LSH_ok) fun h => absurd idsH.2.1 h))) ((eH l k).trans ?_)
  have ha : l.length * 72 ≤ big := hroom (.pl (pKeys l) .any) (by simp)
  rw [ck_t (ble_t (by omega)), any_range]
  cases hasK l k <;> rfl
def pHas : List (D Pl) → Option (Bool × D Pl)
  | [d, .agg cs] => match asK d, dKy cs with
    | some l, some k => some (true, .bool (hasK l k))
    | _, _ => none
  | _ => none
theorem pHas_ok : ∀ ds b d, pHas ds = some (b, d) → b = true → Snd 36 ds d := by
  intro ds b d h hb
  unfold pHas at h
  split at h
  · split at h
    · rename_i h1 h2
      simp only [Option.some.injEq, Prod.mk.injEq] at h
      obtain ⟨_, rfl⟩ := h
      rw [dKy_eq h2]
      exact (has_sound _ _).pre (.cons (asK_rdle h1) (.cons (RDle.refl _) .nil))
    · simp at h
  · simp at h

-- Sort, the inner loop: where it belongs

def sI (l o : List KeyR) (i a : Int) : St Pl := mkS 54 [(0, .pl (pKeys l) .any), (3, .pl (pKeys o) .any), (4, dI i), (5, dI a)] []
noncomputable def tL : Eng.Told Pl := tell 37 (pKK fun a b => .bool (docK a b)) tell0
theorem tL_ok : TOk tL := tell_ok (pKK_ok docK_sound) (tell0_ok _)
theorem bI (l o : List KeyR) (i a : Nat) : evD tL noTL noL 1 (loopAt 17 1) [0, 3, 4, 5] [] (sI l o i a) =
    ixo_ a o.length (decide ((a : Int) < (o.length : Int)) == true) (ixo_ i l.length (decide ((a : Int) < (o.length : Int)) == true) (bif decide ((a : Int) < (o.length : Int)) == true then (bif docK (o.getD a default) (l.getD i default) then some (.normal, sI l o i (IntKind.i64.wrap ((a : Int) + 1))) else some (.exit 2, sI l o i a)) else some (.exit 2, sI l o i a))) := by kernel_rfl
theorem ids17 : (loopsAt 17).length = 2 ∧ firstId (loopAt 17 0) = 3 ∧ firstId (loopAt 17 1) = 7 ∧ loopsOf (loopAt 17 1) = [] ∧ loopsOf (loopAt 17 0) = [loopAt 17 1] := ⟨by kernel_rfl, by kernel_rfl, by kernel_rfl, by kernel_rfl, by kernel_rfl⟩
def sI0 (l : List KeyR) (i : Int) : St Pl := mkS 54 [(0, .pl (pKeys l) .any), (3, .nilS), (4, dI i), (5, dI 0)] []
theorem bI0 (l : List KeyR) (i : Nat) : evD tL noTL noL 1 (loopAt 17 1) [0, 3, 4, 5] [] (sI0 l i) = ixo_ i l.length false (some (.exit 2, sI0 l i)) := by kernel_rfl
def LSI (S : St Pl) : Option (Bool × LR Pl) := match seenS 54 [0, 3, 4, 5] S with
  | some ([.pl ⟨.keys, l⟩ .any, .pl ⟨.keys, o⟩ .any, .int .i64 (.ofNat i), .int .i64 (.ofNat 0)], []) => some (Nat.ble o.length big && Nat.blt i l.length, .leaf (.exit 2) (sI l o i (atK o (l.getD i default))))
  | some ([.pl ⟨.keys, l⟩ .any, .nilS, .int .i64 (.ofNat i), .int .i64 (.ofNat 0)], []) => some (true, .leaf (.exit 2) (sI0 l i))
  | _ => none

theorem takeWhile_all {p : KeyR → Bool} : ∀ {o : List KeyR}, (∀ y ∈ o, p y = true) → o.takeWhile p = o
  | [], _ => rfl
  | y :: r, h => by rw [List.takeWhile_cons, h y List.mem_cons_self, if_pos rfl, takeWhile_all fun z hz => h z (List.mem_cons_of_mem _ hz)]

theorem ff_at (o : List KeyR) (x : KeyR) : ff (fun j => docK (o.getD j default) x) o.length = atK o x := by
  rcases ff_spec o.length (fun j => docK (o.getD j default) x) with ⟨h1, h2⟩ | ⟨h1, h2, h3⟩
  · rw [h1]
    have : o.takeWhile (fun y => docK y x) = o := takeWhile_all fun y hy => by
      obtain ⟨j, hj, rfl⟩ := List.mem_iff_getElem.1 hy
      have := h2 j hj
      simpa [List.getD_eq_getElem?_getD, List.getElem?_eq_getElem hj] using this
    unfold atK; rw [this]
  · generalize ff (fun j => docK (o.getD j default) x) o.length = n at *
    unfold atK
    induction o generalizing n with
    | nil => simp at h1
    | cons y r ih =>
      rw [List.takeWhile_cons]
      cases n with
      | zero =>
        have h2 : docK y x = false := by simpa using h2
        rw [h2]; simp
      | succ m =>
        have h0 : docK y x = true := by simpa using h3 0 (by omega)
        rw [h0]
        simp only [if_true, List.length_cons]
        rw [← ih m (by simpa using h1) (by simpa using h2) (fun j hj => by simpa using h3 (j + 1) (by omega))]

theorem LSI_ok : SOk X0 (loopAt 17 1) LSI := by
  intro S c r h hc
  unfold LSI at h
  split at h
  · rename_i l o i hs
    simp only [Option.some.injEq, Prod.mk.injEq] at h
    obtain ⟨rfl, rfl⟩ := h
    simp only [Bool.and_eq_true, Nat.ble_eq, Nat.blt_eq] at hc
    refine Goes.pre (keepOf [0, 3, 4, 5]) ?_
    rw [seenS_mask hs, ← ff_at]
    refine loop_until (Sf := fun a => sI l o i a) (n := o.length) (p := fun j => docK (o.getD j default) (l.getD i default)) (S2 := fun a => sI l o i a) (by simp) (fun a ha hp => ?_) (fun a ha hp => ?_)
    · refine goes_ofD tL_ok (noTL_ok _ _) (noLoops ids17.2.2.2.1) ((bI l o i a).trans ?_)
      have hp : docK (o.getD a default) (l.getD i default) = true := hp
      rw [ixo_t ha, ixo_t hc.2, hp, decide_eq_true (show (a : Int) < (o.length : Int) by omega), wrap_nat (by omega)]
      rfl
    · refine goes_ofD tL_ok (noTL_ok _ _) (noLoops ids17.2.2.2.1) ((bI l o i a).trans ?_)
      by_cases ha' : a < o.length
      · have hp : docK (o.getD a default) (l.getD i default) = false := hp ha'
        rw [ixo_t ha', ixo_t hc.2, hp, decide_eq_true (show (a : Int) < (o.length : Int) by omega)]
        rfl
      · rw [decide_eq_false (show ¬ (a : Int) < (o.length : Int) by omega), show ∀ x : Option (Ex × St Pl), ixo_ a o.length (false == true) x = x from fun x => by unfold ixo_; simp, show ∀ x : Option (Ex × St Pl), ixo_ i l.length (false == true) x = x from fun x => by unfold ixo_; simp]
        rfl
  · rename_i l i hs
    simp only [Option.some.injEq, Prod.mk.injEq] at h
    obtain ⟨rfl, rfl⟩ := h
    refine Goes.pre (keepOf [0, 3, 4, 5]) ?_
    rw [seenS_mask hs]
    exact loop_all (Sf := fun _ => sI0 l i) (n := 0) (by simp) (fun j hj => by omega) (goes_ofD tL_ok (noTL_ok _ _) (noLoops ids17.2.2.2.1) ((bI0 l i).trans (by unfold ixo_; simp)))
  · simp at h

-- Sort, the outer loop

/-- The same as evD; ahead of it: these slices are only read from now on. -/
noncomputable abbrev evQ (R : Eng.Told Pl) (TL : LoopsT Pl) (L : LK Pl) (n : Nat) (code : Code) (keep lose calm : List Nat) (S : St Pl) : Option (Ex × St Pl) :=
  exec X0 (callK X0 F0 R TL n) L code S (fun e S => some (e, normS (keepOf keep) (keepOf lose) (calmS calm S)))
theorem goes_ofQ {R : Eng.Told Pl} (hR : TOk R) {TL : LoopsT Pl} (hTL : LOk TL) {L : LK Pl} {n : Nat} {code : Code} {keep lose calm : List Nat} {S S' : St Pl} {e : Ex} (hL : ∀ b ∈ loopsOf code, LoopOk X0 L b)
    (h : evQ R TL L n code keep lose calm S = some (e, S')) : GoesTo code S e S' := by
  obtain ⟨e1, S1, h1, h2⟩ := body_goes xok fok hR hTL hL h
  simp only [Option.some.injEq, Prod.mk.injEq] at h1
  obtain ⟨rfl, rfl⟩ := h1
  exact (h2.weak (Weak.calm xok calm S1)).norm xok _ _

def sB (l o : List KeyR) (i : Int) : St Pl := mkS 54 [(0, .pl (pKeys l) .any), (3, .pl (pKeys o) .any), (4, dI i)] []
def sB0 (l : List KeyR) (i : Int) : St Pl := mkS 54 [(0, .pl (pKeys l) .any), (3, .nilS), (4, dI i)] []
noncomputable def tHS : Eng.Told Pl := tell 36 pHas (tell 37 (pKK fun a b => .bool (docK a b)) tell0)
theorem tHS_ok : TOk tHS := tell_ok pHas_ok (tell_ok (pKK_ok docK_sound) (tell0_ok _))
def cu (o : List KeyR) (a n : Nat) : List KeyR := (o.drop a).take n
theorem bB0 (l : List KeyR) (i : Nat) : evQ tHS noTL (atL 7 LSI noL) 1 (loopAt 17 0) [0, 3, 4] (List.range 60) [52] (sB0 l i) =
    lt_ i l.length (ix_ i l.length (ix_ i l.length (some (.normal, sB l [l.getD i default] (IntKind.i64.wrap ((i : Int) + 1)))))) (some (.exit 0, sB0 l i)) := by kernel_rfl
theorem bB (l o : List KeyR) (i : Nat) : evQ tHS noTL (atL 7 LSI noL) 1 (loopAt 17 0) [0, 3, 4] (List.range 60) [52] (sB l o i) =
    lt_ i l.length (ix_ i l.length (bif hasK o (l.getD i default) then some (.normal, sB l o (IntKind.i64.wrap ((i : Int) + 1))) else
      ck_ (Nat.ble o.length big && Nat.blt i l.length) (ck_ (true && decide ((atK o (l.getD i default) : Int) ≤ (o.length : Int)) || false)
        (ck_ (true && Nat.ble ((0 + (cu o 0 (atK o (l.getD i default))).length) * 72) big) (ix_ i l.length (ck_ (true && Nat.ble (((cu o 0 (atK o (l.getD i default))).length + 1) * 72) big)
          (ck_ (true && decide ((atK o (l.getD i default) : Int) ≤ (o.length : Int)) && decide ((o.length : Int) ≤ (o.length : Int)) || false)
            (ck_ (true && Nat.ble (((cu o 0 (atK o (l.getD i default)) ++ [l.getD i default]).length + (cu o (atK o (l.getD i default)) (o.length - atK o (l.getD i default))).length) * 72) big)
              (some (.normal, sB l ((cu o 0 (atK o (l.getD i default)) ++ [l.getD i default]) ++ cu o (atK o (l.getD i default)) (o.length - atK o (l.getD i default))) (IntKind.i64.wrap ((i : Int) + 1))))))))))))
      (some (.exit 0, sB l o i)) := by kernel_rfl
theorem insK_eq (o : List KeyR) (x : KeyR) (h : hasK o x = false) : (cu o 0 (atK o x) ++ [x]) ++ cu o (atK o x) (o.length - atK o x) = insK o x := by
  unfold insK cu
  rw [h, cond_false, List.drop_zero, List.take_of_length_le (l := List.drop _ _) (by simp)]

theorem atK_le (o : List KeyR) (x : KeyR) : atK o x ≤ o.length := by
  unfold atK
  induction o with
  | nil => simp
  | cons y r ih => rw [List.takeWhile_cons]; split <;> simp <;> omega

theorem insK_len (o : List KeyR) (x : KeyR) : (insK o x).length ≤ o.length + 1 := by
  have := atK_le o x
  unfold insK
  cases hasK o x <;> simp <;> omega

def oS (l : List KeyR) (i : Nat) : List KeyR := docS (l.take i)
theorem oS_succ {l : List KeyR} {i : Nat} (hi : i < l.length) : oS l (i + 1) = insK (oS l i) (l.getD i default) := by
  unfold oS docS
  rw [List.take_add_one, List.getElem?_eq_getElem hi, Option.toList_some, List.foldl_append, List.getD_eq_getElem?_getD, List.getElem?_eq_getElem hi]
  rfl
theorem oS_len (l : List KeyR) (i : Nat) (hi : i ≤ l.length) : (oS l i).length ≤ i := by
  induction i with
  | zero => simp [oS, docS]
  | succ i ih =>
    rw [oS_succ (by omega)]
    have := insK_len (oS l i) (l.getD i default)
    have := ih (by omega)
    omega

def SB (l : List KeyR) : Nat → St Pl
  | 0 => sB0 l 0
  | i + 1 => sB l (oS l (i + 1)) (i + 1 : Nat)

theorem bB_step (l o : List KeyR) (i : Nat) (hi : i < l.length) (hb : l.length * 72 ≤ big) (ho : o.length ≤ i) :
    evQ tHS noTL (atL 7 LSI noL) 1 (loopAt 17 0) [0, 3, 4] (List.range 60) [52] (sB l o i) = some (.normal, sB l (insK o (l.getD i default)) (i + 1 : Nat)) := by
  rw [bB, lt_t hi, ix_t hi]
  cases hk : hasK o (l.getD i default) with
  | true =>
    rw [cond_true, wrap_nat (by omega), show insK o (l.getD i default) = o by unfold insK; rw [hk]; rfl]
  | false =>
    have ha := atK_le o (l.getD i default)
    rw [cond_false, insK_eq _ _ hk, wrap_nat (by omega), ck_t (by rw [ble_t (by omega), blt_t hi]; rfl), ck_t (by rw [decide_eq_true (by omega)]; rfl), ck_t (by simp only [cu, Bool.true_and]; exact ble_t (by simp; omega)), ix_t hi,
      ck_t (by simp only [cu, Bool.true_and]; exact ble_t (by simp; omega)), ck_t (by rw [decide_eq_true (show (atK o (l.getD i default) : Int) ≤ (o.length : Int) by omega)]; simp), ck_t (by simp only [cu, Bool.true_and]; exact ble_t (by simp; omega))]

def rB (l : List KeyR) : St Pl := mkS 54 [(3, .pl (pKeys (docS l)) .any)] []
def rB0 : St Pl := mkS 54 [(3, .nilS)] []
def LSB (S : St Pl) : Option (Bool × LR Pl) := match seenS 54 [0, 3, 4] S with
  | some ([.pl ⟨.keys, l⟩ .any, .nilS, .int .i64 (.ofNat 0)], []) => some (Nat.ble (l.length * 72) big, .ite l.isEmpty (.leaf (.exit 0) rB0) (.leaf (.exit 0) (rB l)))
  | _ => none
theorem LSB_ok : SOk X0 (loopAt 17 0) LSB := by
  intro S c r h hc
  unfold LSB at h
  split at h
  · rename_i l hs
    simp only [Option.some.injEq, Prod.mk.injEq] at h
    obtain ⟨rfl, rfl⟩ := h
    simp only [Nat.ble_eq] at hc
    refine Goes.pre (keepOf [0, 3, 4]) ?_
    rw [seenS_mask hs]
    have hL : ∀ b ∈ loopsOf (loopAt 17 0), LoopOk X0 (atL 7 LSI noL) b := by
      rw [ids17.2.2.2.2]
      intro b hb
      rw [List.mem_singleton] at hb
      subst hb
      exact atL_ok (fun _ => LSI_ok) fun h => absurd ids17.2.2.1 h
    cases l with
    | nil =>
      refine loop_all (Sf := fun _ => sB0 [] 0) (n := 0) (by simp) (fun j hj => by omega) ?_
      exact (goes_ofQ tHS_ok (noTL_ok _ _) hL ((bB0 [] 0).trans (show _ = some (.exit 0, sB0 [] 0) by rw [lt_f (by simp)]; rfl))).post (keepOf [3])
    | cons x t =>
      refine loop_all (Sf := SB (x :: t)) (n := (x :: t).length) (S1 := rB (x :: t)) (by simp) (fun i hi => ?_) ?_
      · cases i with
        | zero =>
          refine goes_ofQ tHS_ok (noTL_ok _ _) hL ((bB0 (x :: t) 0).trans ?_)
          rw [lt_t hi, ix_t hi, ix_t hi]
          rfl
        | succ i =>
          refine goes_ofQ tHS_ok (noTL_ok _ _) hL ((bB_step (x :: t) _ (i + 1) hi hc (oS_len _ _ (by omega))).trans ?_)
          rw [← oS_succ hi]
          rfl
      · have he : SB (x :: t) (x :: t).length = sB (x :: t) (docS (x :: t)) ((x :: t).length : Nat) := by
          show sB (x :: t) (oS (x :: t) (t.length + 1)) _ = _
          unfold oS
          rw [List.take_of_length_le (by simp)]
          rfl
        rw [he]
        have h1 := bB (x :: t) (docS (x :: t)) (x :: t).length
        rw [lt_f (by omega)] at h1
        exact (goes_ofQ tHS_ok (noTL_ok _ _) hL h1).post (keepOf [3])
  · simp at h

theorem e17 (l : List KeyR) : evF tHS noTL (atL 3 LSB (atL 7 LSI noL)) 1 Tryd.f17 [.pl (pKeys l) .any] =
    ck_ (Nat.ble (l.length * 72) big) (bif l.isEmpty then some .nilS else some (.pl (pKeys (docS l)) .any)) := by kernel_rfl

theorem refsort_sound (l : List KeyR) : Snd 17 [.pl (pKeys l) .any] (.pl (pKeys (docS l)) .any) := by
  refine SoundAt.rooms fun hroom => ?_
  have ha : l.length * 72 ≤ big := hroom (.pl (pKeys l) .any) (by simp)
  have hLs : ∀ i, i < (loopsAt 17).length → LoopOk X0 (atL 3 LSB (atL 7 LSI noL)) (loopAt 17 i) :=
    loops_2 ids17.1 (atL_ok (fun _ => LSB_ok) fun h => absurd ids17.2.1 h) (atL_ok (fun h => absurd (ids17.2.2.1.symm.trans h) (by decide)) fun _ => atL_ok (fun _ => LSI_ok) fun h => absurd ids17.2.2.1 h)
  have key := fun d (h : evF tHS noTL (atL 3 LSB (atL 7 LSI noL)) 1 Tryd.f17 [.pl (pKeys l) .any] = some d) =>
    snd_fn (n := 1) tHS_ok (noTL_ok _ _) (f := 17) (fn := Tryd.f17) (by kernel_rfl) (loops_of (f := 17) (fn := Tryd.f17) (by kernel_rfl) hLs) h
  cases hl : l.isEmpty with
  | true =>
    have h1 := key .nilS ((e17 l).trans (by rw [ck_t (ble_t ha), hl]; rfl))
    have : l = [] := List.isEmpty_iff.1 hl
    subst this
    exact h1.post (RDle.of (.nil _ rfl))
  | false => exact key _ ((e17 l).trans (by rw [ck_t (ble_t ha), hl]; rfl))

-- SameKeys

def sameKs (a b : List KeyR) : Bool := a.length == b.length && ((List.range a.length).all fun i => eqKy (a.getD i default) (b.getD i default))
def sS (a b : List KeyR) (i : Int) : St Pl := mkS 26 [(0, .pl (pKeys a) .any), (1, .pl (pKeys b) .any), (5, dI i)] []
def sSr (a b : List KeyR) (i : Int) : St Pl := mkS 26 [(0, .pl (pKeys a) .any), (1, .pl (pKeys b) .any), (4, .bool false), (5, dI i)] []
theorem bS' (a b : List KeyR) (i : Nat) : evD tell0 noTL noL 1 (loopAt 15 0) [0, 1, 4, 5] [] (sS a b i) =
    lt_ i a.length (ix_ i a.length (ix_ i b.length (bif !(eqKy (a.getD i default) (b.getD i default)) then some (.ret, sSr a b i) else some (.normal, sS a b (IntKind.i64.wrap ((i : Int) + 1)))))) (some (.exit 0, sS a b i)) := by kernel_rfl
theorem idsS : (loopsAt 15).length = 1 ∧ firstId (loopAt 15 0) = 4 ∧ loopsOf (loopAt 15 0) = [] := ⟨by kernel_rfl, by kernel_rfl, by kernel_rfl⟩
def rS0 : St Pl := mkS 26 [] []
def rSf : St Pl := mkS 26 [(4, .bool false)] []
def LSS (S : St Pl) : Option (Bool × LR Pl) := match seenS 26 [0, 1, 5] S with
  | some ([.pl ⟨.keys, a⟩ .any, .pl ⟨.keys, b⟩ .any, .int .i64 (.ofNat 0)], []) => some (Nat.ble a.length big && Nat.beq a.length b.length, .ite ((List.range a.length).all fun i => eqKy (a.getD i default) (b.getD i default)) (.leaf (.exit 0) rS0) (.leaf .ret rSf))
  | _ => none
theorem LSS_ok : SOk X0 (loopAt 15 0) LSS := by
  intro S c r h hc
  unfold LSS at h
  split at h
  · rename_i a b hs
    simp only [Option.some.injEq, Prod.mk.injEq] at h
    obtain ⟨rfl, rfl⟩ := h
    simp only [Bool.and_eq_true, Nat.ble_eq] at hc
    have hl := Nat.eq_of_beq_eq_true hc.2
    refine Goes.pre (keepOf [0, 1, 5]) ?_
    rw [seenS_mask hs]
    refine search_ofD (tell0_ok _) idsS.2.2 (k := 1) (keep := [0, 1, 4, 5]) (lose := []) (keep2 := [4]) (Sf := fun i => sS a b i) (S2' := fun i => sSr a b i) (p := fun i => eqKy (a.getD i default) (b.getD i default)) (by simp) (by simp) (fun i hi => ?_) ?_ rfl (fun i => rfl)
    · show evD tell0 noTL noL 1 (loopAt 15 0) [0, 1, 4, 5] [] (sS a b i) = _
      rw [bS', lt_t hi, ix_t hi, ix_t (by omega), wrap_nat (by omega)]
      cases eqKy (a.getD i default) (b.getD i default) <;> rfl
    · show evD tell0 noTL noL 1 (loopAt 15 0) [0, 1, 4, 5] [] (sS a b a.length) = _
      rw [bS', lt_f (by omega)]
  · simp at h
theorem eS (a b : List KeyR) : evF tell0 noTL (atL 4 LSS noL) 1 Tryd.f15 [.pl (pKeys a) .any, .pl (pKeys b) .any] =
    bif ((a.length : Int) != (b.length : Int)) then some (.bool false) else ck_ (Nat.ble a.length big && Nat.beq a.length b.length) (bif (List.range a.length).all (fun i => eqKy (a.getD i default) (b.getD i default)) then some (.bool true) else some (.bool false)) := by kernel_rfl
theorem same_sound (a b : List KeyR) : Snd 15 [.pl (pKeys a) .any, .pl (pKeys b) .any] (.bool (sameKs a b)) := by
  refine SoundAt.rooms fun hroom => snd_fn (n := 1) (tell0_ok _) (noTL_ok _ _) (fn := Tryd.f15) (by kernel_rfl) (loops_of (fn := Tryd.f15) (by kernel_rfl) (loops_1 idsS.1 (atL_ok (fun _ => LSS_ok) fun h => absurd idsS.2.1 h))) ((eS a b).trans ?_)
  have ha : a.length * 72 ≤ big := hroom (.pl (pKeys a) .any) (by simp)
  unfold sameKs
  by_cases hl : a.length = b.length
  · rw [show ((a.length : Int) != (b.length : Int)) = false by rw [hl]; simp, cond_false, ck_t (by rw [ble_t (by omega), hl, Nat.beq_refl]; rfl), show (a.length == b.length) = true by simp [hl], Bool.true_and]
    cases (List.range a.length).all fun i => eqKy (a.getD i default) (b.getD i default) <;> rfl
  · rw [show ((a.length : Int) != (b.length : Int)) = true by rw [bne_iff_ne]; omega, show (a.length == b.length) = false by simp [hl]]
    rfl
theorem sameKs_refl (a : List KeyR) : sameKs a a = true := by
  simp [sameKs, eqKy, eqA]
def pSame : List (D Pl) → Option (Bool × D Pl)
  | [d, e] => match asK d, asK e with
    | some a, some b => some (true, .bool (sameKs a b))
    | _, _ => none
  | _ => none
theorem pSame_ok : ∀ ds b d, pSame ds = some (b, d) → b = true → Snd 15 ds d := by
  intro ds b d h hb
  unfold pSame at h
  split at h
  · split at h
    · rename_i h1 h2
      simp only [Option.some.injEq, Prod.mk.injEq] at h
      obtain ⟨_, rfl⟩ := h
      exact (same_sound _ _).pre (.cons (asK_rdle h1) (.cons (asK_rdle h2) .nil))
    · simp at h
  · simp at h
def pK1 (f : List KeyR → List KeyR) : List (D Pl) → Option (Bool × D Pl)
  | [d] => match asK d with
    | some a => some (true, .pl (pKeys (f a)) .any)
    | _ => none
  | _ => none
theorem pK1_ok {g : FuncId} {f : List KeyR → List KeyR} (hf : ∀ l, Snd g [.pl (pKeys l) .any] (.pl (pKeys (f l)) .any)) : ∀ ds b d, pK1 f ds = some (b, d) → b = true → Snd g ds d := by
  intro ds b d h hb
  unfold pK1 at h
  split at h
  · split at h
    · rename_i h1
      simp only [Option.some.injEq, Prod.mk.injEq] at h
      obtain ⟨_, rfl⟩ := h
      exact (hf _).pre (.cons (asK_rdle h1) .nil)
    · simp at h
  · simp at h
end Go.Proofs.YtgngobcmfflcpaaDoor
