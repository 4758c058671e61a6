/-
  WHETHER A VALUE MAY BE (the document's 'Check'): the call returns, whatever the value.
-/
import Derived.Test.YtibfgggccedmdaaDoorGreat
namespace Go.Proofs.YtibfgggccedmdaaDoor
open Go.Eng

set_option maxRecDepth 100000

def tck (tk tof : Int) : Bool := bif (bif (bif (bif decide (tk < 0) then true else decide (tk > 5)) then true else decide (tof < 0)) then true else decide (tof > 3)) then false else (bif tof == 0 then true else decide (tk > 3))

theorem e32 (tk tof : Int) : ev tell0 noTL 1 30 [.agg [dI tk, dI tof]] = bif (bif (bif (bif decide (tk < 0) then true else decide (tk > 5)) then true else decide (tof < 0)) then true else decide (tof > 3)) then some (.bool false) else some (.bool (bif tof == 0 then true else decide (tk > 3))) := by kernel_rfl

theorem tck_sound (tk tof : Int) : Snd 30 [.agg [dI tk, dI tof]] (.bool (tck tk tof)) := by
  refine snd_of (tell0_ok _) (noTL_ok _ _) ((e32 tk tof).trans ?_)
  unfold tck
  cases (bif (bif (bif decide (tk < 0) then true else decide (tk > 5)) then true else decide (tof < 0)) then true else decide (tof > 3)) <;> rfl

def pT : List (D Pl) → Option (Bool × D Pl)
  | [.agg [.int .i64 tk, .int .i64 tof]] => some (true, .bool (tck tk tof))
  | _ => none

theorem pT_ok : ∀ ds b d, pT ds = some (b, d) → b = true → Snd 30 ds d := by
  intro ds b d h hb
  unfold pT at h
  split at h
  · simp only [Option.some.injEq, Prod.mk.injEq] at h
    obtain ⟨_, rfl⟩ := h
    exact tck_sound _ _
  · simp at h

def s18 (v : Val) (d : Int) (t : Nat) (i : Int) : St Pl := mkS 172 [(1, dI d), (2, .ptr 2 0), (4, .bool false), (t, dI i)] [(2, .box false (cV v))]
def r18 (v : Val) (d : Int) : St Pl := mkS 172 [(1, dI d), (2, .ptr 2 0), (4, .bool false)] [(2, .box false (cV v))]
def tC (n : Nat) (C : Val → Int → Bool) : Eng.Told Pl := tell 13 (p2 fun v d => (Nat.blt (vsz v) n, .bool (C v d))) (tell 30 pT tell0)

def long (s : Str) : Bool := decide ((s.length : Int) > 1024)

theorem b18_0 (v : Val) (d : Int) : evC tell0 noTL noL 1 (loopAt 13 0) [1, 2, 4, 5] (s18 v d 5 0) =
    lt_ 0 v.keys.length (ix_ 0 v.keys.length (ck_ ((true && decide ((0 : Int) < (v.keys.length : Int))) || !(false && (long (v.keys.getD 0 []) == false))) (bif (bif long (v.keys.getD 0 []) then true else false) then some (.ret, s18 v d 5 0) else some (.normal, s18 v d 5 1)))) (some (.exit 0, s18 v d 5 0)) := by kernel_rfl

theorem b18_s (v : Val) (d : Int) (j : Nat) : evC tell0 noTL noL 1 (loopAt 13 0) [1, 2, 4, 5] (s18 v d 5 (.ofNat (j + 1))) =
    lt_ (j + 1) v.keys.length (ix_ (j + 1) v.keys.length
      (ck_ ((decide (0 ≤ IntKind.i64.wrap (Int.ofNat (j + 1) - 1)) && decide (IntKind.i64.wrap (Int.ofNat (j + 1) - 1) < (v.keys.length : Int))) || !((decide (Int.ofNat (j + 1) > 0) == true) && (long (v.keys.getD (j + 1) []) == false)))
      (ck_ ((true && decide (Int.ofNat (j + 1) < (v.keys.length : Int))) || !((decide (Int.ofNat (j + 1) > 0) == true) && (long (v.keys.getD (j + 1) []) == false)))
      (bif (bif long (v.keys.getD (j + 1) []) then true else (bif decide (Int.ofNat (j + 1) > 0) then !(Op.bytesLess (v.keys.getD (IntKind.i64.wrap (Int.ofNat (j + 1) - 1)).toNat []) (v.keys.getD (j + 1) [])) else false)) then some (.ret, s18 v d 5 (.ofNat (j + 1))) else some (.normal, s18 v d 5 (IntKind.i64.wrap (Int.ofNat (j + 1) + 1)))))))
      (some (.exit 0, s18 v d 5 (.ofNat (j + 1)))) := by kernel_rfl

theorem b18_2 (v : Val) (d : Int) (n : Nat) (C : Val → Int → Bool) (i : Nat) : evC (tC n C) noTL noL 1 (loopAt 13 1) [1, 2, 4, 6] (s18 v d 6 i) =
    lt_ i v.l.length (ix_ i v.l.length (ck_ (Nat.blt (vsz (etaV (v.l.getD i default))) n)
      (bif !(C (etaV (v.l.getD i default)) (IntKind.i64.wrap (d - 1))) then some (.ret, s18 v d 6 i) else some (.normal, s18 v d 6 (IntKind.i64.wrap ((i : Int) + 1)))))) (some (.exit 2, s18 v d 6 i)) := by kernel_rfl

def okKey (ks : List Str) : Nat → Bool
  | 0 => !(bif long (ks.getD 0 []) then true else false)
  | j + 1 => !(bif long (ks.getD (j + 1) []) then true else !(Op.bytesLess (ks.getD j []) (ks.getD (j + 1) [])))

theorem ids18 : (loopsAt 13).length = 2 ∧ firstId (loopAt 13 0) = 14 ∧ firstId (loopAt 13 1) = 19 ∧ loopsOf (loopAt 13 0) = [] ∧ loopsOf (loopAt 13 1) = [] := ⟨by kernel_rfl, by kernel_rfl, by kernel_rfl, by kernel_rfl, by kernel_rfl⟩

theorem h18_1 (v : Val) (d : Int) (hb : v.keys.length ≤ big) (i : Nat) (hi : i < v.keys.length) : evC tell0 noTL noL 1 (loopAt 13 0) [1, 2, 4, 5] (s18 v d 5 i) =
    bif okKey v.keys i then some (.normal, s18 v d 5 ((i + 1 : Nat) : Int)) else some (.ret, s18 v d 5 i) := by
  have hbig : big = 140737488355328 := rfl
  cases i with
  | zero =>
    refine (b18_0 v d).trans ?_
    rw [lt_t hi, ix_t hi, ck_t (by rw [decide_eq_true (show (0 : Int) < (v.keys.length : Int) by omega)]; rfl)]
    unfold okKey
    cases long (v.keys.getD 0 []) <;> rfl
  | succ j =>
    have e1 : IntKind.i64.wrap (Int.ofNat (j + 1) - 1) = (j : Int) := by
      rw [wrap_in _ (by simp only [Int.ofNat_eq_natCast]; omega)]; simp
    have e2 : IntKind.i64.wrap (Int.ofNat (j + 1) + 1) = ((j + 1 + 1 : Nat) : Int) := by
      rw [wrap_in _ (by simp only [Int.ofNat_eq_natCast]; omega)]; simp
    have e3 : decide (Int.ofNat (j + 1) > 0) = true := decide_eq_true (by simp only [Int.ofNat_eq_natCast]; omega)
    refine (b18_s v d j).trans ?_
    rw [lt_t hi, ix_t hi, e1, e2, e3, ck_t (by rw [decide_eq_true (show (0 : Int) ≤ (j : Int) by omega), decide_eq_true (show (j : Int) < (v.keys.length : Int) by omega)]; rfl),
      ck_t (by rw [decide_eq_true (show Int.ofNat (j + 1) < (v.keys.length : Int) by simp only [Int.ofNat_eq_natCast]; omega)]; rfl), Int.toNat_natCast]
    rw [show okKey v.keys (j + 1) = !(bif long (v.keys.getD (j + 1) []) then true else !(Op.bytesLess (v.keys.getD j []) (v.keys.getD (j + 1) []))) from rfl]
    generalize v.keys.getD j [] = x
    cases long (v.keys.getD (j + 1) []) <;> cases Op.bytesLess x (v.keys.getD (j + 1) []) <;> rfl

def LS18a (S : St Pl) : Option (Bool × LR Pl) := match seenS 172 [1, 2, 4, 5] S with
  | some ([.int .i64 d, .ptr 2 0, .bool false, .int .i64 (.ofNat 0)], [(2, .box false c)]) => (match exV c with
    | some v => some (Nat.ble v.keys.length big, .ite ((List.range v.keys.length).all (okKey v.keys)) (.leaf (.exit 0) (r18 v d)) (.leaf .ret (r18 v d)))
    | none => none)
  | _ => none
def LS18b (n : Nat) (C : Val → Int → Bool) (S : St Pl) : Option (Bool × LR Pl) := match seenS 172 [1, 2, 4, 6] S with
  | some ([.int .i64 d, .ptr 2 0, .bool false, .int .i64 (.ofNat 0)], [(2, .box false c)]) => (match exV c with
    | some v => some (Nat.ble v.l.length big && Nat.ble (vsz v) n, .ite ((List.range v.l.length).all fun i => C (v.l.getD i default) (IntKind.i64.wrap (d - 1))) (.leaf (.exit 2) (r18 v d)) (.leaf .ret (r18 v d)))
    | none => none)
  | _ => none

theorem LS18a_ok : SOk X0 (loopAt 13 0) LS18a := by
  intro S b r h hb
  unfold LS18a at h
  split at h
  · rename_i d c hs
    split at h
    · rename_i v hv
      simp only [Option.some.injEq, Prod.mk.injEq] at h
      obtain ⟨rfl, rfl⟩ := h
      simp only [Nat.ble_eq] at hb
      obtain rfl := exV_eq hv
      refine Goes.pre (keepOf [1, 2, 4, 5]) ?_
      rw [seenS_mask hs]
      refine loop_search (Sf := fun i => s18 v d 5 i) (n := v.keys.length) (p := okKey v.keys) (by simp) (by simp) (fun i hi hp => ?_) (fun i hi hp => ?_) ?_
      · exact goes_of (tell0_ok _) (noTL_ok _ _) (noLoops ids18.2.2.2.1) ((h18_1 v d hb i hi).trans (by rw [hp]; rfl))
      · exact (goes_of (tell0_ok _) (noTL_ok _ _) (noLoops ids18.2.2.2.1) ((h18_1 v d hb i hi).trans (show _ = some (.ret, s18 v d 5 i) by rw [hp]; rfl))).post (keepOf [1, 2, 4])
      · have e : evC tell0 noTL noL 1 (loopAt 13 0) [1, 2, 4, 5] (s18 v d 5 v.keys.length) = some (.exit 0, s18 v d 5 v.keys.length) := by
          cases hn : v.keys.length with
          | zero => exact (b18_0 v d).trans (by rw [lt_f (by omega)]; rfl)
          | succ j => exact (b18_s v d j).trans (by rw [lt_f (by omega)]; rfl)
        exact (goes_of (tell0_ok _) (noTL_ok _ _) (noLoops ids18.2.2.2.1) e).post (keepOf [1, 2, 4])
    · simp at h
  · simp at h

theorem LS18b_ok {n : Nat} {C : Val → Int → Bool} (hT : TOk (tC n C)) : SOk X0 (loopAt 13 1) (LS18b n C) := by
  intro S b r h hb
  unfold LS18b at h
  split at h
  · rename_i d c hs
    split at h
    · rename_i v hv
      simp only [Option.some.injEq, Prod.mk.injEq] at h
      obtain ⟨rfl, rfl⟩ := h
      simp only [Bool.and_eq_true, Nat.ble_eq] at hb
      obtain ⟨hb, hsz⟩ := hb
      obtain rfl := exV_eq hv
      refine Goes.pre (keepOf [1, 2, 4, 6]) ?_
      rw [seenS_mask hs]
      have hstep : ∀ i : Nat, i < v.l.length → evC (tC n C) noTL noL 1 (loopAt 13 1) [1, 2, 4, 6] (s18 v d 6 i) = bif !(C (v.l.getD i default) (IntKind.i64.wrap (d - 1))) then some (.ret, s18 v d 6 i) else some (.normal, s18 v d 6 ((i + 1 : Nat) : Int)) := by
        intro i hi
        have hs := vsz_elem (getD_mem (d := default) hi)
        rw [b18_2, lt_t hi, ix_t hi, etaV_eq, ck_t (blt_t (by omega)), wrap_nat (show i ≤ big by omega)]
      refine loop_search (Sf := fun i => s18 v d 6 i) (n := v.l.length) (p := fun i => C (v.l.getD i default) (IntKind.i64.wrap (d - 1))) (by simp) (by simp) (fun i hi hp => ?_) (fun i hi hp => ?_) ?_
      · have hp : C (v.l.getD i default) (IntKind.i64.wrap (d - 1)) = true := hp
        exact goes_of hT (noTL_ok _ _) (noLoops ids18.2.2.2.2) ((hstep i hi).trans (by rw [hp]; rfl))
      · have hp : C (v.l.getD i default) (IntKind.i64.wrap (d - 1)) = false := hp
        exact (goes_of hT (noTL_ok _ _) (noLoops ids18.2.2.2.2) ((hstep i hi).trans (show _ = some (.ret, s18 v d 6 i) by rw [hp]; rfl))).post (keepOf [1, 2, 4])
      · exact (goes_of hT (noTL_ok _ _) (noLoops ids18.2.2.2.2) ((b18_2 v d n C _).trans (show _ = some (.exit 2, s18 v d 6 v.l.length) by rw [lt_f (by omega)]))).post (keepOf [1, 2, 4])
    · simp at h
  · simp at h

-- the conditions ahead of the loops

def q1 (v : Val) (d : Int) : Bool := bif (bif decide (d < 1) then true else decide (v.kind < 0)) then true else decide (v.kind > 6)
def q2 (v : Val) : Bool := bif (bif (bif (v.kind != 1) then v.kind != 2 else false) then v.i != 0 else false) then true else (bif (bif (v.kind == 1) then v.i != 0 else false) then v.i != 1 else false)
def q3 (v : Val) : Bool := bif (bif (v.kind != 3) then !(v.s == []) else false) then true else long v.s
def q4 (v : Val) : Bool := bif (bif (v.kind != 6) then !(v.tk == 0 && (v.tof == 0 && true)) else false) then true else (bif (v.kind == 6) then !(tck v.tk v.tof) else false)
def q5 (v : Val) : Bool := bif (bif (bif (v.kind != 4) then v.kind != 5 else false) then decide ((v.l.length : Int) > 0) else false) then true else decide ((v.l.length : Int) > 128)
def q6 (v : Val) : Bool := bif (bif (v.kind != 5) then decide ((v.keys.length : Int) > 0) else false) then true else (bif (v.kind == 5) then (v.keys.length : Int) != (v.l.length : Int) else false)

def if_ (c : Bool) (x : Option (D Pl)) : Option (D Pl) := bif c then some (.bool false) else x

def f18 (v : Val) (d : Int) (n : Nat) (C : Val → Int → Bool) : Option (D Pl) := if_ (q1 v d) (if_ (q2 v) (if_ (q3 v) (if_ (q4 v) (if_ (q5 v) (if_ (q6 v)
  (ck_ (Nat.ble v.keys.length big) (bif (List.range v.keys.length).all (okKey v.keys) then (ck_ (Nat.ble v.l.length big && Nat.ble (vsz (etaV v)) n) (bif (List.range v.l.length).all (fun i => C (v.l.getD i default) (IntKind.i64.wrap (d - 1))) then some (.bool true) else some (.bool false))) else some (.bool false))))))))

noncomputable abbrev run18 (v : Val) (d : Int) (n : Nat) (C : Val → Int → Bool) : Option (D Pl) := evF (tC n C) noTL (atL 14 LS18a (atL 19 (LS18b n C) noL)) 1 Tryd.f13 [.agg (cV v), dI d]

theorem e18_0 (i : Int) (s : Str) (l : List Val) (ks : List Str) (tk tof : Int) (sec : Bool) (d : Int) (n : Nat) (C : Val → Int → Bool) : run18 ⟨.ofNat 0, i, s, l, ks, tk, tof, sec⟩ d n C = f18 ⟨.ofNat 0, i, s, l, ks, tk, tof, sec⟩ d n C := by kernel_rfl
theorem e18_1 (i : Int) (s : Str) (l : List Val) (ks : List Str) (tk tof : Int) (sec : Bool) (d : Int) (n : Nat) (C : Val → Int → Bool) : run18 ⟨.ofNat 1, i, s, l, ks, tk, tof, sec⟩ d n C = f18 ⟨.ofNat 1, i, s, l, ks, tk, tof, sec⟩ d n C := by kernel_rfl
theorem e18_2 (i : Int) (s : Str) (l : List Val) (ks : List Str) (tk tof : Int) (sec : Bool) (d : Int) (n : Nat) (C : Val → Int → Bool) : run18 ⟨.ofNat 2, i, s, l, ks, tk, tof, sec⟩ d n C = f18 ⟨.ofNat 2, i, s, l, ks, tk, tof, sec⟩ d n C := by kernel_rfl
theorem e18_3 (i : Int) (s : Str) (l : List Val) (ks : List Str) (tk tof : Int) (sec : Bool) (d : Int) (n : Nat) (C : Val → Int → Bool) : run18 ⟨.ofNat 3, i, s, l, ks, tk, tof, sec⟩ d n C = f18 ⟨.ofNat 3, i, s, l, ks, tk, tof, sec⟩ d n C := by kernel_rfl
theorem e18_4 (i : Int) (s : Str) (l : List Val) (ks : List Str) (tk tof : Int) (sec : Bool) (d : Int) (n : Nat) (C : Val → Int → Bool) : run18 ⟨.ofNat 4, i, s, l, ks, tk, tof, sec⟩ d n C = f18 ⟨.ofNat 4, i, s, l, ks, tk, tof, sec⟩ d n C := by kernel_rfl
theorem e18_5 (i : Int) (s : Str) (l : List Val) (ks : List Str) (tk tof : Int) (sec : Bool) (d : Int) (n : Nat) (C : Val → Int → Bool) : run18 ⟨.ofNat 5, i, s, l, ks, tk, tof, sec⟩ d n C = f18 ⟨.ofNat 5, i, s, l, ks, tk, tof, sec⟩ d n C := by kernel_rfl
theorem e18_6 (i : Int) (s : Str) (l : List Val) (ks : List Str) (tk tof : Int) (sec : Bool) (d : Int) (n : Nat) (C : Val → Int → Bool) : run18 ⟨.ofNat 6, i, s, l, ks, tk, tof, sec⟩ d n C = f18 ⟨.ofNat 6, i, s, l, ks, tk, tof, sec⟩ d n C := by kernel_rfl
theorem e18_m (m : Nat) (i : Int) (s : Str) (l : List Val) (ks : List Str) (tk tof : Int) (sec : Bool) (d : Int) (n : Nat) (C : Val → Int → Bool) : run18 ⟨.ofNat (m + 7), i, s, l, ks, tk, tof, sec⟩ d n C = f18 ⟨.ofNat (m + 7), i, s, l, ks, tk, tof, sec⟩ d n C := by kernel_rfl
theorem e18_n (m : Nat) (i : Int) (s : Str) (l : List Val) (ks : List Str) (tk tof : Int) (sec : Bool) (d : Int) (n : Nat) (C : Val → Int → Bool) : run18 ⟨.negSucc m, i, s, l, ks, tk, tof, sec⟩ d n C = f18 ⟨.negSucc m, i, s, l, ks, tk, tof, sec⟩ d n C := by kernel_rfl

theorem e18 (v : Val) (d : Int) (n : Nat) (C : Val → Int → Bool) : run18 v d n C = f18 v d n C := by
  obtain ⟨k, i, s, l, ks, tk, tof, sec⟩ := v
  cases k with
  | negSucc m => exact e18_n m i s l ks tk tof sec d n C
  | ofNat k =>
    match k with
    | 0 => exact e18_0 i s l ks tk tof sec d n C
    | 1 => exact e18_1 i s l ks tk tof sec d n C
    | 2 => exact e18_2 i s l ks tk tof sec d n C
    | 3 => exact e18_3 i s l ks tk tof sec d n C
    | 4 => exact e18_4 i s l ks tk tof sec d n C
    | 5 => exact e18_5 i s l ks tk tof sec d n C
    | 6 => exact e18_6 i s l ks tk tof sec d n C
    | m + 7 => exact e18_m m i s l ks tk tof sec d n C

theorem some_bool {c : Bool} {x : Option (D Pl)} (h : ∃ b, x = some (.bool b)) : ∃ b, if_ c x = some (.bool b) := by
  cases c with
  | true => exact ⟨false, rfl⟩
  | false => exact h

/-- what holds of a value that may be, its elements aside -/
def ckd (v : Val) : Prop := q2 v = false ∧ q3 v = false ∧ q4 v = false ∧ q5 v = false ∧ q6 v = false ∧ (List.range v.keys.length).all (okKey v.keys) = true

theorem if_true {c : Bool} {x : Option (D Pl)} (h : if_ c x = some (.bool true)) : c = false ∧ x = some (.bool true) := by
  cases c with
  | true => simp [if_] at h
  | false => exact ⟨rfl, h⟩

theorem f18_true {v : Val} {d : Int} {n : Nat} {C : Val → Int → Bool} (h : f18 v d n C = some (.bool true)) : ckd v := by
  unfold f18 at h
  obtain ⟨_, h⟩ := if_true h
  obtain ⟨h2, h⟩ := if_true h
  obtain ⟨h3, h⟩ := if_true h
  obtain ⟨h4, h⟩ := if_true h
  obtain ⟨h5, h⟩ := if_true h
  obtain ⟨h6, h⟩ := if_true h
  refine ⟨h2, h3, h4, h5, h6, ?_⟩
  cases hk : (List.range v.keys.length).all (okKey v.keys) with
  | true => rfl
  | false =>
    rw [hk] at h
    unfold ck_ at h
    cases hb : Nat.ble v.keys.length big with
    | true => rw [hb] at h; simp at h
    | false => rw [hb] at h; simp at h

theorem check_n : ∀ n, ∃ C : Val → Int → Bool, (∀ v d, vsz v < n → Snd 13 [.agg (cV v), dI d] (.bool (C v d))) ∧ ∀ v d, C v d = true → ckd v := by
  intro n
  induction n with
  | zero => exact ⟨fun _ _ => false, fun v d h => by omega, fun v d h => by simp at h⟩
  | succ n ih =>
    obtain ⟨C, hC, _⟩ := ih
    have hT : TOk (tC n C) := tell_ok (p2_ok fun v d h => hC v d (by simp only [Nat.blt_eq] at h; exact h)) (tell_ok pT_ok (tell0_ok _))
    have hb : ∀ v d, vsz v < n + 1 → v.keys.length ≤ big → v.l.length ≤ big → ∃ b, f18 v d n C = some (.bool b) := by
      intro v d hv hk hl
      unfold f18
      refine some_bool (some_bool (some_bool (some_bool (some_bool (some_bool ?_)))))
      rw [ck_t (ble_t hk)]
      cases (List.range v.keys.length).all (okKey v.keys) with
      | false => exact ⟨false, rfl⟩
      | true =>
        simp only [cond_true]
        rw [etaV_eq, ck_t (by rw [ble_t hl, ble_t (by omega)]; rfl)]
        cases (List.range v.l.length).all (fun i => C (v.l.getD i default) (IntKind.i64.wrap (d - 1))) with
        | false => exact ⟨false, rfl⟩
        | true => exact ⟨true, rfl⟩
    classical
    refine ⟨fun v d => if h : vsz v < n + 1 ∧ v.keys.length ≤ big ∧ v.l.length ≤ big then (hb v d h.1 h.2.1 h.2.2).choose else false, fun v d hv => SoundAt.rooms fun hroom => ?_, fun v d h => ?_⟩
    rotate_left
    · simp only at h
      split at h
      · rename_i hh
        have := (hb v d hh.1 hh.2.1 hh.2.2).choose_spec
        rw [h] at this
        exact f18_true this
      · simp at h
    have h1 : Room _ (.agg (cV v)) := hroom _ (by simp)
    have hl : v.l.length * 104 ≤ big := h1 (.pl (pVals v.l) .any) (by simp [cV])
    have hk : v.keys.length * 16 ≤ big := h1 (.pl (pStrs v.keys) .any) (by simp [cV])
    have hh : vsz v < n + 1 ∧ v.keys.length ≤ big ∧ v.l.length ≤ big := ⟨hv, by omega, by omega⟩
    show Snd 13 [.agg (cV v), dI d] (.bool (if h : vsz v < n + 1 ∧ v.keys.length ≤ big ∧ v.l.length ≤ big then (hb v d h.1 h.2.1 h.2.2).choose else false))
    rw [dif_pos hh]
    refine snd_fn (n := 1) hT (noTL_ok _ _) (fn := Tryd.f13) (by kernel_rfl) (loops_of (fn := Tryd.f13) (by kernel_rfl) (loops_2 ids18.1
      (atL_ok (fun _ => LS18a_ok) fun h => absurd ids18.2.1 h) (atL_ok (fun h => absurd (ids18.2.2.1.symm.trans h) (by decide)) fun _ => atL_ok (fun _ => LS18b_ok hT) fun h => absurd ids18.2.2.1 h))) ((e18 v d n C).trans ?_)
    exact (hb v d hh.1 hh.2.1 hh.2.2).choose_spec

theorem check_sound : ∃ C : Val → Int → Bool, (∀ v d, Snd 13 [.agg (cV v), dI d] (.bool (C v d))) ∧ ∀ v d, C v d = true → ckd v :=
  ⟨fun v d => (check_n (vsz v + 1)).choose v d, fun v d => (check_n (vsz v + 1)).choose_spec.1 v d (Nat.lt_succ_self _), fun v d h => (check_n (vsz v + 1)).choose_spec.2 v d h⟩

theorem e7 (v : Val) (C : Val → Int → Bool) (W : Val → Int) : ev (tell 13 (p2 fun v d => (true, .bool (C v d))) (tell 14 (p1 fun v => (true, dI (W v))) tell0)) noTL 1 5 [.agg (cV v)] =
    bif ((C (etaV v) 8) == true) then some (.bool (decide (W (etaV v) ≤ 512))) else some (.bool false) := by kernel_rfl

theorem Check_sound : ∃ C : Val → Bool, (∀ v, Snd 5 [.agg (cV v)] (.bool (C v))) ∧ ∀ v, C v = true → ckd v := by
  obtain ⟨C, hC, hC2⟩ := check_sound
  obtain ⟨W, hW⟩ := weight_sound
  refine ⟨fun v => bif C v 8 then decide (W v ≤ 512) else false, fun v => ?_, fun v h => ?_⟩
  · refine snd_of (tell_ok (p2_ok fun v d _ => hC v d) (tell_ok (p1_ok fun v _ => hW v) (tell0_ok _))) (noTL_ok _ _) ((e7 v C W).trans ?_)
    rw [etaV_eq]
    show _ = some (D.bool (bif C v 8 then decide (W v ≤ 512) else false))
    cases C v 8 <;> rfl
  · cases hc : C v 8 with
    | true => exact hC2 v 8 hc
    | false => simp only [hc, cond_false] at h; simp at h

end Go.Proofs.YtibfgggccedmdaaDoor
