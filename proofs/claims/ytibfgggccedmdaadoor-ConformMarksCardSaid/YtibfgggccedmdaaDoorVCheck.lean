/-
  THE PROGRAM's 'Check' OF A VALUE THAT MAY BE BY THE DOCUMENT.
-/
import Derived.Test.YtibfgggccedmdaaDoorChk
namespace Go.Proofs.YtibfgggccedmdaaDoor
open Go.Eng

set_option maxRecDepth 100000

-- shaped

def sSh (v : Val) (i : Int) : St Pl := mkS 81 [(1, .ptr 1 0), (2, .bool false), (56, .pl (pStrs v.keys) .any), (57, dI v.keys.length), (58, dI i)] [(1, .box false (cV v))]
def rSh (v : Val) : St Pl := mkS 81 [(1, .ptr 1 0), (2, .bool false)] [(1, .box false (cV v))]

theorem bSh_0 (v : Val) : evC tell0 noTL noL 1 (loopAt 67 0) [1, 2, 56, 57, 58] (sSh v 0) =
    lt_ 0 v.keys.length (ix_ 0 v.keys.length (bif (bif long (v.keys.getD 0 []) then true else false) then some (.ret, sSh v 0) else some (.normal, sSh v 1))) (some (.exit 1, sSh v 0)) := by kernel_rfl

theorem bSh_s (v : Val) (j : Nat) : evC tell0 noTL noL 1 (loopAt 67 0) [1, 2, 56, 57, 58] (sSh v (.ofNat (j + 1))) =
    lt_ (j + 1) v.keys.length (ix_ (j + 1) v.keys.length
      (ck_ ((decide (0 ≤ IntKind.i64.wrap (Int.ofNat (j + 1) - 1)) && decide (IntKind.i64.wrap (Int.ofNat (j + 1) - 1) < (v.keys.length : Int))) || !((decide (Int.ofNat (j + 1) > 0) == true) && (long (v.keys.getD (j + 1) []) == false)))
      (bif (bif long (v.keys.getD (j + 1) []) then true else (bif decide (Int.ofNat (j + 1) > 0) then !(Op.bytesLess (v.keys.getD (IntKind.i64.wrap (Int.ofNat (j + 1) - 1)).toNat []) (v.keys.getD (j + 1) [])) else false)) then some (.ret, sSh v (.ofNat (j + 1))) else some (.normal, sSh v (IntKind.i64.wrap (Int.ofNat (j + 1) + 1))))))
      (some (.exit 1, sSh v (.ofNat (j + 1)))) := by kernel_rfl

theorem idsSh : (loopsAt 67).length = 1 ∧ firstId (loopAt 67 0) = 12 ∧ loopsOf (loopAt 67 0) = [] := ⟨by kernel_rfl, by kernel_rfl, by kernel_rfl⟩

theorem hSh (v : Val) (hb : v.keys.length ≤ big) (i : Nat) (hi : i < v.keys.length) : evC tell0 noTL noL 1 (loopAt 67 0) [1, 2, 56, 57, 58] (sSh v i) =
    bif okKey v.keys i then some (.normal, sSh v ((i + 1 : Nat) : Int)) else some (.ret, sSh v i) := by
  have hbig : big = 140737488355328 := rfl
  cases i with
  | zero =>
    refine (bSh_0 v).trans ?_
    rw [lt_t hi, ix_t hi]
    unfold okKey
    cases long (v.keys.getD 0 []) <;> rfl
  | succ j =>
    have e1 : IntKind.i64.wrap (Int.ofNat (j + 1) - 1) = (j : Int) := by
      rw [wrap_in _ (by simp only [Int.ofNat_eq_natCast]; omega)]; simp
    have e2 : IntKind.i64.wrap (Int.ofNat (j + 1) + 1) = ((j + 1 + 1 : Nat) : Int) := by
      rw [wrap_in _ (by simp only [Int.ofNat_eq_natCast]; omega)]; simp
    have e3 : decide (Int.ofNat (j + 1) > 0) = true := decide_eq_true (by simp only [Int.ofNat_eq_natCast]; omega)
    refine (bSh_s v j).trans ?_
    rw [lt_t hi, ix_t hi, e1, e2, e3, ck_t (by rw [decide_eq_true (show (0 : Int) ≤ (j : Int) by omega), decide_eq_true (show (j : Int) < (v.keys.length : Int) by omega)]; rfl), Int.toNat_natCast]
    rw [show okKey v.keys (j + 1) = !(bif long (v.keys.getD (j + 1) []) then true else !(Op.bytesLess (v.keys.getD j []) (v.keys.getD (j + 1) []))) from rfl]
    generalize v.keys.getD j [] = x
    cases long (v.keys.getD (j + 1) []) <;> cases Op.bytesLess x (v.keys.getD (j + 1) []) <;> rfl

def LSSh (S : St Pl) : Option (Bool × LR Pl) := match seenS 81 [1, 2, 56, 57, 58] S with
  | some ([.ptr 1 0, .bool false, .pl ⟨.strs, ks⟩ .any, .int .i64 k, .int .i64 (.ofNat 0)], [(1, .box false c)]) => (match exV c with
    | some v => some ((ks : List Str) == v.keys && (k == (v.keys.length : Int) && Nat.ble v.keys.length big), .ite ((List.range v.keys.length).all (okKey v.keys)) (.leaf (.exit 1) (rSh v)) (.leaf .ret (rSh v)))
    | none => none)
  | _ => none

theorem LSSh_ok : SOk X0 (loopAt 67 0) LSSh := by
  intro S b r h hb
  unfold LSSh at h
  split at h
  · rename_i ks k c hs
    split at h
    · rename_i v hv
      simp only [Option.some.injEq, Prod.mk.injEq] at h
      obtain ⟨rfl, rfl⟩ := h
      simp only [Bool.and_eq_true, Nat.ble_eq] at hb
      obtain ⟨hks, hk, hbig⟩ := hb
      have hks : ks = v.keys := beq_iff_eq.1 hks
      subst hks
      obtain rfl := beq_iff_eq.1 hk
      obtain rfl := exV_eq hv
      refine Goes.pre (keepOf [1, 2, 56, 57, 58]) ?_
      rw [seenS_mask hs]
      refine search_of (tell0_ok _) idsSh.2.2 (k := 1) (keep := [1, 2, 56, 57, 58]) (keep2 := [1, 2]) (Sf := fun i => sSh v i) (S2' := fun i => sSh v i) (n := v.keys.length) (p := okKey v.keys) (by simp) (by simp) (fun i hi => hSh v hbig i hi) ?_ (by kernel_rfl) (fun i => by kernel_rfl)
      cases hn : v.keys.length with
      | zero => exact (bSh_0 v).trans (by rw [lt_f (by omega)]; rfl)
      | succ j => exact (bSh_s v j).trans (by rw [lt_f (by omega)]; rfl)
    · simp at h
  · simp at h

def tSh : Eng.Told Pl := tTyp (tell 74 (p1 fun v => (true, .agg (cV (onlyV v)))) (tell 73 (pvv fun a b => (true, .bool (flatV a b))) tell0))
theorem tSh_ok : TOk tSh := tTyp_ok (tell_ok (p1_ok fun v _ => only_sound v) (tell_ok (pvv_ok fun a b _ => flat_sound a b) (tell0_ok _)))

def shp0 (v : Val) (x : Option (D Pl)) : Option (D Pl) := bif (bif (bif !(flatV (etaV v) (onlyV (etaV v))) then true else long v.s) then true else decide ((v.l.length : Int) > 128)) then some (.bool false) else x

noncomputable abbrev runSh (v : Val) : Option (D Pl) := evF tSh noTL (atL 12 LSSh noL) 1 Tryd.f67 [.agg (cV v)]

theorem eSh_0 (i : Int) (s : Str) (l : List Val) (ks : List Str) (tk tof : Int) (sec : Bool) : runSh ⟨.ofNat 0, i, s, l, ks, tk, tof, sec⟩ = shp0 ⟨.ofNat 0, i, s, l, ks, tk, tof, sec⟩ (some (.bool true)) := by kernel_rfl
theorem eSh_1 (i : Int) (s : Str) (l : List Val) (ks : List Str) (tk tof : Int) (sec : Bool) : runSh ⟨.ofNat 1, i, s, l, ks, tk, tof, sec⟩ = shp0 ⟨.ofNat 1, i, s, l, ks, tk, tof, sec⟩ (some (.bool (i.fdiv (2 ^ min (Int.toNat 1) IntKind.i64.bits) == 0))) := by kernel_rfl
theorem eSh_2 (i : Int) (s : Str) (l : List Val) (ks : List Str) (tk tof : Int) (sec : Bool) : runSh ⟨.ofNat 2, i, s, l, ks, tk, tof, sec⟩ = shp0 ⟨.ofNat 2, i, s, l, ks, tk, tof, sec⟩ (some (.bool true)) := by kernel_rfl
theorem eSh_3 (i : Int) (s : Str) (l : List Val) (ks : List Str) (tk tof : Int) (sec : Bool) : runSh ⟨.ofNat 3, i, s, l, ks, tk, tof, sec⟩ = shp0 ⟨.ofNat 3, i, s, l, ks, tk, tof, sec⟩ (some (.bool true)) := by kernel_rfl
theorem eSh_4 (i : Int) (s : Str) (l : List Val) (ks : List Str) (tk tof : Int) (sec : Bool) : runSh ⟨.ofNat 4, i, s, l, ks, tk, tof, sec⟩ = shp0 ⟨.ofNat 4, i, s, l, ks, tk, tof, sec⟩ (some (.bool true)) := by kernel_rfl
theorem eSh_5 (i : Int) (s : Str) (l : List Val) (ks : List Str) (tk tof : Int) (sec : Bool) : runSh ⟨.ofNat 5, i, s, l, ks, tk, tof, sec⟩ = shp0 ⟨.ofNat 5, i, s, l, ks, tk, tof, sec⟩ (bif ((ks.length : Int) != (l.length : Int)) then some (.bool false) else
    ck_ ((ks == ks) && (((ks.length : Int) == (ks.length : Int)) && Nat.ble ks.length big)) (bif (List.range ks.length).all (okKey ks) then some (.bool true) else some (.bool false))) := by kernel_rfl
theorem eSh_6 (i : Int) (s : Str) (l : List Val) (ks : List Str) (tk tof : Int) (sec : Bool) : runSh ⟨.ofNat 6, i, s, l, ks, tk, tof, sec⟩ = shp0 ⟨.ofNat 6, i, s, l, ks, tk, tof, sec⟩ (some (.bool ((bif tck tk tof then 0 else 1) == (0 : Int)))) := by kernel_rfl

theorem flat_only {v : Val} (h2 : q2 v = false) (h3 : q3 v = false) (h4 : q4 v = false) (h5 : q5 v = false) (h6 : q6 v = false) : flatV v (onlyV v) = true := by
  have hi : (bif (bif v.kind == 1 then true else v.kind == 2) then v.i else 0) = v.i := by
    unfold q2 at h2
    cases e1 : v.kind == 1 with
    | true => rfl
    | false => cases e2 : v.kind == 2 with
      | true => rfl
      | false =>
        simp only [bne, e1, e2] at h2
        cases e : v.i == 0 with
        | true => simp [beq_iff_eq.1 e]
        | false => rw [e] at h2; simp at h2
  have hs : (bif v.kind == 3 then v.s else []) = v.s := by
    unfold q3 at h3
    cases e1 : v.kind == 3 with
    | true => rfl
    | false =>
      simp only [bne, e1] at h3
      cases e : v.s == [] with
      | true => simp [beq_iff_eq.1 e]
      | false => rw [e] at h3; simp at h3
  have ht : (bif v.kind == 6 then v.tk else 0) = v.tk ∧ (bif v.kind == 6 then v.tof else 0) = v.tof := by
    unfold q4 at h4
    cases e1 : v.kind == 6 with
    | true => exact ⟨rfl, rfl⟩
    | false =>
      simp only [bne, e1] at h4
      cases e : v.tk == 0 with
      | false => rw [e] at h4; simp at h4
      | true =>
        cases e' : v.tof == 0 with
        | false => rw [e, e'] at h4; simp at h4
        | true => simp [beq_iff_eq.1 e, beq_iff_eq.1 e']
  have hl : (bif (bif v.kind == 4 then true else v.kind == 5) then v.l else []) = v.l := by
    unfold q5 at h5
    cases e1 : v.kind == 4 with
    | true => rfl
    | false => cases e2 : v.kind == 5 with
      | true => rfl
      | false =>
        simp only [bne, e1, e2] at h5
        cases e : v.l with
        | nil => rfl
        | cons x r =>
          have : decide ((v.l.length : Int) > 0) = true := decide_eq_true (by rw [e]; simp only [List.length_cons]; omega)
          rw [this] at h5; simp at h5
  have hk : (bif v.kind == 5 then v.keys else []) = v.keys := by
    unfold q6 at h6
    cases e1 : v.kind == 5 with
    | true => rfl
    | false =>
      simp only [bne, e1] at h6
      cases e : v.keys with
      | nil => rfl
      | cons x r =>
        have : decide ((v.keys.length : Int) > 0) = true := decide_eq_true (by rw [e]; simp only [List.length_cons]; omega)
        rw [this] at h6; simp at h6
  have : onlyV v = v := by
    unfold onlyV
    rw [hi, hs, ht.1, ht.2, hl, hk]
    exact etaV_eq v
  rw [this]
  unfold flatV m47
  simp

theorem shp0_t {v : Val} {x : Option (D Pl)} (h2 : q2 v = false) (h3 : q3 v = false) (h4 : q4 v = false) (h5 : q5 v = false) (h6 : q6 v = false) : shp0 v x = x := by
  unfold shp0
  rw [etaV_eq, flat_only h2 h3 h4 h5 h6]
  have hs : long v.s = false := by
    unfold q3 at h3
    cases h : long v.s with
    | false => rfl
    | true => rw [h] at h3; simp at h3
  have hl : decide ((v.l.length : Int) > 128) = false := by
    unfold q5 at h5
    cases h : decide ((v.l.length : Int) > 128) with
    | false => rfl
    | true => rw [h] at h5; simp at h5
  rw [hs, hl]; rfl

theorem ndV_spec {v : Val} {d : Int} (h : ndV v d = true) : q1 v d = false ∧ q2 v = false ∧ q3 v = false ∧ q4 v = false ∧ q5 v = false ∧ q6 v = false ∧ (List.range v.keys.length).all (okKey v.keys) = true := by
  unfold ndV at h
  simp only [Bool.and_eq_true, Bool.not_eq_true'] at h
  exact ⟨h.1, h.2.1, h.2.2.1, h.2.2.2.1, h.2.2.2.2.1, h.2.2.2.2.2.1, h.2.2.2.2.2.2⟩

theorem q1_spec {v : Val} {d : Int} (h : q1 v d = false) : 1 ≤ d ∧ 0 ≤ v.kind ∧ v.kind ≤ 6 := by
  unfold q1 at h
  cases h1 : decide (d < 1) <;> cases h2 : decide (v.kind < 0) <;> cases h3 : decide (v.kind > 6) <;> rw [h1, h2, h3] at h <;> simp at h
  simp only [decide_eq_false_iff_not] at h1 h2 h3
  omega

theorem runSh_t {v : Val} {d : Int} (h : ndV v d = true) (hb : v.keys.length ≤ big) : runSh v = some (.bool true) := by
  obtain ⟨h1, h2, h3, h4, h5, h6, h7⟩ := ndV_spec h
  obtain ⟨_, g1, g2⟩ := q1_spec h1
  obtain ⟨k, i, s, l, ks, tk, tof, sec⟩ := v
  have : ∃ m : Nat, k = .ofNat m ∧ m ≤ 6 := ⟨k.toNat, (Int.toNat_of_nonneg g1).symm, by simp only at g1 g2; omega⟩
  obtain ⟨m, rfl, hm⟩ := this
  match m, hm with
  | 0, _ => exact (eSh_0 i s l ks tk tof sec).trans (shp0_t h2 h3 h4 h5 h6)
  | 1, _ =>
    refine (eSh_1 i s l ks tk tof sec).trans ((shp0_t h2 h3 h4 h5 h6).trans ?_)
    have : i = 0 ∨ i = 1 := by
      unfold q2 at h2
      by_cases e0 : i = 0
      · exact .inl e0
      · by_cases e1 : i = 1
        · exact .inr e1
        · exfalso
          have a : (i == 0) = false := by simpa using e0
          have b : (i == 1) = false := by simpa using e1
          simp [bne, a, b] at h2
    rcases this with rfl | rfl <;> rfl
  | 2, _ => exact (eSh_2 i s l ks tk tof sec).trans (shp0_t h2 h3 h4 h5 h6)
  | 3, _ => exact (eSh_3 i s l ks tk tof sec).trans (shp0_t h2 h3 h4 h5 h6)
  | 4, _ => exact (eSh_4 i s l ks tk tof sec).trans (shp0_t h2 h3 h4 h5 h6)
  | 5, _ =>
    refine (eSh_5 i s l ks tk tof sec).trans ((shp0_t h2 h3 h4 h5 h6).trans ?_)
    have hkl : ((ks.length : Int) != (l.length : Int)) = false := by
      unfold q6 at h6
      cases e : ((ks.length : Int) != (l.length : Int)) with
      | false => rfl
      | true => simp only [e] at h6; exact absurd h6 (by simp [bne])
    rw [hkl, ck_t (by rw [beq_self_eq_true, beq_self_eq_true, ble_t hb]; rfl), h7]
    rfl
  | 6, _ =>
    refine (eSh_6 i s l ks tk tof sec).trans ((shp0_t h2 h3 h4 h5 h6).trans ?_)
    have : tck tk tof = true := by
      unfold q4 at h4
      cases e : tck tk tof with
      | true => rfl
      | false => simp [e, bne] at h4
    rw [this]; rfl

theorem shaped_sound (v : Val) (h : ndV v 1 = true) : Snd 67 [.agg (cV v)] (.bool true) := by
  refine SoundAt.rooms fun hroom => ?_
  have h1 : Room _ (.agg (cV v)) := hroom _ (by simp)
  have hk : v.keys.length * 16 ≤ big := h1 (.pl (pStrs v.keys) .any) (by simp [cV])
  exact snd_fn (n := 1) tSh_ok (noTL_ok _ _) (fn := Tryd.f67) (by kernel_rfl) (loops_of (f := 67) (fn := Tryd.f67) (by kernel_rfl) (loops_1 idsSh.1 (atL_ok (fun _ => LSSh_ok) fun h => absurd idsSh.2.1 h))) (runSh_t h (by omega))

-- all

def sAl (v : Val) (l : List Val) (d i : Int) : St Pl := mkS 27 [(1, dI d), (2, .ptr 2 0), (4, .bool false), (15, .pl (pVals l) .any), (16, dI l.length), (17, dI i)] [(2, .box false (cV v))]
def rAl (v : Val) (d : Int) : St Pl := mkS 27 [(1, dI d), (2, .ptr 2 0), (4, .bool false)] [(2, .box false (cV v))]
def tAl (n : Nat) : Eng.Told Pl := tell 53 (p2 fun v d => (Nat.blt (vsz v) n && chkV v d, .bool true)) (tell 67 (p1 fun v => (ndV v 1, .bool true)) tell0)

theorem bAl (v : Val) (l : List Val) (d : Int) (n i : Nat) : evD (tAl n) noTL noL 1 (loopAt 53 0) [1, 2, 4, 15, 16, 17] [6] (sAl v l d i) =
    lt_ i l.length (ix_ i l.length (ck_ (Nat.blt (vsz (etaV (l.getD i default))) n && chkV (etaV (l.getD i default)) (IntKind.i64.wrap (d - 1))) (some (.normal, sAl v l d (IntKind.i64.wrap ((i : Int) + 1)))))) (some (.exit 0, sAl v l d i)) := by kernel_rfl

theorem idsAl : (loopsAt 53).length = 1 ∧ firstId (loopAt 53 0) = 4 ∧ loopsOf (loopAt 53 0) = [] := ⟨by kernel_rfl, by kernel_rfl, by kernel_rfl⟩

def LSAl (n : Nat) (S : St Pl) : Option (Bool × LR Pl) := match seenS 27 [1, 2, 4, 15, 16, 17] S with
  | some ([.int .i64 d, .ptr 2 0, .bool false, .pl ⟨.vals, l⟩ .any, .int .i64 k, .int .i64 (.ofNat 0)], [(2, .box false c)]) => (match exV c with
    | some v => some (k == (l.length : Int) && (Nat.ble l.length big && (Nat.blt (vszs l) n && chkVs l (IntKind.i64.wrap (d - 1)))), .leaf (.exit 0) (rAl v d))
    | none => none)
  | _ => none

theorem LSAl_ok {n : Nat} (hT : TOk (tAl n)) : SOk X0 (loopAt 53 0) (LSAl n) := by
  intro S b r h hb
  unfold LSAl at h
  split at h
  · rename_i d l k c hs
    split at h
    · rename_i v hv
      simp only [Option.some.injEq, Prod.mk.injEq] at h
      obtain ⟨rfl, rfl⟩ := h
      simp only [Bool.and_eq_true, Nat.ble_eq, Nat.blt_eq] at hb
      obtain ⟨hk, hbig, hsz, hck⟩ := hb
      obtain rfl := beq_iff_eq.1 hk
      have hck : chkVs l (IntKind.i64.wrap (d - 1)) = true := hck
      rw [chkVs_eq, List.all_eq_true] at hck
      obtain rfl := exV_eq hv
      refine Goes.pre (keepOf [1, 2, 4, 15, 16, 17]) ?_
      rw [seenS_mask hs]
      refine all_ofD hT (L := noL) (noLoops idsAl.2.2) (k := 1) (keep := [1, 2, 4, 15, 16, 17]) (lose := [6]) (keep2 := [1, 2, 4]) (Sf := fun i => sAl v l d i) (n := l.length) (by simp) (fun i hi => ?_) ?_ (by kernel_rfl)
      · have := vszs_mem (getD_mem (d := default) hi)
        refine (bAl v l d n i).trans ?_
        rw [etaV_eq, lt_t hi, ix_t hi, ck_t (by rw [blt_t (by omega), hck i (by simpa using hi)]; rfl), wrap_nat (show i ≤ big by omega)]
      · refine (bAl v l d n l.length).trans ?_
        rw [lt_f (by omega)]
    · simp at h
  · simp at h

theorem eAl (v : Val) (d : Int) (n : Nat) : evF (tAl n) noTL (atL 4 (LSAl n) noL) 1 Tryd.f53 [.agg (cV v), dI d] =
    bif ((d == 0) == false) then ck_ (ndV (etaV v) 1) (ck_ (((v.l.length : Int) == (v.l.length : Int)) && (Nat.ble v.l.length big && (Nat.blt (vszs v.l) n && chkVs v.l (IntKind.i64.wrap (d - 1))))) (some (.bool true))) else some (.bool false) := by kernel_rfl

theorem ndV_1 {v : Val} {d : Int} (h : ndV v d = true) : ndV v 1 = true := by
  obtain ⟨h1, h2, h3, h4, h5, h6, h7⟩ := ndV_spec h
  obtain ⟨_, g1, g2⟩ := q1_spec h1
  unfold ndV
  rw [h2, h3, h4, h5, h6, h7]
  have : q1 v 1 = false := by
    unfold q1
    rw [decide_eq_false (show ¬ v.kind < 0 by omega), decide_eq_false (show ¬ v.kind > 6 by omega)]; rfl
  rw [this]; rfl

theorem all_n : ∀ n v d, vsz v < n → chkV v d = true → Snd 53 [.agg (cV v), dI d] (.bool true) := by
  intro n
  induction n with
  | zero => intro v d h; omega
  | succ n ih =>
    intro v d hv hc
    have hT : TOk (tAl n) := tell_ok (p2_ok fun v d h => by
      simp only [Bool.and_eq_true, Nat.blt_eq] at h
      exact ih v d h.1 h.2) (tell_ok (p1_ok fun v h => shaped_sound v h) (tell0_ok _))
    refine SoundAt.rooms fun hroom => ?_
    have h1 : Room _ (.agg (cV v)) := hroom _ (by simp)
    have hl : v.l.length * 104 ≤ big := h1 (.pl (pVals v.l) .any) (by simp [cV])
    have hs : vszs v.l < n := by
      obtain ⟨k, i, s, l, ks, tk, tof, sec⟩ := v
      simp only [vsz] at hv
      simp only
      omega
    rw [chkV_eq, ← chkVs_eq, Bool.and_eq_true] at hc
    obtain ⟨g1, _⟩ := q1_spec (ndV_spec hc.1).1
    refine snd_fn (n := 1) hT (noTL_ok _ _) (fn := Tryd.f53) (by kernel_rfl) (loops_of (f := 53) (fn := Tryd.f53) (by kernel_rfl) (loops_1 idsAl.1 (atL_ok (fun _ => LSAl_ok hT) fun h => absurd idsAl.2.1 h))) ((eAl v d n).trans ?_)
    rw [show (d == 0) = false by rw [beq_eq_false_iff_ne]; omega, etaV_eq, ck_t (ndV_1 hc.1), ck_t (by rw [beq_self_eq_true, ble_t (by omega), blt_t hs, hc.2]; rfl)]
    rfl

theorem eVC (v : Val) : ev (tell 53 (p2 fun v d => (chkV v d, .bool true)) (tell 54 (p1 fun v => (true, dI (WW v))) tell0)) noTL 1 33 [.agg (cV v)] = ck_ (chkV (etaV v) 8) (bif decide (WW (etaV v) > 512) then some (dI 1) else some (dI 0)) := by kernel_rfl

theorem vcheck_sound (v : Val) (h : okV v = true) : Snd 33 [.agg (cV v)] (dI 0) := by
  unfold okV at h
  simp only [Bool.and_eq_true, decide_eq_true_eq] at h
  refine snd_of (tell_ok (p2_ok fun v d h => all_n _ v d (Nat.lt_succ_self _) h) (tell_ok (p1_ok fun v _ => wp_sound v) (tell0_ok _))) (noTL_ok _ _) ((eVC v).trans ?_)
  rw [etaV_eq, ck_t h.1, decide_eq_false (by omega)]
  rfl

end Go.Proofs.YtibfgggccedmdaaDoor
