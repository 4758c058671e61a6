/-
  A VALUE THAT MAY BE, BY THE DOCUMENT, MAY BE BY THE PROGRAM.
-/
import Derived.Test.YtibfgggccedmdaaDoorRefines
namespace Go.Proofs.YtibfgggccedmdaaDoor
open Go.Eng

set_option maxRecDepth 100000

-- the document's 'check', exactly

def ndV (v : Val) (d : Int) : Bool := !(q1 v d) && (!(q2 v) && (!(q3 v) && (!(q4 v) && (!(q5 v) && (!(q6 v) && (List.range v.keys.length).all (okKey v.keys))))))

mutual
def chkV : Val → Int → Bool
  | ⟨k, i, s, l, ks, tk, tof, sec⟩, d => ndV ⟨k, i, s, l, ks, tk, tof, sec⟩ d && chkVs l (IntKind.i64.wrap (d - 1))
def chkVs : List Val → Int → Bool
  | [], _ => true
  | x :: r, d => chkV x d && chkVs r d
end

theorem chkVs_eq (d : Int) : ∀ l : List Val, chkVs l d = (List.range l.length).all fun i => chkV (l.getD i default) d
  | [] => rfl
  | x :: r => by rw [chkVs, List.length_cons, all_range_succ, chkVs_eq d r]; rfl

theorem chkV_eq (v : Val) (d : Int) : chkV v d = (ndV v d && (List.range v.l.length).all fun i => chkV (v.l.getD i default) (IntKind.i64.wrap (d - 1))) := by
  obtain ⟨k, i, s, l, ks, tk, tof, sec⟩ := v
  rw [chkV, chkVs_eq]

theorem f18_chk (v : Val) (d : Int) (n : Nat) (h1 : v.keys.length ≤ big) (h2 : v.l.length ≤ big) (h3 : vsz v ≤ n) : f18 v d n chkV = some (.bool (chkV v d)) := by
  rw [chkV_eq]
  unfold f18 ndV if_
  rw [ck_t (ble_t h1), etaV_eq, ck_t (by rw [ble_t h2, ble_t h3]; rfl)]
  cases q1 v d <;> (try rfl)
  cases q2 v <;> (try rfl)
  cases q3 v <;> (try rfl)
  cases q4 v <;> (try rfl)
  cases q5 v <;> (try rfl)
  cases q6 v <;> (try rfl)
  cases (List.range v.keys.length).all (okKey v.keys) <;> (try rfl)
  cases (List.range v.l.length).all (fun i => chkV (v.l.getD i default) (IntKind.i64.wrap (d - 1))) <;> rfl

theorem chk_n : ∀ n v d, vsz v < n → Snd 13 [.agg (cV v), dI d] (.bool (chkV v d)) := by
  intro n
  induction n with
  | zero => intro v d h; omega
  | succ n ih =>
    intro v d hv
    have hT : TOk (tC n chkV) := tell_ok (p2_ok fun v d h => ih v d (by simp only [Nat.blt_eq] at h; exact h)) (tell_ok pT_ok (tell0_ok _))
    refine SoundAt.rooms fun hroom => ?_
    have h1 : Room _ (.agg (cV v)) := hroom _ (by simp)
    have hl : v.l.length * 104 ≤ big := h1 (.pl (pVals v.l) .any) (by simp [cV])
    have hk : v.keys.length * 16 ≤ big := h1 (.pl (pStrs v.keys) .any) (by simp [cV])
    refine snd_fn (n := 1) hT (noTL_ok _ _) (fn := Tryd.f13) (by kernel_rfl) (loops_of (f := 13) (fn := Tryd.f13) (by kernel_rfl) (loops_2 ids18.1
      (atL_ok (fun _ => LS18a_ok) fun h => absurd ids18.2.1 h) (atL_ok (fun h => absurd (ids18.2.2.1.symm.trans h) (by decide)) fun _ => atL_ok (fun _ => LS18b_ok hT) fun h => absurd ids18.2.2.1 h))) ((e18 v d n chkV).trans ?_)
    exact f18_chk v d n (by omega) (by omega) (by omega)

theorem chk_sound (v : Val) (d : Int) : Snd 13 [.agg (cV v), dI d] (.bool (chkV v d)) := chk_n _ v d (Nat.lt_succ_self _)

-- weights

def sWt (v : Val) (l : List Val) (x i : Int) : St Pl := mkS 19 [(1, .ptr 1 0), (2, dI 0), (3, dI x), (7, .pl (pVals l) .any), (8, dI l.length), (9, dI i)] [(1, .box false (cV v))]
def rWt (v : Val) (x : Int) : St Pl := mkS 19 [(1, .ptr 1 0), (2, dI 0), (3, dI x)] [(1, .box false (cV v))]
def tWp (n : Nat) (W : Val → Int) : Eng.Told Pl := tell 54 (p1 fun v => (Nat.blt (vsz v) n, dI (W v))) (tItems tell0)

theorem bWt (v : Val) (l : List Val) (n : Nat) (W : Val → Int) (x : Int) (i : Nat) : evD (tWp n W) noTL noL 1 (loopAt 54 0) [1, 2, 3, 7, 8, 9] [5] (sWt v l x i) =
    lt_ i l.length (ix_ i l.length (ck_ (Nat.blt (vsz (etaV (l.getD i default))) n) (some (.normal, sWt v l (IntKind.i64.wrap (x + W (etaV (l.getD i default)))) (IntKind.i64.wrap ((i : Int) + 1)))))) (some (.exit 0, sWt v l x i)) := by kernel_rfl

theorem idsWt : (loopsAt 54).length = 1 ∧ firstId (loopAt 54 0) = 3 ∧ loopsOf (loopAt 54 0) = [] := ⟨by kernel_rfl, by kernel_rfl, by kernel_rfl⟩

def LSWt (n : Nat) (W : Val → Int) (S : St Pl) : Option (Bool × LR Pl) := match seenS 19 [1, 2, 3, 7, 8, 9] S with
  | some ([.ptr 1 0, .int .i64 (.ofNat 0), .int .i64 (.ofNat 1), .pl ⟨.vals, l⟩ .any, .int .i64 k, .int .i64 (.ofNat 0)], [(1, .box false c)]) => (match exV c with
    | some v => some (k == (l.length : Int) && (Nat.ble l.length big && Nat.blt (vszs l) n), .leaf (.exit 0) (rWt v (accW W l l.length)))
    | none => none)
  | _ => none

theorem LSWt_ok {n : Nat} {W : Val → Int} (hT : TOk (tWp n W)) : SOk X0 (loopAt 54 0) (LSWt n W) := by
  intro S b r h hb
  unfold LSWt at h
  split at h
  · rename_i l k c hs
    split at h
    · rename_i v hv
      simp only [Option.some.injEq, Prod.mk.injEq] at h
      obtain ⟨rfl, rfl⟩ := h
      simp only [Bool.and_eq_true, Nat.ble_eq, Nat.blt_eq, beq_iff_eq] at hb
      obtain ⟨rfl, hbig, hsz⟩ := hb
      obtain rfl := exV_eq hv
      refine Goes.pre (keepOf [1, 2, 3, 7, 8, 9]) ?_
      rw [seenS_mask hs]
      refine all_ofD hT (L := noL) (noLoops idsWt.2.2) (k := 1) (keep := [1, 2, 3, 7, 8, 9]) (lose := [5]) (keep2 := [1, 2, 3]) (Sf := fun i => sWt v l (accW W l i) i) (n := l.length) (by simp) (fun i hi => ?_) ?_ (by kernel_rfl)
      · have := vszs_mem (getD_mem (d := default) hi)
        refine (bWt v l n W _ i).trans ?_
        rw [etaV_eq, lt_t hi, ix_t hi, ck_t (blt_t (by omega)), wrap_nat (show i ≤ big by omega)]
        rfl
      · refine (bWt v l n W _ l.length).trans ?_
        rw [lt_f (by omega)]
    · simp at h
  · simp at h

theorem eWt (v : Val) (n : Nat) (W : Val → Int) : evF (tWp n W) noTL (atL 3 (LSWt n W) noL) 1 Tryd.f54 [.agg (cV v)] =
    ck_ (((itemsV (etaV v)).length : Int) == ((itemsV (etaV v)).length : Int) && (Nat.ble (itemsV (etaV v)).length big && Nat.blt (vszs (itemsV (etaV v))) n)) (some (dI (accW W (itemsV (etaV v)) (itemsV (etaV v)).length))) := by kernel_rfl

theorem accW_items (W : Val → Int) (v : Val) : ∀ n, n ≤ lenN v → accW W (itemsV v) n = accW W v.l n
  | 0, _ => rfl
  | n + 1, h => by
    simp only [accW]
    rw [accW_items W v n (by omega), itemsV_get v (show n < lenN v by omega)]

theorem weights_n : ∀ n, ∃ W : Val → Int, ∀ v, vsz v < n → Snd 14 [.agg (cV v)] (dI (W v)) ∧ Snd 54 [.agg (cV v)] (dI (W v)) := by
  intro n
  induction n with
  | zero => exact ⟨fun _ => 0, fun v h => by omega⟩
  | succ n ih =>
    obtain ⟨W, hW⟩ := ih
    refine ⟨fun v => accW W v.l (lenN v), fun v hv => ⟨SoundAt.rooms fun hroom => ?_, SoundAt.rooms fun hroom => ?_⟩⟩
    · have hT : TOk (tW n W) := tell_ok (p1_ok fun v h => (hW v (by simp only [Nat.blt_eq] at h; exact h)).1) (tLen_ok (tell0_ok _))
      have h1 : Room _ (.agg (cV v)) := hroom _ (by simp)
      have hl : v.l.length * 104 ≤ big := h1 (.pl (pVals v.l) .any) (by simp [cV])
      refine snd_fn (n := 1) hT (noTL_ok _ _) (fn := Tryd.f14) (by kernel_rfl) (loops_of (f := 14) (fn := Tryd.f14) (by kernel_rfl) (loops_1 ids19.1 (atL_ok (fun _ => LS19_ok hT) fun h => absurd ids19.2.1 h))) ((e19 v n W).trans ?_)
      rw [etaV_eq, ck_t (by rw [ble_t (by omega), ble_t (by omega)]; rfl)]
    · have hT : TOk (tWp n W) := tell_ok (p1_ok fun v h => (hW v (by simp only [Nat.blt_eq] at h; exact h)).2) (tItems_ok (tell0_ok _))
      have h1 : Room _ (.agg (cV v)) := hroom _ (by simp)
      have hl : v.l.length * 104 ≤ big := h1 (.pl (pVals v.l) .any) (by simp [cV])
      have h2 := vszs_items v
      have h3 := lenN_le v
      refine snd_fn (n := 1) hT (noTL_ok _ _) (fn := Tryd.f54) (by kernel_rfl) (loops_of (f := 54) (fn := Tryd.f54) (by kernel_rfl) (loops_1 idsWt.1 (atL_ok (fun _ => LSWt_ok hT) fun h => absurd idsWt.2.1 h))) ((eWt v n W).trans ?_)
      rw [etaV_eq, itemsV_len, ck_t (by rw [beq_self_eq_true, ble_t (by omega), blt_t (by omega)]; rfl), accW_items W v _ (Nat.le_refl _)]

theorem weights_sound : ∃ W : Val → Int, ∀ v, Snd 14 [.agg (cV v)] (dI (W v)) ∧ Snd 54 [.agg (cV v)] (dI (W v)) :=
  ⟨fun v => (weights_n (vsz v + 1)).choose v, fun v => (weights_n (vsz v + 1)).choose_spec v (Nat.lt_succ_self _)⟩

noncomputable def WW (v : Val) : Int := weights_sound.choose v
theorem w4_sound (v : Val) : Snd 14 [.agg (cV v)] (dI (WW v)) := (weights_sound.choose_spec v).1
theorem wp_sound (v : Val) : Snd 54 [.agg (cV v)] (dI (WW v)) := (weights_sound.choose_spec v).2

noncomputable def okV (v : Val) : Bool := chkV v 8 && decide (WW v ≤ 512)

theorem okV_sound (v : Val) : Snd 5 [.agg (cV v)] (.bool (okV v)) := by
  refine snd_of (tell_ok (p2_ok fun v d _ => chk_sound v d) (tell_ok (p1_ok fun v _ => w4_sound v) (tell0_ok _))) (noTL_ok _ _) ((e7 v chkV WW).trans ?_)
  rw [etaV_eq]
  unfold okV
  cases chkV v 8 <;> rfl

-- only

def onlyV (v : Val) : Val := ⟨v.kind, bif (bif v.kind == 1 then true else v.kind == 2) then v.i else 0, bif v.kind == 3 then v.s else [], bif (bif v.kind == 4 then true else v.kind == 5) then v.l else [], bif v.kind == 5 then v.keys else [], bif v.kind == 6 then v.tk else 0, bif v.kind == 6 then v.tof else 0, v.sec⟩

def oD (v : Val) (i : Int) (s : Str) (l ks : D Pl) (tk tof : Int) : D Pl := .agg [dI v.kind, dI i, .str s, l, ks, dI tk, dI tof, .bool v.sec]

theorem eOnly (v : Val) : ev tell0 noTL 1 74 [.agg (cV v)] = bif v.kind == 1 then (bif v.kind == 1 then some (oD v v.i [] .nilS .nilS 0 0) else
    bif v.kind == 3 then some (oD v 0 v.s .nilS .nilS 0 0) else bif v.kind == 5 then some (oD v 0 [] (.pl (pVals v.l) .any) (.pl (pStrs v.keys) .any) 0 0) else bif v.kind == 4 then some (oD v 0 [] (.pl (pVals v.l) .any) .nilS 0 0) else bif v.kind == 6 then some (oD v 0 [] .nilS .nilS v.tk v.tof) else some (oD v 0 [] .nilS .nilS 0 0)) else
    bif v.kind == 2 then some (oD v v.i [] .nilS .nilS 0 0) else
    bif v.kind == 3 then some (oD v 0 v.s .nilS .nilS 0 0) else bif v.kind == 5 then some (oD v 0 [] (.pl (pVals v.l) .any) (.pl (pStrs v.keys) .any) 0 0) else bif v.kind == 4 then some (oD v 0 [] (.pl (pVals v.l) .any) .nilS 0 0) else bif v.kind == 6 then some (oD v 0 [] .nilS .nilS v.tk v.tof) else some (oD v 0 [] .nilS .nilS 0 0) := by kernel_rfl

theorem oD_le {v : Val} {i : Int} {s : Str} {l ks : D Pl} {tk tof : Int} {l' : List Val} {ks' : List Str} (hl : RDle (plC emp) l (.pl (pVals l') .any)) (hk : RDle (plC emp) ks (.pl (pStrs ks') .any)) :
    RDle (plC emp) (oD v i s l ks tk tof) (.agg (cV ⟨v.kind, i, s, l', ks', tk, tof, v.sec⟩)) :=
  RDle.agg (.cons (RDle.refl _) (.cons (RDle.refl _) (.cons (RDle.refl _) (.cons hl (.cons hk (RDles.refl _))))))

theorem only_sound (v : Val) : Snd 74 [.agg (cV v)] (.agg (cV (onlyV v))) := by
  have he := eOnly v
  have nl : RDle (plC emp) .nilS (.pl (pVals []) .any) := RDle.of (.nil _ rfl)
  have nk : RDle (plC emp) .nilS (.pl (pStrs []) .any) := RDle.of (.nil _ rfl)
  have S := fun {d : D Pl} (h : ev tell0 noTL 1 74 [.agg (cV v)] = some d) => snd_of (tell0_ok _) (noTL_ok _ _) h
  unfold onlyV
  cases h1 : v.kind == 1 with
  | true =>
    rw [h1] at he
    have e := beq_iff_eq.1 h1
    rw [show (v.kind == 3) = false by rw [e]; rfl, show (v.kind == 4) = false by rw [e]; rfl, show (v.kind == 5) = false by rw [e]; rfl, show (v.kind == 6) = false by rw [e]; rfl]
    exact (S he).post (oD_le nl nk)
  | false =>
    rw [h1] at he
    cases h2 : v.kind == 2 with
    | true =>
      rw [h2] at he
      have e := beq_iff_eq.1 h2
      rw [show (v.kind == 3) = false by rw [e]; rfl, show (v.kind == 4) = false by rw [e]; rfl, show (v.kind == 5) = false by rw [e]; rfl, show (v.kind == 6) = false by rw [e]; rfl]
      exact (S he).post (oD_le nl nk)
    | false =>
      rw [h2] at he
      cases h3 : v.kind == 3 with
      | true =>
        rw [h3] at he
        have e := beq_iff_eq.1 h3
        rw [show (v.kind == 4) = false by rw [e]; rfl, show (v.kind == 5) = false by rw [e]; rfl, show (v.kind == 6) = false by rw [e]; rfl]
        exact (S he).post (oD_le nl nk)
      | false =>
        rw [h3] at he
        cases h5 : v.kind == 5 with
        | true =>
          rw [h5] at he
          have e := beq_iff_eq.1 h5
          rw [show (v.kind == 4) = false by rw [e]; rfl, show (v.kind == 6) = false by rw [e]; rfl]
          exact (S he).post (oD_le (RDle.refl _) (RDle.refl _))
        | false =>
          rw [h5] at he
          cases h4 : v.kind == 4 with
          | true =>
            rw [h4] at he
            have e := beq_iff_eq.1 h4
            rw [show (v.kind == 6) = false by rw [e]; rfl]
            exact (S he).post (oD_le (RDle.refl _) nk)
          | false =>
            rw [h4] at he
            cases h6 : v.kind == 6 with
            | true => rw [h6] at he; exact (S he).post (oD_le nl nk)
            | false => rw [h6] at he; exact (S he).post (oD_le nl nk)

end Go.Proofs.YtibfgggccedmdaaDoor
