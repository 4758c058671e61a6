/-
  WHETHER A VALUE IS AN OBJECT OF A TYPE: the program's and the document's answer, the same where the value may be.
-/
import Derived.Test.YtibfgggccedmdaaDoorVCheck
import Derived.Test.YtibfgggccedmdaaDoorLess
namespace Go.Proofs.YtibfgggccedmdaaDoor
open Go.Eng

set_option maxRecDepth 100000

-- the program's 'Attrs'

def errA (t : Str) : Int := bif Nat.beq (attrsV t).length 0 then 9 else 0

theorem pl_some (l : List AttrR) (k : SK) (h : Nat.beq l.length 0 = false) : RDle (plC emp) (.pl (pAttrs l) k) (.pl (pAttrs l) (.nil false)) := by
  intro cx v hr
  cases hr with
  | pl0 a c _ _ hl hk =>
    have : l.length = 0 := hl
    rw [this] at h; simp at h
  | pl b off n c _ _ vs hn hc hb hk hav hcell h1 hrd => exact .pl b off n c (pAttrs l) (.nil false) vs hn hc hb rfl hav hcell h1 hrd

/-- a type's attributes, where it is that one -/
def tAt (t0 : Str) (l0 : List AttrR) : Eng.Told Pl := tell 43 (fun ds => match ds with
  | [.str t] => some (t == t0, .pl (pAttrs l0) (.nil false))
  | _ => none) tell0
theorem tAt_ok {t0 : Str} {l0 : List AttrR} {k : SK} (h0 : Nat.beq l0.length 0 = false) (h : Snd 43 [.str t0] (.pl (pAttrs l0) k)) : TOk (tAt t0 l0) := tell_ok (fun ds b d hp hb => by
  split at hp
  · rename_i t
    simp only [Option.some.injEq, Prod.mk.injEq] at hp
    obtain ⟨h1, rfl⟩ := hp
    rw [hb] at h1
    have : t = t0 := beq_iff_eq.1 h1
    subst this
    exact h.post (pl_some l0 k h0)
  · simp at hp) (tell0_ok _)
theorem e_sA (t t0 : Str) (l0 : List AttrR) : ev (tAt t0 l0) noTL 1 25 [.str t] = ck_ (t == t0) (some (.tup [.pl (pAttrs l0) (.nil false), dI 0])) := by kernel_rfl

def tAn (t0 : Str) : Eng.Told Pl := tell 43 (fun ds => match ds with
  | [.str t] => some (t == t0, .nilS)
  | _ => none) tell0
theorem tAn_ok {t0 : Str} (h : Snd 43 [.str t0] .nilS) : TOk (tAn t0) := tell_ok (fun ds b d hp hb => by
  split at hp
  · rename_i t
    simp only [Option.some.injEq, Prod.mk.injEq] at hp
    obtain ⟨h1, rfl⟩ := hp
    rw [hb] at h1
    have : t = t0 := beq_iff_eq.1 h1
    subst this
    exact h
  · simp at hp) (tell0_ok _)
theorem e_sAn (t t0 : Str) : ev (tAn t0) noTL 1 25 [.str t] = ck_ (t == t0) (some (.tup [.nilS, dI 9])) := by kernel_rfl

theorem sA_some {t : Str} {l : List AttrR} (h0 : Nat.beq l.length 0 = false) (h : Snd 43 [.str t] (.pl (pAttrs l) .full)) : Snd 25 [.str t] (.tup [.pl (pAttrs l) .any, dI 0]) :=
  (snd_of (tAt_ok h0 h) (noTL_ok _ _) ((e_sA t t l).trans (ck_t (beq_self_eq_true t) _))).post (RDle.tup (.cons (RDle.of (.any _ _)) (RDles.refl _)))

theorem sAttrs_sound (t : Str) : Snd 25 [.str t] (.tup [.pl (pAttrs (attrsV t)) .any, dI (errA t)]) := by
  have he := e42 t
  unfold errA attrsV
  cases h1 : t == a_disk with
  | true => rw [h1] at he; exact sA_some rfl (snd_of (tell0_ok _) (noTL_ok _ _) he)
  | false =>
    rw [h1] at he
    cases h2 : t == a_node with
    | true => rw [h2] at he; exact sA_some rfl (snd_of (tell0_ok _) (noTL_ok _ _) he)
    | false =>
      rw [h2] at he
      cases h3 : t == a_note with
      | true => rw [h3] at he; exact sA_some rfl (snd_of (tell0_ok _) (noTL_ok _ _) he)
      | false =>
        rw [h3] at he
        cases h4 : t == a_rule with
        | true => rw [h4] at he; exact sA_some rfl (snd_of (tell0_ok _) (noTL_ok _ _) he)
        | false =>
          rw [h4] at he
          exact (snd_of (tAn_ok (snd_of (tell0_ok _) (noTL_ok _ _) he)) (noTL_ok _ _) ((e_sAn t t).trans (ck_t (beq_self_eq_true t) _))).post (RDle.tup (.cons (RDle.of (.nil _ rfl)) (RDles.refl _)))

def tSA (R : Eng.Told Pl) : Eng.Told Pl := tell 25 (pSt fun t => (true, .tup [.pl (pAttrs (attrsV t)) .any, dI (errA t)])) R
theorem tSA_ok {R : Eng.Told Pl} (hR : TOk R) : TOk (tSA R) := tell_ok (pSt_ok fun t _ => sAttrs_sound t) hR

-- the program's 'Object'

def badA (x : Val) (a : AttrR) : Bool := bif !(fitsV x a.tk a.tof) then true else bif a.need then x.kind == 0 else false
def okO (v : Val) (l : List AttrR) (i : Nat) : Bool := (v.keys.getD i [] == (l.getD i default).name) && !(badA (etaV (v.l.getD i default)) (l.getD i default))

noncomputable def tOb : Eng.Told Pl := tSA (tell 33 (p1 fun v => (okV v, dI 0)) (tell 42 (pvt fun v a b => (true, .bool (fitsV v a b))) tell0))

def sO (v : Val) (l : List AttrR) (x i : Int) : St Pl := mkS 71 [(3, .ptr 3 0), (4, dI x), (34, .pl (pAttrs l) .any), (35, dI l.length), (36, dI i)] [(3, .box false (cV v))]
def rO (v : Val) (x : Int) : St Pl := mkS 71 [(4, dI x)] [(3, .box false (cV v))]

theorem bO (v : Val) (l : List AttrR) (i : Nat) : evD tOb noTL noL 1 (loopAt 24 0) [3, 4, 34, 35, 36] [8, 9] (sO v l 0 i) =
    lt_ i l.length (ix_ i l.length (ix_ i v.l.length (ix_ i v.keys.length (bif ((!(v.keys.getD i [] == (l.getD i default).name)) == false) then
      (bif badA (etaV (v.l.getD i default)) (l.getD i default) then some (.ret, sO v l 8 i) else some (.normal, sO v l 0 (IntKind.i64.wrap ((i : Int) + 1)))) else some (.ret, sO v l 8 i))))) (some (.exit 0, sO v l 0 i)) := by kernel_rfl

theorem idsO : (loopsAt 24).length = 1 ∧ firstId (loopAt 24 0) = 7 ∧ loopsOf (loopAt 24 0) = [] := ⟨by kernel_rfl, by kernel_rfl, by kernel_rfl⟩

def LSO (S : St Pl) : Option (Bool × LR Pl) := match seenS 71 [3, 4, 34, 35, 36] S with
  | some ([.ptr 3 0, .int .i64 (.ofNat 0), .pl ⟨.attrs, l⟩ .any, .int .i64 k, .int .i64 (.ofNat 0)], [(3, .box false c)]) => (match exV c with
    | some v => some (k == (l.length : Int) && (Nat.ble l.length big && (Nat.beq v.l.length l.length && Nat.beq v.keys.length l.length)), .ite ((List.range l.length).all (okO v l)) (.leaf (.exit 0) (rO v 0)) (.leaf .ret (rO v 8)))
    | none => none)
  | _ => none

theorem tOb_ok : TOk tOb := tSA_ok (tell_ok (p1_ok fun v h => vcheck_sound v h) (tell_ok (pvt_ok fun v a b _ => fits_sound v a b) (tell0_ok _)))

theorem LSO_ok : SOk X0 (loopAt 24 0) LSO := by
  intro S b r h hb
  unfold LSO at h
  split at h
  · rename_i l k c hs
    split at h
    · rename_i v hv
      simp only [Option.some.injEq, Prod.mk.injEq] at h
      obtain ⟨rfl, rfl⟩ := h
      simp only [Bool.and_eq_true, Nat.ble_eq] at hb
      obtain ⟨hk, hbig, h1, h2⟩ := hb
      obtain rfl := beq_iff_eq.1 hk
      have h1 := Nat.eq_of_beq_eq_true h1
      have h2 := Nat.eq_of_beq_eq_true h2
      obtain rfl := exV_eq hv
      refine Goes.pre (keepOf [3, 4, 34, 35, 36]) ?_
      rw [seenS_mask hs]
      refine search_ofD tOb_ok idsO.2.2 (k := 1) (keep := [3, 4, 34, 35, 36]) (lose := [8, 9]) (keep2 := [4]) (Sf := fun i => sO v l 0 i) (S2' := fun i => sO v l 8 i) (n := l.length) (p := okO v l) (by simp) (by simp) (fun i hi => ?_) ?_ (by kernel_rfl) (fun i => by kernel_rfl)
      · refine (bO v l i).trans ?_
        rw [lt_t hi, ix_t hi, ix_t (by omega), ix_t (by omega), wrap_nat (show i ≤ big by omega)]
        unfold okO
        cases v.keys.getD i [] == (l.getD i default).name <;> cases badA (etaV (v.l.getD i default)) (l.getD i default) <;> rfl
      · exact (bO v l l.length).trans (by rw [lt_f (by omega)])
    · simp at h
  · simp at h

theorem eO (t : Str) (v : Val) : evF tOb noTL (atL 7 LSO noL) 1 Tryd.f24 [.str t, .agg (cV v)] =
    bif (errA t != 0) then some (dI (errA t)) else bif ((v.kind != 5) == false) then ck_ (okV (etaV v)) (bif ((v.keys.length : Int) != ((attrsV t).length : Int)) then some (dI 8) else
      ck_ ((((attrsV t).length : Int) == ((attrsV t).length : Int)) && (Nat.ble (attrsV t).length big && (Nat.beq v.l.length (attrsV t).length && Nat.beq v.keys.length (attrsV t).length))) (bif (List.range (attrsV t).length).all (okO (etaV v) (attrsV t)) then some (dI 0) else some (dI 8))) else some (dI 8) := by kernel_rfl

/-- The answer. -/
def objV (t : Str) (v : Val) : Int := bif (errA t != 0) then errA t else bif v.kind != 5 then 8 else bif ((v.keys.length : Int) != ((attrsV t).length : Int)) then 8 else bif (List.range (attrsV t).length).all (okO v (attrsV t)) then 0 else 8

theorem okV_nd {v : Val} (h : okV v = true) : ndV v 8 = true := by
  unfold okV at h
  rw [Bool.and_eq_true, chkV_eq, Bool.and_eq_true] at h
  exact h.1.1

theorem okV_len {v : Val} (h : okV v = true) (hk : (v.kind != 5) = false) : v.keys.length = v.l.length := by
  obtain ⟨_, _, _, _, _, h6, _⟩ := ndV_spec (okV_nd h)
  unfold q6 at h6
  rw [hk] at h6
  have h5 : (v.kind == 5) = true := by
    cases e : v.kind == 5 with
    | true => rfl
    | false => simp [bne, e] at hk
  rw [h5] at h6
  cases e : ((v.keys.length : Int) != (v.l.length : Int)) with
  | true => rw [e] at h6; simp at h6
  | false => have := bne_eq_false_iff_eq.1 e; omega

theorem object_sound (t : Str) (v : Val) (h : okV v = true) : Snd 24 [.str t, .agg (cV v)] (dI (objV t v)) := by
  refine snd_fn (n := 1) tOb_ok (noTL_ok _ _) (fn := Tryd.f24) (by kernel_rfl) (loops_of (f := 24) (fn := Tryd.f24) (by kernel_rfl) (loops_1 idsO.1 (atL_ok (fun _ => LSO_ok) fun h => absurd idsO.2.1 h))) ((eO t v).trans ?_)
  rw [etaV_eq, ck_t h]
  unfold objV
  cases errA t != 0 with
  | true => rfl
  | false =>
    cases hk : v.kind != 5 with
    | true => rfl
    | false =>
      have hl := okV_len h hk
      cases hn : ((v.keys.length : Int) != ((attrsV t).length : Int)) with
      | true => rfl
      | false =>
        have hn' : v.keys.length = (attrsV t).length := by have := bne_eq_false_iff_eq.1 hn; omega
        have ha := attrs_len t
        have hbig : big = 140737488355328 := rfl
        simp only [cond_false, beq_self_eq_true, cond_true]
        rw [ck_t (by rw [ble_t (by omega), ← hl, hn', Nat.beq_refl]; rfl)]
        cases (List.range (attrsV t).length).all (okO v (attrsV t)) <;> rfl

end Go.Proofs.YtibfgggccedmdaaDoor
