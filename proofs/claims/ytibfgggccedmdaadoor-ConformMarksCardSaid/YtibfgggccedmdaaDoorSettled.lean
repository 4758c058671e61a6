/-
  WHETHER A REAL OBJECT IS AS IT WAS PLANNED: the program's and the document's answer, the same.
-/
import Derived.Test.YtibfgggccedmdaaDoorObj4
namespace Go.Proofs.YtibfgggccedmdaaDoor
open Go.Eng

set_option maxRecDepth 100000

theorem e_cel (v : Val) (k : Str) : ev (tell 39 (pvs fun v k => (true, .tup [.agg (cV (elemV v k)), dI (errV v k)])) tell0) noTL 1 20 [.agg (cV v), .str k] = some (.agg (cV (elemV (etaV v) k))) := by kernel_rfl
theorem cel_sound (v : Val) (k : Str) : Snd 20 [.agg (cV v), .str k] (.agg (cV (elemV v k))) :=
  snd_of (tell_ok (pvs_ok fun v k _ => get_sound v k) (tell0_ok _)) (noTL_ok _ _) ((e_cel v k).trans (by rw [etaV_eq]))

/-- Is it as it was planned in this attribute? -/
def setA (p r : Val) (a : AttrR) : Bool := bif !a.comp then refV (elemV r a.name) (elemV p a.name) else true

-- the program's

def tSe : Eng.Told Pl := tell 20 (pvs fun v k => (true, .agg (cV (elemV v k)))) (tell 26 (pvv fun a b => (true, .bool (refV a b))) tell0)
theorem tSe_ok : TOk tSe := tell_ok (pvs_ok fun v k _ => cel_sound v k) (tell_ok (pvv_ok fun a b _ => ref_sound a b) (tell0_ok _))

def hSe (p r : Val) : Obs Pl := [(5, .box false (cV r)), (4, .box false (cV p))]
def sSe (p r : Val) (l : List AttrR) (i : Int) : St Pl := mkS 42 [(4, .ptr 4 0), (5, .ptr 5 0), (6, .bool false), (20, .pl (pAttrs l) .any), (21, dI l.length), (22, dI i)] (hSe p r)
def rSe (p r : Val) : St Pl := mkS 42 [(6, .bool false)] (hSe p r)

theorem bSe (p r : Val) (l : List AttrR) (i : Nat) : evD tSe noTL noL 1 (loopAt 10 0) [4, 5, 6, 20, 21, 22] [10] (sSe p r l i) =
    lt_ i l.length (ix_ i l.length (bif ((!(l.getD i default).comp) == true) then (bif !(refV (etaV (elemV (etaV r) (l.getD i default).name)) (etaV (elemV (etaV p) (l.getD i default).name))) then some (.ret, sSe p r l i) else some (.normal, sSe p r l (IntKind.i64.wrap ((i : Int) + 1)))) else some (.normal, sSe p r l (IntKind.i64.wrap ((i : Int) + 1))))) (some (.exit 0, sSe p r l i)) := by kernel_rfl

theorem idsSe : (loopsAt 10).length = 1 ∧ firstId (loopAt 10 0) = 5 ∧ loopsOf (loopAt 10 0) = [] := ⟨by kernel_rfl, by kernel_rfl, by kernel_rfl⟩

def LSSe (S : St Pl) : Option (Bool × LR Pl) := match seenS 42 [4, 5, 6, 20, 21, 22] S with
  | some ([.ptr 4 0, .ptr 5 0, .bool false, .pl ⟨.attrs, l⟩ .any, .int .i64 k, .int .i64 (.ofNat 0)], [(5, .box false cr), (4, .box false cp)]) => (match exV cp, exV cr with
    | some p, some r => some (k == (l.length : Int) && Nat.ble l.length big, .ite ((List.range l.length).all fun i => setA p r (l.getD i default)) (.leaf (.exit 0) (rSe p r)) (.leaf .ret (rSe p r)))
    | _, _ => none)
  | _ => none

theorem LSSe_ok : SOk X0 (loopAt 10 0) LSSe := by
  intro S b r h hb
  unfold LSSe at h
  split at h
  · rename_i l k cr cp hs
    split at h
    · rename_i p q hp hq
      simp only [Option.some.injEq, Prod.mk.injEq] at h
      obtain ⟨rfl, rfl⟩ := h
      simp only [Bool.and_eq_true, Nat.ble_eq] at hb
      obtain ⟨hk, hbig⟩ := hb
      obtain rfl := beq_iff_eq.1 hk
      obtain rfl := exV_eq hp
      obtain rfl := exV_eq hq
      refine Goes.pre (keepOf [4, 5, 6, 20, 21, 22]) ?_
      rw [seenS_mask hs]
      refine search_ofD tSe_ok idsSe.2.2 (k := 1) (keep := [4, 5, 6, 20, 21, 22]) (lose := [10]) (keep2 := [6]) (Sf := fun i => sSe p q l i) (S2' := fun i => sSe p q l i) (n := l.length) (p := fun i => setA p q (l.getD i default)) (by simp) (by simp) (fun i hi => ?_) ?_ (by kernel_rfl) (fun i => by kernel_rfl)
      · refine (bSe p q l i).trans ?_
        rw [lt_t hi, ix_t hi, etaV_eq, etaV_eq, etaV_eq, etaV_eq, wrap_nat (show i ≤ big by omega)]
        unfold setA
        cases (l.getD i default).comp <;> cases refV (elemV q (l.getD i default).name) (elemV p (l.getD i default).name) <;> rfl
      · exact (bSe p q l l.length).trans (by rw [lt_f (by omega)])
    · simp at h
  · simp at h

noncomputable def tSf : Eng.Told Pl := tell 24 (fun ds => match ds with
  | [.str t, d] => match asV d with
    | some v => some (okV v, dI (objV t v))
    | none => none
  | _ => none) (tSA tell0)
theorem tSf_ok : TOk tSf := tell_ok (fun ds b d h hb => by
  split at h
  · split at h
    · rename_i hv
      simp only [Option.some.injEq, Prod.mk.injEq] at h
      obtain ⟨h1, rfl⟩ := h
      rw [hb] at h1
      exact (object_sound _ _ h1).pre (.cons (RDle.refl _) (.cons (asV_rdle hv) .nil))
    · simp at h
  · simp at h) (tSA_ok (tell0_ok _))

theorem eSe (t : Str) (p r : Val) : evF tSf noTL (atL 5 LSSe noL) 1 Tryd.f10 [.str t, .agg (cV p), .agg (cV r)] =
    ck_ (okV (etaV r)) (bif (objV t (etaV r) != 0) then some (.bool false) else ck_ ((((attrsV t).length : Int) == ((attrsV t).length : Int)) && Nat.ble (attrsV t).length big) (bif (List.range (attrsV t).length).all (fun i => setA (etaV p) (etaV r) ((attrsV t).getD i default)) then some (.bool true) else some (.bool false))) := by kernel_rfl

def settV (t : Str) (p r : Val) : Bool := bif objV t r != 0 then false else (List.range (attrsV t).length).all fun i => setA p r ((attrsV t).getD i default)

theorem settled_sound (t : Str) (p r : Val) (h : okV r = true) : Snd 10 [.str t, .agg (cV p), .agg (cV r)] (.bool (settV t p r)) := by
  refine snd_fn (n := 1) tSf_ok (noTL_ok _ _) (fn := Tryd.f10) (by kernel_rfl) (loops_of (f := 10) (fn := Tryd.f10) (by kernel_rfl) (loops_1 idsSe.1 (atL_ok (fun _ => LSSe_ok) fun h => absurd idsSe.2.1 h))) ((eSe t p r).trans ?_)
  have ha := attrs_len t
  have hbig : big = 140737488355328 := rfl
  rw [etaV_eq, etaV_eq, ck_t h, ck_t (by rw [beq_self_eq_true, ble_t (by omega)]; rfl)]
  unfold settV
  cases objV t r != 0 with
  | true => rfl
  | false =>
    simp only [cond_false]
    cases (List.range (attrsV t).length).all (fun i => setA p r ((attrsV t).getD i default)) <;> rfl

-- the document's

def tS4 : Eng.Told Pl := tell 23 (pvs fun v k => (true, .agg (cV (elemV v k)))) (tell 29 (pvv fun a b => (true, .bool (refV a b))) tell0)
theorem tS4_ok : TOk tS4 := tell_ok (pvs_ok fun v k _ => Element_sound v k) (tell_ok (pvv_ok fun a b _ => ref4_sound a b) (tell0_ok _))

def sS4 (p r : Val) (l : List AttrR) (i : Int) : St Pl := mkS 45 [(4, .ptr 4 0), (5, .ptr 5 0), (6, .bool false), (7, .pl (pAttrs l) .any), (8, dI i)] (hSe p r)
def rS4 (p r : Val) : St Pl := mkS 45 [(6, .bool false)] (hSe p r)

theorem bS4 (p r : Val) (l : List AttrR) (i : Nat) : evD tS4 noTL noL 1 (loopAt 11 0) [4, 5, 6, 7, 8] [] (sS4 p r l i) =
    lt_ i l.length (ix_ i l.length (ixo_ i l.length ((!(l.getD i default).comp) == true) (bif ((!(l.getD i default).comp) == true) then ix_ i l.length (bif !(refV (etaV (elemV (etaV r) (l.getD i default).name)) (etaV (elemV (etaV p) (l.getD i default).name))) then some (.ret, sS4 p r l i) else some (.normal, sS4 p r l (IntKind.i64.wrap ((i : Int) + 1))))
      else ck_ ((true && decide ((i : Int) < (l.length : Int))) || true) (some (.normal, sS4 p r l (IntKind.i64.wrap ((i : Int) + 1))))))) (some (.exit 0, sS4 p r l i)) := by kernel_rfl

theorem idsS4 : (loopsAt 11).length = 1 ∧ firstId (loopAt 11 0) = 5 ∧ loopsOf (loopAt 11 0) = [] := ⟨by kernel_rfl, by kernel_rfl, by kernel_rfl⟩

def LSS4 (S : St Pl) : Option (Bool × LR Pl) := match seenS 45 [4, 5, 6, 7, 8] S with
  | some ([.ptr 4 0, .ptr 5 0, .bool false, .pl ⟨.attrs, l⟩ .any, .int .i64 (.ofNat 0)], [(5, .box false cr), (4, .box false cp)]) => (match exV cp, exV cr with
    | some p, some r => some (Nat.ble l.length big, .ite ((List.range l.length).all fun i => setA p r (l.getD i default)) (.leaf (.exit 0) (rS4 p r)) (.leaf .ret (rS4 p r)))
    | _, _ => none)
  | _ => none

theorem LSS4_ok : SOk X0 (loopAt 11 0) LSS4 := by
  intro S b r h hb
  unfold LSS4 at h
  split at h
  · rename_i l cr cp hs
    split at h
    · rename_i p q hp hq
      simp only [Option.some.injEq, Prod.mk.injEq] at h
      obtain ⟨rfl, rfl⟩ := h
      simp only [Nat.ble_eq] at hb
      obtain rfl := exV_eq hp
      obtain rfl := exV_eq hq
      refine Goes.pre (keepOf [4, 5, 6, 7, 8]) ?_
      rw [seenS_mask hs]
      refine search_ofD tS4_ok idsS4.2.2 (k := 1) (keep := [4, 5, 6, 7, 8]) (lose := []) (keep2 := [6]) (Sf := fun i => sS4 p q l i) (S2' := fun i => sS4 p q l i) (n := l.length) (p := fun i => setA p q (l.getD i default)) (by simp) (by simp) (fun i hi => ?_) ?_ (by kernel_rfl) (fun i => by kernel_rfl)
      · refine (bS4 p q l i).trans ?_
        rw [lt_t hi, ix_t hi, ixo_t hi, ix_t hi, ck_r (b := true) rfl, etaV_eq, etaV_eq, etaV_eq, etaV_eq, wrap_nat (show i ≤ big by omega)]
        unfold setA
        cases (l.getD i default).comp <;> cases refV (elemV q (l.getD i default).name) (elemV p (l.getD i default).name) <;> rfl
      · exact (bS4 p q l l.length).trans (by rw [lt_f (by omega)])
    · simp at h
  · simp at h

noncomputable def tS4f : Eng.Told Pl := tell 27 (fun ds => match ds with
  | [.str t, d] => match asV d with
    | some v => some (okV v, dI (obj4V t v))
    | none => none
  | _ => none) (tell 28 (pSt fun t => (true, .pl (pAttrs (attrsV t)) .any)) tell0)
theorem tS4f_ok : TOk tS4f := tell_ok (fun ds b d h hb => by
  split at h
  · split at h
    · rename_i hv
      simp only [Option.some.injEq, Prod.mk.injEq] at h
      obtain ⟨h1, rfl⟩ := h
      rw [hb] at h1
      exact (object4_sound _ _ h1).pre (.cons (RDle.refl _) (.cons (asV_rdle hv) .nil))
    · simp at h
  · simp at h) (tell_ok (pSt_ok fun t _ => Attrs_sound t) (tell0_ok _))

theorem eS4 (t : Str) (p r : Val) : evF tS4f noTL (atL 5 LSS4 noL) 1 Tryd.f11 [.str t, .agg (cV p), .agg (cV r)] =
    ck_ (okV (etaV r)) (bif (obj4V t (etaV r) != 0) then some (.bool false) else ck_ (Nat.ble (attrsV t).length big) (bif (List.range (attrsV t).length).all (fun i => setA (etaV p) (etaV r) ((attrsV t).getD i default)) then some (.bool true) else some (.bool false))) := by kernel_rfl

theorem settled4_sound (t : Str) (p r : Val) (h : okV r = true) : Snd 11 [.str t, .agg (cV p), .agg (cV r)] (.bool (settV t p r)) := by
  refine snd_fn (n := 1) tS4f_ok (noTL_ok _ _) (fn := Tryd.f11) (by kernel_rfl) (loops_of (f := 11) (fn := Tryd.f11) (by kernel_rfl) (loops_1 idsS4.1 (atL_ok (fun _ => LSS4_ok) fun h => absurd idsS4.2.1 h))) ((eS4 t p r).trans ?_)
  have ha := attrs_len t
  have hbig : big = 140737488355328 := rfl
  rw [etaV_eq, etaV_eq, ck_t h, ck_t (ble_t (by omega))]
  unfold settV
  rw [object_law t h]
  cases obj4V t r != 0 with
  | true => rfl
  | false =>
    simp only [cond_false]
    cases (List.range (attrsV t).length).all (fun i => setA p r ((attrsV t).getD i default)) <;> rfl

end Go.Proofs.YtibfgggccedmdaaDoor
