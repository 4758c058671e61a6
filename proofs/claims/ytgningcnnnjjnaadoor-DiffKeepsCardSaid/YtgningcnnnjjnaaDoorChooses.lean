/-
  THE LAW OF THE ACTION, evaluated: whatever the type, the entry and what is planned: true.
-/
import Derived.Test.YtgningcnnnjjnaaDoorAnew
namespace Go.Proofs.YtgningcnnnjjnaaDoor
open Go.Eng

set_option maxRecDepth 100000

-- the plain law

theorem c12_self (v : Val) (m : Bool) : c12 v v m = false := by
  unfold c12
  simp

theorem same_self : ∀ n v m, vsz v < n → sameV v v m = true := by
  intro n
  induction n with
  | zero => intro v m h; omega
  | succ n ih =>
    intro v m h
    rw [sameV_eq, c12_self]
    have h1 : keysEq v v = true := by unfold keysEq; simp
    have h2 : elemsEq v v m = true := by
      unfold elemsEq
      rw [List.all_eq_true]
      intro i hi
      have hi : i < v.l.length := by simpa using hi
      have := vsz_elem (getD_mem (d := default) hi)
      exact ih _ m (by omega)
    rw [h1, h2]; rfl

theorem dif_self (a : Val) (nm : Str) : dif a a nm = false := by
  unfold dif
  rw [same_self _ _ false (Nat.lt_succ_self _)]; rfl

theorem chg_self (q : AttrR → Bool) (a : Val) (l : List AttrR) : chg q a a l = [] := by
  unfold chg
  rw [List.filterMap_eq_nil_iff]
  intro i _
  unfold gC
  rw [dif_self]
  cases q (l.getD i default) <;> rfl

theorem pos_disk : (List.range l_disk.length).all (fun i => Nat.beq (posA l_disk (l_disk.getD i default).name) i) = true := by kernel_rfl
theorem pos_node : (List.range l_node.length).all (fun i => Nat.beq (posA l_node (l_node.getD i default).name) i) = true := by kernel_rfl
theorem pos_note : (List.range l_note.length).all (fun i => Nat.beq (posA l_note (l_note.getD i default).name) i) = true := by kernel_rfl
theorem pos_rule : (List.range l_rule.length).all (fun i => Nat.beq (posA l_rule (l_rule.getD i default).name) i) = true := by kernel_rfl

theorem pos_attrs (t : Str) (i : Nat) (hi : i < (attrsV t).length) : posA (attrsV t) ((attrsV t).getD i default).name = i := by
  have key : (List.range (attrsV t).length).all (fun i => Nat.beq (posA (attrsV t) ((attrsV t).getD i default).name) i) = true := by
    unfold attrsV
    cases t == a_disk with
    | true => exact pos_disk
    | false =>
      cases t == a_node with
      | true => exact pos_node
      | false =>
        cases t == a_note with
        | true => exact pos_note
        | false =>
          cases t == a_rule with
          | true => exact pos_rule
          | false => rfl
  exact Nat.eq_of_beq_eq_true (List.all_eq_true.1 key i (by simpa using hi))

theorem newA_attr (t : Str) (i : Nat) (hi : i < (attrsV t).length) : newA t ((attrsV t).getD i default).name = ((attrsV t).getD i default).anew := by
  have h := pos_attrs t i hi
  have h1 : hasA (attrsV t) ((attrsV t).getD i default).name = true := by
    unfold hasA
    rw [h]
    cases hb : Nat.beq i (attrsV t).length with
    | false => rfl
    | true => have := Nat.eq_of_beq_eq_true hb; omega
  unfold newA getA
  rw [h1, h]; rfl

theorem gC_some {q : AttrR → Bool} {a b : Val} {l : List AttrR} {i : Nat} {nm : Str} : gC q a b l i = some nm ↔ q (l.getD i default) = true ∧ dif a b (l.getD i default).name = true ∧ nm = (l.getD i default).name := by
  unfold gC
  cases q (l.getD i default) <;> cases dif a b (l.getD i default).name <;> simp [eq_comm]

theorem mem_chg {q : AttrR → Bool} {a b : Val} {l : List AttrR} {nm : Str} : nm ∈ chg q a b l ↔ ∃ i, i < l.length ∧ q (l.getD i default) = true ∧ dif a b (l.getD i default).name = true ∧ nm = (l.getD i default).name := by
  unfold chg
  rw [List.mem_filterMap]
  constructor
  · rintro ⟨i, hi, h⟩
    exact ⟨i, by simpa using hi, gC_some.1 h⟩
  · rintro ⟨i, hi, h⟩
    exact ⟨i, by simpa using hi, gC_some.2 h⟩

theorem anew_same (t : Str) (a b : Val) : anewP t a b = anewD t a b := by
  rw [Bool.eq_iff_iff]
  constructor
  · intro h
    have hlen : 0 < (chg anewC a b (attrsV t)).length := by
      unfold anewP at h
      have := of_decide_eq_true h
      omega
    obtain ⟨nm, hnm⟩ := List.exists_mem_of_length_pos hlen
    obtain ⟨i, hi, hq, hd, rfl⟩ := mem_chg.1 hnm
    have hq' : notC ((attrsV t).getD i default) = true ∧ ((attrsV t).getD i default).anew = true := by
      unfold anewC at hq
      unfold notC
      cases hc : ((attrsV t).getD i default).comp <;> rw [hc] at hq <;> simp_all
    have hm : ((attrsV t).getD i default).name ∈ chD t a b := mem_chg.2 ⟨i, hi, hq'.1, hd, rfl⟩
    obtain ⟨j, hj, he⟩ := List.mem_iff_getElem.1 hm
    unfold anewD
    rw [Bool.not_eq_true', List.all_eq_false]
    refine ⟨j, by simpa using hj, ?_⟩
    rw [List.getD_eq_getElem?_getD, List.getElem?_eq_getElem hj, Option.getD_some, he, newA_attr t i hi, hq'.2]
    simp
  · intro h
    unfold anewD at h
    rw [Bool.not_eq_true', List.all_eq_false] at h
    obtain ⟨j, hj, hn⟩ := h
    have hj : j < (chD t a b).length := by simpa using hj
    have hmem := getD_mem (d := ([] : Str)) hj
    obtain ⟨i, hi, hq, hd, he⟩ := mem_chg.1 hmem
    have hn : newA t ((chD t a b).getD j []) = true := by simpa using hn
    rw [he, newA_attr t i hi] at hn
    have hq' : anewC ((attrsV t).getD i default) = true := by
      unfold anewC
      unfold notC at hq
      rw [hq, hn]; rfl
    have hm : ((attrsV t).getD i default).name ∈ chg anewC a b (attrsV t) := mem_chg.2 ⟨i, hi, hq', hd, rfl⟩
    have hlen := List.length_pos_of_mem hm
    unfold anewP
    exact decide_eq_true (by omega)

-- the walk

def cE (k : KeyR) (v : Val) (tn un : Bool) : List (D Pl) := cK k ++ cV v ++ [.bool tn, .bool un, .bad]

def chM (v : Val) (tn un trig : Bool) : Bool := bif (bif (bif tn then true else un) then true else (v.kind == 0)) then true else trig
def cho (there m an ln : Bool) (K : Int → Option (D Pl)) : Option (D Pl) := bif !there then K 1 else (bif (m == false) then (bif an then K 4 else (bif ln then K 2 else K 0)) else K 4)
def calm (v : Val) (there tn un : Bool) : Bool := bif (bif (bif there then !tn else false) then !un else false) then (v.kind != 0) else false
def fin3 (cm there : Bool) (x y z : Int) : Bool := bif (bif (x == z) then (bif !cm then true else y == 0) else false) then (bif there then true else (bif x == 1 then y == 1 else false)) else false
def yes : Option (D Pl) := some (.bool true)
def no : Option (D Pl) := some (.bool false)
def lnG (l : List Str) : Bool := decide ((l.length : Int) > 0)

def tCh : Eng.Told Pl := tell 21 (psvv fun t a b => (true, .bool (anewP t a b))) (tell 22 (psvv fun t a b => (true, .pl (pStrs (chD t a b)) .any))
  (tell 23 (psvv fun t a b => (true, .bool (anewD t a b))) (tell 14 (psvv fun t a b => (true, .pl (pStrs (chD t a b)) .any)) tell0)))
theorem tCh_ok : TOk tCh := tell_ok (psvv_ok fun t a b _ => anewP_sound t a b) (tell_ok (psvv_ok fun t a b _ => changedP_sound t a b) (tell_ok (psvv_ok fun t a b _ => AnewD_sound t a b) (tell_ok (psvv_ok fun t a b _ => Changed_sound t a b) (tell0_ok _))))

def cRes (t : Str) : List (D Pl) := [.str t, .str [], .nilS, .nilP, .nilP, .nilS, .bool false, .bool false, .nilS, .nilS, .nilS, .nilS, .int .i64 (.ofNat 0), .int .i64 (.ofNat 0), .int .i64 (.ofNat 0)]

def choV (there m an ln : Bool) : Int := bif !there then 1 else (bif m then 4 else (bif an then 4 else (bif ln then 2 else 0)))
def choP (t : Str) (v p : Val) (there tn un trig : Bool) : Int := choV there (chM v tn un trig) (anewP t v p) (lnG (chD t v p))
def choD (t : Str) (v p : Val) (there tn un trig : Bool) : Int := choV there (chM v tn un trig) (anewD t v p) (lnG (chD t v p))

theorem e9 (t : Str) (k : KeyR) (v p : Val) (tn un there trig : Bool) : ev tCh noTL 1 9 [.agg (cRes t), .agg (cE k v tn un), .bool there, .agg (cV p), .bool trig] =
    cho there (chM v tn un trig) (anewP t (etaV v) (etaV p)) (lnG (chD t (etaV v) (etaV p))) fun i => some (dI i) := by
  cases there <;> cases tn <;> cases un <;> cases trig <;> kernel_rfl
theorem e10 (t : Str) (k : KeyR) (v p : Val) (tn un there trig : Bool) : ev tCh noTL 1 10 [.agg (cRes t), .agg (cE k v tn un), .bool there, .agg (cV p), .bool trig] =
    cho there (chM v tn un trig) (anewD t (etaV v) (etaV p)) (lnG (chD t (etaV v) (etaV p))) fun i => some (dI i) := by
  cases there <;> cases tn <;> cases un <;> cases trig <;> kernel_rfl

theorem cho_eq (there m an ln : Bool) : (cho there m an ln fun i => some (dI i)) = some (dI (choV there m an ln)) := by
  cases there <;> cases m <;> cases an <;> cases ln <;> rfl

theorem choP_sound (t : Str) (k : KeyR) (v p : Val) (tn un there trig : Bool) : Snd 9 [.agg (cRes t), .agg (cE k v tn un), .bool there, .agg (cV p), .bool trig] (dI (choP t v p there tn un trig)) := by
  refine snd_of tCh_ok (noTL_ok _ _) ((e9 t k v p tn un there trig).trans ?_)
  rw [cho_eq, etaV_eq, etaV_eq]; rfl
theorem choD_sound (t : Str) (k : KeyR) (v p : Val) (tn un there trig : Bool) : Snd 10 [.agg (cRes t), .agg (cE k v tn un), .bool there, .agg (cV p), .bool trig] (dI (choD t v p there tn un trig)) := by
  refine snd_of tCh_ok (noTL_ok _ _) ((e10 t k v p tn un there trig).trans ?_)
  rw [cho_eq, etaV_eq, etaV_eq]; rfl

def p9 (f : Str → Val → Val → Bool → Bool → Bool → Bool → Int) : List (D Pl) → Option (Bool × D Pl)
  | [.agg [.str t, .str [], .nilS, .nilP, .nilP, .nilS, .bool false, .bool false, .nilS, .nilS, .nilS, .nilS, .int .i64 (.ofNat 0), .int .i64 (.ofNat 0), .int .i64 (.ofNat 0)],
     .agg [.str _, .str _, .int .i64 _, .int .i64 _, .str _, .int .u32 _, .int .i64 vk, .int .i64 vi, .str vs, .pl ⟨.vals, vl⟩ .any, .pl ⟨.strs, vks⟩ .any, .int .i64 vtk, .int .i64 vtof, .bool vsec, .bool tn, .bool un, .bad],
     .bool there, d, .bool trig] => match asV d with
    | some p => some (true, dI (f t ⟨vk, vi, vs, vl, vks, vtk, vtof, vsec⟩ p there tn un trig))
    | none => none
  | _ => none

theorem p9_ok {g : FuncId} {f : Str → Val → Val → Bool → Bool → Bool → Bool → Int} (h : ∀ t k v p tn un there trig, Snd g [.agg (cRes t), .agg (cE k v tn un), .bool there, .agg (cV p), .bool trig] (dI (f t v p there tn un trig))) :
    ∀ ds b d, p9 f ds = some (b, d) → b = true → Snd g ds d := by
  intro ds b d hp hb
  unfold p9 at hp
  split at hp
  · rename_i t k1 k2 k3 k4 k5 k6 vk vi vs vl vks vtk vtof vsec tn un there d trig
    split at hp
    · rename_i p hp2
      simp only [Option.some.injEq, Prod.mk.injEq] at hp
      obtain ⟨_, rfl⟩ := hp
      exact (h t ⟨k1, k2, k3, k4, k5, k6⟩ ⟨vk, vi, vs, vl, vks, vtk, vtof, vsec⟩ p tn un there trig).pre (.cons (RDle.refl _) (.cons (RDle.refl _) (.cons (RDle.refl _) (.cons (asV_rdle hp2) (RDles.refl _)))))
    · simp at hp
  · simp at hp

def tLaw (G C : Val → Bool) : Eng.Told Pl := tell 6 (p1 fun v => (true, .bool (G v))) (tell 7 (p1 fun v => (true, .bool (C v))) (tAwake (tell 9 (p9 choP) (tell 10 (p9 choD) tell0))))

def rest3 (t : Str) (v p : Val) (there tn un trig : Bool) : Option (D Pl) :=
  bif (fin3 (calm v there tn un) there (choP t (etaV v) (etaV p) there tn un trig) (choP t (etaV v) (etaV v) there tn un false) (choD t (etaV v) (etaV p) there tn un trig) == true) then yes else no

def law3 (G C : Val → Bool) (t : Str) (v p : Val) (there tn un trig : Bool) : Option (D Pl) :=
  bif (decide ((t.length : Int) > 100) == false) then (bif (G (etaV v) == false) then (bif (G (etaV p) == false) then (bif ((!C (etaV v)) == false) then (bif (!C (etaV p)) then yes else rest3 t v p there tn un trig) else yes) else yes) else yes) else yes

theorem e3 (G C : Val → Bool) (t : Str) (k : KeyR) (v p : Val) (tn un there trig : Bool) : ev (tLaw G C) noTL 1 3 [.str t, .agg (cE k v tn un), .bool there, .agg (cV p), .bool trig] = law3 G C t v p there tn un trig := by kernel_rfl

theorem rest3_yes (t : Str) (v p : Val) (there tn un trig : Bool) : rest3 t v p there tn un trig = yes := by
  have h : fin3 (calm v there tn un) there (choP t (etaV v) (etaV p) there tn un trig) (choP t (etaV v) (etaV v) there tn un false) (choD t (etaV v) (etaV p) there tn un trig) = true := by
    rw [etaV_eq, etaV_eq]
    have h1 : choD t v p there tn un trig = choP t v p there tn un trig := by unfold choD choP; rw [anew_same]
    have h2 : choP t v v there tn un false = choV there (chM v tn un false) false false := by
      unfold choP
      have e1 : anewP t v v = false := by unfold anewP; rw [chg_self]; rfl
      have e2 : lnG (chD t v v) = false := by unfold chD; rw [chg_self]; rfl
      rw [e1, e2]
    rw [h1, h2]
    unfold fin3 choP chM calm
    generalize anewP t v p = an
    generalize lnG (chD t v p) = ln
    rw [show (v.kind != 0) = !(v.kind == 0) from rfl]
    generalize (v.kind == 0) = kz
    cases there <;> cases tn <;> cases un <;> cases trig <;> cases an <;> cases ln <;> cases kz <;> rfl
  unfold rest3
  rw [h]; rfl

theorem law3_yes (G C : Val → Bool) (t : Str) (v p : Val) (there tn un trig : Bool) : law3 G C t v p there tn un trig = yes := by
  unfold law3
  rw [rest3_yes]
  cases decide ((t.length : Int) > 100) <;> cases G (etaV v) <;> cases G (etaV p) <;> cases C (etaV v) <;> cases C (etaV p) <;> rfl

theorem chooses_sound (t : Str) (k : KeyR) (v p : Val) (tn un there trig : Bool) : Snd 3 [.str t, .agg (cE k v tn un), .bool there, .agg (cV p), .bool trig] (.bool true) := by
  obtain ⟨G, hG⟩ := Great_sound
  obtain ⟨C, hC, _⟩ := Check_sound
  have hT : TOk (tLaw G C) := tell_ok (p1_ok fun v _ => hG v) (tell_ok (p1_ok fun v _ => hC v) (tAwake_ok (tell_ok (p9_ok fun t k v p tn un there trig => choP_sound t k v p tn un there trig) (tell_ok (p9_ok fun t k v p tn un there trig => choD_sound t k v p tn un there trig) (tell0_ok _)))))
  exact snd_of hT (noTL_ok _ _) ((e3 G C t k v p tn un there trig).trans (law3_yes G C t v p there tn un trig))

end Go.Proofs.YtgningcnnnjjnaaDoor
