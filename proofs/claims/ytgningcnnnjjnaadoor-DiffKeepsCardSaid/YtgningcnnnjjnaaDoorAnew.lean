/-
  WHETHER A DIFFERENCE MAKES ANOTHER OBJECT, by the program and by the document: the same.
-/
import Derived.Test.YtgningcnnnjjnaaDoorDiffer
namespace Go.Proofs.YtgningcnnnjjnaaDoor
open Go.Eng

set_option maxRecDepth 100000

def aZ : AttrR := ⟨[], .ofNat 0, .ofNat 0, false, false, false, false⟩

def psvv (f : Str → Val → Val → Bool × D Pl) : List (D Pl) → Option (Bool × D Pl)
  | [.str t, d, e] => match asV d, asV e with
    | some a, some b => some (f t a b)
    | _, _ => none
  | _ => none

theorem psvv_ok {g : FuncId} {f : Str → Val → Val → Bool × D Pl} (h : ∀ t a b, (f t a b).1 = true → Snd g [.str t, .agg (cV a), .agg (cV b)] (f t a b).2) : ∀ ds b d, psvv f ds = some (b, d) → b = true → Snd g ds d := by
  intro ds b d hp hb
  unfold psvv at hp
  split at hp
  · split at hp
    · rename_i h1 h2
      simp only [Option.some.injEq] at hp
      have h3 := h _ _ _ (by rw [hp]; exact hb)
      rw [hp] at h3
      exact h3.pre (.cons (RDle.refl _) (.cons (asV_rdle h1) (.cons (asV_rdle h2) .nil)))
    · simp at hp
  · simp at hp

-- the document's 'Find'

def s36 (l : List AttrR) (nm : Str) (f : Bool) (x : AttrR) (i : Int) : St Pl := mkS 28 [(1, .str nm), (4, .ptr 4 0), (5, .bool f), (6, .pl (pAttrs l) .any), (7, dI i)] [(4, .box false (cA x))]
def r36 (l : List AttrR) (nm : Str) (f : Bool) (x : AttrR) : St Pl := mkS 28 [(1, .str nm), (4, .ptr 4 0), (5, .bool f), (6, .pl (pAttrs l) .any)] [(4, .box false (cA x))]

theorem b36 (l : List AttrR) (nm : Str) (i : Nat) : evC tell0 noTL noL 1 (loopAt 36 0) [1, 4, 5, 6, 7] (s36 l nm false aZ i) =
    lt_ i l.length (ix_ i l.length (bif (l.getD i default).name == nm then ix_ i l.length (some (.ret, s36 l nm true (l.getD i default) i)) else some (.normal, s36 l nm false aZ (IntKind.i64.wrap ((i : Int) + 1))))) (some (.exit 0, s36 l nm false aZ i)) := by kernel_rfl

theorem ids36 : (loopsAt 36).length = 1 ∧ firstId (loopAt 36 0) = 3 ∧ loopsOf (loopAt 36 0) = [] := ⟨by kernel_rfl, by kernel_rfl, by kernel_rfl⟩

def noA (l : List AttrR) (nm : Str) (i : Nat) : Bool := !((l.getD i default).name == nm)
def posA (l : List AttrR) (nm : Str) : Nat := ff (noA l nm) l.length

def LS36 (S : St Pl) : Option (Bool × LR Pl) := match seenS 28 [1, 4, 5, 6, 7] S with
  | some ([.str nm, .ptr 4 0, .bool false, .pl ⟨.attrs, l⟩ .any, .int .i64 (.ofNat 0)], [(4, .box false [.str [], .int .i64 (.ofNat 0), .int .i64 (.ofNat 0), .bool false, .bool false, .bool false, .bool false])]) =>
    some (Nat.ble l.length big, loopR l.length (noA l nm) (.exit 0) (r36 l nm false aZ) .ret (fun i => r36 l nm true (l.getD i default)))
  | _ => none

theorem LS36_ok : SOk X0 (loopAt 36 0) LS36 := by
  intro S c r h hc
  unfold LS36 at h
  split at h
  · rename_i nm l hs
    simp only [Option.some.injEq, Prod.mk.injEq] at h
    obtain ⟨rfl, rfl⟩ := h
    simp only [Nat.ble_eq] at hc
    refine Goes.pre (keepOf [1, 4, 5, 6, 7]) ?_
    rw [seenS_mask hs]
    refine loop_gen (Sf := fun i => s36 l nm false aZ i) (n := l.length) (p := noA l nm) (by simp) (by simp) (fun i hi hp => ?_) (fun i hi hp => ?_) ?_
    · have hp : ((l.getD i default).name == nm) = false := by simpa [noA] using hp
      refine goes_of (tell0_ok _) (noTL_ok _ _) (noLoops ids36.2.2) ((b36 l nm i).trans ?_)
      rw [lt_t hi, ix_t hi, hp, wrap_nat (show i ≤ big by omega)]; rfl
    · have hp : ((l.getD i default).name == nm) = true := by simpa [noA] using hp
      exact (goes_of (tell0_ok _) (noTL_ok _ _) (noLoops ids36.2.2) ((b36 l nm i).trans (show _ = some (.ret, s36 l nm true (l.getD i default) i) by rw [lt_t hi, ix_t hi, hp, ix_t hi]; rfl))).post (keepOf [1, 4, 5, 6])
    · exact (goes_of (tell0_ok _) (noTL_ok _ _) (noLoops ids36.2.2) ((b36 l nm l.length).trans (show _ = some (.exit 0, s36 l nm false aZ l.length) by rw [lt_f (by omega)]))).post (keepOf [1, 4, 5, 6])
  · simp at h

def tA : Eng.Told Pl := tell 29 (pSt fun t => (true, .pl (pAttrs (attrsV t)) .any)) tell0
theorem tA_ok : TOk tA := tell_ok (pSt_ok fun t _ => Attrs_sound t) (tell0_ok _)

theorem e36 (t nm : Str) : evF tA noTL (atL 3 LS36 noL) 1 Tryd.f36 [.str t, .str nm] =
    ck_ (Nat.ble (attrsV t).length big) (bif Nat.beq (posA (attrsV t) nm) (attrsV t).length then some (.tup [.agg (cA aZ), .bool false]) else some (.tup [.agg (cA ((attrsV t).getD (posA (attrsV t) nm) default)), .bool true])) := by kernel_rfl

def hasA (l : List AttrR) (nm : Str) : Bool := !(Nat.beq (posA l nm) l.length)
def getA (l : List AttrR) (nm : Str) : AttrR := bif hasA l nm then l.getD (posA l nm) default else aZ

theorem FindA_sound (t nm : Str) : Snd 36 [.str t, .str nm] (.tup [.agg (cA (getA (attrsV t) nm)), .bool (hasA (attrsV t) nm)]) := by
  have he := e36 t nm
  have hlen := attrs_len t
  have hbig : big = 140737488355328 := rfl
  rw [ck_t (ble_t (by omega))] at he
  have hL := loops_of (f := 36) (L := atL 3 LS36 noL) (fn := Tryd.f36) (by kernel_rfl) (loops_1 ids36.1 (atL_ok (fun _ => LS36_ok) fun h => absurd ids36.2.1 h))
  unfold getA hasA
  cases h : Nat.beq (posA (attrsV t) nm) (attrsV t).length with
  | true => rw [h] at he; exact snd_fn (n := 1) tA_ok (noTL_ok _ _) (fn := Tryd.f36) (by kernel_rfl) hL he
  | false => rw [h] at he; exact snd_fn (n := 1) tA_ok (noTL_ok _ _) (fn := Tryd.f36) (by kernel_rfl) hL he

-- the document's 'Anew'

def pss (f : Str → Str → Bool × D Pl) : List (D Pl) → Option (Bool × D Pl)
  | [.str t, .str k] => some (f t k)
  | _ => none
theorem pss_ok {g : FuncId} {f : Str → Str → Bool × D Pl} (h : ∀ t k, (f t k).1 = true → Snd g [.str t, .str k] (f t k).2) : ∀ ds b d, pss f ds = some (b, d) → b = true → Snd g ds d := by
  intro ds b d hp hb
  unfold pss at hp
  split at hp
  · simp only [Option.some.injEq] at hp
    have h1 := h _ _ (by rw [hp]; exact hb)
    rw [hp] at h1
    exact h1
  · simp at hp

def tF : Eng.Told Pl := tell 36 (pss fun t nm => (true, .tup [.agg (cA (getA (attrsV t) nm)), .bool (hasA (attrsV t) nm)])) (tell 14 (psvv fun t a b => (true, .pl (pStrs (chg notC a b (attrsV t))) .any)) tell0)
theorem tF_ok : TOk tF := tell_ok (pss_ok fun t k _ => FindA_sound t k) (tell_ok (psvv_ok fun t a b _ => Changed_sound t a b) (tell0_ok _))

def s23 (a b : Val) (t : Str) (c : List Str) (f : Bool) (i : Int) : St Pl := mkS 35 [(0, .str t), (6, .bool f), (7, .pl (pStrs c) .any), (8, dI i)] [(5, .box false (cV b)), (4, .box false (cV a))]
def r23 (a b : Val) (t : Str) (c : List Str) (f : Bool) : St Pl := mkS 35 [(0, .str t), (6, .bool f), (7, .pl (pStrs c) .any)] [(5, .box false (cV b)), (4, .box false (cV a))]
def newA (t nm : Str) : Bool := bif hasA (attrsV t) nm then (getA (attrsV t) nm).anew else false

theorem b23 (a b : Val) (t : Str) (c : List Str) (i : Nat) : evD tF noTL noL 1 (loopAt 23 0) [0, 6, 7, 8] [9] (s23 a b t c false i) =
    lt_ i c.length (ix_ i c.length (bif newA t (c.getD i []) then some (.ret, s23 a b t c true i) else some (.normal, s23 a b t c false (IntKind.i64.wrap ((i : Int) + 1))))) (some (.exit 0, s23 a b t c false i)) := by kernel_rfl

theorem ids23 : (loopsAt 23).length = 1 ∧ firstId (loopAt 23 0) = 3 ∧ loopsOf (loopAt 23 0) = [] := ⟨by kernel_rfl, by kernel_rfl, by kernel_rfl⟩

def LS23 (S : St Pl) : Option (Bool × LR Pl) := match seenS 35 [0, 6, 7, 8] S with
  | some ([.str t, .bool false, .pl ⟨.strs, c⟩ .any, .int .i64 (.ofNat 0)], [(5, .box false cb), (4, .box false ca)]) => (match exV ca, exV cb with
    | some a, some b => some (Nat.ble c.length big, .ite ((List.range c.length).all fun i => !(newA t (c.getD i []))) (.leaf (.exit 0) (r23 a b t c false)) (.leaf .ret (r23 a b t c true)))
    | _, _ => none)
  | _ => none

theorem LS23_ok : SOk X0 (loopAt 23 0) LS23 := by
  intro S k r h hc
  unfold LS23 at h
  split at h
  · rename_i t c cb ca hs
    split at h
    · rename_i a b hca hcb
      simp only [Option.some.injEq, Prod.mk.injEq] at h
      obtain ⟨rfl, rfl⟩ := h
      simp only [Nat.ble_eq] at hc
      obtain rfl := exV_eq hca
      obtain rfl := exV_eq hcb
      refine Goes.pre (keepOf [0, 6, 7, 8]) ?_
      rw [seenS_mask hs]
      refine loop_search (Sf := fun i => s23 a b t c false i) (n := c.length) (p := fun i => !(newA t (c.getD i []))) (by simp) (by simp) (fun i hi hp => ?_) (fun i hi hp => ?_) ?_
      · have hp : newA t (c.getD i []) = false := by simpa using hp
        refine goes_ofD tF_ok (noTL_ok _ _) (noLoops ids23.2.2) ((b23 a b t c i).trans ?_)
        rw [lt_t hi, ix_t hi, hp, wrap_nat (show i ≤ big by omega)]; rfl
      · have hp : newA t (c.getD i []) = true := by simpa using hp
        exact (goes_ofD tF_ok (noTL_ok _ _) (noLoops ids23.2.2) ((b23 a b t c i).trans (show _ = some (.ret, s23 a b t c true i) by rw [lt_t hi, ix_t hi, hp]; rfl))).post (keepOf [0, 6, 7])
      · exact (goes_ofD tF_ok (noTL_ok _ _) (noLoops ids23.2.2) ((b23 a b t c c.length).trans (show _ = some (.exit 0, s23 a b t c false c.length) by rw [lt_f (by omega)]))).post (keepOf [0, 6, 7])
    · simp at h
  · simp at h

def chD (t : Str) (a b : Val) : List Str := chg notC a b (attrsV t)
def anewD (t : Str) (a b : Val) : Bool := !((List.range (chD t a b).length).all fun i => !(newA t ((chD t a b).getD i [])))

theorem e23 (t : Str) (a b : Val) : evF tF noTL (atL 3 LS23 noL) 1 Tryd.f23 [.str t, .agg (cV a), .agg (cV b)] =
    ck_ (Nat.ble (chD t (etaV a) (etaV b)).length big) (bif (List.range (chD t (etaV a) (etaV b)).length).all (fun i => !(newA t ((chD t (etaV a) (etaV b)).getD i []))) then some (.bool false) else some (.bool true)) := by kernel_rfl

theorem chg_len (q : AttrR → Bool) (a b : Val) (l : List AttrR) : (chg q a b l).length ≤ l.length := by
  unfold chg
  have := List.length_filterMap_le (gC q a b l) (List.range l.length)
  simpa using this

theorem AnewD_sound (t : Str) (a b : Val) : Snd 23 [.str t, .agg (cV a), .agg (cV b)] (.bool (anewD t a b)) := by
  have he := e23 t a b
  have h1 := attrs_len t
  have h2 := chg_len notC a b (attrsV t)
  have hbig : big = 140737488355328 := rfl
  rw [etaV_eq, etaV_eq, ck_t (ble_t (by unfold chD; omega))] at he
  have hL := loops_of (f := 23) (L := atL 3 LS23 noL) (fn := Tryd.f23) (by kernel_rfl) (loops_1 ids23.1 (atL_ok (fun _ => LS23_ok) fun h => absurd ids23.2.1 h))
  refine snd_fn (n := 1) tF_ok (noTL_ok _ _) (fn := Tryd.f23) (by kernel_rfl) hL (he.trans ?_)
  unfold anewD
  cases (List.range (chD t a b).length).all fun i => !(newA t ((chD t a b).getD i [])) <;> rfl

-- the program's

def p33 : List (D Pl) → Option (Bool × D Pl)
  | [.str t, d, e, .fn 34 []] => match asV d, asV e with
    | some a, some b => some (true, .pl (pStrs (chg anewC a b (attrsV t))) .any)
    | _, _ => none
  | [.str t, d, e, .fn 35 []] => match asV d, asV e with
    | some a, some b => some (true, .pl (pStrs (chg notC a b (attrsV t))) .any)
    | _, _ => none
  | _ => none

theorem p33_ok : ∀ ds b d, p33 ds = some (b, d) → b = true → Snd 33 ds d := by
  intro ds b d hp hb
  unfold p33 at hp
  split at hp
  · split at hp
    · rename_i h1 h2
      simp only [Option.some.injEq, Prod.mk.injEq] at hp
      obtain ⟨_, rfl⟩ := hp
      exact (differ34 _ _ _).pre (.cons (RDle.refl _) (.cons (asV_rdle h1) (.cons (asV_rdle h2) (RDles.refl _))))
    · simp at hp
  · split at hp
    · rename_i h1 h2
      simp only [Option.some.injEq, Prod.mk.injEq] at hp
      obtain ⟨_, rfl⟩ := hp
      exact (differ35 _ _ _).pre (.cons (RDle.refl _) (.cons (asV_rdle h1) (.cons (asV_rdle h2) (RDles.refl _))))
    · simp at hp
  · simp at hp

def anewP (t : Str) (a b : Val) : Bool := decide (((chg anewC a b (attrsV t)).length : Int) > 0)

theorem e21 (t : Str) (a b : Val) : ev (tell 33 p33 tell0) noTL 1 21 [.str t, .agg (cV a), .agg (cV b)] = some (.bool (anewP t (etaV a) (etaV b))) := by kernel_rfl
theorem e22 (t : Str) (a b : Val) : ev (tell 33 p33 tell0) noTL 1 22 [.str t, .agg (cV a), .agg (cV b)] = some (.pl (pStrs (chD t (etaV a) (etaV b))) .any) := by kernel_rfl

theorem anewP_sound (t : Str) (a b : Val) : Snd 21 [.str t, .agg (cV a), .agg (cV b)] (.bool (anewP t a b)) := by
  have := snd_of (tell_ok p33_ok (tell0_ok _)) (noTL_ok _ _) (e21 t a b)
  rwa [etaV_eq, etaV_eq] at this
theorem changedP_sound (t : Str) (a b : Val) : Snd 22 [.str t, .agg (cV a), .agg (cV b)] (.pl (pStrs (chD t a b)) .any) := by
  have := snd_of (tell_ok p33_ok (tell0_ok _)) (noTL_ok _ _) (e22 t a b)
  rwa [etaV_eq, etaV_eq] at this

end Go.Proofs.YtgningcnnnjjnaaDoor
