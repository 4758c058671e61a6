/-
  THE DOCUMENT's 'Find'.
-/
import Derived.Test.YtibfgggccedmdaaDoorAttr
import Derived.Test.YtibfgggccedmdaaDoorFind
namespace Go.Proofs.YtibfgggccedmdaaDoor
open Go.Eng

set_option maxRecDepth 100000

def pSt (f : Str → Bool × D Pl) : List (D Pl) → Option (Bool × D Pl)
  | [.str t] => some (f t)
  | _ => none
theorem pSt_ok {g : FuncId} {f : Str → Bool × D Pl} (h : ∀ t, (f t).1 = true → Snd g [.str t] (f t).2) : ∀ ds b d, pSt f ds = some (b, d) → b = true → Snd g ds d := by
  intro ds b d hp hb
  unfold pSt at hp
  split at hp
  · simp only [Option.some.injEq] at hp
    have h1 := h _ (by rw [hp]; exact hb)
    rw [hp] at h1
    exact h1
  · simp at hp

-- the document's

theorem attrs_len (t : Str) : (attrsV t).length ≤ 7 := by
  unfold attrsV
  cases t == a_disk <;> cases t == a_node <;> cases t == a_note <;> cases t == a_rule <;> decide

def aZ : AttrR := ⟨[], .ofNat 0, .ofNat 0, false, false, false, false⟩

def psvv (f : Str → Val → Val → Bool × D Pl) : List (D Pl) → Option (Bool × D Pl)
  | [.str t, d, e] => match asV d, asV e with
    | some a, some b => some (f t a b)
    | _, _ => none
  | _ => none

theorem psvv_ok {g : FuncId} {f : Str → Val → Val → Bool × D Pl} (h : ∀ t a b, (f t a b).1 = true → Snd g [.str t, .agg (cV a), .agg (cV b)] (f t a b).2) : ∀ ds b d, psvv f ds = some (b, d) → b = true → Snd g ds d := by
  intro ds b d hp hb
  unfold psvv at hp
  split at hp
  · split at hp
    · rename_i h1 h2
      simp only [Option.some.injEq] at hp
      have h3 := h _ _ _ (by rw [hp]; exact hb)
      rw [hp] at h3
      exact h3.pre (.cons (RDle.refl _) (.cons (asV_rdle h1) (.cons (asV_rdle h2) .nil)))
    · simp at hp
  · simp at hp

-- the document's 'Find'

def s36 (l : List AttrR) (nm : Str) (f : Bool) (x : AttrR) (i : Int) : St Pl := mkS 28 [(1, .str nm), (4, .ptr 4 0), (5, .bool f), (6, .pl (pAttrs l) .any), (7, dI i)] [(4, .box false (cA x))]
def r36 (l : List AttrR) (nm : Str) (f : Bool) (x : AttrR) : St Pl := mkS 28 [(1, .str nm), (4, .ptr 4 0), (5, .bool f), (6, .pl (pAttrs l) .any)] [(4, .box false (cA x))]

theorem b36 (l : List AttrR) (nm : Str) (i : Nat) : evC tell0 noTL noL 1 (loopAt 21 0) [1, 4, 5, 6, 7] (s36 l nm false aZ i) =
    lt_ i l.length (ix_ i l.length (bif (l.getD i default).name == nm then ix_ i l.length (some (.ret, s36 l nm true (l.getD i default) i)) else some (.normal, s36 l nm false aZ (IntKind.i64.wrap ((i : Int) + 1))))) (some (.exit 0, s36 l nm false aZ i)) := by kernel_rfl

theorem ids36 : (loopsAt 21).length = 1 ∧ firstId (loopAt 21 0) = 3 ∧ loopsOf (loopAt 21 0) = [] := ⟨by kernel_rfl, by kernel_rfl, by kernel_rfl⟩

def noA (l : List AttrR) (nm : Str) (i : Nat) : Bool := !((l.getD i default).name == nm)
def posA (l : List AttrR) (nm : Str) : Nat := ff (noA l nm) l.length

def LS36 (S : St Pl) : Option (Bool × LR Pl) := match seenS 28 [1, 4, 5, 6, 7] S with
  | some ([.str nm, .ptr 4 0, .bool false, .pl ⟨.attrs, l⟩ .any, .int .i64 (.ofNat 0)], [(4, .box false [.str [], .int .i64 (.ofNat 0), .int .i64 (.ofNat 0), .bool false, .bool false, .bool false, .bool false])]) =>
    some (Nat.ble l.length big, loopR l.length (noA l nm) (.exit 0) (r36 l nm false aZ) .ret (fun i => r36 l nm true (l.getD i default)))
  | _ => none

theorem LS36_ok : SOk X0 (loopAt 21 0) LS36 := by
  intro S c r h hc
  unfold LS36 at h
  split at h
  · rename_i nm l hs
    simp only [Option.some.injEq, Prod.mk.injEq] at h
    obtain ⟨rfl, rfl⟩ := h
    simp only [Nat.ble_eq] at hc
    refine Goes.pre (keepOf [1, 4, 5, 6, 7]) ?_
    rw [seenS_mask hs]
    refine loop_gen (Sf := fun i => s36 l nm false aZ i) (n := l.length) (p := noA l nm) (by simp) (by simp) (fun i hi hp => ?_) (fun i hi hp => ?_) ?_
    · have hp : ((l.getD i default).name == nm) = false := by simpa [noA] using hp
      refine goes_of (tell0_ok _) (noTL_ok _ _) (noLoops ids36.2.2) ((b36 l nm i).trans ?_)
      rw [lt_t hi, ix_t hi, hp, wrap_nat (show i ≤ big by omega)]; rfl
    · have hp : ((l.getD i default).name == nm) = true := by simpa [noA] using hp
      exact (goes_of (tell0_ok _) (noTL_ok _ _) (noLoops ids36.2.2) ((b36 l nm i).trans (show _ = some (.ret, s36 l nm true (l.getD i default) i) by rw [lt_t hi, ix_t hi, hp, ix_t hi]; rfl))).post (keepOf [1, 4, 5, 6])
    · exact (goes_of (tell0_ok _) (noTL_ok _ _) (noLoops ids36.2.2) ((b36 l nm l.length).trans (show _ = some (.exit 0, s36 l nm false aZ l.length) by rw [lt_f (by omega)]))).post (keepOf [1, 4, 5, 6])
  · simp at h

def tA : Eng.Told Pl := tell 28 (pSt fun t => (true, .pl (pAttrs (attrsV t)) .any)) tell0
theorem tA_ok : TOk tA := tell_ok (pSt_ok fun t _ => Attrs_sound t) (tell0_ok _)

theorem e36 (t nm : Str) : evF tA noTL (atL 3 LS36 noL) 1 Tryd.f21 [.str t, .str nm] =
    ck_ (Nat.ble (attrsV t).length big) (bif Nat.beq (posA (attrsV t) nm) (attrsV t).length then some (.tup [.agg (cA aZ), .bool false]) else some (.tup [.agg (cA ((attrsV t).getD (posA (attrsV t) nm) default)), .bool true])) := by kernel_rfl

def hasA (l : List AttrR) (nm : Str) : Bool := !(Nat.beq (posA l nm) l.length)
def getA (l : List AttrR) (nm : Str) : AttrR := bif hasA l nm then l.getD (posA l nm) default else aZ

theorem FindA_sound (t nm : Str) : Snd 21 [.str t, .str nm] (.tup [.agg (cA (getA (attrsV t) nm)), .bool (hasA (attrsV t) nm)]) := by
  have he := e36 t nm
  have hlen := attrs_len t
  have hbig : big = 140737488355328 := rfl
  rw [ck_t (ble_t (by omega))] at he
  have hL := loops_of (f := 21) (L := atL 3 LS36 noL) (fn := Tryd.f21) (by kernel_rfl) (loops_1 ids36.1 (atL_ok (fun _ => LS36_ok) fun h => absurd ids36.2.1 h))
  unfold getA hasA
  cases h : Nat.beq (posA (attrsV t) nm) (attrsV t).length with
  | true => rw [h] at he; exact snd_fn (n := 1) tA_ok (noTL_ok _ _) (fn := Tryd.f21) (by kernel_rfl) hL he
  | false => rw [h] at he; exact snd_fn (n := 1) tA_ok (noTL_ok _ _) (fn := Tryd.f21) (by kernel_rfl) hL he

def pss (f : Str → Str → Bool × D Pl) : List (D Pl) → Option (Bool × D Pl)
  | [.str t, .str k] => some (f t k)
  | _ => none
theorem pss_ok {g : FuncId} {f : Str → Str → Bool × D Pl} (h : ∀ t k, (f t k).1 = true → Snd g [.str t, .str k] (f t k).2) : ∀ ds b d, pss f ds = some (b, d) → b = true → Snd g ds d := by
  intro ds b d hp hb
  unfold pss at hp
  split at hp
  · simp only [Option.some.injEq] at hp
    have h1 := h _ _ (by rw [hp]; exact hb)
    rw [hp] at h1
    exact h1
  · simp at hp

end Go.Proofs.YtibfgggccedmdaaDoor
