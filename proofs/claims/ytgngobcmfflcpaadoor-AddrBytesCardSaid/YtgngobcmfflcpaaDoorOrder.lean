/-
  THE ORDER OF ADDRESSES AND OBJECTS, by the program and by the document: what the code computes.
-/
import Derived.Test.YtgngobcmfflcpaaDoorLess
namespace Go.Proofs.YtgngobcmfflcpaaDoor
open Go.Eng

set_option maxRecDepth 100000

def cAd (k : KeyR) : List (D Pl) := [.str k.ty, .str k.name, dI k.kind, dI k.i, .str k.k]

def cmpS (a b : Str) : Int := bif ltS a b then -1 else bif !(ltS a b || a == b) then 1 else 0
def cmpI (a b : Int) : Int := bif decide (a < b) then -1 else bif decide (a > b) then 1 else 0

theorem e33 (a b : Str) : ev tell0 noTL 2 54 [.str a, .str b] = bif !(a == a) then (bif !(b == b) then some (dI 0) else some (dI (-1))) else bif !(b == b) then some (dI 1) else bif ltS a b then some (dI (-1)) else bif !(ltS a b || a == b) then some (dI 1) else some (dI 0) := by kernel_rfl
theorem e34 (a b : Int) : ev tell0 noTL 2 55 [dI a, dI b] = bif a != a then (bif b != b then some (dI 0) else some (dI (-1))) else bif b != b then some (dI 1) else bif decide (a < b) then some (dI (-1)) else bif decide (a > b) then some (dI 1) else some (dI 0) := by kernel_rfl
theorem e35 (a b : Int) : ev tell0 noTL 2 56 [dI a, dI b] = bif a != a then (bif b != b then some (dI 0) else some (dI (-1))) else bif b != b then some (dI 1) else bif decide (a < b) then some (dI (-1)) else bif decide (a > b) then some (dI 1) else some (dI 0) := by kernel_rfl
theorem e32 (a b : Int) : ev tell0 noTL 2 52 [.int .u32 a, .int .u32 b] = bif a != a then (bif b != b then some (dI 0) else some (dI (-1))) else bif b != b then some (dI 1) else bif decide (a < b) then some (dI (-1)) else bif decide (a > b) then some (dI 1) else some (dI 0) := by kernel_rfl

theorem cmpS_sound (a b : Str) : Snd 54 [.str a, .str b] (dI (cmpS a b)) := by
  refine snd_of (tell0_ok _) (noTL_ok _ _) ((e33 a b).trans ?_)
  rw [show (a == a) = true by simp, show (b == b) = true by simp]
  unfold cmpS
  cases ltS a b <;> cases a == b <;> rfl

theorem cmp_of {f : FuncId} {k : IntKind} {a b : Int} (h : ev tell0 noTL 2 f [.int k a, .int k b] = bif a != a then (bif b != b then some (dI 0) else some (dI (-1))) else bif b != b then some (dI 1) else bif decide (a < b) then some (dI (-1)) else bif decide (a > b) then some (dI 1) else some (dI 0)) (hlt : Nat.blt f 1000000 = true := by rfl) :
    Snd f [.int k a, .int k b] (dI (cmpI a b)) := by
  refine snd_of (tell0_ok _) (noTL_ok _ _) (h.trans ?_) hlt
  rw [show (a != a) = false by simp, show (b != b) = false by simp]
  unfold cmpI
  cases decide (a < b) <;> cases decide (a > b) <;> rfl

def pSS : List (D Pl) → Option (Bool × D Pl)
  | [.str a, .str b] => some (true, dI (cmpS a b))
  | _ => none
theorem pSS_ok : ∀ ds b d, pSS ds = some (b, d) → b = true → Snd 54 ds d := by
  intro ds b d h hb
  unfold pSS at h
  split at h
  · simp only [Option.some.injEq, Prod.mk.injEq] at h; obtain ⟨_, rfl⟩ := h; exact cmpS_sound _ _
  · simp at h
def pII (f : Int → Int → Int) : List (D Pl) → Option (Bool × D Pl)
  | [.int .i64 a, .int .i64 b] => some (true, dI (f a b))
  | _ => none
theorem pII_ok {g : FuncId} {f : Int → Int → Int} (hf : ∀ a b, Snd g [.int .i64 a, .int .i64 b] (dI (f a b))) : ∀ ds b d, pII f ds = some (b, d) → b = true → Snd g ds d := by
  intro ds b d h hb
  unfold pII at h
  split at h
  · simp only [Option.some.injEq, Prod.mk.injEq] at h; obtain ⟨_, rfl⟩ := h; exact hf _ _
  · simp at h
def pUU : List (D Pl) → Option (Bool × D Pl)
  | [.int .u32 a, .int .u32 b] => some (true, dI (cmpI a b))
  | _ => none
theorem pUU_ok : ∀ ds b d, pUU ds = some (b, d) → b = true → Snd 52 ds d := by
  intro ds b d h hb
  unfold pUU at h
  split at h
  · simp only [Option.some.injEq, Prod.mk.injEq] at h; obtain ⟨_, rfl⟩ := h; exact cmp_of (e32 _ _)
  · simp at h

def tCmp (R : Eng.Told Pl) : Eng.Told Pl := tell 54 pSS (tell 55 (pII cmpI) (tell 56 (pII cmpI) (tell 52 pUU R)))
theorem tCmp_ok {R : Eng.Told Pl} (h : TOk R) : TOk (tCmp R) := tell_ok pSS_ok (tell_ok (pII_ok fun a b => cmp_of (e34 a b)) (tell_ok (pII_ok fun a b => cmp_of (e35 a b)) (tell_ok pUU_ok h)))

def or1 (x : Int) (r : Option (D Pl)) : Option (D Pl) := bif x != 0 then some (dI x) else r

theorem e22 (a b : KeyR) : ev (tCmp tell0) noTL 2 38 [.agg (cAd a), .agg (cAd b)] = or1 (cmpS a.ty b.ty) (or1 (cmpS a.name b.name) (or1 (cmpI a.kind b.kind) (or1 (cmpI a.i b.i) (or1 (cmpS a.k b.k) (some (dI 0)))))) := by kernel_rfl

def orI (x y : Int) : Int := bif x != 0 then x else y
def cmpA (a b : KeyR) : Int := orI (cmpS a.ty b.ty) (orI (cmpS a.name b.name) (orI (cmpI a.kind b.kind) (orI (cmpI a.i b.i) (orI (cmpS a.k b.k) 0))))

theorem or1_eq (x y : Int) : or1 x (some (dI y)) = some (dI (orI x y)) := by unfold or1 orI; cases x != 0 <;> rfl

theorem cmpA_sound (a b : KeyR) : Snd 38 [.agg (cAd a), .agg (cAd b)] (dI (cmpA a b)) := by
  refine snd_of (tCmp_ok (tell0_ok _)) (noTL_ok _ _) ((e22 a b).trans ?_)
  simp only [or1_eq]; rfl

def dAd : List (D Pl) → Option KeyR
  | [.str ty, .str nm, .int .i64 kind, .int .i64 i, .str k] => some ⟨ty, nm, kind, i, k, .ofNat 0⟩
  | _ => none
def dKy : List (D Pl) → Option KeyR
  | [.str ty, .str nm, .int .i64 kind, .int .i64 i, .str k, .int .u32 n] => some ⟨ty, nm, kind, i, k, n⟩
  | _ => none
theorem dAd_eq {cs : List (D Pl)} {k : KeyR} (h : dAd cs = some k) : cs = cAd k := by
  unfold dAd at h
  split at h
  · simp only [Option.some.injEq] at h; subst h; rfl
  · simp at h
theorem dKy_eq {cs : List (D Pl)} {k : KeyR} (h : dKy cs = some k) : cs = cK k := by
  unfold dKy at h
  split at h
  · simp only [Option.some.injEq] at h; subst h; rfl
  · simp at h

def pAA (f : KeyR → KeyR → D Pl) : List (D Pl) → Option (Bool × D Pl)
  | [.agg x, .agg y] => match dAd x, dAd y with
    | some a, some b => some (true, f a b)
    | _, _ => none
  | _ => none
theorem pAA_ok {g : FuncId} {f : KeyR → KeyR → D Pl} (hf : ∀ a b, Snd g [.agg (cAd a), .agg (cAd b)] (f a b)) : ∀ ds b d, pAA f ds = some (b, d) → b = true → Snd g ds d := by
  intro ds b d h hb
  unfold pAA at h
  split at h
  · split at h
    · rename_i h1 h2
      simp only [Option.some.injEq, Prod.mk.injEq] at h
      obtain ⟨_, rfl⟩ := h
      rw [dAd_eq h1, dAd_eq h2]
      exact hf _ _
    · simp at h
  · simp at h
def pKK (f : KeyR → KeyR → D Pl) : List (D Pl) → Option (Bool × D Pl)
  | [.agg x, .agg y] => match dKy x, dKy y with
    | some a, some b => some (true, f a b)
    | _, _ => none
  | _ => none
theorem pKK_ok {g : FuncId} {f : KeyR → KeyR → D Pl} (hf : ∀ a b, Snd g [.agg (cK a), .agg (cK b)] (f a b)) : ∀ ds b d, pKK f ds = some (b, d) → b = true → Snd g ds d := by
  intro ds b d h hb
  unfold pKK at h
  split at h
  · split at h
    · rename_i h1 h2
      simp only [Option.some.injEq, Prod.mk.injEq] at h
      obtain ⟨_, rfl⟩ := h
      rw [dKy_eq h1, dKy_eq h2]
      exact hf _ _
    · simp at h
  · simp at h

/-- an address, its object's number aside -/
def ad0 (a : KeyR) : KeyR := ⟨a.ty, a.name, a.kind, a.i, a.k, .ofNat 0⟩

def tAA (R : Eng.Told Pl) : Eng.Told Pl := tell 38 (pAA fun a b => dI (cmpA a b)) (tCmp R)
theorem tAA_ok {R : Eng.Told Pl} (h : TOk R) : TOk (tAA R) := tell_ok (pAA_ok cmpA_sound) (tCmp_ok h)

theorem e21 (a b : KeyR) : ev (tAA tell0) noTL 2 35 [.agg (cK a), .agg (cK b)] = or1 (cmpA (ad0 a) (ad0 b)) (or1 (cmpI a.n b.n) (some (dI 0))) := by kernel_rfl
def cmpK (a b : KeyR) : Int := orI (cmpA a b) (orI (cmpI a.n b.n) 0)
theorem cmpA_ad0 (a b : KeyR) : cmpA (ad0 a) (ad0 b) = cmpA a b := rfl
theorem cmpK_sound (a b : KeyR) : Snd 35 [.agg (cK a), .agg (cK b)] (dI (cmpK a b)) := by
  refine snd_of (tAA_ok (tell0_ok _)) (noTL_ok _ _) ((e21 a b).trans ?_)
  simp only [or1_eq, cmpA_ad0]; rfl

def lessK (a b : KeyR) : Bool := decide (cmpK a b < 0)
def lessA (a b : KeyR) : Bool := decide (cmpA a b < 0)
theorem e9 (a b : KeyR) : ev (tAA tell0) noTL 2 18 [.agg (cAd a), .agg (cAd b)] = some (.bool (lessA (ad0 a) (ad0 b))) := by kernel_rfl
theorem lessA_sound (a b : KeyR) : Snd 18 [.agg (cAd a), .agg (cAd b)] (.bool (lessA a b)) := snd_of (tAA_ok (tell0_ok _)) (noTL_ok _ _) (e9 a b)

def ifn (c : Bool) (x : Bool) (r : Option (D Pl)) : Option (D Pl) := bif c then some (.bool x) else r
theorem e10 (a b : KeyR) : ev tell0 noTL 2 53 [.agg (cAd a), .agg (cAd b)] = ifn (!(a.ty == b.ty)) (ltS a.ty b.ty) (ifn (!(a.name == b.name)) (ltS a.name b.name) (ifn (a.kind != b.kind) (decide (a.kind < b.kind)) (ifn (a.i != b.i) (decide (a.i < b.i)) (some (.bool (ltS a.k b.k)))))) := by kernel_rfl
def docA (a b : KeyR) : Bool := bif !(a.ty == b.ty) then ltS a.ty b.ty else bif !(a.name == b.name) then ltS a.name b.name else bif a.kind != b.kind then decide (a.kind < b.kind) else bif a.i != b.i then decide (a.i < b.i) else ltS a.k b.k
theorem ifn_eq (c x y : Bool) : ifn c x (some (.bool y)) = some (.bool (bif c then x else y)) := by cases c <;> rfl
theorem docA_sound (a b : KeyR) : Snd 53 [.agg (cAd a), .agg (cAd b)] (.bool (docA a b)) := by
  refine snd_of (tell0_ok _) (noTL_ok _ _) ((e10 a b).trans ?_)
  simp only [ifn_eq]; rfl

def eqA (a b : KeyR) : Bool := a.ty == b.ty && (a.name == b.name && (a.kind == b.kind && (a.i == b.i && (a.k == b.k && true))))
def eqKy (a b : KeyR) : Bool := eqA a b && (a.n == b.n && true)
theorem e8 (a b : KeyR) : ev (tell 53 (pAA fun a b => .bool (docA a b)) tell0) noTL 2 37 [.agg (cK a), .agg (cK b)] = bif !(eqA a b) then some (.bool (docA (ad0 a) (ad0 b))) else some (.bool (decide (a.n < b.n))) := by kernel_rfl
def docK (a b : KeyR) : Bool := bif !(eqA a b) then docA a b else decide (a.n < b.n)
theorem docK_sound (a b : KeyR) : Snd 37 [.agg (cK a), .agg (cK b)] (.bool (docK a b)) := by
  refine snd_of (tell_ok (pAA_ok docA_sound) (tell0_ok _)) (noTL_ok _ _) ((e8 a b).trans ?_)
  unfold docK
  cases eqA a b <;> rfl

def grt (a : KeyR) : Bool := bif (bif decide ((a.ty.length : Int) > 200) then true else decide ((a.name.length : Int) > 200)) then true else decide ((a.k.length : Int) > 200)
theorem e5 (a : KeyR) : ev tell0 noTL 2 5 [.agg (cAd a)] = some (.bool (grt a)) := by kernel_rfl
def pA1 (f : KeyR → D Pl) : List (D Pl) → Option (Bool × D Pl)
  | [.agg x] => match dAd x with
    | some a => some (true, f a)
    | none => none
  | _ => none
theorem pA1_ok {g : FuncId} {f : KeyR → D Pl} (hf : ∀ a, Snd g [.agg (cAd a)] (f a)) : ∀ ds b d, pA1 f ds = some (b, d) → b = true → Snd g ds d := by
  intro ds b d h hb
  unfold pA1 at h
  split at h
  · split at h
    · rename_i h1
      simp only [Option.some.injEq, Prod.mk.injEq] at h
      obtain ⟨_, rfl⟩ := h
      rw [dAd_eq h1]
      exact hf _
    · simp at h
  · simp at h

end Go.Proofs.YtgngobcmfflcpaaDoor
