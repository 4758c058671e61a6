/-
  A MAP's ELEMENT (the program's 'Get', the document's 'Element'): what the code computes.
-/
import Derived.Test.YtibfgggccedmdaaDoorCopy
namespace Go.Proofs.YtibfgggccedmdaaDoor
open Go.Eng

set_option maxRecDepth 100000

def vZ : Val := ⟨.ofNat 0, .ofNat 0, [], [], [], .ofNat 0, .ofNat 0, false⟩

theorem cZ_rdle : RDle (plC emp) (.agg cZ) (.agg (cV vZ)) :=
  RDle.agg (.cons (RDle.refl _) (.cons (RDle.refl _) (.cons (RDle.refl _) (.cons (RDle.of (.nil _ rfl)) (.cons (RDle.of (.nil _ rfl)) (RDles.refl _))))))

-- keys

def mnV (x y : Int) : Int := bif (bif false then decide (y > x) else decide (y < x)) then y else x

theorem mnV_eq (a b : Nat) : mnV a b = ((min a b : Nat) : Int) := by
  unfold mnV
  simp only [cond_false]
  by_cases h : (b : Int) < (a : Int)
  · rw [decide_eq_true h]; simp only [cond_true]; omega
  · rw [decide_eq_false h]; simp only [cond_false]; omega

theorem e38 (v : Val) : ev tell0 noTL 2 45 [.agg (cV v)] = bif v.kind != 5 then some .nilS else
    ck_ ((true && decide (0 ≤ mnV v.keys.length v.l.length) && decide (mnV v.keys.length v.l.length ≤ (v.keys.length : Int))) || false) (some (.pl (pStrs ((v.keys.drop 0).take ((mnV v.keys.length v.l.length).toNat - 0))) .any)) := by kernel_rfl

/-- the names that have an element -/
def keysV (v : Val) : List Str := bif v.kind != 5 then [] else v.keys.take (min v.keys.length v.l.length)

theorem keys_sound (v : Val) : Snd 45 [.agg (cV v)] (.pl (pStrs (keysV v)) .any) := by
  have he := e38 v
  unfold keysV
  cases hk : v.kind != 5 with
  | true =>
    rw [hk] at he
    exact (snd_of (tell0_ok _) (noTL_ok _ _) he).post (RDle.of (.nil _ rfl))
  | false =>
    rw [hk] at he
    refine snd_of (tell0_ok _) (noTL_ok _ _) (he.trans ?_)
    simp only [cond_false]
    rw [mnV_eq, ck_t (by rw [decide_eq_true (by omega), decide_eq_true (by omega)]; rfl), Int.toNat_natCast]
    rfl

def tKeys (R : Eng.Told Pl) : Eng.Told Pl := tell 45 (p1 fun v => (true, .pl (pStrs (keysV v)) .any)) R
theorem tKeys_ok {R : Eng.Told Pl} (hR : TOk R) : TOk (tKeys R) := tell_ok (p1_ok fun v _ => keys_sound v) hR

-- from

def fromV (v x : Val) : Val := ⟨x.kind, x.i, x.s, x.l, x.keys, x.tk, x.tof, bif x.sec then true else v.sec⟩

theorem e39 (v x : Val) : ev (tell 17 (p1 fun v => (true, .agg (cV v))) tell0) noTL 1 60 [.agg (cV v), .agg (cV x)] = some (.agg (cV (fromV v x))) := by kernel_rfl

theorem from_sound (v x : Val) : Snd 60 [.agg (cV v), .agg (cV x)] (.agg (cV (fromV v x))) := snd_of (tell_ok (p1_ok fun v _ => copy_sound v) (tell0_ok _)) (noTL_ok _ _) (e39 v x)

/-- a contract for a value and a text -/
def pvs (f : Val → Str → Bool × D Pl) : List (D Pl) → Option (Bool × D Pl)
  | [d, .str k] => match asV d with
    | some a => some (f a k)
    | none => none
  | _ => none

theorem pvs_ok {g : FuncId} {f : Val → Str → Bool × D Pl} (h : ∀ v k, (f v k).1 = true → Snd g [.agg (cV v), .str k] (f v k).2) : ∀ ds b d, pvs f ds = some (b, d) → b = true → Snd g ds d := by
  intro ds b d hp hb
  unfold pvs at hp
  split at hp
  · split at hp
    · rename_i ha
      simp only [Option.some.injEq] at hp
      have h1 := h _ _ (by rw [hp]; exact hb)
      rw [hp] at h1
      exact h1.pre (.cons (asV_rdle ha) (.cons (RDle.refl _) .nil))
    · simp at hp
  · simp at hp

-- Get

def tGet : Eng.Told Pl := tKeys (tell 59 pIndex (tell 60 (pvv fun v x => (true, .agg (cV (fromV v x)))) tell0))
theorem tGet_ok : TOk tGet := tKeys_ok (tell_ok pIndex_ok (tell_ok (pvv_ok fun v x _ => from_sound v x) (tell0_ok _)))

theorem e25 (v : Val) (k : Str) : ev tGet noTL 1 39 [.agg (cV v), .str k] = bif v.kind != 5 then some (.tup [.agg cZ, dI 8]) else bif decide (idxV (keysV (etaV v)) k < 0) then some (.tup [.agg cZ, dI 11]) else
    ck_ ((decide (0 ≤ idxV (keysV (etaV v)) k) && decide (idxV (keysV (etaV v)) k < (v.l.length : Int))) || false) (some (.tup [.agg (cV (fromV v (v.l.getD (idxV (keysV (etaV v)) k).toNat default))), dI 0])) := by kernel_rfl

/-- has it that name? -/
def hasV (v : Val) (k : Str) : Bool := !(Nat.beq (posN (keysV v) k) (keysV v).length)
def elemV (v : Val) (k : Str) : Val := bif hasV v k then fromV v (v.l.getD (posN (keysV v) k) default) else vZ
def errV (v : Val) (k : Str) : Int := bif v.kind != 5 then 8 else bif hasV v k then 0 else 11

theorem posN_le (l : List Str) (k : Str) : posN l k ≤ l.length := by
  unfold posN
  rcases ff_spec l.length (fun i => !(k == l.getD i [])) with ⟨h, _⟩ | ⟨h, _⟩ <;> omega

theorem keysV_len (v : Val) : (keysV v).length ≤ v.l.length := by
  unfold keysV
  cases v.kind != 5 with
  | true => simp
  | false => simp only [cond_false, List.length_take]; omega

theorem RDle.tup {cs ds : List (D Pl)} (h : RDles (plC emp) cs ds) : RDle (plC emp) (.tup cs) (.tup ds) := by
  intro cx v hr
  obtain ⟨hl, hg⟩ := h.spec
  cases hr with
  | tup vs _ hs hrd =>
    refine .tup vs ds (hs.trans hl) fun i v c hv hc => ?_
    obtain ⟨e, he, hle⟩ := hg i c hc
    exact hle _ _ (hrd i v e hv he)

theorem get_sound (v : Val) (k : Str) : Snd 39 [.agg (cV v), .str k] (.tup [.agg (cV (elemV v k)), dI (errV v k)]) := by
  have he := e25 v k
  rw [etaV_eq] at he
  have hz : ∀ n, RDle (plC emp) (.tup [.agg cZ, dI n]) (.tup [.agg (cV vZ), dI n]) := fun n => RDle.tup (.cons cZ_rdle (RDles.refl _))
  cases hk : v.kind != 5 with
  | true =>
    rw [hk] at he
    have h1 : hasV v k = false := by
      unfold hasV keysV
      rw [hk]; rfl
    unfold elemV errV
    rw [h1, hk]
    exact (snd_of tGet_ok (noTL_ok _ _) he).post (hz 8)
  | false =>
    rw [hk] at he
    simp only [cond_false] at he
    unfold elemV errV
    rw [hk]
    have hle := posN_le (keysV v) k
    have hll := keysV_len v
    cases h1 : hasV v k with
    | false =>
      have h2 : Nat.beq (posN (keysV v) k) (keysV v).length = true := by simpa [hasV] using h1
      have h3 : idxV (keysV v) k = -1 := by unfold idxV; rw [h2]; rfl
      rw [h3] at he
      exact (snd_of tGet_ok (noTL_ok _ _) he).post (hz 11)
    | true =>
      have h2 : Nat.beq (posN (keysV v) k) (keysV v).length = false := by simpa [hasV] using h1
      have h3 : idxV (keysV v) k = (posN (keysV v) k : Int) := by unfold idxV; rw [h2]; rfl
      have h4 : posN (keysV v) k < (keysV v).length := by
        rcases Nat.lt_or_ge (posN (keysV v) k) (keysV v).length with h | h
        · exact h
        · have : posN (keysV v) k = (keysV v).length := by omega
          rw [this, Nat.beq_refl] at h2; simp at h2
      rw [h3, decide_eq_false (show ¬ ((posN (keysV v) k : Int) < 0) by omega), ck_t (by rw [decide_eq_true (by omega), decide_eq_true (by omega)]; rfl), Int.toNat_natCast] at he
      exact snd_of tGet_ok (noTL_ok _ _) he

theorem e44 (v : Val) (k : Str) : ev (tell 39 (pvs fun v k => (true, .tup [.agg (cV (elemV v k)), dI (errV v k)])) tell0) noTL 1 77 [.agg (cV v), .str k] = some (.agg (cV (elemV (etaV v) k))) := by kernel_rfl

theorem element_sound (v : Val) (k : Str) : Snd 77 [.agg (cV v), .str k] (.agg (cV (elemV v k))) := by
  have := snd_of (tell_ok (pvs_ok fun v k _ => get_sound v k) (tell0_ok _)) (noTL_ok _ _) (e44 v k)
  rwa [etaV_eq] at this

end Go.Proofs.YtibfgggccedmdaaDoor
