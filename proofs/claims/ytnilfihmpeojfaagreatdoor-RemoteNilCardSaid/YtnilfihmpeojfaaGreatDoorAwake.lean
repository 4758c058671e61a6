/-
  THE DOCUMENT's EXAMPLE OF A WORLD, evaluated whole.
-/
import Derived.Test.YtnilfihmpeojfaaGreatDoorCopy
namespace Go.Proofs.YtnilfihmpeojfaaGreatDoor
open Go.Eng

set_option maxRecDepth 100000

-- a note's attributes

def sNote : Str := [110, 111, 116, 101]
def sId : Str := [105, 100]
def sMeta : Str := [109, 101, 116, 97]
def sText : Str := [116, 101, 120, 116]
def attL : List AttrR := [⟨sId, 3, 0, false, true, false, false⟩, ⟨sMeta, 5, 0, false, false, false, false⟩, ⟨sText, 3, 0, false, false, false, false⟩]
theorem eAtt : evF tell0 noTL noL 5 Tryz.f70 [.str sNote] = some (.pl (pAttrs attL) .full) := by kernel_rfl
theorem attrs_some (l : List AttrR) (k : SK) (h : Nat.beq l.length 0 = false) : RDle (plC emp) (.pl (pAttrs l) k) (.pl (pAttrs l) (.nil false)) := by
  intro cx v hr
  have hne : ¬ l.length = 0 := fun e => by rw [e] at h; simp at h
  cases hr with
  | pl0 _ _ _ _ hl hk => exact absurd hl hne
  | pl b off n c _ _ vs hn hc hb hk hav hcell h1 hrd => exact .pl b off n c (pAttrs l) (.nil false) vs hn hc hb rfl hav hcell h1 hrd
def pAtt : List (D Pl) → Option (Bool × D Pl)
  | [.str t] => some (t == sNote, .pl (pAttrs attL) (.nil false))
  | _ => none
theorem pAtt_ok : ∀ ds b d, pAtt ds = some (b, d) → b = true → Snd 70 ds d := by
  intro ds b d h hb
  unfold pAtt at h
  split at h
  · simp only [Option.some.injEq, Prod.mk.injEq] at h
    obtain ⟨rfl, rfl⟩ := h
    rw [beq_iff_eq] at hb
    subst hb
    exact (snd_fn (n := 5) (tell0_ok _) (noTL_ok _ _) (fn := Tryz.f70) (by kernel_rfl) (fun _ _ b _ => noL_ok b) eAtt).post (attrs_some _ _ rfl)
  · simp at h

-- copies

def pCp : List (D Pl) → Option (Bool × D Pl)
  | [.agg cs] => match dV cs with
    | some v => match v.l with
      | x :: _ => bif x.kind == 3 then some (true, .agg (cV v)) else none
      | [] => none
    | none => none
  | _ => none
theorem pCp_ok : ∀ ds b d, pCp ds = some (b, d) → b = true → Snd 22 ds d := by
  intro ds b d h hb
  unfold pCp at h
  split at h
  · split at h
    · rename_i v hv
      split at h
      · simp only [Bool.cond_eq_ite] at h
        split at h
        · simp only [Option.some.injEq, Prod.mk.injEq] at h
          obtain ⟨_, rfl⟩ := h
          exact (copy_sound v).pre (.cons (RDle.agg (dV_rdle hv)) .nil)
        · simp at h
      · simp at h
    · simp at h
  · simp at h
def cQ (k : Int) (a : KeyR) (v u : Val) : List (D Pl) := .int .i64 k :: (cK a ++ (cV v ++ cV u))
def tCpy : Eng.Told Pl := tell 22 (p1 fun v => (true, .agg (cV v))) tell0
theorem tCpy_ok : TOk tCpy := tell_ok (p1_ok fun v _ => copy_sound v) (tell0_ok _)
theorem eCd (k : Int) (a : KeyR) (v u : Val) : evF tCpy noTL noL 3 Tryz.f20 [.agg (cQ k a v u)] = some (.agg (cQ k a (etaV v) (etaV u))) := by kernel_rfl
theorem copied_sound (k : Int) (a : KeyR) (v u : Val) : Snd 20 [.agg (cQ k a v u)] (.agg (cQ k a v u)) := by
  have := snd_fn (f := 20) (n := 3) tCpy_ok (noTL_ok _ _) (fn := Tryz.f20) (by kernel_rfl) (fun _ _ b _ => noL_ok b) (eCd k a v u)
  rwa [etaV_eq, etaV_eq] at this
def pCd : List (D Pl) → Option (Bool × D Pl)
  | [.agg (.int .i64 k :: .str a :: .str b :: .int .i64 c :: .int .i64 d :: .str e :: .int .u32 f :: rest)] => match dV (rest.take 8), dV (rest.drop 8) with
    | some v, some u => some (true, .agg (cQ k ⟨a, b, c, d, e, f⟩ v u))
    | _, _ => none
  | _ => none
theorem RDles.append {α : Type} {C : Pay α} : ∀ {a a' b b' : List (D α)}, RDles C a a' → RDles C b b' → RDles C (a ++ b) (a' ++ b')
  | _, _, _, _, .nil, h => h
  | _, _, _, _, .cons h1 h2, h => .cons h1 (RDles.append h2 h)
theorem pCd_ok : ∀ ds b d, pCd ds = some (b, d) → b = true → Snd 20 ds d := by
  intro ds b d h hb
  unfold pCd at h
  split at h
  · rename_i k a b' c d' e f rest
    split at h
    · rename_i v u hv hu
      simp only [Option.some.injEq, Prod.mk.injEq] at h
      obtain ⟨_, rfl⟩ := h
      refine (copied_sound k ⟨a, b', c, d', e, f⟩ v u).pre (.cons (RDle.agg ?_) .nil)
      unfold cQ
      have hr : RDles X0.C rest (cV v ++ cV u) := by
        rw [← List.take_append_drop 8 rest]
        exact RDles.append (dV_rdle hv) (dV_rdle hu)
      exact .cons (RDle.refl _) (.cons (RDle.refl _) (.cons (RDle.refl _) (.cons (RDle.refl _) (.cons (RDle.refl _) (.cons (RDle.refl _) (.cons (RDle.refl _) hr))))))
    · simp at h
  · simp at h

-- the example

noncomputable def tAw : Eng.Told Pl := tell 20 pCd (tell 22 pCp (tell 33 pClone (tell 70 pAtt tell0)))
theorem tAw_ok : TOk tAw := tell_ok pCd_ok (tell_ok pCp_ok (tell_ok pClone_ok (tell_ok pAtt_ok (tell0_ok _))))
theorem awake_eq : evF tAw noTL noL 12 Tryz.f6 [] = some (.bool true) := by kernel_rfl
theorem awake_sound : Snd 6 [] (.bool true) := snd_fn (n := 12) tAw_ok (noTL_ok _ _) (fn := Tryz.f6) (by kernel_rfl) (fun _ _ b _ => noL_ok b) awake_eq
def pAwake : List (D Pl) → Option (Bool × D Pl)
  | [] => some (true, .bool true)
  | _ => none
theorem pAwake_ok : ∀ ds b d, pAwake ds = some (b, d) → b = true → Snd 6 ds d := by
  intro ds b d h hb
  unfold pAwake at h
  split at h
  · simp only [Option.some.injEq, Prod.mk.injEq] at h
    obtain ⟨_, rfl⟩ := h
    exact awake_sound
  · simp at h
end Go.Proofs.YtnilfihmpeojfaaGreatDoor
