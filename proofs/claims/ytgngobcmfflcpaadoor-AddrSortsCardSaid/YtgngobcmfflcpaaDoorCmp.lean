/-
  compareKeys, and that the tape is only drawn on by it: so it is a comparison that the library may sort by.
-/
import Derived.Test.YtgngobcmfflcpaaDoorOrderLaw
namespace Go.Proofs.YtgngobcmfflcpaaDoor.Dr
open Go.Eng

set_option maxRecDepth 100000

abbrev Snd1 (f : FuncId) (ds : List (D Pl)) (d : D Pl) : Prop := SoundAt X1.P X1.C X1.glob f ds d
abbrev TOk1 (R : Eng.Told Pl) : Prop := ToldOk X1 R
noncomputable abbrev ev1 (R : Eng.Told Pl) (TL : LoopsT Pl) (n : Nat) (f : FuncId) (ds : List (D Pl)) : Option (D Pl) := callK X1 F0 R TL n f ds (fun d => some d)
theorem snd_of1 {R : Eng.Told Pl} (hR : TOk1 R) {TL : LoopsT Pl} (hTL : TLOk X1 F0 TL) {n : Nat} {f : FuncId} {ds : List (D Pl)} {d : D Pl} (h : ev1 R TL n f ds = some d) (hlt : Nat.blt f 1000000 = true := by rfl) : Snd1 f ds d := by
  obtain ⟨e, he, hs⟩ := callK_sound xok1 fok hR hTL h
  simp only [Option.some.injEq] at he
  subst he
  exact hs.1 hlt

theorem e33 (a b : Str) : ev1 tell0 noTL 2 54 [.str a, .str b] = bif !(a == a) then (bif !(b == b) then some (dI 0) else some (dI (-1))) else bif !(b == b) then some (dI 1) else bif ltS a b then some (dI (-1)) else bif !(ltS a b || a == b) then some (dI 1) else some (dI 0) := by kernel_rfl
theorem e34 (a b : Int) : ev1 tell0 noTL 2 55 [dI a, dI b] = bif a != a then (bif b != b then some (dI 0) else some (dI (-1))) else bif b != b then some (dI 1) else bif decide (a < b) then some (dI (-1)) else bif decide (a > b) then some (dI 1) else some (dI 0) := by kernel_rfl
theorem e35 (a b : Int) : ev1 tell0 noTL 2 56 [dI a, dI b] = bif a != a then (bif b != b then some (dI 0) else some (dI (-1))) else bif b != b then some (dI 1) else bif decide (a < b) then some (dI (-1)) else bif decide (a > b) then some (dI 1) else some (dI 0) := by kernel_rfl
theorem e32 (a b : Int) : ev1 tell0 noTL 2 52 [.int .u32 a, .int .u32 b] = bif a != a then (bif b != b then some (dI 0) else some (dI (-1))) else bif b != b then some (dI 1) else bif decide (a < b) then some (dI (-1)) else bif decide (a > b) then some (dI 1) else some (dI 0) := by kernel_rfl

theorem cmpS_sound (a b : Str) : Snd1 54 [.str a, .str b] (dI (cmpS a b)) := by
  refine snd_of1 (tell0_ok _) (noTL_ok _ _) ((e33 a b).trans ?_)
  rw [show (a == a) = true by simp, show (b == b) = true by simp]
  unfold cmpS
  cases ltS a b <;> cases a == b <;> rfl

theorem cmp_of {f : FuncId} {k : IntKind} {a b : Int} (h : ev1 tell0 noTL 2 f [.int k a, .int k b] = bif a != a then (bif b != b then some (dI 0) else some (dI (-1))) else bif b != b then some (dI 1) else bif decide (a < b) then some (dI (-1)) else bif decide (a > b) then some (dI 1) else some (dI 0)) (hlt : Nat.blt f 1000000 = true := by rfl) :
    Snd1 f [.int k a, .int k b] (dI (cmpI a b)) := by
  refine snd_of1 (tell0_ok _) (noTL_ok _ _) (h.trans ?_) hlt
  rw [show (a != a) = false by simp, show (b != b) = false by simp]
  unfold cmpI
  cases decide (a < b) <;> cases decide (a > b) <;> rfl

theorem pSS_ok : ∀ ds b d, pSS ds = some (b, d) → b = true → Snd1 54 ds d := by
  intro ds b d h hb
  unfold pSS at h
  split at h
  · simp only [Option.some.injEq, Prod.mk.injEq] at h; obtain ⟨_, rfl⟩ := h; exact cmpS_sound _ _
  · simp at h
theorem pII_ok {g : FuncId} {f : Int → Int → Int} (hf : ∀ a b, Snd1 g [.int .i64 a, .int .i64 b] (dI (f a b))) : ∀ ds b d, pII f ds = some (b, d) → b = true → Snd1 g ds d := by
  intro ds b d h hb
  unfold pII at h
  split at h
  · simp only [Option.some.injEq, Prod.mk.injEq] at h; obtain ⟨_, rfl⟩ := h; exact hf _ _
  · simp at h
theorem pUU_ok : ∀ ds b d, pUU ds = some (b, d) → b = true → Snd1 52 ds d := by
  intro ds b d h hb
  unfold pUU at h
  split at h
  · simp only [Option.some.injEq, Prod.mk.injEq] at h; obtain ⟨_, rfl⟩ := h; exact cmp_of (e32 _ _)
  · simp at h

def tCmp (R : Eng.Told Pl) : Eng.Told Pl := tell 54 pSS (tell 55 (pII cmpI) (tell 56 (pII cmpI) (tell 52 pUU R)))
theorem tCmp_ok {R : Eng.Told Pl} (h : TOk1 R) : TOk1 (tCmp R) := tell_ok pSS_ok (tell_ok (pII_ok fun a b => cmp_of (e34 a b)) (tell_ok (pII_ok fun a b => cmp_of (e35 a b)) (tell_ok pUU_ok h)))

theorem e22 (a b : KeyR) : ev1 (tCmp tell0) noTL 2 38 [.agg (cAd a), .agg (cAd b)] = or1 (cmpS a.ty b.ty) (or1 (cmpS a.name b.name) (or1 (cmpI a.kind b.kind) (or1 (cmpI a.i b.i) (or1 (cmpS a.k b.k) (some (dI 0)))))) := by kernel_rfl

theorem cmpA_sound (a b : KeyR) : Snd1 38 [.agg (cAd a), .agg (cAd b)] (dI (cmpA a b)) := by
  refine snd_of1 (tCmp_ok (tell0_ok _)) (noTL_ok _ _) ((e22 a b).trans ?_)
  simp only [or1_eq]; rfl

theorem pAA_ok {g : FuncId} {f : KeyR → KeyR → D Pl} (hf : ∀ a b, Snd1 g [.agg (cAd a), .agg (cAd b)] (f a b)) : ∀ ds b d, pAA f ds = some (b, d) → b = true → Snd1 g ds d := by
  intro ds b d h hb
  unfold pAA at h
  split at h
  · split at h
    · rename_i h1 h2
      simp only [Option.some.injEq, Prod.mk.injEq] at h
      obtain ⟨_, rfl⟩ := h
      rw [dAd_eq h1, dAd_eq h2]
      exact hf _ _
    · simp at h
  · simp at h
theorem pKK_ok {g : FuncId} {f : KeyR → KeyR → D Pl} (hf : ∀ a b, Snd1 g [.agg (cK a), .agg (cK b)] (f a b)) : ∀ ds b d, pKK f ds = some (b, d) → b = true → Snd1 g ds d := by
  intro ds b d h hb
  unfold pKK at h
  split at h
  · split at h
    · rename_i h1 h2
      simp only [Option.some.injEq, Prod.mk.injEq] at h
      obtain ⟨_, rfl⟩ := h
      rw [dKy_eq h1, dKy_eq h2]
      exact hf _ _
    · simp at h
  · simp at h

def tAA (R : Eng.Told Pl) : Eng.Told Pl := tell 38 (pAA fun a b => dI (cmpA a b)) (tCmp R)
theorem tAA_ok {R : Eng.Told Pl} (h : TOk1 R) : TOk1 (tAA R) := tell_ok (pAA_ok cmpA_sound) (tCmp_ok h)

theorem e21 (a b : KeyR) : ev1 (tAA tell0) noTL 2 35 [.agg (cK a), .agg (cK b)] = or1 (cmpA (ad0 a) (ad0 b)) (or1 (cmpI a.n b.n) (some (dI 0))) := by kernel_rfl
theorem cmpK_sound (a b : KeyR) : Snd1 35 [.agg (cK a), .agg (cK b)] (dI (cmpK a b)) := by
  refine snd_of1 (tAA_ok (tell0_ok _)) (noTL_ok _ _) ((e21 a b).trans ?_)
  simp only [or1_eq, cmpA_ad0]; rfl


end Go.Proofs.YtgngobcmfflcpaaDoor.Dr
