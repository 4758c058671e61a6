/-
  THE STATEMENT: whatever the name, it is true.
-/
import Derived.Test.YtjldjhcadcofoaaGreatDoorNames
namespace Go.Proofs.YtjldjhcadcofoaaGreatDoor
open Go.Eng

set_option maxRecDepth 100000

-- the document's row

def rowO (s : Str) : Option (Str × Str × Str) := match findI s with
  | some i => some ((sg i).name, (sg i).of', (sg i).to)
  | none => none
theorem strs_some (l : List Str) (k : SK) (h : Nat.beq l.length 0 = false) : RDle (plC emp) (.pl (pStrs l) k) (.pl (pStrs l) (.nil false)) := by
  intro cx v hr
  have hne : ¬ l.length = 0 := fun e => by rw [e] at h; simp at h
  cases hr with
  | pl0 _ _ _ _ hl hk => exact absurd hl hne
  | pl b off n c _ _ vs hn hc hb hk hav hcell h1 hrd => exact .pl b off n c (pStrs l) (.nil false) vs hn hc hb rfl hav hcell h1 hrd
theorem row_sound (s : Str) : Snd 7 [.str s] (match rowO s with | none => .nilS | some (a, b, c) => .pl (pStrs [a, b, c]) (.nil false)) := by
  have h := (eRow s).trans (linK_eq s 42 0)
  unfold rowO
  have e : findF s 42 0 = findI s := rfl
  rw [e] at h
  cases hf : findI s with
  | none =>
    rw [hf] at h
    exact snd_pl (fn := Tryz.f7) (by kernel_rfl) h
  | some i =>
    rw [hf] at h
    exact (snd_pl (fn := Tryz.f7) (by kernel_rfl) h).post (strs_some _ _ rfl)

section
variable (RM : Str → Int × Int × Int) (TM : Str → Int × Int) (OK : Str → Bool) (RK : Str → Bool) (r : Option (Str × Str × Str))
def pRes : List (D Pl) → Option (Bool × D Pl)
  | [.str s] => some (true, .tup [.agg [dI (RM s).1, dI (RM s).2.1], dI (RM s).2.2])
  | _ => none
def pRow : List (D Pl) → Option (Bool × D Pl)
  | [.str s] => some (RK s, match r with | none => .nilS | some (a, b, c) => .pl (pStrs [a, b, c]) (.nil false))
  | _ => none
noncomputable def tFN : Eng.Told Pl := tell 4 pAwake (tell 6 (pRes RM) (tell 7 (pRow RK r) (tell 8 (pTp TM OK) tell0)))
end
def RK0 (r : Option (Str × Str × Str)) (s : Str) : Bool := decide (rowO s = r)
theorem pRes_ok : ∀ ds b d, pRes RM ds = some (b, d) → b = true → Snd 6 ds d := by
  intro ds b d h hb
  unfold pRes at h
  split at h
  · simp only [Option.some.injEq, Prod.mk.injEq] at h
    obtain ⟨_, rfl⟩ := h
    exact result_sound _
  · simp at h
theorem pRow_ok (r : Option (Str × Str × Str)) : ∀ ds b d, pRow (RK0 r) r ds = some (b, d) → b = true → Snd 7 ds d := by
  intro ds b d h hb
  unfold pRow at h
  split at h
  · rename_i s
    simp only [Option.some.injEq, Prod.mk.injEq] at h
    obtain ⟨rfl, rfl⟩ := h
    have : rowO s = r := by unfold RK0 at hb; exact of_decide_eq_true hb
    rw [← this]
    exact row_sound s
  · simp at h
theorem tFN_ok (r : Option (Str × Str × Str)) : TOk (tFN RM TM0 OK0 (RK0 r) r) := tell_ok pAwake_ok (tell_ok pRes_ok (tell_ok (pRow_ok r) (tell_ok doc_ok (tell0_ok _))))

def yesF : Option (D Pl) := some (.bool true)
def noF : Option (D Pl) := some (.bool false)
theorem eFN0 (s : Str) (RM : Str → Int × Int × Int) (TM : Str → Int × Int) (OK RK : Str → Bool) : evF (tFN RM TM OK RK none) noTL noL 9 Tryz.f3 [.str s] =
    bif decide ((s.length : Int) > 100) then yesF else ck_ (RK s) (bif ((bif ((RM s).1 == 0 && ((RM s).2.1 == 0 && true)) then ((RM s).2.2 == 9) else false) == true) then yesF else noF) := by kernel_rfl
theorem eFN1 (s a b c : Str) (RM : Str → Int × Int × Int) (TM : Str → Int × Int) (OK RK : Str → Bool) : evF (tFN RM TM OK RK (some (a, b, c))) noTL noL 9 Tryz.f3 [.str s] =
    bif decide ((s.length : Int) > 100) then yesF else ck_ (RK s) (ck_ (OK c) (bif ((bif ((RM s).1 == (TM c).1 && ((RM s).2.1 == (TM c).2 && true)) then ((RM s).2.2 == 0) else false) == true) then yesF else noF)) := by kernel_rfl
theorem names_sound (s : Str) : Snd 3 [.str s] (.bool true) := by
  cases hf : findI s with
  | none =>
    have hr : rowO s = none := by unfold rowO; rw [hf]
    have hk : RK0 none s = true := by unfold RK0; exact decide_eq_true hr
    have hm : RM s = (0, 0, 9) := by unfold RM; rw [hf]
    refine snd_fn (n := 9) (tFN_ok none) (noTL_ok _ _) (fn := Tryz.f3) (by kernel_rfl) (fun _ _ b _ => noL_ok b) ((eFN0 s RM TM0 OK0 (RK0 none)).trans ?_)
    rw [hk, hm, ck_t rfl]
    cases decide ((s.length : Int) > 100) <;> rfl
  | some i =>
    obtain ⟨_, hi, _⟩ := findF_some hf
    have hr : rowO s = some ((sg i).name, (sg i).of', (sg i).to) := by unfold rowO; rw [hf]
    have hk : RK0 (some ((sg i).name, (sg i).of', (sg i).to)) s = true := by unfold RK0; exact decide_eq_true hr
    have hm : RM s = ((TM0 (sg i).to).1, (TM0 (sg i).to).2, 0) := by unfold RM; rw [hf]
    refine snd_fn (n := 9) (tFN_ok _) (noTL_ok _ _) (fn := Tryz.f3) (by kernel_rfl) (fun _ _ b _ => noL_ok b) ((eFN1 s (sg i).name (sg i).of' (sg i).to RM TM0 OK0 (RK0 (some ((sg i).name, (sg i).of', (sg i).to)))).trans ?_)
    rw [hk, hm, ck_t rfl, ck_t (ok_to (by omega))]
    simp only [beq_self_eq_true, Bool.and_self, cond_true]
    cases decide ((s.length : Int) > 100) <;> rfl
end Go.Proofs.YtjldjhcadcofoaaGreatDoor
