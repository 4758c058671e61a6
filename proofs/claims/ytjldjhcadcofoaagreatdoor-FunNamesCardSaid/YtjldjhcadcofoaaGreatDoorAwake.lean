/-
  THE DOCUMENT's EXAMPLES OF THE FUNCTIONS, evaluated whole.
-/
import Derived.Test.YtjldjhcadcofoaaGreatDoorConv
namespace Go.Proofs.YtjldjhcadcofoaaGreatDoor
open Go.Eng

set_option maxRecDepth 100000

def pClone : List (D Pl) → Option (Bool × D Pl)
  | [d] => match asL .strs d with
    | some l => some (true, .pl (pStrs l) .any)
    | none => none
  | _ => none
theorem pClone_ok : ∀ ds b d, pClone ds = some (b, d) → b = true → Snd 61 ds d := by
  intro ds b d h hb
  unfold pClone at h
  split at h
  · split at h
    · rename_i l hl
      simp only [Option.some.injEq, Prod.mk.injEq] at h
      obtain ⟨_, rfl⟩ := h
      exact (clone_sound l .any).pre (.cons (asL_rdle hl) .nil)
    · simp at h
  · simp at h

def sAny : Str := [97, 110, 121]
def sStr : Str := [115, 116, 114]
def sLst : Str := [108, 105, 115, 116, 40, 115, 116, 114, 41]
def sTwo : Str := sStr ++ [32] ++ sLst
def pFlds : List (D Pl) → Option (Bool × D Pl)
  | [.str s] => bif s == sAny then some (true, .pl (pStrs [sAny]) .any) else bif s == sTwo then some (true, .pl (pStrs [sStr, sLst]) .any) else none
  | _ => none
theorem pFlds_ok : ∀ ds b d, pFlds ds = some (b, d) → b = true → Snd 40 ds d := by
  intro ds b d h hb
  unfold pFlds at h
  split at h
  · rename_i s
    cases h1 : (s == sAny) with
    | true =>
      rw [h1] at h
      simp only [cond_true, Option.some.injEq, Prod.mk.injEq] at h
      obtain ⟨_, rfl⟩ := h
      rw [beq_iff_eq] at h1
      subst h1
      exact fields_sound sAny [sAny] (by kernel_rfl) (by kernel_rfl) (by decide) (by decide) (by kernel_rfl) (by decide)
    | false =>
      cases h2 : (s == sTwo) with
      | true =>
        rw [h1, h2] at h
        simp only [cond_true, cond_false, Option.some.injEq, Prod.mk.injEq] at h
        obtain ⟨_, rfl⟩ := h
        rw [beq_iff_eq] at h2
        subst h2
        exact fields_sound sTwo [sStr, sLst] (by kernel_rfl) (by kernel_rfl) (by decide) (by decide) (by kernel_rfl) (by decide)
      | false => rw [h1, h2] at h; simp at h
  · simp at h
def pRep : List (D Pl) → Option (Bool × D Pl)
  | [.pl ⟨.types, [x]⟩ _, .int .i64 2] => some (true, .pl ⟨.types, [x, x]⟩ .any)
  | _ => none
theorem pRep_ok : ∀ ds b d, pRep ds = some (b, d) → b = true → Snd 39 ds d := by
  intro ds b d h hb
  unfold pRep at h
  split at h
  · simp only [Option.some.injEq, Prod.mk.injEq] at h
    obtain ⟨_, rfl⟩ := h
    exact (repeat_sound _).pre (.cons (RDle.of (.any _ _)) (.cons (RDle.refl _) .nil))
  · simp at h
def pJn : List (D Pl) → Option (Bool × D Pl)
  | [.pl ⟨.strs, [x, y]⟩ _, .str s] => some (Nat.ble x.length 1000 && (Nat.ble y.length 1000 && Nat.ble s.length 1000), .str (x ++ s ++ y))
  | _ => none
theorem pJn_ok : ∀ ds b d, pJn ds = some (b, d) → b = true → Snd 75 ds d := by
  intro ds b d h hb
  unfold pJn at h
  split at h
  · simp only [Option.some.injEq, Prod.mk.injEq] at h
    obtain ⟨rfl, rfl⟩ := h
    simp only [Bool.and_eq_true, Nat.ble_eq] at hb
    exact (join_sound _ _ _ hb.1 hb.2.1 hb.2.2).pre (.cons (RDle.of (.any _ _)) (.cons (RDle.refl _) .nil))
  · simp at h

-- types' texts

section
variable (TM : Str → Int × Int) (OK : Str → Bool)
def pTp : List (D Pl) → Option (Bool × D Pl)
  | [.str s] => some (OK s, .tup [.agg [dI (TM s).1, dI (TM s).2], dI 0])
  | _ => none
end
def OK0 (s : Str) : Bool := typL.any fun x => x.1 == s
def TM0 (s : Str) : Int × Int := match typL.find? (fun x => x.1 == s) with
  | some x => x.2
  | none => (0, 0)
theorem tp_ok {f : FuncId} (hf : ∀ x ∈ typL, Snd f [.str x.1] (.tup [.agg [dI x.2.1, dI x.2.2], dI 0])) : ∀ ds b d, pTp TM0 OK0 ds = some (b, d) → b = true → Snd f ds d := by
  intro ds b d h hb
  unfold pTp at h
  split at h
  · rename_i s
    simp only [Option.some.injEq, Prod.mk.injEq] at h
    obtain ⟨rfl, rfl⟩ := h
    have h1 : ∃ x, typL.find? (fun x => x.1 == s) = some x := by
      rw [← Option.isSome_iff_exists, List.find?_isSome]
      unfold OK0 at hb
      rw [List.any_eq_true] at hb
      exact hb
    obtain ⟨x, hx⟩ := h1
    have hm := List.mem_of_find?_eq_some hx
    have he := List.find?_some hx
    simp only [beq_iff_eq] at he
    unfold TM0
    rw [hx, ← he]
    exact hf x hm
  · simp at h
theorem snd_plain {f : FuncId} {fn : Func} {ds : List (D Pl)} {d : D Pl} (hf : F0 f = some fn) (h : evF tell0 noTL noL 12 fn ds = some d) (hl : (loopsAt f).length = 0 ∨ ∀ code, fn.body = some code → ∀ b ∈ loopsOf code, LoopOk X0 noL b) : Snd f ds d := by
  refine snd_fn (n := 12) (tell0_ok _) (noTL_ok _ _) hf ?_ h
  rcases hl with hl | hl
  · exact loops_of hf (loops_0 hl)
  · exact hl
theorem noL_ok (b : Code) : LoopOk X0 noL b := fun S c r h => by simp [noL] at h
theorem snd_pl {f : FuncId} {fn : Func} {ds : List (D Pl)} {d : D Pl} (hf : F0 f = some fn) (h : evF tell0 noTL noL 12 fn ds = some d) : Snd f ds d := snd_plain hf h (.inr fun _ _ b _ => noL_ok b)
theorem typ_ok : ∀ ds b d, pTp TM0 OK0 ds = some (b, d) → b = true → Snd 35 ds d := tp_ok fun x hx => by
  simp only [typL, List.mem_cons, List.not_mem_nil, or_false] at hx
  rcases hx with rfl | rfl | rfl | rfl | rfl | rfl | rfl | rfl
  · exact snd_pl (fn := Tryz.f35) (by kernel_rfl) eTyp0
  · exact snd_pl (fn := Tryz.f35) (by kernel_rfl) eTyp1
  · exact snd_pl (fn := Tryz.f35) (by kernel_rfl) eTyp2
  · exact snd_pl (fn := Tryz.f35) (by kernel_rfl) eTyp3
  · exact snd_pl (fn := Tryz.f35) (by kernel_rfl) eTyp4
  · exact snd_pl (fn := Tryz.f35) (by kernel_rfl) eTyp5
  · exact snd_pl (fn := Tryz.f35) (by kernel_rfl) eTyp6
  · exact snd_pl (fn := Tryz.f35) (by kernel_rfl) eTyp7
theorem doc_ok : ∀ ds b d, pTp TM0 OK0 ds = some (b, d) → b = true → Snd 8 ds d := tp_ok fun x hx => by
  simp only [typL, List.mem_cons, List.not_mem_nil, or_false] at hx
  rcases hx with rfl | rfl | rfl | rfl | rfl | rfl | rfl | rfl
  · exact snd_pl (fn := Tryz.f8) (by kernel_rfl) eDoc0
  · exact snd_pl (fn := Tryz.f8) (by kernel_rfl) eDoc1
  · exact snd_pl (fn := Tryz.f8) (by kernel_rfl) eDoc2
  · exact snd_pl (fn := Tryz.f8) (by kernel_rfl) eDoc3
  · exact snd_pl (fn := Tryz.f8) (by kernel_rfl) eDoc4
  · exact snd_pl (fn := Tryz.f8) (by kernel_rfl) eDoc5
  · exact snd_pl (fn := Tryz.f8) (by kernel_rfl) eDoc6
  · exact snd_pl (fn := Tryz.f8) (by kernel_rfl) eDoc7

noncomputable def tAw : Eng.Told Pl := tell 61 pClone (tell 34 (pCmpV Lib.compareBytes) (tell 40 pFlds (tell 39 pRep (tell 75 pJn (tell 35 (pTp TM0 OK0) tell0)))))
theorem tAw_ok : TOk tAw := tell_ok pClone_ok (tell_ok pCmp_ok (tell_ok pFlds_ok (tell_ok pRep_ok (tell_ok pJn_ok (tell_ok typ_ok (tell0_ok _))))))
theorem awake_eq : evF tAw noTL noL 12 Tryz.f4 [] = some (.bool true) := by kernel_rfl
theorem awake_sound : Snd 4 [] (.bool true) := snd_fn (n := 12) tAw_ok (noTL_ok _ _) (fn := Tryz.f4) (by kernel_rfl) (fun _ _ b _ => noL_ok b) awake_eq
def pAwake : List (D Pl) → Option (Bool × D Pl)
  | [] => some (true, .bool true)
  | _ => none
theorem pAwake_ok : ∀ ds b d, pAwake ds = some (b, d) → b = true → Snd 4 ds d := by
  intro ds b d h hb
  unfold pAwake at h
  split at h
  · simp only [Option.some.injEq, Prod.mk.injEq] at h
    obtain ⟨_, rfl⟩ := h
    exact awake_sound
  · simp at h
end Go.Proofs.YtjldjhcadcofoaaGreatDoor
