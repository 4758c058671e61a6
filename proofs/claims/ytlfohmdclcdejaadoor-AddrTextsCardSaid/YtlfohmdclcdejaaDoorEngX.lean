/-
  THE ENGINE, PART X: CONTRACTS TURNED: less is said; arguments split.
-/
import Derived.Test.YtlfohmdclcdejaaDoorEngW
namespace Go.Eng
open Go.RowKit

variable {α : Type} {P : Program} {C : Pay α} {glob : Nat → Option (List (D α))}

theorem CallOk.mono {f : FuncId} {vs : Array Value} {w : World} {A B : Value → World → Prop} (h : CallOk P f vs w A) (hAB : ∀ v w', A v w' → B v w') : CallOk P f vs w B := by
  rcases h with ⟨h1, h2⟩ | ⟨v, w', h1, h2⟩
  · exact .inl ⟨h1, h2.mono fun e w' ⟨v, he, hv⟩ => ⟨v, he, hAB v w' hv⟩⟩
  · exact .inr ⟨v, w', h1, hAB v w' h2⟩

theorem SoundAt.weaken {f : FuncId} {ds : List (D α)} {d d' : D α} (h : SoundAt P C glob f ds d) (hl : Dle C d d') : SoundAt P C glob f ds d' :=
  fun w av vs hg ha hs hr => (h w av vs hg ha hs hr).mono fun _ _ ⟨h1, h2, h3⟩ => ⟨h1.le hl, h2, by cases hl <;> first | exact h3 | trivial⟩

theorem RD.split {cx : Cx α} {v : Value} {p : α} {k : SK} (h : RD C cx v (.pl p k)) : ∃ b, RD C cx v (.pl p (.nil b)) ∧ (b = true → C.len p = 0) := by
  cases h with
  | pl0 a c _ _ hl hk => exact ⟨a.isNone, .pl0 a c p _ hl rfl, fun _ => hl⟩
  | pl b off n c _ _ vs hn hc hb hk hav hcell h1 hrd => exact ⟨false, .pl b off n c p _ vs hn hc hb rfl hav hcell h1 hrd, by simp⟩

/-- An argument's slice is nil, or it isn't. -/
theorem SoundAt.nilOr {f : FuncId} {pre post : List (D α)} {p : α} {k : SK} {d : D α} (h : ∀ b, (b = true → C.len p = 0) → SoundAt P C glob f (pre ++ .pl p (.nil b) :: post) d) :
    SoundAt P C glob f (pre ++ .pl p k :: post) d := by
  intro w av vs hg ha hs hr
  have hlt : pre.length < vs.size := by rw [hs]; simp
  have hi : (pre ++ .pl p k :: post)[pre.length]? = some (.pl p k) := by simp
  obtain ⟨b, hb, hl⟩ := RD.split (hr pre.length vs[pre.length] _ (by simp [hlt]) hi)
  refine h b hl w av vs hg ha (by rw [hs]; simp) fun i v c hv hc => ?_
  by_cases he : i = pre.length
  · subst he
    have : v = vs[pre.length] := by simpa [hlt] using hv.symm
    subst this
    simp only [List.getElem?_append_right (Nat.le_refl _), Nat.sub_self, List.getElem?_cons_zero, Option.some.injEq] at hc
    subst hc
    exact hb
  · refine hr i v c hv ?_
    rw [List.getElem?_append] at hc ⊢
    split
    · rename_i hlt'; rw [if_pos hlt'] at hc; exact hc
    · rename_i hlt'
      rw [if_neg hlt'] at hc
      obtain ⟨m, hm⟩ := Nat.exists_eq_add_of_lt (show 0 < i - pre.length by omega)
      have e : i - pre.length = m + 1 := by omega
      rw [e] at hc ⊢
      simpa using hc

theorem RD.room {cx : Cx α} {v : Value} {p : α} {k : SK} (h : RD C cx v (.pl p k)) : C.len p * C.bys p ≤ big := by
  cases h with
  | pl0 a c _ _ hl hk => rw [hl]; simp
  | pl b off n c _ _ vs hn hc hb hk hav hcell h1 hrd => rw [← hn]; exact hb

/-- An argument's slice has room in what there is. -/
theorem SoundAt.room {f : FuncId} {pre post : List (D α)} {p : α} {k : SK} {d : D α} (h : C.len p * C.bys p ≤ big → SoundAt P C glob f (pre ++ .pl p k :: post) d) :
    SoundAt P C glob f (pre ++ .pl p k :: post) d := by
  intro w av vs hg ha hs hr
  have hlt : pre.length < vs.size := by rw [hs]; simp
  have hi : (pre ++ .pl p k :: post)[pre.length]? = some (.pl p k) := by simp
  exact h (RD.room (hr pre.length vs[pre.length] _ (by simp [hlt]) hi)) w av vs hg ha hs hr

/-- Contracts told one behind the other. -/
def orTold (a b : Told α) : Told α := fun f ds => match a f ds with
  | some r => some r
  | none => b f ds

end Go.Eng
