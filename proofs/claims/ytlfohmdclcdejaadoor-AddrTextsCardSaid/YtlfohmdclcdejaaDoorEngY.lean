/-
  THE BRIDGE: WHAT IS READ AS DATA BEFORE THE CALL READS AS THE ENGINE's DATA.
-/
import Derived.Test.YtlfohmdclcdejaaDoorEngX
import Derived.ProofKit
import Derived.Handed
import Derived.Carry
namespace Go.Eng
open Go.RowKit Go.ChangeShapes Go.WideShapes

section
variable {H : Type} {enc : TypeId × Value → H} {P : Program} {W : World} {emp : TypeId → Option Ty}

def w0cx (W : World) : Cx Pl := cx0 W (fun _ => False)

/-- cells that read as these -/
def RdCs (emp : TypeId → Option Ty) (W : World) (cs : List Value) (ds : List (D Pl)) : Prop :=
  cs.length = ds.length ∧ (∀ v ∈ cs, v.oneCell' = true) ∧ ∀ (i : Nat) v d, cs[i]? = some v → ds[i]? = some d → RD (plC emp) (w0cx W) v d

def Wt {H : Type} (P : Program) (t : TypeId) (d : DataW H) : Prop := (d.weights P t).all (fun n => decide (n ≤ reachBytes)) = true

/-- A type whose readings, so deep at most, are of this kind. -/
def RdAt (enc : TypeId × Value → H) (P : Program) (emp : TypeId → Option Ty) (W : World) (fuel : Nat) (t : TypeId) (ok : List (D Pl) → Prop) : Prop :=
  ∀ cs d ps, DataW.trod enc P W 0 (fun _ => true) true fuel t cs = some (d, ps) → Wt P t d → ∃ ds, ok ds ∧ RdCs emp W cs ds

theorem RdAt.mono {n : Nat} {t : TypeId} {ok ok' : List (D Pl) → Prop} (h : RdAt enc P emp W n t ok) (hk : ∀ ds, ok ds → ok' ds) : RdAt enc P emp W n t ok' :=
  fun cs d ps h1 h2 => let ⟨ds, h3, h4⟩ := h cs d ps h1 h2; ⟨ds, hk ds h3, h4⟩

theorem RdCs.one {v : Value} {d : D Pl} (h1 : v.oneCell' = true) (h : RD (plC emp) (w0cx W) v d) : RdCs emp W [v] [d] :=
  ⟨rfl, fun u hu => by simp only [List.mem_singleton] at hu; subst hu; exact h1, fun i u e hu he => by
    cases i with
    | zero => simp only [List.getElem?_cons_zero, Option.some.injEq] at hu he; subst hu he; exact h
    | succ i => simp at hu⟩

theorem RdCs.nil : RdCs emp W [] [] := ⟨rfl, fun v hv => by simp at hv, fun i v d h => by simp at h⟩

theorem RdCs.append {as bs : List Value} {ds es : List (D Pl)} (h : RdCs emp W as ds) (k : RdCs emp W bs es) : RdCs emp W (as ++ bs) (ds ++ es) := by
  refine ⟨by simp [h.1, k.1], fun v hv => ?_, fun i v d hv hd => ?_⟩
  · rcases List.mem_append.1 hv with h' | h'
    · exact h.2.1 v h'
    · exact k.2.1 v h'
  · rw [List.getElem?_append] at hv hd
    rw [← h.1] at hd
    split at hv
    · rename_i hlt; rw [if_pos hlt] at hd; exact h.2.2 i v d hv hd
    · rename_i hlt; rw [if_neg hlt] at hd; exact k.2.2 _ v d hv hd

theorem rd_zero {t : TypeId} {ok : List (D Pl) → Prop} : RdAt enc P emp W 0 t ok := by
  intro cs d ps h; simp [DataW.trod] at h

theorem rd_bool {t : TypeId} (hu : P.underlying t = some .bool) (n : Nat) : RdAt enc P emp W n t fun ds => ∃ b, ds = [.bool b] := by
  intro cs d ps h hw
  obtain ⟨b, rfl, _⟩ := DataW.trod_bool hu h
  exact ⟨[.bool b], ⟨b, rfl⟩, RdCs.one rfl (.bool b)⟩

theorem inR_of_wf {k : IntKind} {n : Int} (h : (Lit.int k n).wf = true) : inR k n = true := by
  simp only [Lit.wf, Bool.and_eq_true, decide_eq_true_eq] at h
  unfold inR
  simp only [Bool.and_eq_true, decide_eq_true_eq]
  have h1 := h.1
  have h2 := h.2
  cases k <;> simp_all [lo, hi, IntKind.min, IntKind.max, IntKind.bits, IntKind.signed]

theorem rd_int {t : TypeId} {k : IntKind} (hu : P.underlying t = some (.int k)) (n : Nat) : RdAt enc P emp W n t fun ds => ∃ i, inR k i = true ∧ ds = [.int k i] := by
  intro cs d ps h hw
  obtain ⟨i, rfl, _, hwf⟩ := DataW.trod_int hu h
  exact ⟨[.int k i], ⟨i, inR_of_wf hwf, rfl⟩, RdCs.one rfl (.int k i (inR_of_wf hwf))⟩

theorem rd_str {t : TypeId} (hu : P.underlying t = some .string) (n : Nat) : RdAt enc P emp W n t fun ds => ∃ s : Str, s.length ≤ reachBytes ∧ ds = [.str s] := by
  intro cs d ps h hw
  obtain ⟨s, rfl, hd, _⟩ := DataW.trod_string hu h
  simp only [Prod.mk.injEq] at hd
  obtain ⟨rfl, _⟩ := hd
  have hl : s.data.toList.length ≤ reachBytes := by simpa [Wt, DataW.weights] using hw
  exact ⟨[.str s.data.toList], ⟨_, hl, rfl⟩, RdCs.one rfl (.str s _ rfl (Nat.le_trans hl (by decide)))⟩

/-- fields one behind the other -/
inductive Flds (enc : TypeId × Value → H) (P : Program) (emp : TypeId → Option Ty) (W : World) (n : Nat) : Nat → List Field → Nat → (List (D Pl) → Prop) → Prop
  | nil (off : Nat) : Flds enc P emp W n off [] off (fun ds => ds = [])
  | cons (f : Field) (r : List Field) (off tot : Nat) (ok okr : List (D Pl) → Prop) (ho : f.offset = off) (h : RdAt enc P emp W n f.type ok) (hr : Flds enc P emp W n (off + P.cellsOf f.type) r tot okr) :
      Flds enc P emp W n off (f :: r) tot (fun ds => ∃ a b, ds = a ++ b ∧ ok a ∧ okr b)

theorem Flds.rd {n off tot : Nat} {fs : List Field} {ok : List (D Pl) → Prop} (h : Flds enc P emp W n off fs tot ok) : ∀ (cs : List Value) (xs : List (DataW H × List MemPlace)), cs.length = tot → xs.length = fs.length →
    (∀ (i : Nat) f, fs[i]? = some f → DataW.trod enc P W 0 (fun _ => true) true n f.type ((cs.drop f.offset).take (P.cellsOf f.type)) = xs[i]?) →
    (DataW.weightsEach P (fs.map (·.type)) (xs.map (·.1))).all (fun n => decide (n ≤ reachBytes)) = true → ∃ ds, ok ds ∧ RdCs emp W (cs.drop off) ds := by
  induction h with
  | nil off =>
    intro cs xs h1 h2 h3 h4
    refine ⟨[], rfl, ?_⟩
    rw [← h1]
    simp only [List.drop_length]
    exact RdCs.nil
  | cons f r off tot ok okr ho h hr ih =>
    intro cs xs h1 h2 h3 h4
    obtain ⟨x, xs, rfl⟩ : ∃ x ys, xs = x :: ys := by
      cases xs with
      | nil => simp at h2
      | cons x ys => exact ⟨x, ys, rfl⟩
    simp only [List.map_cons, DataW.weightsEach, List.all_append, Bool.and_eq_true] at h4
    have h0 := h3 0 f rfl
    simp only [List.getElem?_cons_zero] at h0
    obtain ⟨a, ha, hra⟩ := h _ x.1 x.2 h0 h4.1
    obtain ⟨b, hb, hrb⟩ := ih cs xs h1 (by simpa using h2) (fun i g hg => by simpa using h3 (i + 1) g (by simpa using hg)) h4.2
    refine ⟨a ++ b, ⟨a, b, rfl, ha, hb⟩, ?_⟩
    have : cs.drop off = (cs.drop f.offset).take (P.cellsOf f.type) ++ cs.drop (off + P.cellsOf f.type) := by
      rw [ho, ← List.drop_drop, List.take_append_drop]
    rw [this]
    exact hra.append hrb

theorem rd_struct {t : TypeId} {fs : Array Field} {ok : List (D Pl) → Prop} (hu : P.underlying t = some (.struct fs)) {n : Nat} (h : Flds enc P emp W n 0 fs.toList (P.cellsOf t) ok) :
    RdAt enc P emp W (n + 1) t ok := by
  intro cs d ps ht hw
  obtain ⟨xs, m, hm, hx, hl, hlen, hf⟩ := DataW.trod_struct hu ht
  obtain rfl : n = m := by omega
  simp only [Prod.mk.injEq] at hx
  obtain ⟨rfl, _⟩ := hx
  have := h.rd cs xs hl (by simpa using hlen) (fun i f hf' => hf i f (by simpa using hf')) (by simpa [Wt, DataW.weights, hu] using hw)
  simpa using this

theorem rd_slice {t e : TypeId} (ty : Ty) (hu : P.underlying t = some (.slice e)) (hc : P.cellsOf e = ty.ez) (hb : P.bytesOf e = ty.by') {n : Nat}
    (h : RdAt enc P emp W n e fun ds => ∃ x : ty.C, ds = ty.enc x) : RdAt enc P emp W (n + 1) t fun ds => ∃ l : List ty.C, l.length ≤ reachBytes ∧ ds = [.pl ⟨ty, l⟩ .any] := by
  classical
  intro cs d ps ht hw
  rcases DataW.trod_slice hu ht with ⟨rfl, _⟩ | ⟨a, len, cap, elems, rest, m, hm, rfl, hx, _, hlc, hcm, hel, he, _, _⟩
  · exact ⟨[.pl ⟨ty, []⟩ .any], ⟨[], by simp, rfl⟩, RdCs.one rfl (.pl0 none 0 _ _ rfl trivial)⟩
  obtain rfl : n = m := by omega
  simp only [Prod.mk.injEq] at hx
  obtain ⟨rfl, _⟩ := hx
  simp only [Wt, DataW.weights, hu, List.all_cons, List.all_append, Bool.and_eq_true, decide_eq_true_eq, List.length_map] at hw
  obtain ⟨hw0, hw1, _⟩ := hw
  have hez : 0 < ty.ez := by cases ty <;> decide
  have hby : 0 < ty.by' := by cases ty <;> decide
  have hlen : len * ty.by' ≤ reachBytes := by
    rw [← hb, ← hel]; exact Nat.le_trans (Nat.mul_le_mul_right _ (Nat.le_add_right _ _)) hw0
  have hlr : len ≤ reachBytes := Nat.le_trans (Nat.le_mul_of_pos_right _ hby) hlen
  have hwe : ∀ (i : Nat) (x : DataW H × List MemPlace), elems[i]? = some x → Wt P e x.1 := by
    intro i x hx
    have : ∀ l : List (DataW H × List MemPlace), (DataW.weightsAll P e (l.map (·.1))).all (fun n => decide (n ≤ reachBytes)) = true → ∀ x ∈ l, Wt P e x.1 := by
      intro l
      induction l with
      | nil => intro _ x hx; simp at hx
      | cons y r ih =>
        intro hl x hx
        simp only [List.map_cons, DataW.weightsAll, List.all_append, Bool.and_eq_true] at hl
        rcases List.mem_cons.1 hx with rfl | hx
        · exact hl.1
        · exact ih hl.2 x hx
    exact this elems hw1 x (List.mem_of_getElem? hx)
  have hx : ∀ i, i < len → ∃ (x : ty.C) (ci : List Value), W.cells? 0 (a.add (i * ty.ez)) ty.ez = some ci ∧ RdCs emp W ci (ty.enc x) := by
    intro i hi
    have h1 := he i hi
    have h2 : ∃ y, elems[i]? = some y := ⟨elems[i]'(by omega), by simp [hel, hi]⟩
    obtain ⟨y, hy⟩ := h2
    rw [hy] at h1
    simp only [Option.bind_eq_some_iff] at h1
    obtain ⟨ci, h3, h4⟩ := h1
    obtain ⟨ds, ⟨x, rfl⟩, h5⟩ := h ci y.1 y.2 h4 (hwe i y hy)
    rw [hc] at h3
    exact ⟨x, ci, h3, h5⟩
  obtain ⟨f, hf⟩ : ∃ f : Nat → ty.C, ∀ i, i < len → ∃ ci, W.cells? 0 (a.add (i * ty.ez)) ty.ez = some ci ∧ RdCs emp W ci (ty.enc (f i)) :=
    ⟨fun i => if hi : i < len then (hx i hi).choose else ty.dflt, fun i hi => by simp only [hi, dif_pos]; exact (hx i hi).choose_spec⟩
  refine ⟨[.pl ⟨ty, (List.range len).map f⟩ .any], ⟨_, by simpa using hlr, rfl⟩, RdCs.one rfl ?_⟩
  by_cases h0 : len = 0
  · subst h0
    exact .pl0 (some a) cap _ _ rfl trivial
  obtain ⟨b, off, spot⟩ := a
  have hspot : spot = none := by
    obtain ⟨ci, h1, h2⟩ := hf 0 (by omega)
    obtain ⟨_, hl, hcell⟩ := World.cells?_some h1
    have g0 := hcell 0 hez
    have hl2 := h2.1
    rw [Ty.enc_len] at hl2
    obtain ⟨c0, hc0⟩ : ∃ c0, ci[0]? = some c0 := ⟨ci[0]'(by omega), by simp [hl2, hez]⟩
    rw [hc0] at g0
    simpa [Addr.add] using World.cell?_spot g0
  subst hspot
  have hel' : ∀ i, i < len → (plC emp).elem ⟨ty, (List.range len).map f⟩ i = ty.enc (f i) := by
    intro i hi
    show ty.enc (((List.range len).map f).getD i ty.dflt) = _
    congr 1
    simp [hi]
  have key : ∀ (i j : Nat) d, i < len → ((plC emp).elem ⟨ty, (List.range len).map f⟩ i)[j]? = some d →
      ∃ v, W.cell? ⟨b, off + (i * ty.ez + j), none⟩ = some v ∧ v.oneCell' = true ∧ RD (plC emp) (w0cx W) v d := by
    intro i j d hi hd
    rw [hel' i hi] at hd
    obtain ⟨ci, h1, h2⟩ := hf i hi
    obtain ⟨_, hl, hcell⟩ := World.cells?_some h1
    have hj : j < ty.ez := by
      rw [← Ty.enc_len ty (f i)]
      exact (List.getElem?_eq_some_iff.1 hd).1
    have g := hcell j hj
    rw [add_plain, add_plain, Nat.add_assoc] at g
    have hl2 := h2.1
    rw [Ty.enc_len] at hl2
    have hcj : ci[j]? = some (ci[j]'(by omega)) := by simp [hl2, hj]
    refine ⟨ci[j]'(by omega), by rw [g, hcj], h2.2.1 _ (List.mem_of_getElem? hcj), h2.2.2 j _ _ hcj hd⟩
  refine .pl b off len cap _ .any (fun i j => (W.cell? ⟨b, off + (i * ty.ez + j), none⟩).getD default) (by show len = ((List.range len).map f).length; simp) hlc (Nat.le_trans hlen (by decide)) trivial (fun h => h) (fun i j d hi hd => ?_) (fun i j d hi hd => ?_) fun i j d hi hd => ?_
  · obtain ⟨v, h1, _⟩ := key i j d hi hd
    show W.cell? ⟨b, off + (i * ty.ez + j), none⟩ = some ((W.cell? ⟨b, off + (i * ty.ez + j), none⟩).getD default)
    rw [h1]; rfl
  · obtain ⟨v, h1, h2, _⟩ := key i j d hi hd
    show ((W.cell? ⟨b, off + (i * ty.ez + j), none⟩).getD default).oneCell' = _
    rw [h1]; exact h2
  · obtain ⟨v, h1, _, h3⟩ := key i j d hi hd
    show RD _ _ ((W.cell? ⟨b, off + (i * ty.ez + j), none⟩).getD default) _
    rw [h1]; exact h3

/-- An argument: its cells. -/
theorem arg_cells {t : TypeId} {v : Value} {d : DataW H} {p : List MemPlace} {ok : List (D Pl) → Prop} (h : DataW.Trod enc P W 0 (fun _ => true) true t v d p) (hw : Wt P t d) (hr : ∀ n, RdAt enc P emp W n t ok) :
    ∃ ds, ok ds ∧ RdCs emp W v.cells.toList ds := by
  obtain ⟨n, hn⟩ := h
  exact hr n _ _ _ hn hw

theorem arg_agg {t : TypeId} {v : Value} {fs : Array Field} {r : Reach} {base : Nat} {ds : List (D Pl)} (hu : P.underlying t = some (.struct fs)) (hv : Value.okWide P W r base t v) (h : RdCs emp W v.cells.toList ds) :
    RD (plC emp) (w0cx W) v (.agg ds) := by
  unfold Value.okWide at hv
  rw [hu] at hv
  obtain ⟨cs, rfl, _⟩ := hv
  refine .agg cs ds (by simpa [Value.cells] using h.1) (fun i v hi => h.2.1 v (List.mem_of_getElem? (i := i) (by simpa [Value.cells] using hi))) fun i v c hv hc => h.2.2 i v c (by simpa [Value.cells] using hv) hc

theorem arg_one {t : TypeId} {v : Value} {r : Reach} {base : Nat} {d : D Pl} (hs : shapeT P t = 1) (hv : Value.okWide P W r base t v) (h : RdCs emp W v.cells.toList [d]) : RD (plC emp) (w0cx W) v d := by
  have : v.cells = #[v] := by
    cases v with
    | agg cs =>
      exfalso
      unfold shapeT at hs
      unfold Value.okWide at hv
      split at hv
      · rename_i h'; rw [h'] at hs; simp at hs
      · rename_i h'; rw [h'] at hs; simp at hs
      · unfold Cell.okWide at hv
        split at hv <;> rename_i hx <;> first | (simp at hx; done) | skip
        all_goals (try (unfold Cell.ok at hv; split at hv <;> rename_i hy <;> simp_all))
    | _ => rfl
  rw [this] at h
  exact h.2.2 0 v d rfl rfl

end
end Go.Eng
