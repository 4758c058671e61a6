/-
  THE DOCUMENT's SORTING, plainly: what is put in its place, each once, is the sorted list of what there is.
-/
import Derived.Test.YtgngobcmfflcpaaDoorOrderLaw
namespace Go.Proofs.YtgngobcmfflcpaaDoor
open Go.Eng

set_option maxRecDepth 100000

theorem eqKy_eq {a b : KeyR} (h : eqKy a b = true) : a = b := by
  obtain ⟨a1, a2, a3, a4, a5, a6⟩ := a
  obtain ⟨b1, b2, b3, b4, b5, b6⟩ := b
  simp only [eqKy, eqA, Bool.and_eq_true, beq_iff_eq] at h
  obtain ⟨⟨h1, h2, h3, h4, h5, _⟩, h6, _⟩ := h
  subst h1 h2 h3 h4 h5 h6
  rfl
theorem cmpK_0 {a b : KeyR} (h : cmpK a b = 0) : a = b := by
  have := cmpK_ne a b
  rw [h] at this
  exact eqKy_eq (by simpa using this)

/-- Sorted: not behind. -/
def leK (a b : KeyR) : Bool := !(lessK b a)
def sortK (l : List KeyR) : List KeyR := l.mergeSort leK

theorem leK_trans (a b c : KeyR) (h1 : leK a b = true) (h2 : leK b c = true) : leK a c = true := by
  simp only [leK, lessK, Bool.not_eq_true', decide_eq_false_iff_not] at *
  have a1 := pre_K.anti a b
  have a2 := pre_K.anti b c
  have a3 := pre_K.anti a c
  have := pre_K.le a b c (by omega) (by omega)
  omega
theorem leK_total (a b : KeyR) : (leK a b || leK b a) = true := by
  simp only [leK, lessK, Bool.or_eq_true, Bool.not_eq_true', decide_eq_false_iff_not]
  have a1 := pre_K.anti a b
  omega
theorem leK_anti (a b : KeyR) (h1 : leK a b = true) (h2 : leK b a = true) : a = b := by
  simp only [leK, lessK, Bool.not_eq_true', decide_eq_false_iff_not] at *
  have a1 := pre_K.anti a b
  exact cmpK_0 (by omega)

/-- However they came: there is one sorted list of them. -/
theorem sortK_perm {l l' : List KeyR} (h : l.Perm l') : sortK l = sortK l' :=
  List.Perm.eq_of_pairwise (le := fun x y => leK x y = true) (fun a b _ _ h1 h2 => leK_anti a b h1 h2) (List.pairwise_mergeSort leK_trans leK_total _) (List.pairwise_mergeSort leK_trans leK_total _) (((List.mergeSort_perm _ _).trans h).trans (List.mergeSort_perm _ _).symm)

theorem less_iff (a b : KeyR) : lessK a b = true ↔ cmpK a b < 0 := by simp [lessK]
theorem less_trans {a b c : KeyR} (h1 : lessK a b = true) (h2 : lessK b c = true) : lessK a c = true := by
  rw [less_iff] at *
  have a1 := pre_K.anti a b
  have a2 := pre_K.anti b c
  have a3 := pre_K.anti a c
  have h3 := pre_K.le a b c (by omega) (by omega)
  by_cases h0 : cmpK a c = 0
  · have := pre_K.le c a b (by omega) (by omega)
    omega
  · omega
theorem less_irr (a : KeyR) : lessK a a = false := by
  have := pre_K.anti a a
  simp [lessK]; omega
theorem less_tri {a b : KeyR} (h1 : lessK a b = false) (h2 : a ≠ b) : lessK b a = true := by
  have a1 := pre_K.anti a b
  have : cmpK a b ≠ 0 := fun h => h2 (cmpK_0 h)
  simp only [lessK, decide_eq_false_iff_not, decide_eq_true_eq] at *
  omega
theorem eqKy_iff (a b : KeyR) : eqKy a b = true ↔ a = b := ⟨eqKy_eq, fun h => by subst h; simp [eqKy, eqA]⟩

def hasK (o : List KeyR) (x : KeyR) : Bool := o.any fun y => eqKy y x
theorem hasK_iff (o : List KeyR) (x : KeyR) : hasK o x = true ↔ x ∈ o := by
  simp only [hasK, List.any_eq_true, eqKy_iff]
  exact ⟨fun ⟨y, h, e⟩ => e ▸ h, fun h => ⟨x, h, rfl⟩⟩

/-- The document's: put in its place, unless it is there. -/
def atK (o : List KeyR) (x : KeyR) : Nat := (o.takeWhile fun y => docK y x).length
def insK (o : List KeyR) (x : KeyR) : List KeyR := bif hasK o x then o else (o.take (atK o x) ++ [x]) ++ o.drop (atK o x)
def docS (l : List KeyR) : List KeyR := l.foldl insK []

abbrev Strict (o : List KeyR) : Prop := o.Pairwise fun a b => lessK a b = true

theorem take_at (o : List KeyR) (x : KeyR) : o.take (atK o x) = o.takeWhile (fun y => docK y x) ∧ o.drop (atK o x) = o.dropWhile (fun y => docK y x) := by
  have h := List.takeWhile_append_dropWhile (p := fun y => docK y x) (l := o)
  unfold atK
  constructor
  · have e := congrArg (List.take (o.takeWhile fun y => docK y x).length) h
    rw [List.take_left] at e
    exact e.symm
  · have e := congrArg (List.drop (o.takeWhile fun y => docK y x).length) h
    rw [List.drop_left] at e
    exact e.symm

theorem dropWhile_head {p : KeyR → Bool} : ∀ {l : List KeyR} {b : KeyR} {r : List KeyR}, l.dropWhile p = b :: r → p b = false
  | [], _, _, h => by simp at h
  | a :: l, b, r, h => by
    rw [List.dropWhile_cons] at h
    split at h
    · exact dropWhile_head h
    · rename_i hp
      simp only [List.cons.injEq] at h
      rw [← h.1]; simpa using hp

theorem insK_ok {o : List KeyR} (h : Strict o) (x : KeyR) : Strict (insK o x) ∧ ∀ y, y ∈ insK o x ↔ y ∈ o ∨ y = x := by
  unfold insK
  cases hx : hasK o x with
  | true =>
    have := (hasK_iff o x).1 hx
    exact ⟨h, fun y => ⟨.inl, fun e => e.elim id fun e => e ▸ this⟩⟩
  | false =>
    have hn : x ∉ o := fun e => by rw [(hasK_iff o x).2 e] at hx; cases hx
    simp only [cond_false]
    obtain ⟨t1, t2⟩ := take_at o x
    rw [t1, t2]
    have hab := List.takeWhile_append_dropWhile (p := fun y => docK y x) (l := o)
    have hA : ∀ a ∈ o.takeWhile (fun y => docK y x), lessK a x = true := fun a ha => by
      have : docK a x = true := List.all_eq_true.1 (List.all_takeWhile (p := fun y => docK y x) (l := o)) a ha
      rwa [← lessK_eq] at this
    have hB : ∀ b ∈ o.dropWhile (fun y => docK y x), lessK x b = true := by
      intro b hb
      have hs : Strict (o.dropWhile (fun y => docK y x)) := by
        have h' := h
        rw [← hab] at h'
        exact (List.pairwise_append.1 h').2.1
      cases hd : o.dropWhile (fun y => docK y x) with
      | nil => rw [hd] at hb; simp at hb
      | cons c r =>
        have hc : lessK c x = false := by rw [lessK_eq]; exact dropWhile_head (p := fun y => docK y x) hd
        have hco : c ∈ o := by rw [← hab, hd]; simp
        have hxc : lessK x c = true := less_tri hc fun e => hn (e ▸ hco)
        rw [hd] at hb hs
        rcases List.mem_cons.1 hb with rfl | hb
        · exact hxc
        · exact less_trans hxc ((List.pairwise_cons.1 hs).1 b hb)
    refine ⟨?_, fun y => ?_⟩
    · have h' := h
      rw [← hab] at h'
      obtain ⟨p1, p2, p3⟩ := List.pairwise_append.1 h'
      refine List.pairwise_append.2 ⟨List.pairwise_append.2 ⟨p1, List.pairwise_singleton _ _, fun a ha b hb => ?_⟩, p2, fun a ha b hb => ?_⟩
      · simp only [List.mem_singleton] at hb; subst hb; exact hA a ha
      · rcases List.mem_append.1 ha with ha | ha
        · exact p3 a ha b hb
        · simp only [List.mem_singleton] at ha; subst ha; exact hB b hb
    · rw [List.mem_append, List.mem_append, List.mem_singleton]
      conv => rhs; rw [← hab, List.mem_append]
      constructor
      · rintro ((h | h) | h)
        · exact .inl (.inl h)
        · exact .inr h
        · exact .inl (.inr h)
      · rintro ((h | h) | h)
        · exact .inl (.inl h)
        · exact .inr h
        · exact .inl (.inr h)

theorem docS_from (l : List KeyR) : ∀ o, Strict o → Strict (l.foldl insK o) ∧ ∀ y, y ∈ l.foldl insK o ↔ y ∈ o ∨ y ∈ l := by
  induction l with
  | nil => intro o h; exact ⟨h, fun y => by simp⟩
  | cons x r ih =>
    intro o h
    obtain ⟨h1, h2⟩ := insK_ok h x
    obtain ⟨h3, h4⟩ := ih _ h1
    refine ⟨h3, fun y => ?_⟩
    rw [List.foldl_cons, h4, h2, List.mem_cons, or_assoc]
theorem docS_ok (l : List KeyR) : Strict (docS l) ∧ ∀ y, y ∈ docS l ↔ y ∈ l := by
  obtain ⟨h1, h2⟩ := docS_from l [] List.Pairwise.nil
  exact ⟨h1, fun y => by rw [docS, h2]; simp⟩

-- the program's: the keys of a map

def mapS (l : List KeyR) : List (KeyR × Unit) := l.foldl (fun m x => putM (k := .key) (v := .unit) m x ()) []

theorem ktEq_iff (a b : KeyR) : KT.eq .key a b = true ↔ a = b := by
  constructor
  · intro h
    obtain ⟨a1, a2, a3, a4, a5, a6⟩ := a
    obtain ⟨b1, b2, b3, b4, b5, b6⟩ := b
    simp only [KT.eq, Bool.and_eq_true, beq_iff_eq] at h
    obtain ⟨h1, h2, h3, h4, h5, h6⟩ := h
    subst h1 h2 h3 h4 h5 h6
    rfl
  · rintro rfl; simp [KT.eq]

theorem putM_ok : ∀ (m : List (KeyR × Unit)) (x : KeyR), (m.map (·.1)).Nodup → ((putM (k := .key) (v := .unit) m x ()).map (·.1)).Nodup ∧ ∀ y, y ∈ (putM (k := .key) (v := .unit) m x ()).map (·.1) ↔ y ∈ m.map (·.1) ∨ y = x
  | [], x, _ => ⟨by simp [putM], fun y => by simp [putM]⟩
  | e :: r, x, h => by
    rw [putM]
    cases he : KT.eq .key e.1 x with
    | true =>
      obtain rfl := (ktEq_iff _ _).1 he
      simp only [cond_true]
      refine ⟨by simpa using h, fun y => ?_⟩
      simp only [List.map_cons, List.mem_cons]
      constructor
      · intro h; exact .inl h
      · rintro (h | h)
        · exact h
        · exact .inl h
    | false =>
      simp only [cond_false, List.map_cons]
      rw [List.map_cons, List.nodup_cons] at h
      obtain ⟨h1, h2⟩ := putM_ok r x h.2
      refine ⟨List.nodup_cons.2 ⟨fun hm => ?_, h1⟩, fun y => ?_⟩
      · rcases (h2 _).1 hm with hm | hm
        · exact h.1 hm
        · rw [(ktEq_iff _ _).2 hm] at he; cases he
      · rw [List.mem_cons, List.mem_cons, h2, or_assoc]

theorem mapS_from (l : List KeyR) : ∀ m : List (KeyR × Unit), (m.map (·.1)).Nodup → ((l.foldl (fun m x => putM (k := .key) (v := .unit) m x ()) m).map (·.1)).Nodup ∧ ∀ y, y ∈ (l.foldl (fun m x => putM (k := .key) (v := .unit) m x ()) m).map (·.1) ↔ y ∈ m.map (·.1) ∨ y ∈ l := by
  induction l with
  | nil => intro m h; exact ⟨h, fun y => by simp⟩
  | cons x r ih =>
    intro m h
    obtain ⟨h1, h2⟩ := putM_ok m x h
    obtain ⟨h3, h4⟩ := ih _ h1
    refine ⟨h3, fun y => ?_⟩
    rw [List.foldl_cons, h4, h2, List.mem_cons, or_assoc]
theorem mapS_ok (l : List KeyR) : ((mapS l).map (·.1)).Nodup ∧ ∀ y, y ∈ (mapS l).map (·.1) ↔ y ∈ l := by
  obtain ⟨h1, h2⟩ := mapS_from l [] List.nodup_nil
  exact ⟨h1, fun y => by rw [mapS, h2]; simp⟩
theorem mapS_len (l : List KeyR) : (mapS l).length ≤ l.length := by
  have key : ∀ (l : List KeyR) (m : List (KeyR × Unit)), (l.foldl (fun m x => putM (k := .key) (v := .unit) m x ()) m).length ≤ m.length + l.length := by
    have hp : ∀ (m : List (KeyR × Unit)) x, (putM (k := .key) (v := .unit) m x ()).length ≤ m.length + 1 := by
      intro m x
      induction m with
      | nil => simp [putM]
      | cons e r ih => rw [putM]; cases KT.eq .key e.1 x <;> simp <;> omega
    intro l
    induction l with
    | nil => intro m; simp
    | cons x r ih => intro m; have := ih (putM (k := .key) (v := .unit) m x ()); have := hp m x; simp; omega
  have := key l []
  simpa [mapS] using this

theorem sort_law (l : List KeyR) : sortK ((mapS l).map (·.1)) = docS l := by
  obtain ⟨h1, h2⟩ := docS_ok l
  obtain ⟨h3, h4⟩ := mapS_ok l
  have hnd : (docS l).Nodup := h1.imp fun {a b} h e => by subst e; rw [less_irr] at h; cases h
  have hp : ((mapS l).map (·.1)).Perm (docS l) := (List.perm_ext_iff_of_nodup h3 hnd).2 fun y => (h4 y).trans (h2 y).symm
  refine List.Perm.eq_of_pairwise (le := fun x y => leK x y = true) (fun a b _ _ h1 h2 => leK_anti a b h1 h2) (List.pairwise_mergeSort leK_trans leK_total _) ?_ ((List.mergeSort_perm _ _).trans hp)
  refine h1.imp fun {a b} h => ?_
  simp only [leK, Bool.not_eq_true']
  cases hb : lessK b a with
  | false => rfl
  | true => have := less_trans h hb; rw [less_irr] at this; cases this
end Go.Proofs.YtgngobcmfflcpaaDoor
