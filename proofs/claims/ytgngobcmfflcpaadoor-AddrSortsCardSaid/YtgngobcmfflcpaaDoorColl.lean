/-
  A RANGE OVER A MAP, WHATEVER ITS KEYS: what has come so far, as values; at the end: the map's keys, each once, in some order.
-/
import Derived.Sort.MapsRangeIn
import Derived.Sort.KeysCollected
import Derived.RangeFuncGives
import Derived.Test.YtgngobcmfflcpaaDoorEngMp
namespace Go.Eng
open Go.Maps
open Go.WideElems (Fit rd rg rd_key rd_val rg_of rd_mk)

section
variable {H : Type} {P : Program} {k : TypeId} {D0 : DataW H} {left : Lit → Bool} {ss : List Value} {R : Value → Option (DataW H × List MemPlace)} {w : World} {b n : Nat}

/-- No key twice; a key has come just where the map has it and it is no longer to come. -/
def Coll (P : Program) (k : TypeId) (D0 : DataW H) (left : Lit → Bool) (ss : List Value) : Prop :=
  ss.Nodup ∧ ∀ v, v ∈ ss ↔ ∃ kl, keyOf P k v = some kl ∧ has D0 kl = true ∧ left kl = false

theorem Coll.start (P : Program) (k : TypeId) (D0 : DataW H) : Coll P k D0 (has D0) [] :=
  ⟨List.nodup_nil, fun v => ⟨fun h => by simp at h, fun ⟨kl, _, h1, h2⟩ => by rw [h1] at h2; cases h2⟩⟩

theorem sameKey_self : ∀ {a : Lit}, WideAt.IsKeyLit a → a.sameKey a = true
  | a, h => by cases a <;> simp_all [Lit.sameKey, WideAt.IsKeyLit]

theorem Coll.step (K : Keyed P k) (h : Coll P k D0 left ss) {x : Value} {kl : Lit} (hk : keyOf P k x = some kl) (hlk : left kl = true) {y : DataW H} (hat : ∀ zd, D0.atKey kl zd = y) :
    Coll P k D0 (fun z => left z && !z.sameKey kl) (ss ++ [x]) := by
  have hhas : has D0 kl = true := has_true_of_atKey hat
  have hnew : x ∉ ss := fun hx => by
    obtain ⟨kl', h1, _, h3⟩ := (h.2 x).1 hx
    rw [hk] at h1
    cases h1
    rw [hlk] at h3
    cases h3
  refine ⟨List.nodup_append.2 ⟨h.1, by simp, fun a ha c hc => by simp at hc; subst hc; exact fun e => hnew (e ▸ ha)⟩, fun v => ?_⟩
  simp only [List.mem_append, List.mem_singleton]
  constructor
  · rintro (hv | rfl)
    · obtain ⟨kl', h1, h2, h3⟩ := (h.2 v).1 hv
      exact ⟨kl', h1, h2, by simp [h3]⟩
    · exact ⟨kl, hk, hhas, by simp [sameKey_self (K.key hk)]⟩
  · rintro ⟨kl', h1, h2, h3⟩
    by_cases he : kl' = kl
    · subst he
      exact .inr (K.inj h1 hk)
    · refine .inl ((h.2 v).2 ⟨kl', h1, h2, ?_⟩)
      simpa [sameKey_ne he] using h3

/-- What a map's entries are, keys as values. -/
theorem has_iff {es : Array MapEntry} {clock : Nat} (K : Keyed P k) (F : Fit P k R es clock) (kl : Lit) :
    has (.map ((es.toList.map (rg P k R)).foldr DataW.insert [])) kl = true ↔ ∃ e ∈ es.toList, keyOf P k e.key = some kl := by
  rw [has_eq, List.any_eq_true]
  constructor
  · rintro ⟨p, hp, hs⟩
    obtain ⟨e, he, rfl⟩ := List.mem_map.1 (mem_sorted.1 hp)
    obtain ⟨y, hy⟩ := F.reads e he
    rw [rg_of hy] at hs
    refine ⟨e, he, ?_⟩
    rw [rd_key hy]
    by_cases hne : y.1 = kl
    · rw [hne]
    · rw [sameKey_ne hne] at hs; cases hs
  · rintro ⟨e, he, hk⟩
    refine ⟨rg P k R e, mem_sorted.2 (List.mem_map.2 ⟨e, he, rfl⟩), ?_⟩
    obtain ⟨y, hy⟩ := F.reads e he
    have := rd_key hy
    rw [hk] at this
    cases this
    rw [rg_of hy]
    exact sameKey_self (K.key (rd_key hy))

theorem Coll.perm (K : Keyed P k) {es : Array MapEntry} {clock : Nat} (F : Fit P k R es clock) (h : Coll P k (.map ((es.toList.map (rg P k R)).foldr DataW.insert [])) left ss) (hl : ∀ kl, left kl = false) :
    ss.Perm (es.toList.map (·.key)) := by
  refine (List.perm_ext_iff_of_nodup h.1 F.stamped.2.2).2 fun v => ?_
  rw [h.2 v]
  simp only [has_iff K F, hl, and_true, List.mem_map]
  constructor
  · rintro ⟨kl, h1, e, he, h2⟩
    exact ⟨e, he, K.inj h2 h1⟩
  · rintro ⟨e, he, rfl⟩
    obtain ⟨y, hy⟩ := F.reads e he
    exact ⟨y.1, rd_key hy, e, he, rd_key hy⟩

/-- A map of the engine's is one that a range goes over; its elements are let be. -/
theorem fit_of {α : Type} {C : Pay α} (hC : PayOk C) {cx : Cx α} {s : Bool × List KC} (hk : keyOkD P k s = true) {p : α} {es : Array MapEntry} {clock : Nat} (hz : Szd es clock (C.len p)) (hlen : C.len p ≤ maxLen)
    (hes : ∀ (i : Nat) e, es[i]? = some e → RD C cx e.key (C.mkey p i)) (hsh : ∀ i, i < C.len p → shp (C.mkey p i) = some s) :
    Fit P k (fun _ => some ((DataW.lit (.bool true) : DataW Unit), [])) es clock := by
  refine ⟨by rw [hz.size]; exact hlen, hz.st, fun e he => ?_⟩
  obtain ⟨i, hi⟩ := List.mem_iff_getElem?.1 he
  have hi : es[i]? = some e := by simpa using hi
  have hlt : i < C.len p := by
    rw [← hz.size]
    rcases Nat.lt_or_ge i es.size with h | h
    · exact h
    · simp [Array.getElem?_eq_none h] at hi
  obtain ⟨l, hl⟩ := keyOf_ok hk (hes i e hi) (hsh i hlt)
  exact ⟨_, rd_mk (born := e.born) hl rfl⟩
end
end Go.Eng
