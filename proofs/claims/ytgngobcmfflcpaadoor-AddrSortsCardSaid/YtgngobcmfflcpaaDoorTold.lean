/-
  slices.SortedFunc(maps.Keys(m), compareKeys), TOLD TO THE ENGINE: the map's keys, sorted.
-/
import Derived.Test.YtgngobcmfflcpaaDoorSorted
namespace Go.Proofs.YtgngobcmfflcpaaDoor
open Go.Eng Go.RowKit Go.Sort Go.Shelf Go.Maps Go.Proofs

set_option maxRecDepth 100000

theorem keys_of {C : Pay Pl} {cx : Cx Pl} : ∀ (es : List MapEntry) (l : List (KeyR × Unit)), es.length = l.length → (∀ (i : Nat) e x, es[i]? = some e → l[i]? = some x → RD C cx e.key (.agg (cK x.1))) →
    ∃ kl : List KA, es.map (·.key) = kl.map vK ∧ kl.map (·.1) = l.map (·.1)
  | [], [], _, _ => ⟨[], rfl, rfl⟩
  | [], _ :: _, h, _ => by simp at h
  | _ :: _, [], h, _ => by simp at h
  | e :: r, x :: s, h, hr => by
    obtain ⟨hk, he⟩ := vK_inv (hr 0 e x rfl rfl)
    obtain ⟨kl, h1, h2⟩ := keys_of r s (by simpa using h) fun i e x he hx => hr (i + 1) e x (by simpa using he) (by simpa using hx)
    exact ⟨⟨x.1, hk⟩ :: kl, by simp [he, h1], by simp [h2]⟩

def shK : Bool × List KC := (true, [.s, .s, .i .i64, .i .i64, .s, .i .u32])
theorem shK_ok : keyOkD Tryd.prog kT shK = true := by kernel_rfl

def pSorted : List (D Pl) → Option (Bool × D Pl)
  | [.fn 50 [.ref [.mr ⟨.map .key .unit, l⟩]], .fn 35 []] => some (Nat.ble (l.length * 72) big, .pl (pKeys (sortK (l.map (·.1)))) .any)
  | _ => none

theorem enc_get (x : KA) (j : Nat) (h : j < 6) : (encK x)[j]? = some ((encK x)[j]!) := by
  have h' : j < (encK x).length := h
  rw [List.getElem?_eq_getElem h', getElem!_pos (encK x) j h']

theorem sorted_rd {cx : Cx Pl} {ks : List KA} {q : List KeyR} {g cap : Nat} (hq : ks.map (·.1) = q) (hc : ks.length ≤ cap) (hb : ks.length * 72 ≤ big) (hav : ¬ cx.av g) (hH : HoldsK encK 6 cx.w g 0 ks.toArray) :
    RD X0.C cx (.slice (some ⟨g, 0, none⟩) ks.length cap) (.pl (pKeys q) .any) := by
  subst hq
  have hel : ∀ (i : Nat), i < ks.length → X0.C.elem (pKeys (ks.map (·.1))) i = cK (ks[i]!).1 := by
    intro i hi
    show cK ((ks.map (·.1)).getD i default) = _
    rw [List.getD_eq_getElem?_getD, List.getElem?_map, List.getElem?_eq_getElem hi, getElem!_pos ks i hi]
    rfl
  have hlt : ∀ (i j : Nat) (d : D Pl), i < ks.length → (X0.C.elem (pKeys (ks.map (·.1))) i)[j]? = some d → j < 6 := by
    intro i j d hi hd
    rw [hel i hi] at hd
    have := (List.getElem?_eq_some_iff.1 hd).1
    simpa [cK] using this
  have hcells : ∀ (i j : Nat) (d : D Pl), i < ks.length → (X0.C.elem (pKeys (ks.map (·.1))) i)[j]? = some d → (encK (ks[i]!))[j]? = some ((encK (ks[i]!))[j]!) := by
    intro i j d hi hd
    exact enc_get _ _ (hlt i j d hi hd)
  have hone : ∀ (x : KA) (j : Nat) v, (encK x)[j]? = some v → v.oneCell' = true ∧ ∀ d, (cK x.1)[j]? = some d → RD X0.C cx v d := by
    intro x j v hv
    have h := rd_vK x (C := X0.C) (cx := cx)
    cases h with
    | agg _ _ hs h1 hr => exact ⟨h1 j v (by simpa [encK] using hv), fun d hd => hr j v d (by simpa [encK] using hv) hd⟩
  refine .pl g 0 _ _ _ .any (fun i j => (encK (ks[i]!))[j]!) (by show _ = (ks.map (·.1)).length; simp) hc hb trivial hav (fun i j d hi hd => ?_) (fun i j d hi hd => ?_) (fun i j d hi hd => ?_)
  · have hj := hlt i j d hi hd
    have hlt' : i * 6 + j < ks.length * 6 := by omega
    have := (hH (i * 6 + j) (by simpa using hlt')).1
    rw [id, get_flatK _ _ _ _ (by simpa using hlt'), show (i * 6 + j) / 6 = i by omega, show (i * 6 + j) % 6 = j by omega, List.getElem!_toArray] at this
    exact this
  · exact (hone _ _ _ (hcells i j d hi hd)).1
  · have h2 := (hone _ _ _ (hcells i j d hi hd)).2 d
    rw [hel i hi] at hd
    exact h2 hd

theorem pSorted_ok : ∀ ds b d, pSorted ds = some (b, d) → b = true → Snd 33 ds d := by
  intro ds b d h hb
  unfold pSorted at h
  split at h
  · rename_i l
    simp only [Option.some.injEq, Prod.mk.injEq] at h
    obtain ⟨rfl, rfl⟩ := h
    simp only [Nat.ble_eq] at hb
    intro w av vs hg hav hs hr
    obtain ⟨v0, v1, rfl⟩ : ∃ v0 v1, vs = #[v0, v1] := by
      obtain ⟨l⟩ := vs
      match l, hs with
      | [a, b], _ => exact ⟨a, b, rfl⟩
    have h0 := hr 0 _ _ rfl rfl
    have h1 := hr 1 _ _ rfl rfl
    cases h1 with
    | fn _ cb _ hcs _ =>
    obtain rfl : cb = #[] := by simpa using hcs
    cases h0 with
    | fn _ cb _ hcs hcr =>
    obtain ⟨u, rfl⟩ : ∃ u, cb = #[u] := by
      obtain ⟨l⟩ := cb
      match l, hcs with
      | [a], _ => exact ⟨a, rfl⟩
    have hu := hcr 0 _ _ rfl rfl
    cases hu with
    | ref Bm Bo _ us hnav hcell _ hrd =>
    have hm := hcell 0 _ rfl
    have hmr := hrd 0 _ rfl
    generalize us 0 = um at hm hmr
    cases hmr with
    | mr bm clock es _ _ hh hsz _ hk _ =>
    have hlen : es.size = l.length := hsz.size
    obtain ⟨kl, hkl, hkl2⟩ := keys_of (C := X0.C) es.toList l (by simpa using hlen) fun i e x he hx => by
      have := hk i e (by simpa using he)
      rw [show X0.C.mkey (⟨.map .key .unit, l⟩ : Pl) i = .agg (cK x.1) from ?_] at this
      · exact this
      · show KT.enc .key ((l.getD i (KT.dflt .key, VT.dflt .unit)).1) = _
        rw [List.getD_eq_getElem?_getD, hx]
        rfl
    have hfit := fit_of (P := Tryd.prog) xok.pay (cx := cx0 w av) shK_ok hsz (by show l.length ≤ maxLen; unfold big at hb; unfold maxLen; omega) hk (fun i hi => rfl)
    have hBm : Bm < w.heap.size := by
      rcases Nat.lt_or_ge Bm w.heap.size with h | h
      · exact h
      · simp [World.cell?, cx0, Array.getElem?_eq_none h] at hm
    have hc := sorted_calls Bm Bo bm w hBm (keyed_ok shK_ok) hm hh hfit (by rw [hlen]; exact hb) kl hkl
    refine .inl ⟨?_, hc.mono ?_⟩
    · exact enters_of Tryd.func33 (by kernel_rfl) rfl _ _
    · rintro e w' ⟨v, ks, rfl, hks, hbel, hv⟩
      rw [hkl2] at hks
      have hkn : ks.length = l.length := by
        have := congrArg List.length hks
        rw [List.length_map] at this
        rw [this, sortK, (List.mergeSort_perm _ _).length_eq, List.length_map]
      refine ⟨v, rfl, ?_, .ofB hbel (fun h => by cases h), trivial⟩
      rcases hv with ⟨rfl, rfl⟩ | ⟨g, cap, rfl, hcap, hgl, hH⟩
      · rw [← hks]
        exact .pl0 none 0 _ .any rfl trivial
      · exact sorted_rd hks hcap (by rw [hkn]; exact hb) (fun h => by have := hav g h; omega) hH
  · simp at h
end Go.Proofs.YtgngobcmfflcpaaDoor
