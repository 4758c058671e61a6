/-
  THE STATEMENT ON MARKS: whatever the type and the two values, the law answers true.
-/
import Derived.Test.YtibfgggccedmdaaDoorMarked
import Derived.Test.YtibfgggccedmdaaDoorAwake
namespace Go.Proofs.YtibfgggccedmdaaDoor
open Go.Eng

set_option maxRecDepth 100000

theorem c12_self (v : Val) (m : Bool) : c12 v v m = false := by
  unfold c12
  simp only [bne_self_eq_false, beq_self_eq_true, Bool.not_true, Bool.and_self, Bool.and_true, cond_false]
  cases m <;> rfl

mutual
theorem same_self : ∀ (v : Val) (m : Bool), sameV v v m = true
  | ⟨k, i, s, l, ks, tk, tof, sec⟩, m => by
    rw [sameV, c12_self, sames_self l m]
    simp
theorem sames_self : ∀ (l : List Val) (m : Bool), sameVs l l m = true
  | [], _ => rfl
  | x :: r, m => by rw [sameVs, same_self x m, sames_self r m]; rfl
end

theorem elems_self (a b : Val) (m : Bool) (h : b.l = a.l) : elemsEq a b m = true := by
  unfold elemsEq
  rw [h, List.all_eq_true]
  intro i _
  exact same_self _ m

theorem keys_self (a b : Val) (h : b.keys = a.keys) : keysEq a b = true := by
  unfold keysEq
  rw [h, List.all_eq_true]
  intro i _
  exact beq_self_eq_true _

theorem same_tr (x : Val) : sameV (trV x) x false = true := by
  rw [sameV_eq, elems_self (trV x) x false rfl, keys_self (trV x) x rfl]
  have : c12 (trV x) x false = false := by
    unfold c12 trV
    simp
  rw [this]; rfl

theorem same_mkE (t : Str) (f : Val) (k : Str) (x : Val) : sameV (mkE t f k x) x false = true := by
  unfold mkE
  cases mkB t f k with
  | true => exact same_tr x
  | false => exact same_self x false

theorem same_mark (t : Str) (v f : Val) : sameV (markV t v f) v false = true := by
  unfold markV
  cases v.kind != 5 with
  | true => exact same_self v false
  | false =>
    simp only [cond_false]
    rw [sameV_eq, keys_self (withL v (markL t f v v.l.length)) v rfl]
    have h1 : c12 (withL v (markL t f v v.l.length)) v false = false := by
      unfold c12 withL
      simp [markL_len]
    have h2 : elemsEq (withL v (markL t f v v.l.length)) v false = true := by
      unfold elemsEq
      rw [List.all_eq_true]
      intro i hi
      have hi : i < v.l.length := by simpa [withL, markL_len] using hi
      have : (withL v (markL t f v v.l.length)).l.getD i default = mkE t f (v.keys.getD i []) (v.l.getD i default) := by
        simp [withL, markL, List.getD_eq_getElem?_getD, hi]
      rw [this]
      exact same_mkE t f _ _
    rw [h1, h2]; rfl

noncomputable def tLM (G : Val → Bool) : Eng.Told Pl := tell 4 (p1 fun v => (true, .bool (G v))) (tell 5 (p1 fun v => (true, .bool (okV v))) (tell 7 (psvv fun t v f => (okV v, .agg (cV (markV t v f)))) (tell 9 (psvv fun t v f => (okV v, .agg (cV (markV t v f))))
  (tSame (tell 10 (psvv fun t p r => (okV r, .bool (settV t p r))) (tell 11 (psvv fun t p r => (okV r, .bool (settV t p r))) (tAwake tell0)))))))

def yes : Option (D Pl) := some (.bool true)
def no : Option (D Pl) := some (.bool false)

noncomputable def restM (t : Str) (v f : Val) : Option (D Pl) := ck_ (okV (etaV v)) (ck_ (okV (etaV v)) (bif (sameV (etaV (markV t (etaV v) (etaV f))) (etaV (markV t (etaV v) (etaV f))) true == true) then (bif (sameV (etaV (markV t (etaV v) (etaV f))) (etaV v) false == true) then
  ck_ (okV (etaV f)) (ck_ (okV (etaV f)) (bif ((settV t (etaV v) (etaV f) == settV t (etaV v) (etaV f)) == true) then ck_ (okV (etaV v)) (ck_ (okV (etaV v)) (bif ((settV t (etaV f) (etaV v) == settV t (etaV f) (etaV v)) == true) then yes else no)) else no)) else no) else no))

theorem eLM (G : Val → Bool) (t : Str) (v f : Val) : ev (tLM G) noTL 1 3 [.str t, .agg (cV v), .agg (cV f)] =
    bif (decide ((t.length : Int) > 100) == false) then (bif (G (etaV v) == false) then (bif (G (etaV f) == false) then (bif ((!okV (etaV v)) == false) then (bif (!okV (etaV f)) then yes else restM t v f) else yes) else yes) else yes) else yes := by kernel_rfl

theorem marks_sound (t : Str) (v f : Val) : Snd 3 [.str t, .agg (cV v), .agg (cV f)] (.bool true) := by
  obtain ⟨G, hG⟩ := Great_sound
  have hT : TOk (tLM G) := tell_ok (p1_ok fun v _ => hG v) (tell_ok (p1_ok fun v _ => okV_sound v) (tell_ok (psvv_ok fun t v f h => marked_sound t v f h) (tell_ok (psvv_ok fun t v f h => marked4_sound t v f h)
    (tSame_ok (tell_ok (psvv_ok fun t p r h => settled_sound t p r h) (tell_ok (psvv_ok fun t p r h => settled4_sound t p r h) (tAwake_ok (tell0_ok _))))))))
  refine snd_of hT (noTL_ok _ _) ((eLM G t v f).trans ?_)
  rw [etaV_eq, etaV_eq]
  cases decide ((t.length : Int) > 100) with
  | true => rfl
  | false =>
    cases G v with
    | true => rfl
    | false =>
      cases G f with
      | true => rfl
      | false =>
        cases hv : okV v with
        | false => rfl
        | true =>
          cases hf : okV f with
          | false => rfl
          | true =>
            show restM t v f = _
            unfold restM
            rw [etaV_eq, etaV_eq, etaV_eq, hv, hf, same_self, same_mark]
            simp only [beq_self_eq_true, cond_true]
            rfl

end Go.Proofs.YtibfgggccedmdaaDoor
