/-
  WHAT IS LEFT AS IT WAS, by the document ('Keep'): what the code computes.
-/
import Derived.Test.YtgningcnnnjjnaaDoorKeep
import Derived.Test.YtgningcnnnjjnaaDoorWith
namespace Go.Proofs.YtgningcnnnjjnaaDoor
open Go.Eng

set_option maxRecDepth 100000

def inI (j : Int) (v : Val) : Bool := decide (0 ≤ j) && decide (j < (v.l.length : Int))
theorem e28 (v : Val) (j : Int) : ev tell0 noTL 1 28 [.agg (cV v), dI j] = ck_ (inI j v || false) (some (.agg (cV (fromV v (v.l.getD j.toNat default))))) := by kernel_rfl
theorem From_sound (v : Val) (j : Int) (h : inI j v = true) : Snd 28 [.agg (cV v), dI j] (.agg (cV (fromV v (v.l.getD j.toNat default)))) :=
  snd_of (tell0_ok _) (noTL_ok _ _) ((e28 v j).trans (by rw [ck_t (by rw [h]; rfl)]))

def pvi (f : Val → Int → Bool × D Pl) : List (D Pl) → Option (Bool × D Pl)
  | [d, .int .i64 j] => match asV d with
    | some m => some (f m j)
    | none => none
  | _ => none
theorem pvi_ok {g : FuncId} {f : Val → Int → Bool × D Pl} (h : ∀ m j, (f m j).1 = true → Snd g [.agg (cV m), dI j] (f m j).2) : ∀ ds b d, pvi f ds = some (b, d) → b = true → Snd g ds d := by
  intro ds b d hp hb
  unfold pvi at hp
  split at hp
  · split at hp
    · rename_i ha
      simp only [Option.some.injEq] at hp
      have h1 := h _ _ (by rw [hp]; exact hb)
      rw [hp] at h1
      exact h1.pre (.cons (asV_rdle ha) (.cons (RDle.refl _) .nil))
    · simp at hp
  · simp at hp

def tKd : Eng.Told Pl := tFind (tell 28 (pvi fun v j => (inI j v, .agg (cV (fromV v (v.l.getD j.toNat default))))) (tell 27 (pvsv fun m k x => (okW m k, .agg (cV (withV m x k)))) tell0))
theorem tKd_ok : TOk tKd := tFind_ok (tell_ok (pvi_ok fun v j h => From_sound v j h) (tell_ok (pvsv_ok fun m k x h => with_sound m x k h) (tell0_ok _)))

def hD (t : Str) (ign : List Str) (a b o : Val) : Obs Pl := [(7, .box false (cV o)), (6, .box false cZ), (5, .box false (cV b)), (4, .box false (cV a)), (3, .box false (cRI t ign))]
def kd (t : Str) (ign : List Str) (a b o : Val) (i : Int) : St Pl := mkS 55 [(3, .ptr 3 0), (4, .ptr 4 0), (5, .ptr 5 0), (6, .ptr 6 0), (7, .ptr 7 0), (8, dI i)] (hD t ign a b o)
def rd (t : Str) (ign : List Str) (a b o : Val) : St Pl := mkS 55 [(6, .ptr 6 0), (7, .ptr 7 0)] (hD t ign a b o)

def fnd (v : Val) (k : Str) : Int := idxV (keysV v) k
def elD (b : Val) (k : Str) : Val := fromV b (b.l.getD (fnd b k).toNat default)
def putV (o x : Val) (k : Str) : Val := ⟨5, .ofNat 0, [], setE o x k, o.keys, .ofNat 0, .ofNat 0, o.sec⟩
def bothF (a b : Val) (k : Str) : Bool := bif decide (fnd a k ≥ 0) then decide (fnd b k ≥ 0) else false

theorem b13 (t : Str) (ign : List Str) (a b o : Val) (i : Nat) : evD tKd noTL noL 1 (loopAt 13 0) [3, 4, 5, 6, 7, 8] [] (kd t ign a b o i) =
    lt_ i ign.length (ix_ i ign.length (ix_ i ign.length (bif bothF (etaV a) (etaV b) (ign.getD i []) then
      ix_ i ign.length (ck_ (inI (fnd (etaV b) (ign.getD i [])) (etaV b)) (ck_ (okW (etaV o) (ign.getD i [])) (some (.normal, kd t ign a b (putV (etaV o) (elD (etaV b) (ign.getD i [])) (ign.getD i [])) (nx i)))))
      else some (.normal, kd t ign a b o (nx i))))) (some (.exit 0, kd t ign a b o i)) := by kernel_rfl

end Go.Proofs.YtgningcnnnjjnaaDoor
