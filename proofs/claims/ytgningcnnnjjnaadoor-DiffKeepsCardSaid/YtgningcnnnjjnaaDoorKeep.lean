/-
  WHAT IS LEFT AS IT WAS (the program's 'Keep'): what the code computes.
-/
import Derived.Test.YtgningcnnnjjnaaDoorFind
import Derived.Test.YtgningcnnnjjnaaDoorOwn
namespace Go.Proofs.YtgningcnnnjjnaaDoor
open Go.Eng

set_option maxRecDepth 100000

theorem e24o (v : Val) (n : Nat) : evO (tCp n) (atL 5 (LS24 n) noL) 1 Tryd.f24 [.agg (cV v)] =
    ck_ (((v.l.length : Int) == (v.l.length : Int)) && (Nat.ble (v.l.length * 104) big && Nat.blt (vszs v.l) n)) (bif Nat.beq v.l.length 0 then some (.agg (cB v .nilS)) else some (.ow [3] (.agg (cV v)))) := by kernel_rfl

/-- A copy's elements are new, where there are some. -/
theorem copy_own (v : Val) (h0 : Nat.beq v.l.length 0 = false) : Snd 24 [.agg (cV v)] (.ow [3] (.agg (cV v))) := by
  have hT : TOk (tCp (vszs v.l + 1)) := tell_ok (p1_ok fun v h => copy_sound v) (tell_ok pClone_ok (tell0_ok _))
  refine SoundAt.rooms fun hroom => ?_
  have h2 : Room _ (.agg (cV v)) := hroom _ (by simp)
  have hl : v.l.length * 104 ≤ big := h2 (.pl (pVals v.l) .any) (by simp [cV])
  have he := e24o v (vszs v.l + 1)
  rw [ck_t (by rw [beq_self_eq_true, ble_t hl, blt_t (Nat.lt_succ_self _)]; rfl), h0] at he
  exact snd_own (n := 1) hT (fn := Tryd.f24) (by kernel_rfl) (loops_of (f := 24) (L := atL 5 (LS24 (vszs v.l + 1)) noL) (fn := Tryd.f24) (by kernel_rfl) (loops_1 ids24.1 (atL_ok (fun _ => LS24_ok hT) fun h => absurd ids24.2.1 h))) he

def cRI (t : Str) (ign : List Str) : List (D Pl) := [.str t, .str [], .nilS, .nilP, .nilP, .nilS, .bool false, .bool false, .pl (pStrs ign) .any, .nilS, .nilS, .nilS, .int .i64 (.ofNat 0), .int .i64 (.ofNat 0), .int .i64 (.ofNat 0)]

def tGI (R : Eng.Told Pl) : Eng.Told Pl := tell 25 (pvs fun v k => (true, .tup [.agg (cV (elemV v k)), dI (errV v k)])) (tell 26 pIndex R)
theorem tGI_ok {R : Eng.Told Pl} (h : TOk R) : TOk (tGI R) := tell_ok (pvs_ok fun v k _ => get_sound v k) (tell_ok pIndex_ok h)
/-- a copy, with new elements; without any -/
def tCo (R : Eng.Told Pl) : Eng.Told Pl := tell 24 (p1 fun v => (!(Nat.beq v.l.length 0), .ow [3] (.agg (cV v)))) R
def tCe (R : Eng.Told Pl) : Eng.Told Pl := tell 24 (p1 fun v => (true, .agg (cV v))) R

def cO (v : Val) : List (D Pl) := [.int .i64 v.kind, .int .i64 v.i, .str v.s, .arr 14, .pl ⟨.strs, v.keys⟩ .any, .int .i64 v.tk, .int .i64 v.tof, .bool v.sec]
def hK (t : Str) (ign : List Str) (a b o : Val) (l : List Val) : Obs Pl := [(7, .box false (cO o)), (14, .arr false (pVals l)), (6, .box false cZ), (5, .box false (cV b)), (4, .box false (cV a)), (3, .box false (cRI t ign))]
def hE (t : Str) (ign : List Str) (a b o : Val) : Obs Pl := [(7, .box false (cV o)), (6, .box false cZ), (5, .box false (cV b)), (4, .box false (cV a)), (3, .box false (cRI t ign))]
def slK (ign : List Str) (i : Int) : List (Nat × D Pl) := [(5, .ptr 5 0), (6, .ptr 6 0), (7, .ptr 7 0), (20, .pl (pStrs ign) .any), (21, dI ign.length), (22, dI i)]
def kp (t : Str) (g ign : List Str) (a b o : Val) (l : List Val) (i : Int) : St Pl := mkS 56 (slK ign i) (hK t g a b o l)
def ke (t : Str) (g ign : List Str) (a b o : Val) (i : Int) : St Pl := mkS 56 (slK ign i) (hE t g a b o)
def rp (t : Str) (g : List Str) (a b o : Val) (l : List Val) : St Pl := mkS 56 [(6, .ptr 6 0), (7, .ptr 7 0)] (hK t g a b o l)
def re (t : Str) (g : List Str) (a b o : Val) : St Pl := mkS 56 [(6, .ptr 6 0), (7, .ptr 7 0)] (hE t g a b o)

def cnd (b : Val) (n : Nat) (k : Str) (x : Int) : Bool := bif (bif (errV b k == 0) then decide (x ≥ 0) else false) then decide (x < (n : Int)) else false
def six_ {β : Type} (i n : Nat) (x : Option β) : Option β := bif (decide ((i : Int) < (n : Int)) && true) then x else none
theorem b11 (t : Str) (g ign : List Str) (a b o : Val) (l : List Val) (i : Nat) : evD (tGI tell0) noTL noL 1 (loopAt 11 0) [5, 6, 7, 20, 21, 22] [10] (kp t g ign a b o l i) =
    lt_ i ign.length (ix_ i ign.length (bif cnd (etaV b) l.length (ign.getD i []) (idxV o.keys (ign.getD i [])) then
      ck_ ((decide (0 ≤ idxV o.keys (ign.getD i [])) && decide (idxV o.keys (ign.getD i []) < (l.length : Int))) || false) (six_ (idxV o.keys (ign.getD i [])).toNat l.length
        (some (.normal, kp t g ign a b o (l.set (idxV o.keys (ign.getD i [])).toNat (etaV (elemV (etaV b) (ign.getD i [])))) (IntKind.i64.wrap ((i : Int) + 1)))))
      else some (.normal, kp t g ign a b o l (IntKind.i64.wrap ((i : Int) + 1))))) (some (.exit 0, kp t g ign a b o l i)) := by kernel_rfl
theorem b11e (t : Str) (g ign : List Str) (a b o : Val) (i : Nat) : evD (tGI tell0) noTL noL 1 (loopAt 11 0) [5, 6, 7, 20, 21, 22] [10] (ke t g ign a b o i) =
    lt_ i ign.length (ix_ i ign.length (bif cnd (etaV b) o.l.length (ign.getD i []) (idxV o.keys (ign.getD i [])) then
      ck_ ((decide (0 ≤ idxV o.keys (ign.getD i [])) && decide (idxV o.keys (ign.getD i []) < (o.l.length : Int))) || false) none
      else some (.normal, ke t g ign a b o (IntKind.i64.wrap ((i : Int) + 1))))) (some (.exit 0, ke t g ign a b o i)) := by kernel_rfl

end Go.Proofs.YtgningcnnnjjnaaDoor
