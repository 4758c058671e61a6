/-
  THE REFERENCES OF AN EXPRESSION, by the program: refs.walk with what refs.Of does at each.
-/
import Derived.Test.YtcfdmfijlaafkaaOfS
import Derived.Test.YtcfdmfijlaafkaaTold
namespace Go.Proofs.Ytcfdmfijlaafkaa
open Go.Eng

set_option maxRecDepth 100000

abbrev Mp : Type := List (Tw × Unit)
def mpT (m : Mp) : Pl := ⟨.map .two .unit, m⟩
def HW (m : Mp) : Obs Pl := [(50000, .box false [.mp 100000]), (100000, .map false (mpT m))]
def putT (m : Mp) (x : Tw) : Mp := putM (k := .two) (v := .unit) m x ()
theorem e13 (m : Mp) (x : Tw) (p : PosR) : evM tell0 noTL noL 1 Try.f13 (HW m) [.agg (cT x), .agg (cPos p), .ptr 50000 0] = some (.env (encH (HW (putT m x))) (.bool true)) := by kernel_rfl
theorem put_sound (m : Mp) (x : Tw) (p : PosR) : SndM 13 (HW m) [.agg (cT x), .agg (cPos p), .ptr 50000 0] (.bool true) (HW (putT m x)) := by
  rw [← dec_enc (HW (putT m x)) (by intro e he; simp only [HW, List.mem_cons, List.not_mem_nil, or_false] at he; rcases he with rfl | rfl <;> rfl)]
  exact snd_m (n := 1) (tell0_ok _) (noTL_ok _ _) (f := 13) (fn := Try.f13) (by kernel_rfl) (loops_of (f := 13) (fn := Try.f13) (by kernel_rfl) (loops_0 (by kernel_rfl))) (e13 m x p)

/-- What of it comes into the table. -/
def accW (W : List Str → ExprR → Mp → Mp) (b : List Str) (e : ExprR) (m : Mp) : Nat → Mp
  | 0 => m
  | i + 1 => W (bnd b e i) (e.l.getD i default) (accW W b e m i)
def walkR : Nat → List Str → ExprR → Mp → Mp
  | 0, _, _, m => m
  | n + 1, b, e, m =>
    bif e.op == 2 then (bif hasS b e.s then m else putT m (e.s, []))
    else bif isD e then (bif hasS b (e.l.getD 0 default).s then m else putT m ((e.l.getD 0 default).s, e.s))
    else accW (walkR n) b e m e.l.length

def pPut : List (D Pl) → List (D Pl) → Option (Bool × D Pl × List (D Pl))
  | [.obB 50000 [.mp 100000], .obM 100000 ⟨.map .two .unit, m⟩], [.agg [.str a, .str b], .agg [.int .i64 _, .int .i64 _, .int .i64 _], .ptr 50000 0] => some (true, .bool true, encH (HW (putT m (a, b))))
  | _, _ => none
def pWalk (n : Nat) : List (D Pl) → List (D Pl) → Option (Bool × D Pl × List (D Pl))
  | [.obB 50000 [.mp 100000], .obM 100000 ⟨.map .two .unit, m⟩], [d, b, .fn 13 [.ptr 50000 0]] => match asE d, asL .strs b with
    | some e, some b => some (Nat.blt (esz e) n && okA b e, .bool true, encH (HW (walkR n b e m)))
    | _, _ => none
  | _, _ => none
def tW (n : Nat) : Eng.Told Pl := tell 29 (pHasS fun l x => .bool (hasS l x)) (tellM 13 pPut (tellM 12 (pWalk n) tell0))
def sW (e : ExprR) (b c : List Str) (m : Mp) (i : Int) : St Pl := mkS 101 [(1, .pl (pStrs b) .any), (2, .fn 13 [.ptr 50000 0]), (8, .pl (pStrs c) .any), (84, .pl (pExprs e.l) .any), (85, dI e.l.length), (86, dI i)] [(50000, .box false [.mp 100000]), (100000, .map false (mpT m))]
def FW : Fix Pl := { keep := [1, 2, 8, 84, 85, 86], lose := [10], can := [(50000, 0, 100000)], ord := [50000, 100000] }
theorem bW (e : ExprR) (b c : List Str) (m : Mp) (n i : Nat) : evZ (tW n) noTL noL 2 (loopAt 12 0) FW (sW e b c m i) =
  (let k := fun (nm : List Str) => ck_ (Nat.blt (esz (etaE (e.l.getD i default))) n && okA nm (etaE (e.l.getD i default))) (some (Ex.normal, sW e b c (walkR n nm (etaE (e.l.getD i default)) m) (w64 ((i : Int) + 1))))
  lt_ i e.l.length (ix_ i e.l.length (bif (i : Int) == 0 then k b else k c)) (some (.exit 1, sW e b c m i))) := by kernel_rfl
theorem idsW : (loopsAt 12).length = 1 ∧ firstId (loopAt 12 0) = 12 ∧ loopsOf (loopAt 12 0) = [] := ⟨by kernel_rfl, by kernel_rfl, by kernel_rfl⟩
/-- The names that parts behind the first see. -/
def loc (b : List Str) (e : ExprR) : List Str := bif isL e.op then b ++ [e.s, e.s2] else b
theorem bnd_loc (b : List Str) (e : ExprR) (i : Nat) : bnd b e i = bif (i : Int) == 0 then b else loc b e := by
  unfold bnd loc
  cases i with
  | zero => rfl
  | succ i =>
    rw [decide_eq_true (by omega), show (((i + 1 : Nat) : Int) == 0) = false by rw [beq_eq_false_iff_ne]; omega]
    rfl
def rW (m : Mp) : St Pl := mkS 101 [] [(50000, .box false [.mp 100000]), (100000, .map false (mpT m))]
def FWh : Fix Pl := { calm := [82], keep := [1, 2, 8, 84, 85, 86], lose := [3, 7, 82], can := [(50000, 0, 100000)], ord := [50000, 100000] }
def accC (W : List Str → ExprR → Mp → Mp) (b c : List Str) (l : List ExprR) (m : Mp) : Nat → Mp
  | 0 => m
  | i + 1 => W (bif (i : Int) == 0 then b else c) (l.getD i default) (accC W b c l m i)
def okC (b c : List Str) (l : List ExprR) : Bool := Nat.ble ((b.length + 2 * eszs l) * 64) big && Nat.ble ((c.length + 2 * eszs l) * 64) big
noncomputable def LSW (n : Nat) (S : St Pl) : Option (Bool × LR Pl) := match seenS 101 [1, 2, 8, 84, 85, 86] (fixS X0.C FWh S) with
  | some ([.pl ⟨.strs, b⟩ .any, .fn 13 [.ptr 50000 0], .pl ⟨.strs, c⟩ .any, .pl ⟨.exprs, l⟩ .any, .int .i64 k, .int .i64 (.ofNat 0)], [(50000, .box false [.mp 100000]), (100000, .map false ⟨.map .two .unit, m⟩)]) =>
    some (k == (l.length : Int) && (Nat.blt (eszs l) n && okC b c l), .leaf (.exit 1) (rW (accC (walkR n) b c l m l.length)))
  | _ => none
theorem eW (e : ExprR) (b : List Str) (m : Mp) (n : Nat) : evM (tW n) noTL (atL 12 (LSW n) noL) 2 Try.f12 (HW m) [.agg (cExpr e), .pl (pStrs b) .any, .fn 13 [.ptr 50000 0]] =
  (let A := fun (m : Mp) => some (D.env (encH (HW m)) (.bool true))
  let L := fun (c : List Str) => ck_ (((e.l.length : Int) == (e.l.length : Int)) && (Nat.blt (eszs e.l) n && okC b c e.l)) (A (accC (walkR n) b c e.l m e.l.length))
  let q := cu b 0 b.length
  let L' := bif isL e.op then ck_ (true && true && decide ((0 : Int) ≤ (b.length : Int)) && decide ((b.length : Int) ≤ (b.length : Int)) && ((b.length : Int) == (b.length : Int)) || false) <| ck_ (true && (true && (Nat.beq q.length 0 || true) && true && true && true && Nat.ble ((q.length + 2) * 16) big)) (L (q ++ [e.s, e.s2])) else L b
  bif e.op == 2 then (bif hasS b e.s == false then A (putT m (e.s, [])) else A m)
  else bif e.op == 3 then ixo_ 0 e.l.length (((e.l.length : Int) == 1) == true) (bif (bif (e.l.length : Int) == 1 then (e.l.getD 0 default).op == 2 else false) then ix_ 0 e.l.length (bif hasS b (e.l.getD 0 default).s == false then A (putT m ((e.l.getD 0 default).s, e.s)) else A m) else L') else L') := by kernel_rfl

theorem SoundM.pre {P : Program} {C : Pay Pl} {glob : Nat → Option (List (D Pl))} {f : FuncId} {H H' : Obs Pl} {ds ds' : List (D Pl)} {d : D Pl} (hle : RDles C ds ds') (h : SoundM P C glob f H ds' d H') : SoundM P C glob f H ds d H' := by
  intro g vs ht hS hs hr
  obtain ⟨hl, hget⟩ := hle.spec
  refine h g vs ht hS (hs.trans hl) fun i v c hv hc => ?_
  obtain ⟨e, he, hle⟩ := hget i c hc
  exact hle _ _ (hr i v e hv he)
theorem dec_HW (m : Mp) : decH (encH (HW m)) = HW m := rfl
theorem pPut_ok : ∀ os ds b d os', pPut os ds = some (b, d, os') → b = true → SndM 13 (decH os) ds d (decH os') := by
  intro os ds b d os' h hb
  unfold pPut at h
  split at h
  · simp only [Option.some.injEq, Prod.mk.injEq] at h
    obtain ⟨_, rfl, rfl⟩ := h
    exact put_sound _ (_, _) ⟨_, _, _⟩
  · simp at h
theorem pWalk_ok {n : Nat} (ih : ∀ b e m, esz e < n → okA b e = true → SndM 12 (HW m) [.agg (cExpr e), .pl (pStrs b) .any, .fn 13 [.ptr 50000 0]] (.bool true) (HW (walkR n b e m))) :
    ∀ os ds c d os', pWalk n os ds = some (c, d, os') → c = true → SndM 12 (decH os) ds d (decH os') := by
  intro os ds c d os' h hc
  unfold pWalk at h
  split at h
  · split at h
    · rename_i h1 h2
      simp only [Option.some.injEq, Prod.mk.injEq] at h
      obtain ⟨rfl, rfl, rfl⟩ := h
      rw [Bool.and_eq_true, Nat.blt_eq] at hc
      exact SoundM.pre (.cons (asE_rdle h1) (.cons (asL_rdle h2) (.cons (RDle.refl _) .nil))) (ih _ _ _ hc.1 hc.2)
    · simp at h
  · simp at h

theorem accC_eq (W : List Str → ExprR → Mp → Mp) (b : List Str) (e : ExprR) (m : Mp) : ∀ i, accC W b (loc b e) e.l m i = accW W b e m i
  | 0 => rfl
  | i + 1 => by rw [accC, accW, accC_eq W b e m i, bnd_loc]
theorem loc_len (b : List Str) (e : ExprR) : (loc b e).length ≤ b.length + 2 := by
  unfold loc
  cases isL e.op <;> simp
theorem okC_of {b : List Str} {e : ExprR} (h : okA b e = true) : okC b (loc b e) e.l = true := by
  have h1 := okA_of h
  have h2 := loc_len b e
  have h3 := esz_eq e
  unfold okC
  rw [ble_t (by omega), ble_t (by omega)]
  rfl

theorem LSW_ok {n : Nat} (hT : TOk (tW n)) : SOk X0 (loopAt 12 0) (LSW n) := by
  intro S c r h hc
  unfold LSW at h
  split at h
  · rename_i b c l k m hs
    simp only [Option.some.injEq, Prod.mk.injEq] at h
    obtain ⟨rfl, rfl⟩ := h
    simp only [Bool.and_eq_true, Nat.blt_eq, beq_iff_eq, okC, Nat.ble_eq] at hc
    obtain ⟨rfl, hsz, hb, hcl⟩ := hc
    have hbig : big = 140737488355328 := rfl
    have hlen : l.length ≤ eszs l := by
      clear hs hsz hb hcl
      induction l with
      | nil => simp
      | cons x r ih => have := esz_pos x; simp only [List.length_cons, eszs]; omega
    refine Goes.weakPre (Weak.fix xok FWh S) (Goes.pre (keepOf [1, 2, 8, 84, 85, 86]) ?_)
    rw [seenS_mask hs]
    obtain ⟨e, rfl⟩ : ∃ e : ExprR, l = e.l := ⟨⟨0, [], [], default, l, p00⟩, rfl⟩
    refine loop_all (Sf := fun i => sW e b c (accC (walkR n) b c e.l m i) (i : Int)) (n := e.l.length) (by simp) (fun i hi => ?_) ?_
    · refine goes_ofZ hT (noTL_ok _ _) (noLoops idsW.2.2) ((bW e b c _ n i).trans ?_)
      have h1 := eszs_mem (getD_mem (d := default) hi : e.l.getD i default ∈ e.l)
      rw [lt_t hi, ix_t hi]
      have fin : ∀ nm, nm = (bif (i : Int) == 0 then b else c) → (nm.length + 2 * eszs e.l) * 64 ≤ big → ck_ (Nat.blt (esz (etaE (e.l.getD i default))) n && okA nm (etaE (e.l.getD i default))) (some (Ex.normal, sW e b c (walkR n nm (etaE (e.l.getD i default)) (accC (walkR n) b c e.l m i)) (w64 ((i : Int) + 1)))) = some (.normal, sW e b c (accC (walkR n) b c e.l m (i + 1)) ((i + 1 : Nat) : Int)) := by
        rintro nm hnm hl
        rw [etaE_eq, ck_t (by rw [blt_t (by omega)]; unfold okA; rw [ble_t (by omega)]; rfl), show w64 ((i : Int) + 1) = ((i + 1 : Nat) : Int) from wrap_nat (by omega), hnm]
        rfl
      cases h0 : (i : Int) == 0 with
      | true => exact fin _ (by rw [h0]; rfl) hb
      | false => exact fin _ (by rw [h0]; rfl) hcl
    · exact (goes_ofZ hT (noTL_ok _ _) (noLoops idsW.2.2) ((bW e b c _ n e.l.length).trans (lt_f (by omega) _ _))).post (keepOf [])
  · simp at h

theorem walk_n : ∀ n b e m, esz e < n → okA b e = true → SndM 12 (HW m) [.agg (cExpr e), .pl (pStrs b) .any, .fn 13 [.ptr 50000 0]] (.bool true) (HW (walkR n b e m)) := by
  intro n
  induction n with
  | zero => intro b e m h; omega
  | succ n ih =>
    intro b e m hlt hok
    have hT : TOk (tW n) := tell_ok (pHasS_ok contains_sound) (tellM_ok pPut_ok (tellM_ok (pWalk_ok ih) (tell0_ok _)))
    have h1 : eszs e.l < n := by have := esz_eq e; omega
    have go : ∀ {m'}, _ = some (D.env (encH (HW m')) (.bool true)) → SndM 12 (HW m) [.agg (cExpr e), .pl (pStrs b) .any, .fn 13 [.ptr 50000 0]] (.bool true) (HW m') := fun {m'} h => by
      rw [← dec_HW m']
      exact snd_m (n := 2) hT (noTL_ok _ _) (f := 12) (fn := Try.f12) (by kernel_rfl) (loops_of (f := 12) (fn := Try.f12) (by kernel_rfl) (loops_1 idsW.1 (atL_ok (fun _ => LSW_ok hT) fun h => absurd idsW.2.1 h))) ((eW e b m n).trans h)
    have hb := okA_of hok
    have hbig : big = 140737488355328 := rfl
    have hq : cu b 0 b.length = b := by unfold cu; rw [List.drop_zero, List.take_length]
    simp only [hq] at go
    have hL : (bif isL e.op then ck_ (true && true && decide ((0 : Int) ≤ (b.length : Int)) && decide ((b.length : Int) ≤ (b.length : Int)) && ((b.length : Int) == (b.length : Int)) || false) <| ck_ (true && (true && (Nat.beq b.length 0 || true) && true && true && true && Nat.ble ((b.length + 2) * 16) big)) (ck_ (((e.l.length : Int) == (e.l.length : Int)) && (Nat.blt (eszs e.l) n && okC b (b ++ [e.s, e.s2]) e.l)) (some (D.env (encH (HW (accC (walkR n) b (b ++ [e.s, e.s2]) e.l m e.l.length))) (.bool true))))
        else (ck_ (((e.l.length : Int) == (e.l.length : Int)) && (Nat.blt (eszs e.l) n && okC b b e.l)) (some (D.env (encH (HW (accC (walkR n) b b e.l m e.l.length))) (.bool true))))) = some (D.env (encH (HW (accW (walkR n) b e m e.l.length))) (.bool true)) := by
      have hc := okC_of hok
      have he := accC_eq (walkR n) b e m e.l.length
      unfold loc at hc he
      cases hl : isL e.op with
      | true =>
        rw [hl, cond_true] at hc he
        rw [cond_true, ck_t (by simp), ck_t (by rw [ble_t (by omega)]; simp), ck_t (by rw [beq_self_eq_true, blt_t h1, hc]; rfl), he]
      | false =>
        rw [hl, cond_false] at hc he
        rw [cond_false, ck_t (by rw [beq_self_eq_true, blt_t h1, hc]; rfl), he]
    rw [hL] at go
    rw [walkR]
    cases c1 : e.op == 2 with
    | true =>
      rw [c1, cond_true] at go
      rw [cond_true]
      cases c2 : hasS b e.s with
      | true => rw [c2] at go; exact go rfl
      | false => rw [c2] at go; exact go rfl
    | false =>
      rw [c1, cond_false] at go
      rw [cond_false]
      unfold isD
      cases c3 : e.op == 3 with
      | false => rw [c3, cond_false] at go; exact go rfl
      | true =>
        rw [c3, cond_true] at go
        rw [cond_true]
        cases c4 : (e.l.length : Int) == 1 with
        | false =>
          rw [c4, show ∀ x : Option (D Pl), ixo_ 0 e.l.length (false == true) x = x from fun x => by unfold ixo_; simp] at go
          exact go rfl
        | true =>
          have hl : 0 < e.l.length := by rw [beq_iff_eq] at c4; omega
          rw [c4, ixo_t hl, cond_true] at go
          rw [cond_true]
          cases c5 : (e.l.getD 0 default).op == 2 with
          | false => rw [c5] at go; exact go rfl
          | true =>
            rw [c5, cond_true, ix_t hl] at go
            rw [cond_true]
            cases c6 : hasS b (e.l.getD 0 default).s with
            | true => rw [c6] at go; exact go rfl
            | false => rw [c6] at go; exact go rfl
end Go.Proofs.Ytcfdmfijlaafkaa

/-
  THE REFERENCES OF AN EXPRESSION, by the program: refs.Of; both give the same.
-/

namespace Go.Proofs.Ytcfdmfijlaafkaa
open Go.Eng

set_option maxRecDepth 100000

def tOp (n : Nat) : Eng.Told Pl := tellM 12 (pWalk n) (tell 14 pSorted tell0)
theorem eOfP (e : ExprR) (n : Nat) : evF (tOp n) noTL noL 3 Try.f7 [.agg (cExpr e)] =
  ck_ (Nat.blt (esz (etaE e)) n && okA [] (etaE e)) (ck_ (Nat.ble ((walkR n [] (etaE e) []).length * 32) big) (some (.pl (pRefs ((sortK ((walkR n [] (etaE e) []).map (·.1))).map rf)) .any))) := by kernel_rfl

-- both are the same

def twA (x : AskedR) : Tw := rt x.r
theorem accW_eq {W : List Str → ExprR → Mp → Mp} {A : List Str → ExprR → List AskedR} (h : ∀ b e m, W b e m = ((A b e).map twA).foldl putT m) (b : List Str) (e : ExprR) (m : Mp) : ∀ i, accW W b e m i = ((accA A b e i).map twA).foldl putT m
  | 0 => rfl
  | i + 1 => by rw [accW, accA, List.map_append, List.foldl_append, accW_eq h b e m i, h]
theorem walkR_eq : ∀ n b e m, walkR n b e m = ((allR n b e).map twA).foldl putT m
  | 0, _, _, _ => rfl
  | n + 1, b, e, m => by
    rw [walkR, allR]
    cases e.op == 2 with
    | true =>
      rw [cond_true, cond_true]
      cases hasS b e.s <;> rfl
    | false =>
      rw [cond_false, cond_false]
      cases isD e with
      | true =>
        rw [cond_true, cond_true]
        cases hasS b (e.l.getD 0 default).s <;> rfl
      | false => rw [cond_false, cond_false, accW_eq (walkR_eq n) b e m]
theorem walkR_map (n : Nat) (b : List Str) (e : ExprR) : walkR n b e [] = mapS ((allR n b e).map twA) := walkR_eq n b e []
theorem refs_same (e : ExprR) : (sortK ((walkR (esz e + 1) [] e []).map (·.1))).map rf = ofD e := by
  rw [walkR_map, sort_law]
  unfold ofD
  rw [← rf_rt (docR (allR (esz e + 1) [] e)), docR_map]
  rfl
theorem ofP_sound (e : ExprR) (h : okA [] e = true) : Snd 7 [.agg (cExpr e)] (.pl (pRefs (ofD e)) .any) := by
  have hT : TOk (tOp (esz e + 1)) := tellM_ok (pWalk_ok fun b x m hx hb => walk_n _ b x m hx hb) (tell_ok pSorted_ok (tell0_ok _))
  have h1 := allR_len (esz e + 1) [] e
  have h3 := mapS_len ((allR (esz e + 1) [] e).map twA)
  have h2 := okA_of h
  have hbig : big = 140737488355328 := rfl
  rw [← refs_same]
  refine snd_fn (n := 3) hT (noTL_ok _ _) (f := 7) (fn := Try.f7) (by kernel_rfl) (loops_of (f := 7) (fn := Try.f7) (by kernel_rfl) (loops_0 (by kernel_rfl))) ((eOfP e (esz e + 1)).trans ?_)
  rw [etaE_eq, ck_t (by rw [blt_t (Nat.lt_succ_self _), h]; rfl), ck_t (ble_t (by rw [walkR_map]; rw [List.length_map] at h3; omega))]

-- suretylaw15.sameRefs

def sameR (a b : List RefR) : Bool := a.length == b.length && ((List.range a.length).all fun i => eqRr (a.getD i default) (b.getD i default))
def sSm (a b : List RefR) (i : Int) : St Pl := mkS 26 [(0, .pl (pRefs a) .any), (1, .pl (pRefs b) .any), (5, dI i)] []
def sSmr (a b : List RefR) (i : Int) : St Pl := mkS 26 [(0, .pl (pRefs a) .any), (1, .pl (pRefs b) .any), (4, .bool false), (5, dI i)] []
theorem bSm (a b : List RefR) (i : Nat) : evD tell0 noTL noL 1 (loopAt 6 0) [0, 1, 4, 5] [] (sSm a b i) =
    lt_ i a.length (ix_ i a.length (ix_ i b.length (bif !(eqRr (a.getD i default) (b.getD i default)) then some (.ret, sSmr a b i) else some (.normal, sSm a b (IntKind.i64.wrap ((i : Int) + 1)))))) (some (.exit 0, sSm a b i)) := by kernel_rfl
theorem idsSm : (loopsAt 6).length = 1 ∧ firstId (loopAt 6 0) = 4 ∧ loopsOf (loopAt 6 0) = [] := ⟨by kernel_rfl, by kernel_rfl, by kernel_rfl⟩
def rSm0 : St Pl := mkS 26 [] []
def rSmf : St Pl := mkS 26 [(4, .bool false)] []
def LSSm (S : St Pl) : Option (Bool × LR Pl) := match seenS 26 [0, 1, 5] S with
  | some ([.pl ⟨.refs, a⟩ .any, .pl ⟨.refs, b⟩ .any, .int .i64 (.ofNat 0)], []) => some (Nat.ble a.length big && Nat.beq a.length b.length, .ite ((List.range a.length).all fun i => eqRr (a.getD i default) (b.getD i default)) (.leaf (.exit 0) rSm0) (.leaf .ret rSmf))
  | _ => none
theorem LSSm_ok : SOk X0 (loopAt 6 0) LSSm := by
  intro S c r h hc
  unfold LSSm at h
  split at h
  · rename_i a b hs
    simp only [Option.some.injEq, Prod.mk.injEq] at h
    obtain ⟨rfl, rfl⟩ := h
    simp only [Bool.and_eq_true, Nat.ble_eq] at hc
    have hl := Nat.eq_of_beq_eq_true hc.2
    refine Goes.pre (keepOf [0, 1, 5]) ?_
    rw [seenS_mask hs]
    refine search_ofD (tell0_ok _) idsSm.2.2 (k := 1) (keep := [0, 1, 4, 5]) (lose := []) (keep2 := [4]) (Sf := fun i => sSm a b i) (S2' := fun i => sSmr a b i) (p := fun i => eqRr (a.getD i default) (b.getD i default)) (by simp) (by simp) (fun i hi => ?_) ?_ rfl (fun i => rfl)
    · show evD tell0 noTL noL 1 (loopAt 6 0) [0, 1, 4, 5] [] (sSm a b i) = _
      rw [bSm, lt_t hi, ix_t hi, ix_t (by omega), wrap_nat (by omega)]
      cases eqRr (a.getD i default) (b.getD i default) <;> rfl
    · show evD tell0 noTL noL 1 (loopAt 6 0) [0, 1, 4, 5] [] (sSm a b a.length) = _
      rw [bSm, lt_f (by omega)]
  · simp at h
theorem eSm (a b : List RefR) : evF tell0 noTL (atL 4 LSSm noL) 1 Try.f6 [.pl (pRefs a) .any, .pl (pRefs b) .any] =
    bif ((a.length : Int) != (b.length : Int)) then some (.bool false) else ck_ (Nat.ble a.length big && Nat.beq a.length b.length) (bif (List.range a.length).all (fun i => eqRr (a.getD i default) (b.getD i default)) then some (.bool true) else some (.bool false)) := by kernel_rfl
theorem sameR_sound (a b : List RefR) : Snd 6 [.pl (pRefs a) .any, .pl (pRefs b) .any] (.bool (sameR a b)) := by
  refine SoundAt.rooms fun hroom => snd_fn (n := 1) (tell0_ok _) (noTL_ok _ _) (f := 6) (fn := Try.f6) (by kernel_rfl) (loops_of (f := 6) (fn := Try.f6) (by kernel_rfl) (loops_1 idsSm.1 (atL_ok (fun _ => LSSm_ok) fun h => absurd idsSm.2.1 h))) ((eSm a b).trans ?_)
  have ha : a.length * 32 ≤ big := hroom (.pl (pRefs a) .any) (by simp)
  unfold sameR
  by_cases hl : a.length = b.length
  · rw [show ((a.length : Int) != (b.length : Int)) = false by rw [hl]; simp, cond_false, ck_t (by rw [ble_t (by omega), hl, Nat.beq_refl]; rfl), show (a.length == b.length) = true by simp [hl], Bool.true_and]
    cases (List.range a.length).all fun i => eqRr (a.getD i default) (b.getD i default) <;> rfl
  · rw [show ((a.length : Int) != (b.length : Int)) = true by rw [bne_iff_ne]; omega, show (a.length == b.length) = false by simp [hl]]
    rfl
theorem sameR_refl (a : List RefR) : sameR a a = true := by
  simp [sameR, eqRr]
def asRf : D Pl → Option (List RefR)
  | .nilS => some []
  | .pl ⟨.refs, l⟩ _ => some l
  | _ => none
theorem asRf_rdle {d : D Pl} {l : List RefR} (h : asRf d = some l) : RDle X0.C d (.pl (pRefs l) .any) := by
  unfold asRf at h
  split at h
  · simp only [Option.some.injEq] at h; subst h; exact RDle.of (.nil _ rfl)
  · simp only [Option.some.injEq] at h; subst h; exact RDle.of (.any _ _)
  · simp at h
def pSameR : List (D Pl) → Option (Bool × D Pl)
  | [d, e] => match asRf d, asRf e with
    | some a, some b => some (true, .bool (sameR a b))
    | _, _ => none
  | _ => none
theorem pSameR_ok : ∀ ds b d, pSameR ds = some (b, d) → b = true → Snd 6 ds d := by
  intro ds b d h hb
  unfold pSameR at h
  split at h
  · split at h
    · rename_i h1 h2
      simp only [Option.some.injEq, Prod.mk.injEq] at h
      obtain ⟨_, rfl⟩ := h
      exact (sameR_sound _ _).pre (.cons (asRf_rdle h1) (.cons (asRf_rdle h2) .nil))
    · simp at h
  · simp at h
end Go.Proofs.Ytcfdmfijlaafkaa
