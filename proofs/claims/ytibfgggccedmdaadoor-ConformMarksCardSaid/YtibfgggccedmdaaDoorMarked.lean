/-
  A VALUE WITH THE MARKS THAT BELONG TO IT: the program's and the document's answer, the same.
-/
import Derived.Test.YtibfgggccedmdaaDoorSettled
import Derived.Test.YtibfgggccedmdaaDoorOwn
namespace Go.Proofs.YtibfgggccedmdaaDoor
open Go.Eng

set_option maxRecDepth 100000

theorem e24o (v : Val) (n : Nat) : evO (tCp n) (atL 5 (LS24 n) noL) 1 Tryd.f17 [.agg (cV v)] =
    ck_ (((v.l.length : Int) == (v.l.length : Int)) && (Nat.ble (v.l.length * 104) big && Nat.blt (vszs v.l) n)) (bif Nat.beq v.l.length 0 then some (.agg (cB v .nilS)) else some (.ow [3] (.agg (cV v)))) := by kernel_rfl

/-- A copy's elements are new, where there are some. -/
theorem copy_own (v : Val) (h0 : Nat.beq v.l.length 0 = false) : Snd 17 [.agg (cV v)] (.ow [3] (.agg (cV v))) := by
  have hT : TOk (tCp (vszs v.l + 1)) := tell_ok (p1_ok fun v h => copy_sound v) (tell_ok pClone_ok (tell0_ok _))
  refine SoundAt.rooms fun hroom => ?_
  have h2 : Room _ (.agg (cV v)) := hroom _ (by simp)
  have hl : v.l.length * 104 ≤ big := h2 (.pl (pVals v.l) .any) (by simp [cV])
  have he := e24o v (vszs v.l + 1)
  rw [ck_t (by rw [beq_self_eq_true, ble_t hl, blt_t (Nat.lt_succ_self _)]; rfl), h0] at he
  exact snd_own (n := 1) hT (fn := Tryd.f17) (by kernel_rfl) (loops_of (f := 17) (L := atL 5 (LS24 (vszs v.l + 1)) noL) (fn := Tryd.f17) (by kernel_rfl) (loops_1 ids24.1 (atL_ok (fun _ => LS24_ok hT) fun h => absurd ids24.2.1 h))) he

/-- a copy, with new elements; without any -/
def tCo (R : Eng.Told Pl) : Eng.Told Pl := tell 17 (p1 fun v => (!(Nat.beq v.l.length 0), .ow [3] (.agg (cV v)))) R
def tCe (R : Eng.Told Pl) : Eng.Told Pl := tell 17 (p1 fun v => (true, .agg (cV v))) R

def six_ {β : Type} (i n : Nat) (x : Option β) : Option β := bif (decide ((i : Int) < (n : Int)) && true) then x else none

def trV (x : Val) : Val := ⟨x.kind, x.i, x.s, x.l, x.keys, x.tk, x.tof, true⟩
def ownA (t k : Str) : Bool := (getA (attrsV t) k).own
def mkB (t : Str) (f : Val) (k : Str) : Bool := bif (ownA t k == false) then secV (elemV f k) else true
def mkE (t : Str) (f : Val) (k : Str) (x : Val) : Val := bif mkB t f k then trV x else x
def markL (t : Str) (f v : Val) (n : Nat) : List Val := (List.range n).map fun i => mkE t f (v.keys.getD i []) (v.l.getD i default)
def withL (v : Val) (l : List Val) : Val := ⟨v.kind, v.i, v.s, l, v.keys, v.tk, v.tof, v.sec⟩
def markV (t : Str) (v f : Val) : Val := bif v.kind != 5 then v else withL v (markL t f v v.l.length)

-- the document's

def tM4 : Eng.Told Pl := tell 21 (pss fun t k => (true, .tup [.agg (cA (getA (attrsV t) k)), .bool (hasA (attrsV t) k)])) (tell 23 (pvs fun v k => (true, .agg (cV (elemV v k)))) (tell 22 (p1 fun v => (true, .bool (secV v))) tell0))
theorem tM4_ok : TOk tM4 := tell_ok (pss_ok fun t k _ => FindA_sound t k) (tell_ok (pvs_ok fun v k _ => Element_sound v k) (tell_ok (p1_ok fun v _ => sec4_sound v) (tell0_ok _)))

def hM4 (v f : Val) : Obs Pl := [(6, .box false cZ), (5, .box false (cV f)), (4, .box false (cV v))]
def sM40 (t : Str) (v f : Val) (i : Int) : St Pl := mkS 58 [(0, .str t), (4, .ptr 4 0), (5, .ptr 5 0), (6, .ptr 6 0), (7, .nilS), (8, dI i)] (hM4 v f)
def sM41 (t : Str) (v f : Val) (acc : List Val) (i : Int) : St Pl := mkS 58 [(0, .str t), (4, .ptr 4 0), (5, .ptr 5 0), (6, .ptr 6 0), (7, .arr 54), (8, dI i)] ((54, .arr false (pVals acc)) :: hM4 v f)

theorem bM40 (t : Str) (v f : Val) (i : Nat) : evD tM4 noTL noL 1 (loopAt 9 0) [0, 4, 5, 6, 7, 8] [9, 10, 53] (sM40 t v f i) =
    lt_ i v.l.length (ix_ i v.l.length (ix_ i v.keys.length (ixo_ i v.keys.length (ownA t (v.keys.getD i []) == false) (bif (ownA t (v.keys.getD i []) == false) then
      (bif secV (etaV (elemV (etaV f) (v.keys.getD i []))) then some (.normal, sM41 t v f [trV (v.l.getD i default)] (IntKind.i64.wrap ((i : Int) + 1))) else some (.normal, sM41 t v f [etaV (v.l.getD i default)] (IntKind.i64.wrap ((i : Int) + 1))))
      else some (.normal, sM41 t v f [trV (v.l.getD i default)] (IntKind.i64.wrap ((i : Int) + 1))))))) (some (.exit 0, sM40 t v f i)) := by kernel_rfl

theorem bM41 (t : Str) (v f : Val) (acc : List Val) (i : Nat) : evD tM4 noTL noL 1 (loopAt 9 0) [0, 4, 5, 6, 7, 8] [9, 10, 53] (sM41 t v f acc i) =
    lt_ i v.l.length (ix_ i v.l.length (ix_ i v.keys.length (ixo_ i v.keys.length (ownA t (v.keys.getD i []) == false) (bif (ownA t (v.keys.getD i []) == false) then
      (bif secV (etaV (elemV (etaV f) (v.keys.getD i []))) then ck_ (Nat.ble ((acc.length + 1) * 104) big) (some (.normal, sM41 t v f (acc ++ [trV (v.l.getD i default)]) (IntKind.i64.wrap ((i : Int) + 1)))) else ck_ (Nat.ble ((acc.length + 1) * 104) big) (some (.normal, sM41 t v f (acc ++ [etaV (v.l.getD i default)]) (IntKind.i64.wrap ((i : Int) + 1)))))
      else ck_ (Nat.ble ((acc.length + 1) * 104) big) (some (.normal, sM41 t v f (acc ++ [trV (v.l.getD i default)]) (IntKind.i64.wrap ((i : Int) + 1)))))))) (some (.exit 0, sM41 t v f acc i)) := by kernel_rfl

theorem idsM4 : (loopsAt 9).length = 1 ∧ firstId (loopAt 9 0) = 5 ∧ loopsOf (loopAt 9 0) = [] := ⟨by kernel_rfl, by kernel_rfl, by kernel_rfl⟩

def LSM4 (S : St Pl) : Option (Bool × LR Pl) := match seenS 58 [0, 4, 5, 6, 7, 8] S with
  | some ([.str t, .ptr 4 0, .ptr 5 0, .ptr 6 0, .nilS, .int .i64 (.ofNat 0)], [(6, .box false [.int .i64 (.ofNat 0), .int .i64 (.ofNat 0), .str [], .nilS, .nilS, .int .i64 (.ofNat 0), .int .i64 (.ofNat 0), .bool false]), (5, .box false cf), (4, .box false cv)]) => (match exV cv, exV cf with
    | some v, some f => some (Nat.ble (v.l.length * 104) big && Nat.beq v.keys.length v.l.length, .ite (Nat.beq v.l.length 0) (.leaf (.exit 0) (sM40 t v f 0)) (.leaf (.exit 0) (sM41 t v f (markL t f v v.l.length) v.l.length)))
    | _, _ => none)
  | _ => none

theorem mkE_cases (t : Str) (f : Val) (k : Str) (x : Val) {β : Type} (g : Val → β) : (bif (ownA t k == false) then (bif secV (elemV f k) then g (trV x) else g x) else g (trV x)) = g (mkE t f k x) := by
  unfold mkE mkB
  cases ownA t k <;> cases secV (elemV f k) <;> rfl

theorem markL_succ (t : Str) (f v : Val) (n : Nat) : markL t f v (n + 1) = markL t f v n ++ [mkE t f (v.keys.getD n []) (v.l.getD n default)] := by
  unfold markL
  rw [List.range_succ, List.map_append]; rfl

theorem markL_len (t : Str) (f v : Val) (n : Nat) : (markL t f v n).length = n := by unfold markL; simp

theorem LSM4_ok : SOk X0 (loopAt 9 0) LSM4 := by
  intro S b r h hb
  unfold LSM4 at h
  split at h
  · rename_i t cf cv hs
    split at h
    · rename_i v f hv hf
      simp only [Option.some.injEq, Prod.mk.injEq] at h
      obtain ⟨rfl, rfl⟩ := h
      simp only [Bool.and_eq_true, Nat.ble_eq] at hb
      obtain ⟨hbig, hkl⟩ := hb
      have hkl := Nat.eq_of_beq_eq_true hkl
      obtain rfl := exV_eq hv
      obtain rfl := exV_eq hf
      have hB : big = 140737488355328 := rfl
      refine Goes.pre (keepOf [0, 4, 5, 6, 7, 8]) ?_
      rw [seenS_mask hs]
      show GoesTo _ (sM40 t v f 0) _ _
      cases h0 : Nat.beq v.l.length 0 with
      | true =>
        have h0 : v.l.length = 0 := Nat.eq_of_beq_eq_true h0
        refine loop_all (Sf := fun i => sM40 t v f i) (n := 0) (by simp) (fun i hi => by omega) ?_
        exact goes_ofD tM4_ok (noTL_ok _ _) (noLoops idsM4.2.2) ((bM40 t v f 0).trans (by rw [lt_f (by omega)]; rfl))
      | false =>
        have h0 : 0 < v.l.length := by
          rcases Nat.eq_zero_or_pos v.l.length with h | h
          · rw [h] at h0; simp at h0
          · exact h
        refine loop_all (Sf := fun i => match i with
          | 0 => sM40 t v f 0
          | j + 1 => sM41 t v f (markL t f v (j + 1)) ((j + 1 : Nat) : Int)) (n := v.l.length) (by simp) (fun i hi => ?_) ?_
        · cases i with
          | zero =>
            refine goes_ofD tM4_ok (noTL_ok _ _) (noLoops idsM4.2.2) ((bM40 t v f 0).trans ?_)
            rw [lt_t hi, ix_t hi, ix_t (by omega), ixo_t (by omega), etaV_eq, etaV_eq, etaV_eq]
            exact mkE_cases t f _ _ fun x => some (Ex.normal, sM41 t v f [x] 1)
          | succ j =>
            refine goes_ofD tM4_ok (noTL_ok _ _) (noLoops idsM4.2.2) ((bM41 t v f _ (j + 1)).trans ?_)
            rw [lt_t hi, ix_t hi, ix_t (by omega), ixo_t (by omega), etaV_eq, etaV_eq, etaV_eq, ck_t (ble_t (by rw [markL_len]; omega)), ck_t (ble_t (by rw [markL_len]; omega)), wrap_nat (show j + 1 ≤ big by omega)]
            refine (mkE_cases t f (v.keys.getD (j + 1) []) (v.l.getD (j + 1) default) fun x => some (Ex.normal, sM41 t v f (markL t f v (j + 1) ++ [x]) ((j + 1 + 1 : Nat) : Int))).trans ?_
            rw [← markL_succ]
        · obtain ⟨m, hm⟩ : ∃ m, v.l.length = m + 1 := ⟨v.l.length - 1, by omega⟩
          have e : (match v.l.length with
            | 0 => sM40 t v f 0
            | j + 1 => sM41 t v f (markL t f v (j + 1)) ((j + 1 : Nat) : Int)) = sM41 t v f (markL t f v v.l.length) v.l.length := by rw [hm]
          show GoesTo _ (match v.l.length with
            | 0 => sM40 t v f 0
            | j + 1 => sM41 t v f (markL t f v (j + 1)) ((j + 1 : Nat) : Int)) _ _
          rw [e]
          exact goes_ofD tM4_ok (noTL_ok _ _) (noLoops idsM4.2.2) ((bM41 t v f _ v.l.length).trans (by rw [lt_f (by omega)]))
    · simp at h
  · simp at h

theorem eM4 (t : Str) (v f : Val) : evF tM4 noTL (atL 5 LSM4 noL) 1 Tryd.f9 [.str t, .agg (cV v), .agg (cV f)] =
    bif v.kind != 5 then some (.agg (cV v)) else ck_ (Nat.ble (v.l.length * 104) big && Nat.beq v.keys.length v.l.length) (bif Nat.beq v.l.length 0 then some (.agg (cB v .nilS)) else some (.agg (cV (withL v (markL t (etaV f) (etaV v) v.l.length))))) := by kernel_rfl

theorem cB_le (v : Val) : RDle (plC emp) (.agg (cB v .nilS)) (.agg (cV (withL v []))) :=
  RDle.agg (.cons (RDle.refl _) (.cons (RDle.refl _) (.cons (RDle.refl _) (.cons (RDle.of (.nil _ rfl)) (RDles.refl _)))))

theorem marked4_sound (t : Str) (v f : Val) (h : okV v = true) : Snd 9 [.str t, .agg (cV v), .agg (cV f)] (.agg (cV (markV t v f))) := by
  refine SoundAt.rooms fun hroom => ?_
  have h2 : Room _ (.agg (cV v)) := hroom _ (by simp)
  have hl : v.l.length * 104 ≤ big := h2 (.pl (pVals v.l) .any) (by simp [cV])
  have he := eM4 t v f
  have hL := loops_of (f := 9) (L := atL 5 LSM4 noL) (fn := Tryd.f9) (by kernel_rfl) (loops_1 idsM4.1 (atL_ok (fun _ => LSM4_ok) fun h => absurd idsM4.2.1 h))
  unfold markV
  cases hk : v.kind != 5 with
  | true => rw [hk] at he; exact snd_fn (n := 1) tM4_ok (noTL_ok _ _) (fn := Tryd.f9) (by kernel_rfl) hL he
  | false =>
    rw [hk, etaV_eq, etaV_eq, ck_t (by rw [ble_t hl, okV_len h hk, Nat.beq_refl]; rfl)] at he
    cases h0 : Nat.beq v.l.length 0 with
    | true =>
      rw [h0] at he
      have h0 := Nat.eq_of_beq_eq_true h0
      have : markL t f v v.l.length = [] := by rw [h0]; rfl
      simp only [cond_false]
      rw [this]
      exact (snd_fn (n := 1) tM4_ok (noTL_ok _ _) (fn := Tryd.f9) (by kernel_rfl) hL he).post (cB_le v)
    | false => rw [h0] at he; exact snd_fn (n := 1) tM4_ok (noTL_ok _ _) (fn := Tryd.f9) (by kernel_rfl) hL he

-- the program's

def tMp : Eng.Told Pl := tell 18 (pss fun t k => (true, .tup [.agg (cA (getA (attrsV t) k)), dI (bif hasA (attrsV t) k then 0 else 9)])) (tell 20 (pvs fun v k => (true, .agg (cV (elemV v k)))) (tell 19 (p1 fun v => (true, .bool (secV v))) tell0))
theorem tMp_ok : TOk tMp := tell_ok (pss_ok fun t k _ => SFind_sound t k) (tell_ok (pvs_ok fun v k _ => cel_sound v k) (tell_ok (p1_ok fun v _ => sec_sound v) (tell0_ok _)))

def cMo (v : Val) : List (D Pl) := [.int .i64 v.kind, .int .i64 v.i, .str v.s, .arr 13, .pl ⟨.strs, v.keys⟩ .any, .int .i64 v.tk, .int .i64 v.tof, .bool v.sec]
def hMp (v0 v f : Val) (l : List Val) : Obs Pl := [(7, .box false (cMo v)), (13, .arr false (pVals l)), (6, .box false cZ), (5, .box false (cV f)), (4, .box false (cV v0))]
def slM (t : Str) (ks : List Str) (i : Int) : List (Nat × D Pl) := [(0, .str t), (5, .ptr 5 0), (6, .ptr 6 0), (7, .ptr 7 0), (27, .pl (pStrs ks) .any), (28, dI ks.length), (29, dI i)]
def sMp (t : Str) (v0 v f : Val) (ks : List Str) (l : List Val) (i : Int) : St Pl := mkS 55 (slM t ks i) (hMp v0 v f l)

theorem bMp (t : Str) (v0 v f : Val) (ks : List Str) (l : List Val) (i : Nat) : evD tMp noTL noL 1 (loopAt 7 0) [0, 5, 6, 7, 27, 28, 29] [10] (sMp t v0 v f ks l i) =
    lt_ i ks.length (ix_ i ks.length (bif (ownA t (ks.getD i []) == false) then (bif secV (etaV (elemV (etaV f) (ks.getD i []))) then ix_ i l.length (six_ i l.length (some (.normal, sMp t v0 v f ks (l.set i (trV (l.getD i default))) (IntKind.i64.wrap ((i : Int) + 1))))) else some (.normal, sMp t v0 v f ks l (IntKind.i64.wrap ((i : Int) + 1))))
      else ix_ i l.length (six_ i l.length (some (.normal, sMp t v0 v f ks (l.set i (trV (l.getD i default))) (IntKind.i64.wrap ((i : Int) + 1))))))) (some (.exit 0, sMp t v0 v f ks l i)) := by kernel_rfl

def stM (t : Str) (f : Val) (ks : List Str) (l : List Val) (i : Nat) : List Val := bif mkB t f (ks.getD i []) then l.set i (trV (l.getD i default)) else l
def foM (t : Str) (f : Val) (ks : List Str) (l : List Val) : Nat → List Val
  | 0 => l
  | n + 1 => stM t f ks (foM t f ks l n) n

theorem foM_len (t : Str) (f : Val) (ks : List Str) (l : List Val) : ∀ n, (foM t f ks l n).length = l.length
  | 0 => rfl
  | n + 1 => by
    have := foM_len t f ks l n
    simp only [foM, stM]
    cases mkB t f (ks.getD n []) <;> simp [this]

theorem foM_get (t : Str) (f : Val) (ks : List Str) (l : List Val) (d : Val) : ∀ n, n ≤ l.length → ∀ j, j < l.length → (foM t f ks l n).getD j d = if j < n then mkE t f (ks.getD j []) (l.getD j default) else l.getD j d
  | 0, _, j, _ => by simp [foM]
  | n + 1, hn, j, hj => by
    have ih := foM_get t f ks l d n (by omega)
    have ihd := foM_get t f ks l default n (by omega) n (by omega)
    rw [if_neg (by omega)] at ihd
    have hlen := foM_len t f ks l n
    simp only [foM, stM]
    by_cases hjn : j = n
    · subst hjn
      rw [if_pos (by omega)]
      unfold mkE
      cases hm : mkB t f (ks.getD j []) with
      | true =>
        simp only [cond_true]
        rw [ihd]
        simp [List.getD_eq_getElem?_getD, List.getElem?_set, hlen, hj]
      | false =>
        simp only [cond_false]
        rw [ih j hj, if_neg (by omega)]
        simp [List.getD_eq_getElem?_getD, hj]
    · have hset : ((foM t f ks l n).set n (trV ((foM t f ks l n).getD n default))).getD j d = (foM t f ks l n).getD j d := by
        simp [List.getD_eq_getElem?_getD, List.getElem?_set, Ne.symm hjn]
      have : (bif mkB t f (ks.getD n []) then (foM t f ks l n).set n (trV ((foM t f ks l n).getD n default)) else foM t f ks l n).getD j d = (foM t f ks l n).getD j d := by
        cases mkB t f (ks.getD n []) with
        | true => exact hset
        | false => rfl
      rw [this, ih j hj]
      by_cases h : j < n
      · rw [if_pos h, if_pos (by omega)]
      · rw [if_neg h, if_neg (by omega)]

theorem foM_mark (t : Str) (f v : Val) : foM t f v.keys v.l v.l.length = markL t f v v.l.length := by
  refine List.ext_getElem (by rw [foM_len, markL_len]) fun i h1 h2 => ?_
  rw [foM_len] at h1
  have := foM_get t f v.keys v.l default v.l.length (Nat.le_refl _) i h1
  rw [if_pos h1] at this
  have e1 : (foM t f v.keys v.l v.l.length).getD i default = (foM t f v.keys v.l v.l.length)[i] := by simp [List.getD_eq_getElem?_getD, foM_len, h1]
  rw [← e1, this]
  unfold markL
  simp

theorem idsMp : (loopsAt 7).length = 1 ∧ firstId (loopAt 7 0) = 5 ∧ loopsOf (loopAt 7 0) = [] := ⟨by kernel_rfl, by kernel_rfl, by kernel_rfl⟩

def rMp (v0 v f : Val) (l : List Val) : St Pl := mkS 55 [(7, .ptr 7 0), (6, .ptr 6 0)] (hMp v0 v f l)

def LSMp (S : St Pl) : Option (Bool × LR Pl) := match seenS 55 [0, 5, 6, 7, 27, 28, 29] S with
  | some ([.str t, .ptr 5 0, .ptr 6 0, .ptr 7 0, .pl ⟨.strs, ks⟩ .any, .int .i64 k, .int .i64 (.ofNat 0)], [(7, .box false [.int .i64 kd, .int .i64 ii, .str s, .arr 13, .pl ⟨.strs, ks'⟩ .any, .int .i64 tk, .int .i64 tof, .bool sec]), (13, .arr false ⟨.vals, l⟩),
      (6, .box false [.int .i64 (.ofNat 0), .int .i64 (.ofNat 0), .str [], .nilS, .nilS, .int .i64 (.ofNat 0), .int .i64 (.ofNat 0), .bool false]), (5, .box false cf), (4, .box false c0)]) => (match exV cf, exV c0 with
    | some f, some v0 => some (k == (ks.length : Int) && (Nat.ble ks.length big && Nat.ble ks.length l.length), .leaf (.exit 0) (rMp v0 ⟨kd, ii, s, l, ks', tk, tof, sec⟩ f (foM t f ks l ks.length)))
    | _, _ => none)
  | _ => none

theorem LSMp_ok : SOk X0 (loopAt 7 0) LSMp := by
  intro S b r h hb
  unfold LSMp at h
  split at h
  · rename_i t ks k kd ii s ks' tk tof sec l cf c0 hs
    split at h
    · rename_i f v0 hf h0
      simp only [Option.some.injEq, Prod.mk.injEq] at h
      obtain ⟨rfl, rfl⟩ := h
      simp only [Bool.and_eq_true, Nat.ble_eq] at hb
      obtain ⟨hk, hbig, hle⟩ := hb
      obtain rfl := beq_iff_eq.1 hk
      obtain rfl := exV_eq hf
      obtain rfl := exV_eq h0
      refine Goes.pre (keepOf [0, 5, 6, 7, 27, 28, 29]) ?_
      rw [seenS_mask hs]
      generalize hv : (⟨kd, ii, s, l, ks', tk, tof, sec⟩ : Val) = v
      have hst : mkS 55 ([0, 5, 6, 7, 27, 28, 29].zip [.str t, .ptr 5 0, .ptr 6 0, .ptr 7 0, .pl ⟨.strs, ks⟩ .any, .int .i64 (ks.length : Int), .int .i64 (.ofNat 0)]) [(7, .box false [.int .i64 kd, .int .i64 ii, .str s, .arr 13, .pl ⟨.strs, ks'⟩ .any, .int .i64 tk, .int .i64 tof, .bool sec]), (13, .arr false ⟨.vals, l⟩), (6, .box false cZ), (5, .box false (cV f)), (4, .box false (cV v0))] = sMp t v0 v f ks l 0 := by
        subst hv; rfl
      show GoesTo _ (mkS 55 ([0, 5, 6, 7, 27, 28, 29].zip [.str t, .ptr 5 0, .ptr 6 0, .ptr 7 0, .pl ⟨.strs, ks⟩ .any, .int .i64 (ks.length : Int), .int .i64 (.ofNat 0)]) [(7, .box false [.int .i64 kd, .int .i64 ii, .str s, .arr 13, .pl ⟨.strs, ks'⟩ .any, .int .i64 tk, .int .i64 tof, .bool sec]), (13, .arr false ⟨.vals, l⟩), (6, .box false cZ), (5, .box false (cV f)), (4, .box false (cV v0))]) _ _
      rw [hst]
      clear hst hs hv
      refine all_ofD tMp_ok (L := noL) (noLoops idsMp.2.2) (k := 1) (keep := [0, 5, 6, 7, 27, 28, 29]) (lose := [10]) (keep2 := [6, 7]) (Sf := fun i => sMp t v0 v f ks (foM t f ks l i) i) (n := ks.length) (by simp) (fun i hi => ?_) ?_ (by kernel_rfl)
      · refine (bMp t v0 v f ks _ i).trans ?_
        have hlen := foM_len t f ks l i
        have h6 : ∀ x : Option (Ex × St Pl), six_ i (foM t f ks l i).length x = x := fun x => by unfold six_; rw [decide_eq_true (by omega)]; rfl
        rw [lt_t hi, ix_t hi, etaV_eq, etaV_eq, ix_t (by omega), h6, wrap_nat (show i ≤ big by omega)]
        simp only [foM, stM, mkB]
        cases ownA t (ks.getD i []) <;> cases secV (elemV f (ks.getD i [])) <;> rfl
      · exact (bMp t v0 v f ks _ ks.length).trans (by rw [lt_f (by omega)])
    · simp at h
  · simp at h

theorem eMp (t : Str) (v f : Val) : evF (tCo (tMp)) noTL (atL 5 LSMp noL) 1 Tryd.f7 [.str t, .agg (cV v), .agg (cV f)] =
    ck_ (!(Nat.beq v.l.length 0)) (bif v.kind != 5 then some (.agg (cV v)) else
      ck_ ((true && decide (0 ≤ mnV v.keys.length v.l.length) && decide (mnV v.keys.length v.l.length ≤ (v.keys.length : Int))) || false)
        (ck_ ((((v.keys.drop 0).take ((mnV v.keys.length v.l.length).toNat - 0)).length : Int) == (((v.keys.drop 0).take ((mnV v.keys.length v.l.length).toNat - 0)).length : Int) && (Nat.ble ((v.keys.drop 0).take ((mnV v.keys.length v.l.length).toNat - 0)).length big && Nat.ble ((v.keys.drop 0).take ((mnV v.keys.length v.l.length).toNat - 0)).length v.l.length))
          (some (.agg (cV (withL v (foM t (etaV f) ((v.keys.drop 0).take ((mnV v.keys.length v.l.length).toNat - 0)) v.l ((v.keys.drop 0).take ((mnV v.keys.length v.l.length).toNat - 0)).length))))))) := by kernel_rfl

def LSMe (S : St Pl) : Option (Bool × LR Pl) := match seenS 55 [0, 5, 6, 7, 27, 28, 29] S with
  | some ([.str t, .ptr 5 0, .ptr 6 0, .ptr 7 0, .pl ⟨.strs, ks⟩ .any, .int .i64 k, .int .i64 (.ofNat 0)], [(7, .box false cv), (6, .box false [.int .i64 (.ofNat 0), .int .i64 (.ofNat 0), .str [], .nilS, .nilS, .int .i64 (.ofNat 0), .int .i64 (.ofNat 0), .bool false]), (5, .box false cf), (4, .box false c0)]) => (match exV cv, exV cf, exV c0 with
    | some v, some f, some v0 => some (k == (ks.length : Int) && Nat.beq ks.length 0, .leaf (.exit 0) (mkS 55 [(6, .ptr 6 0), (7, .ptr 7 0)] [(7, .box false (cV v)), (6, .box false cZ), (5, .box false (cV f)), (4, .box false (cV v0))]))
    | _, _, _ => none)
  | _ => none

def sMe (t : Str) (v0 v f : Val) : St Pl := mkS 55 (slM t [] 0) [(7, .box false (cV v)), (6, .box false cZ), (5, .box false (cV f)), (4, .box false (cV v0))]
theorem bMe (t : Str) (v0 v f : Val) : evC tMp noTL noL 1 (loopAt 7 0) [0, 5, 6, 7, 27, 28, 29] (sMe t v0 v f) = some (.exit 0, sMe t v0 v f) := by kernel_rfl

theorem LSMe_ok : SOk X0 (loopAt 7 0) LSMe := by
  intro S b r h hb
  unfold LSMe at h
  split at h
  · rename_i t ks k cv cf c0 hs
    split at h
    · rename_i v f v0 hv hf h0
      simp only [Option.some.injEq, Prod.mk.injEq] at h
      obtain ⟨rfl, rfl⟩ := h
      simp only [Bool.and_eq_true] at hb
      obtain ⟨hk, h00⟩ := hb
      obtain rfl := beq_iff_eq.1 hk
      have hks : ks = [] := List.length_eq_zero_iff.1 (Nat.eq_of_beq_eq_true h00)
      subst hks
      obtain rfl := exV_eq hv
      obtain rfl := exV_eq hf
      obtain rfl := exV_eq h0
      refine Goes.pre (keepOf [0, 5, 6, 7, 27, 28, 29]) ?_
      rw [seenS_mask hs]
      refine loop_all (Sf := fun _ => sMe t v0 v f) (n := 0) (by simp) (fun i hi => by omega) ?_
      exact (goes_of tMp_ok (noTL_ok _ _) (noLoops idsMp.2.2) (bMe t v0 v f)).post (keepOf [6, 7])
    · simp at h
  · simp at h

theorem eMe (t : Str) (v f : Val) : evF (tCe (tMp)) noTL (atL 5 LSMe noL) 1 Tryd.f7 [.str t, .agg (cV v), .agg (cV f)] =
    bif v.kind != 5 then some (.agg (cV v)) else
      ck_ ((true && decide (0 ≤ mnV v.keys.length v.l.length) && decide (mnV v.keys.length v.l.length ≤ (v.keys.length : Int))) || false)
        (ck_ ((((v.keys.drop 0).take ((mnV v.keys.length v.l.length).toNat - 0)).length : Int) == (((v.keys.drop 0).take ((mnV v.keys.length v.l.length).toNat - 0)).length : Int) && Nat.beq ((v.keys.drop 0).take ((mnV v.keys.length v.l.length).toNat - 0)).length 0)
          (some (.agg (cV v)))) := by kernel_rfl

theorem marked_sound (t : Str) (v f : Val) (h : okV v = true) : Snd 7 [.str t, .agg (cV v), .agg (cV f)] (.agg (cV (markV t v f))) := by
  refine SoundAt.rooms fun hroom => ?_
  have h2 : Room _ (.agg (cV v)) := hroom _ (by simp)
  have hl : v.l.length * 104 ≤ big := h2 (.pl (pVals v.l) .any) (by simp [cV])
  have hkl : v.keys.length * 16 ≤ big := h2 (.pl (pStrs v.keys) .any) (by simp [cV])
  unfold markV
  cases h0 : Nat.beq v.l.length 0 with
  | true =>
    have h0 := Nat.eq_of_beq_eq_true h0
    have hnil : v.l = [] := List.length_eq_zero_iff.1 h0
    have hL := loops_of (f := 7) (L := atL 5 LSMe noL) (fn := Tryd.f7) (by kernel_rfl) (loops_1 idsMp.1 (atL_ok (fun _ => LSMe_ok) fun h => absurd idsMp.2.1 h))
    refine snd_fn (n := 1) (R := tCe tMp) (tell_ok (p1_ok fun v _ => copy_sound v) tMp_ok) (noTL_ok _ _) (fn := Tryd.f7) (by kernel_rfl) hL ((eMe t v f).trans ?_)
    cases hk : v.kind != 5 with
    | true => rfl
    | false =>
      have hkl := okV_len h hk
      simp only [cond_false]
      rw [mnV_eq, ck_t (by rw [decide_eq_true (by omega), decide_eq_true (by omega)]; rfl), Int.toNat_natCast, Nat.sub_zero, List.drop_zero, ck_t (by rw [beq_self_eq_true, List.length_take, hkl, h0]; rfl)]
      have : withL v (markL t f v v.l.length) = v := by
        rw [h0, show markL t f v 0 = [] from rfl, ← hnil]
        exact etaV_eq v
      rw [this]
  | false =>
    have hL := loops_of (f := 7) (L := atL 5 LSMp noL) (fn := Tryd.f7) (by kernel_rfl) (loops_1 idsMp.1 (atL_ok (fun _ => LSMp_ok) fun h => absurd idsMp.2.1 h))
    refine snd_fn (n := 1) (R := tCo tMp) (tell_ok (p1_ok fun v hv => copy_own v (by simpa using hv)) tMp_ok) (noTL_ok _ _) (fn := Tryd.f7) (by kernel_rfl) hL ((eMp t v f).trans ?_)
    rw [h0, Bool.not_false, ck_t rfl]
    cases hk : v.kind != 5 with
    | true => rfl
    | false =>
      have hkl := okV_len h hk
      have htk : v.keys.take v.l.length = v.keys := by rw [← hkl, List.take_length]
      simp only [cond_false]
      rw [mnV_eq, ck_t (by rw [decide_eq_true (by omega), decide_eq_true (by omega)]; rfl), Int.toNat_natCast, Nat.sub_zero, List.drop_zero, hkl, Nat.min_self, htk, ck_t (by rw [beq_self_eq_true, ble_t (by omega), ble_t (by omega)]; rfl), etaV_eq, hkl, foM_mark]

end Go.Proofs.YtibfgggccedmdaaDoor
