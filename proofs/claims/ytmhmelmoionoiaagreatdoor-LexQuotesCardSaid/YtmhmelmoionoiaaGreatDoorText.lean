/-
  THE SCANNER READS A STRING.
-/
import Derived.Test.YtmhmelmoionoiaaGreatDoorBody
namespace Go.Proofs.YtmhmelmoionoiaaGreatDoor
open Go.Eng

set_option maxRecDepth 100000

theorem bodyM_len (s : Str) : ∀ (n p : Nat) (out : List PartR) (b : Str), s.length - p = n → (bodyM s p out b).ok = true → (bodyM s p out b).l.length + p ≤ out.length + (bodyM s p out b).q := by
  intro n
  induction n using Nat.strongRecOn with
  | _ n ih =>
    intro p out b hn ho
    rw [bodyM_eq] at ho ⊢
    have hfl := fl_len out b
    rcases Nat.lt_or_ge p s.length with h | h
    · rw [blt_t h] at ho ⊢
      simp only [Bool.not_true, cond_false] at ho ⊢
      cases h34 : byt s p == 34 with
      | true => simp only [cond_true]; omega
      | false =>
      cases h10 : byt s p == 10 with
      | true => rw [h34, h10] at ho; cases ho
      | false =>
      rw [h34, h10] at ho
      simp only [cond_false] at ho ⊢
      cases h92 : byt s p == 92 with
      | true =>
        rw [h92] at ho
        simp only [cond_true] at ho ⊢
        cases h2 : Nat.blt (p + 1) s.length with
        | false => rw [h2] at ho; cases ho
        | true =>
          rw [h2] at ho
          simp only [Bool.not_true, cond_false] at ho ⊢
          cases he : escB (byt s (p + 1)) with
          | true =>
            rw [he] at ho
            have := ih (s.length - (p + 2)) (by omega) (p + 2) _ _ rfl ho
            simp only [cond_true]; omega
          | false => rw [he] at ho; cases ho
      | false =>
      rw [h92] at ho
      simp only [cond_false] at ho ⊢
      cases h36 : two s p 36 123 with
      | true =>
        rw [h36] at ho
        simp only [cond_true] at ho ⊢
        cases hpc : pcOk s (p + 2) with
        | true =>
          rw [hpc] at ho
          have := ih (s.length - (p + 2 + pcn s (p + 2) + 1)) (by omega) _ _ _ rfl ho
          rw [List.length_append, List.length_singleton] at this
          simp only [cond_true]; omega
        | false => rw [hpc] at ho; cases ho
      | false =>
        rw [h36] at ho
        have := ih (s.length - (p + 1)) (by omega) _ _ _ rfl ho
        simp only [cond_false]; omega
    · rw [blt_f (by omega)] at ho; cases ho

def tkZ : List (D Pl) := [dI 0, .str [], dI 0, .nilS, dI 0, dI 0, dI 0]
def sT (z : Scn) (k : TokR) (P : Pl) (l : List PartR) (sz i : Int) : St Pl := mkS 46 [(0, .ptr 50000 0), (3, .ptr 3 0), (4, .ptr 4 0), (5, .pl P .any), (7, dI sz), (24, .pl (pParts l) .any), (25, dI l.length), (26, dI i)] (encN 60000010 z ++ [(4, .box false tkZ), (3, .box false (cTok k))])
noncomputable abbrev evT (S : St Pl) := evX tell0 noTL noL 1 (loopAt 21 0) [0, 3, 4, 5, 7, 24, 25, 26] [9] [] [50000, 60000010, 4, 3] S
def tB8 (z : Scn) (k : TokR) (P : Pl) (l : List PartR) (sz : Int) (i : Nat) : Option (Ex × St Pl) :=
  lt_ i l.length (ix_ i l.length (some (.normal, sT z k P l (w64 (sz + ((l.getD i default).s.length : Int))) (w64 ((i : Int) + 1))))) (some (.exit 0, sT z k P l sz i))
theorem b24n (s : Str) (p : Nat) (bad : Int) (bp : PosR) (k : TokR) (P : Pl) (l : List PartR) (sz : Int) (i : Nat) : evT (sT ⟨s, p, [], bad, bp⟩ k P l sz i) = tB8 ⟨s, p, [], bad, bp⟩ k P l sz i := by kernel_rfl
theorem b24c (s : Str) (p : Nat) (x : TokR) (r : List TokR) (bad : Int) (bp : PosR) (k : TokR) (P : Pl) (l : List PartR) (sz : Int) (i : Nat) : evT (sT ⟨s, p, x :: r, bad, bp⟩ k P l sz i) = tB8 ⟨s, p, x :: r, bad, bp⟩ k P l sz i := by kernel_rfl
theorem ids24 : (loopsAt 21).length = 1 ∧ firstId (loopAt 21 0) = 8 ∧ loopsOf (loopAt 21 0) = [] := ⟨by kernel_rfl, by kernel_rfl, by kernel_rfl⟩

theorem goT (z : Scn) (k : TokR) (P : Pl) (l : List PartR) (sz : Int) (i : Nat) {e : Ex} {S : St Pl} (h : tB8 z k P l sz i = some (e, S)) : Goes X0 (loopAt 21 0) (sT z k P l sz i) e S := by
  obtain ⟨s, p, toks, bad, bp⟩ := z
  cases toks with
  | nil => exact goes_ofX (tell0_ok _) (noTL_ok _ _) (noLoops ids24.2.2) ((b24n s p bad bp k P l sz i).trans h)
  | cons x r => exact goes_ofX (tell0_ok _) (noTL_ok _ _) (noLoops ids24.2.2) ((b24c s p x r bad bp k P l sz i).trans h)

theorem psum_take (l : List PartR) (i : Nat) (h : i < l.length) : psum (l.take (i + 1)) = psum (l.take i) + (l.getD i default).s.length := by
  rw [List.take_add_one, psum_app, List.getElem?_eq_getElem h, List.getD_eq_getElem?_getD, List.getElem?_eq_getElem h]
  rfl
theorem psum_le : ∀ (l : List PartR) (i : Nat), psum (l.take i) ≤ psum l
  | [], i => by simp
  | x :: l, 0 => by simp [psum]
  | x :: l, i + 1 => by
    have := psum_le l i
    simp only [List.take_succ_cons, psum]; omega

theorem loopT (z : Scn) (k : TokR) (P : Pl) (l : List PartR) (hl : l.length ≤ big) (hs : psum l ≤ big) : Goes X0 (.loop (loopAt 21 0)) (sT z k P l 0 0) (pickR (.leaf (.exit 0) (sT z k P l (psum l) l.length))).1 (pickR (.leaf (.exit 0) (sT z k P l (psum l) l.length))).2 := by
  have hbig : big = 140737488355328 := rfl
  refine loop_all (Sf := fun i => sT z k P l (psum (l.take i)) i) (n := l.length) (by simp) (fun i hi => goT z k P l _ i ?_) ?_
  · unfold tB8
    have h1 := psum_le l (i + 1)
    rw [psum_take l i hi] at h1
    rw [lt_t hi, ix_t hi, psum_take l i hi, show w64 ((i : Int) + 1) = ((i + 1 : Nat) : Int) from wrap_nat (by omega)]
    rw [show w64 (((psum (l.take i) : Nat) : Int) + ((l.getD i default).s.length : Int)) = ((psum (l.take i) + (l.getD i default).s.length : Nat) : Int) by
      rw [show ((psum (l.take i) : Nat) : Int) + ((l.getD i default).s.length : Int) = ((psum (l.take i) + (l.getD i default).s.length : Nat) : Int) by omega]
      exact wrap_in _ (by omega)]
  · have : Goes X0 (loopAt 21 0) (sT z k P l (psum l) l.length) (.exit 0) (sT z k P l (psum l) l.length) := goT z k P l _ _ (by unfold tB8; rw [lt_f (by omega)])
    simp only [List.take_length]
    exact this

def decN : Obs Pl → Option (Bool × Scn)
  | [(50000, .box false (.str s :: .int .i64 (.ofNat p) :: .int .i64 l :: .int .i64 t :: [.int .u64 (.ofNat 0), .int .u64 a, .int .u64 b, .int .u64 c, .int .u64 d, .int .u64 (.ofNat 0), .nilS, .int .i64 bad, .int .i64 ba, .int .i64 bl, .int .i64 bc, .str []]))] =>
    some ((l == ln s p && t == sn s p) && ((a == cF && b == cN) && (c == cF && d == cN)), ⟨s, p, [], bad, ⟨ba, bl, bc⟩⟩)
  | [(50000, .box false (.str s :: .int .i64 (.ofNat p) :: .int .i64 l :: .int .i64 t :: [.int .u64 (.ofNat 0), .int .u64 a, .int .u64 b, .int .u64 c, .int .u64 d, .int .u64 (.ofNat 0), .arr 60000010, .int .i64 bad, .int .i64 ba, .int .i64 bl, .int .i64 bc, .str []])), (60000010, .arr false ⟨.toks, x :: r⟩)] =>
    some ((l == ln s p && t == sn s p) && ((a == cF && b == cN) && (c == cF && d == cN)), ⟨s, p, x :: r, bad, ⟨ba, bl, bc⟩⟩)
  | _ => none

theorem decN_eq {H : Obs Pl} {b : Bool} {z : Scn} (h : decN H = some (b, z)) (hb : b = true) : H = encN 60000010 z := by
  unfold decN at h
  split at h
  · simp only [Option.some.injEq, Prod.mk.injEq] at h
    obtain ⟨rfl, rfl⟩ := h
    simp only [Bool.and_eq_true, beq_iff_eq] at hb
    obtain ⟨⟨rfl, rfl⟩, ⟨rfl, rfl⟩, rfl, rfl⟩ := hb
    rfl
  · simp only [Option.some.injEq, Prod.mk.injEq] at h
    obtain ⟨rfl, rfl⟩ := h
    simp only [Bool.and_eq_true, beq_iff_eq] at hb
    obtain ⟨⟨rfl, rfl⟩, ⟨rfl, rfl⟩, rfl, rfl⟩ := hb
    rfl
  · simp at h

def isZ : List (D Pl) → Bool
  | [.int .i64 a, .str [], .int .i64 b, .nilS, .int .i64 c, .int .i64 d, .int .i64 e] => (a == 0 && b == 0) && (c == 0 && (d == 0 && e == 0))
  | _ => false
theorem isZ_eq {l : List (D Pl)} (h : isZ l = true) : l = tkZ := by
  unfold isZ at h
  split at h
  · simp only [Bool.and_eq_true, beq_iff_eq] at h
    obtain ⟨⟨rfl, rfl⟩, rfl, rfl, rfl⟩ := h
    rfl
  · simp at h
def decK : List (D Pl) → Option TokR
  | [.int .i64 ki, .str ks, .int .i64 kn, .pl ⟨.parts, kp⟩ .any, .int .i64 ka, .int .i64 kl, .int .i64 kc] => some ⟨ki, ks, kn, kp, ⟨ka, kl, kc⟩⟩
  | _ => none
theorem decK_eq {l : List (D Pl)} {k : TokR} (h : decK l = some k) : l = cTok k := by
  unfold decK at h
  split at h
  · simp only [Option.some.injEq] at h
    subst h; rfl
  · simp at h
def decP (H : Obs Pl) (c4 c3 : List (D Pl)) : Option (Bool × Scn × TokR) := match decN H with
  | some (c, z) => match decK c3 with
    | some k => some (c && isZ c4, z, k)
    | none => none
  | none => none
theorem decP_eq {H : Obs Pl} {c4 c3 : List (D Pl)} {b : Bool} {z : Scn} {k : TokR} (h : decP H c4 c3 = some (b, z, k)) (hb : b = true) : H = encN 60000010 z ∧ c4 = tkZ ∧ c3 = cTok k := by
  unfold decP at h
  split at h
  · rename_i hd
    split at h
    · rename_i hk
      simp only [Option.some.injEq, Prod.mk.injEq] at h
      obtain ⟨rfl, rfl, rfl⟩ := h
      rw [Bool.and_eq_true] at hb
      exact ⟨decN_eq hd hb.1, isZ_eq hb.2, decK_eq hk⟩
    · simp at h
  · simp at h
def decT : Obs Pl → Option (Bool × Scn × TokR)
  | [h, (4, .box false c4), (3, .box false c3)] => decP [h] c4 c3
  | [h, h2, (4, .box false c4), (3, .box false c3)] => decP [h, h2] c4 c3
  | _ => none

theorem decT_eq {H : Obs Pl} {b : Bool} {z : Scn} {k : TokR} (h : decT H = some (b, z, k)) (hb : b = true) : H = encN 60000010 z ++ [(4, .box false tkZ), (3, .box false (cTok k))] := by
  unfold decT at h
  split at h
  · obtain ⟨h1, rfl, rfl⟩ := decP_eq h hb
    rw [← h1]; rfl
  · obtain ⟨h1, rfl, rfl⟩ := decP_eq h hb
    rw [← h1]; rfl
  · simp at h

def LS8 (S : St Pl) : Option (Bool × LR Pl) := match seenS 46 [0, 3, 4, 5, 7, 24, 25, 26] S with
  | some ([.ptr 50000 0, .ptr 3 0, .ptr 4 0, .pl P .any, .int .i64 (.ofNat 0), .pl ⟨.parts, l⟩ .any, .int .i64 n, .int .i64 (.ofNat 0)], H) => match decT H with
    | some (c, z, k) => some (c && (n == (l.length : Int) && (Nat.ble l.length big && Nat.ble (psum l) big)), .leaf (.exit 0) (sT z k P l (psum l) l.length))
    | none => none
  | _ => none

theorem LS8_ok : SOk X0 (loopAt 21 0) LS8 := by
  intro S b r h hb
  unfold LS8 at h
  split at h
  · rename_i P l n H hs
    split at h
    · rename_i c z k hd
      simp only [Option.some.injEq, Prod.mk.injEq] at h
      obtain ⟨rfl, rfl⟩ := h
      simp only [Bool.and_eq_true, Nat.ble_eq, beq_iff_eq] at hb
      obtain ⟨rfl, rfl, h1, h2⟩ := hb
      refine Goes.pre (keepOf [0, 3, 4, 5, 7, 24, 25, 26]) ?_
      rw [seenS_mask hs, decT_eq hd rfl]
      exact loopT z k P l h1 h2
    · simp at h
  · simp at h

noncomputable def tTx : Eng.Told Pl := tellM 30 (pM pBody) (tellM 16 (pM pStep) (tellM 28 (pM pFail) tell0))
theorem tTx_ok : TOk tTx := tellM_ok (pM_ok pBody_ok) (tellM_ok (pM_ok pStep_ok) (tellM_ok (pM_ok pFail_ok) (tell0_ok _)))

def tokP (t : TokR) (l : List PartR) : TokR := ⟨3, t.s, t.n, l, t.p⟩
def txE (z : Scn) (t : TokR) : Option (D Pl) := some (.env (encS z) (.agg (cTok t)))
def txB (z : Scn) (t : TokR) (o : BodyO) : Option (D Pl) :=
  bif !o.ok then ck_ (okS z.s z.p && true) (txE (Scn.fail z 4 t.p) t)
  else ck_ ((okS z.s z.p && true) && ((o.l.length : Int) == (o.l.length : Int) && (Nat.ble o.l.length big && Nat.ble (psum o.l) big)))
    (bif decide ((psum o.l : Int) > 1024) then ck_ (okS z.s z.p && true) (txE (Scn.fail z 3 t.p) (tokP t o.l)) else txE z (tokP t o.l))
def txA (z : Scn) (t : TokR) : Option (D Pl) := ck_ (okS z.s z.p && (Nat.ble z.p z.s.length && Nat.ble z.s.length 100000)) (txB (z.go (bodyM z.s z.p [] []).q) t (bodyM z.s z.p [] []))
def txF (z : Scn) (t : TokR) : Option (D Pl) := ck_ (okS z.s z.p && stepOk z 1) (txA (z.go (z.p + Int.toNat 1)) t)

theorem e24n (s : Str) (p : Nat) (bad : Int) (bp : PosR) (t : TokR) : evM tTx noTL (atL 8 LS8 noL) 2 Tryz.f21 (decH (encS ⟨s, p, [], bad, bp⟩)) [.ptr 50000 0, .agg (cTok t)] = txF ⟨s, p, [], bad, bp⟩ t := by kernel_rfl
theorem e24c (s : Str) (p : Nat) (x : TokR) (l : List TokR) (bad : Int) (bp : PosR) (t : TokR) : evM tTx noTL (atL 8 LS8 noL) 2 Tryz.f21 (decH (encS ⟨s, p, x :: l, bad, bp⟩)) [.ptr 50000 0, .agg (cTok t)] = txF ⟨s, p, x :: l, bad, bp⟩ t := by kernel_rfl

theorem textO_e (s : Str) (p : Nat) : textO s p = bif (bodyM s (p + 1) [] []).ok
  then ⟨⟨3, [], 0, (bodyM s (p + 1) [] []).l, posR s p⟩, (bodyM s (p + 1) [] []).q, bif decide ((psum (bodyM s (p + 1) [] []).l : Int) > 1024) then 3 else 0⟩
  else ⟨tok0 s p, (bodyM s (p + 1) [] []).q, 4⟩ := rfl

/-- What a string's token is, of a token that stood there before. -/
def txT (s : Str) (p : Nat) (t : TokR) : TokR := ⟨bif (bodyM s (p + 1) [] []).ok then 3 else t.kind, t.s, t.n, bif (bodyM s (p + 1) [] []).ok then (bodyM s (p + 1) [] []).l else t.parts, t.p⟩

theorem txF_eq {z : Scn} {t : TokR} (hp : z.p < z.s.length) (hl : z.s.length ≤ 100000) : txF z t = some (.env (encS (z.past (textO z.s z.p).e t.p (textO z.s z.p).q)) (.agg (cTok (txT z.s z.p t)))) := by
  have hbig : big = 140737488355328 := rfl
  unfold txF
  rw [ck_t (show (okS z.s z.p && stepOk z 1) = true from stepOk_t (n := 1) (by omega) (by omega))]
  show txA (z.go (z.p + 1)) t = _
  unfold txA
  rw [ck_t (by rw [okS_t, ble_t (show (z.go (z.p + 1)).p ≤ (z.go (z.p + 1)).s.length by show z.p + 1 ≤ z.s.length; omega), ble_t (show (z.go (z.p + 1)).s.length ≤ 100000 from hl)]; rfl)]
  show txB (z.go (bodyM z.s (z.p + 1) [] []).q) t (bodyM z.s (z.p + 1) [] []) = _
  have hin := bodyM_in z.s _ (z.p + 1) [] [] rfl (by omega)
  have hlen := bodyM_len z.s _ (z.p + 1) [] [] rfl
  rw [textO_e]
  unfold txB txT Scn.past
  generalize bodyM z.s (z.p + 1) [] [] = o at *
  obtain ⟨ok, l, q⟩ := o
  cases ok with
  | false =>
    simp only [Bool.not_false, cond_true, cond_false]
    rw [ck_t (by rw [okS_t]; rfl)]
    rfl
  | true =>
    have h2 := (hin.2.2 rfl).1
    have h3 := hlen rfl
    simp only [List.length_nil, psum] at h2 h3
    simp only at hin
    simp only [Bool.not_true, cond_true, cond_false]
    rw [ck_t (by rw [okS_t, beq_self_eq_true, ble_t (show l.length ≤ big by omega), ble_t (show psum l ≤ big by omega)]; rfl)]
    cases hd : decide (((psum l : Nat) : Int) > 1024) with
    | true =>
      simp only [cond_true]
      rw [ck_t (by rw [okS_t]; rfl)]
      rfl
    | false => rfl

theorem texts (z : Scn) (t : TokR) (hp : z.p < z.s.length) (hl : z.s.length ≤ 100000) :
    SndS 21 z [.agg (cTok t)] (.agg (cTok (txT z.s z.p t))) (z.past (textO z.s z.p).e t.p (textO z.s z.p).q) := by
  have hL := loops_of (f := 21) (fn := Tryz.f21) (by kernel_rfl) (loops_1 ids24.1 (L := atL 8 LS8 noL) (atL_ok (fun _ => LS8_ok) fun h => absurd ids24.2.1 h))
  have key := txF_eq (t := t) hp hl
  obtain ⟨s, p, toks, bad, bp⟩ := z
  cases toks with
  | nil => exact snd_m (n := 2) tTx_ok (noTL_ok _ _) (fn := Tryz.f21) (by kernel_rfl) hL ((e24n s p bad bp t).trans key)
  | cons x l => exact snd_m (n := 2) tTx_ok (noTL_ok _ _) (fn := Tryz.f21) (by kernel_rfl) hL ((e24c s p x l bad bp t).trans key)

end Go.Proofs.YtmhmelmoionoiaaGreatDoor

/-
  THE SCANNER READS A TOKEN.
-/

namespace Go.Proofs.YtmhmelmoionoiaaGreatDoor
open Go.Eng

set_option maxRecDepth 100000

theorem sndM_pre {f : FuncId} {H H' : Obs Pl} {ds ds' : List (D Pl)} {d : D Pl} (hle : RDles X0.C ds ds') (h : SndM f H ds' d H') : SndM f H ds d H' := by
  intro g vs ht hS hs hr
  obtain ⟨hl, hget⟩ := hle.spec
  refine h g vs ht hS (hs.trans hl) fun i v c hv hc => ?_
  obtain ⟨e, he, hle⟩ := hget i c hc
  exact hle _ _ (hr i v e hv he)

/-- What reads a token: a condition, the token, what is wrong, where it ends. -/
structure TkR where
  c : Bool
  t : TokR
  e : Int
  q : Nat

def pTk (f : Scn → TokR → TkR) (z : Scn) : List (D Pl) → Option (Bool × D Pl × Scn)
  | [.agg [.int .i64 k, .str s, .int .i64 n, x, .int .i64 a, .int .i64 b, .int .i64 c]] => match asL .parts x with
    | some l => some ((f z ⟨k, s, n, l, ⟨a, b, c⟩⟩).c, .agg (cTok (f z ⟨k, s, n, l, ⟨a, b, c⟩⟩).t), z.past (f z ⟨k, s, n, l, ⟨a, b, c⟩⟩).e ⟨a, b, c⟩ (f z ⟨k, s, n, l, ⟨a, b, c⟩⟩).q)
    | none => none
  | _ => none

theorem pTk_ok {g : FuncId} {f : Scn → TokR → TkR} (hf : ∀ z t, (f z t).c = true → SndS g z [.agg (cTok t)] (.agg (cTok (f z t).t)) (z.past (f z t).e t.p (f z t).q)) :
    ∀ z args c d z', pTk f z args = some (c, d, z') → c = true → SndS g z args d z' := by
  intro z args c d z' h hc
  unfold pTk at h
  split at h
  · split at h
    · rename_i hx
      simp only [Option.some.injEq, Prod.mk.injEq] at h
      obtain ⟨rfl, rfl, rfl⟩ := h
      refine sndM_pre ?_ (hf z _ hc)
      exact .cons (RDle.refl _) (.cons (RDle.agg (.cons (RDle.refl _) (.cons (RDle.refl _) (.cons (RDle.refl _) (.cons (asL_rdle hx) (RDles.refl _)))))) .nil)
    · simp at h
  · simp at h

def fN (z : Scn) (t : TokR) : TkR := ⟨Nat.ble z.p z.s.length && Nat.ble z.s.length big, tokN t (sl z.s z.p (runM z.s z.p)), (nameO z.s z.p).e, (nameO z.s z.p).q⟩
def fI (z : Scn) (t : TokR) : TkR := ⟨Nat.ble z.p z.s.length && Nat.ble z.s.length big, tokI t (numO z.s z.p).t.n, (numO z.s z.p).e, (numO z.s z.p).q⟩
def fT (z : Scn) (t : TokR) : TkR := ⟨Nat.blt z.p z.s.length && Nat.ble z.s.length 100000, txT z.s z.p t, (textO z.s z.p).e, (textO z.s z.p).q⟩
def fS (z : Scn) (t : TokR) : TkR := ⟨t.s.isEmpty && (Nat.blt z.p z.s.length && Nat.ble z.s.length big), tokS t (signO z.s z.p).t.s, (signO z.s z.p).e, (signO z.s z.p).q⟩

theorem named_past (z : Scn) (t : TokR) : z.named t = z.past (nameO z.s z.p).e t.p (nameO z.s z.p).q := by
  unfold Scn.named Scn.past nameO
  cases decide ((runM z.s z.p : Int) > 24) <;> rfl

theorem fN_ok (z : Scn) (t : TokR) (h : (fN z t).c = true) : SndS 19 z [.agg (cTok t)] (.agg (cTok (fN z t).t)) (z.past (fN z t).e t.p (fN z t).q) := by
  simp only [fN, Bool.and_eq_true, Nat.ble_eq] at h
  have := names z t h.1 h.2
  rwa [named_past] at this
theorem fI_ok (z : Scn) (t : TokR) (h : (fI z t).c = true) : SndS 20 z [.agg (cTok t)] (.agg (cTok (fI z t).t)) (z.past (fI z t).e t.p (fI z t).q) := by
  simp only [fI, Bool.and_eq_true, Nat.ble_eq] at h
  exact numbers z t h.1 h.2
theorem fT_ok (z : Scn) (t : TokR) (h : (fT z t).c = true) : SndS 21 z [.agg (cTok t)] (.agg (cTok (fT z t).t)) (z.past (fT z t).e t.p (fT z t).q) := by
  simp only [fT, Bool.and_eq_true, Nat.ble_eq, Nat.blt_eq] at h
  exact texts z t h.1 h.2
theorem fS_ok (z : Scn) (t : TokR) (h : (fS z t).c = true) : SndS 22 z [.agg (cTok t)] (.agg (cTok (fS z t).t)) (z.past (fS z t).e t.p (fS z t).q) := by
  simp only [fS, Bool.and_eq_true, Nat.ble_eq, Nat.blt_eq, List.isEmpty_iff] at h
  exact signs z t h.1 h.2.1 h.2.2

noncomputable def tTk : Eng.Told Pl := tellM 19 (pM (pTk fN)) (tellM 20 (pM (pTk fI)) (tellM 21 (pM (pTk fT)) (tellM 22 (pM (pTk fS)) (tHas tell0))))
theorem tTk_ok : TOk tTk := tellM_ok (pM_ok (pTk_ok fN_ok)) (tellM_ok (pM_ok (pTk_ok fI_ok)) (tellM_ok (pM_ok (pTk_ok fT_ok)) (tellM_ok (pM_ok (pTk_ok fS_ok)) (tHas_ok (tell0_ok _)))))

def apT {β : Type} (toks : List TokR) (k : Option β) : Option β := match toks with
  | [] => k
  | x :: l => ck_ (Nat.ble (((x :: l).length + 1) * 80) big) k
theorem apT_t {β : Type} {toks : List TokR} (h : (toks.length + 1) * 80 ≤ big) (k : Option β) : apT toks k = k := by
  cases toks with
  | nil => rfl
  | cons x b => exact ck_t (ble_t h) k
def Scn.app (z : Scn) (t : TokR) : Scn := { z with toks := z.toks ++ [t] }
def tkA (z : Scn) (t : TokR) : Option (D Pl) := apT z.toks (some (.env (encS (z.app t)) (.tup [])))
def tkW (z : Scn) : TokR := ⟨0, [], 0, [], posW z⟩
def tkC (z : Scn) (r : TkR) : Option (D Pl) := ck_ (okS z.s z.p && r.c) (tkA (z.past r.e (posW z) r.q) r.t)
def tkB (z : Scn) : Option (D Pl) := bif (z.p : Int) == (z.s.length : Int) then tkA z (tkW z) else ix_ z.p z.s.length (ck_ (byB (byt z.s z.p)) (bif letB (byt z.s z.p) then tkC z (fN z (tkW z)) else
  ck_ (byB (byt z.s z.p)) (bif digB (byt z.s z.p) then tkC z (fI z (tkW z)) else bif byt z.s z.p == 34 then tkC z (fT z (tkW z)) else tkC z (fS z (tkW z)))))

theorem e16n (s : Str) (p : Nat) (bad : Int) (bp : PosR) : evM tTk noTL noL 3 Tryz.f13 (decH (encS ⟨s, p, [], bad, bp⟩)) [.ptr 50000 0] = tkB ⟨s, p, [], bad, bp⟩ := by kernel_rfl
theorem e16c (s : Str) (p : Nat) (x : TokR) (l : List TokR) (bad : Int) (bp : PosR) : evM tTk noTL noL 3 Tryz.f13 (decH (encS ⟨s, p, x :: l, bad, bp⟩)) [.ptr 50000 0] = tkB ⟨s, p, x :: l, bad, bp⟩ := by kernel_rfl
theorem ids16 : (loopsAt 13).length = 0 := by kernel_rfl

/-- The scanner behind the token that stands there. -/
def Scn.tokd (z : Scn) : Scn := (z.past (tokO z.s z.p).e (posR z.s z.p) (tokO z.s z.p).q).app (tokO z.s z.p).t

theorem byB_byt (s : Str) (p : Nat) : byB (byt s p) = true := byB_bytI s p

theorem signO_t (s : Str) (p : Nat) : (signO s p).t = ⟨4, (signO s p).t.s, 0, [], posR s p⟩ := by
  unfold signO
  cases twoS s p with
  | nil => cases isOne (byt s p) <;> rfl
  | cons x l => rfl

theorem tkB_eq {z : Scn} (hp : z.p ≤ z.s.length) (hl : z.s.length ≤ 100000) (ht : z.toks.length ≤ 100000) : tkB z = some (.env (encS z.tokd) (.tup [])) := by
  have hbig : big = 140737488355328 := rfl
  have hlb : z.s.length ≤ big := by omega
  have hap : (z.toks.length + 1) * 80 ≤ big := by omega
  have hpw := posW_eq hp hlb
  have hC : ∀ r : TkR, r.c = true → tkC z r = some (.env (encS ((z.past r.e (posR z.s z.p) r.q).app r.t)) (.tup [])) := by
    intro r hr
    unfold tkC tkA
    rw [ck_t (by rw [okS_t, hr]; rfl), hpw]
    exact apT_t (toks := z.toks) hap _
  have hW : tkW z = tok0 z.s z.p := by unfold tkW tok0; rw [hpw]
  unfold tkB Scn.tokd tokO
  by_cases h : z.p = z.s.length
  · rw [show ((z.p : Int) == (z.s.length : Int)) = true by rw [h]; simp, show Nat.beq z.p z.s.length = true by rw [h]; exact Nat.beq_refl _]
    simp only [cond_true]
    rw [hW]
    unfold tkA
    rw [apT_t hap]
    rfl
  · have hlt : z.p < z.s.length := by omega
    rw [show ((z.p : Int) == (z.s.length : Int)) = false from beq_eq_false_iff_ne.2 (by omega), show Nat.beq z.p z.s.length = false by
      cases hb : Nat.beq z.p z.s.length with
      | false => rfl
      | true => exact absurd (Nat.eq_of_beq_eq_true hb) h]
    simp only [cond_false]
    rw [ix_t hlt, ck_t (byB_byt _ _), ck_t (byB_byt _ _), hW]
    cases letB (byt z.s z.p) with
    | true =>
      simp only [cond_true]
      rw [hC _ (by unfold fN; rw [ble_t hp, ble_t hlb]; rfl)]
      rfl
    | false =>
    cases digB (byt z.s z.p) with
    | true =>
      simp only [cond_true, cond_false]
      rw [hC _ (by unfold fI; rw [ble_t hp, ble_t hlb]; rfl)]
      rfl
    | false =>
    cases byt z.s z.p == 34 with
    | true =>
      simp only [cond_true, cond_false]
      rw [hC _ (by unfold fT; rw [blt_t hlt, ble_t hl]; rfl)]
      have : (fT z (tok0 z.s z.p)).t = (textO z.s z.p).t := by
        unfold fT txT
        rw [textO_e]
        cases (bodyM z.s (z.p + 1) [] []).ok <;> rfl
      rw [this]
      rfl
    | false =>
      simp only [cond_false]
      rw [hC _ (by unfold fS; rw [blt_t hlt, ble_t hlb]; rfl)]
      have : (fS z (tok0 z.s z.p)).t = (signO z.s z.p).t := by rw [signO_t]; rfl
      rw [this]
      rfl

theorem tokens (z : Scn) (hp : z.p ≤ z.s.length) (hl : z.s.length ≤ 100000) (ht : z.toks.length ≤ 100000) : SndS 13 z [] (.tup []) z.tokd := by
  have hL := loops_of (f := 13) (fn := Tryz.f13) (by kernel_rfl) (loops_0 ids16 (L := noL))
  have key := tkB_eq hp hl ht
  obtain ⟨s, p, toks, bad, bp⟩ := z
  cases toks with
  | nil => exact snd_m (n := 3) tTk_ok (noTL_ok _ _) (fn := Tryz.f13) (by kernel_rfl) hL ((e16n s p bad bp).trans key)
  | cons x l => exact snd_m (n := 3) tTk_ok (noTL_ok _ _) (fn := Tryz.f13) (by kernel_rfl) hL ((e16c s p x l bad bp).trans key)

end Go.Proofs.YtmhmelmoionoiaaGreatDoor
