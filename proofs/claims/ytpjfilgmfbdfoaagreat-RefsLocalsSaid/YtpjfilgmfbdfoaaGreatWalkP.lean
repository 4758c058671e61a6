/-
  THE REFERENCES OF AN EXPRESSION, by the program: refs.walk with what refs.Of does at each.
-/
import Derived.Test.YtpjfilgmfbdfoaaGreatDeclD
import Derived.Test.YtpjfilgmfbdfoaaGreatRLaw
namespace Go.Proofs.YtpjfilgmfbdfoaaGreat
open Go.Eng
set_option maxRecDepth 100000
def s26 (l:List Str) (k:Str) (i:Int):St Pl:=mkS 19 [(0,.pl (pStrs l) .any),(1,.str k),(4,dI 0),(7,dI l.length),(8,dI i)] []
def s26r (l:List Str) (k:Str) (i:Int):St Pl:=mkS 19 [(0,.pl (pStrs l) .any),(1,.str k),(4,dI i),(7,dI l.length),(8,dI i)] []
def r26 (l:List Str) (k:Str) (i:Int):St Pl:=mkS 19 [(0,.pl (pStrs l) .any),(1,.str k),(4,dI i)] []
theorem b26 (l:List Str) (k:Str) (i:Nat):evC tell0 noTL noL 1 (loopAt 68 0) [0,1,4,7,8] (s26 l k i) =
    lt_ i l.length (ix_ i l.length (bif k==l.getD i [] then some (.ret,s26r l k i) else some (.normal,s26 l k (IntKind.i64.wrap ((i:Int)+1))))) (some (.exit 0,s26 l k i)):=by kernel_rfl
theorem ids26:(loopsAt 68).length=1∧firstId (loopAt 68 0)=2∧loopsOf (loopAt 68 0)=[]:=⟨by kernel_rfl,by kernel_rfl,by kernel_rfl⟩
def LS26 (S:St Pl):Option (Bool×LR Pl):=match seenS 19 [0,1,4,7,8] S with
  | some ([.pl ⟨.strs,l⟩ .any,.str k,.int .i64 (.ofNat 0),.int .i64 n,.int .i64 (.ofNat 0)],[]) =>
    some (n==(l.length:Int)&&Nat.ble l.length big,loopR l.length (fun i=>!(k==l.getD i [])) (.exit 0) (r26 l k 0) .ret (fun i=>r26 l k i))
  | _=>none
theorem LS26_ok:SOk X0 (loopAt 68 0) LS26:=by
  intro S c r h hc
  unfold LS26 at h
  split at h
  · rename_i l k n hs
    simp only [Option.some.injEq,Prod.mk.injEq] at h
    obtain ⟨rfl,rfl⟩:=h
    simp only [Bool.and_eq_true,Nat.ble_eq,beq_iff_eq] at hc
    obtain ⟨rfl,hb⟩:=hc
    refine Goes.pre (keepOf [0,1,4,7,8]) ?_
    rw [seenS_mask hs]
    refine loop_gen (Sf:=fun i=>s26 l k i) (n:=l.length) (p:=fun i=>!(k==l.getD i [])) (by simp) (by simp) (fun i hi hp=>?_) (fun i hi hp=>?_) ?_
    · have hp:(k==l.getD i [])=false:=by simpa using hp
      refine goes_of (tell0_ok _) (noTL_ok _ _) (noLoops ids26.2.2) ((b26 l k i).trans ?_)
      rw [lt_t hi,ix_t hi,hp,wrap_nat (show i≤big by omega)]
      rfl
    · have hp:(k==l.getD i [])=true:=by simpa using hp
      exact (goes_of (tell0_ok _) (noTL_ok _ _) (noLoops ids26.2.2) ((b26 l k i).trans (show _=some (.ret,s26r l k i) by rw [lt_t hi,ix_t hi,hp];rfl))).post (keepOf [0,1,4])
    · exact (goes_of (tell0_ok _) (noTL_ok _ _) (noLoops ids26.2.2) ((b26 l k l.length).trans (show _=some (.exit 0,s26 l k l.length) by rw [lt_f (by omega)]))).post (keepOf [0,1,4])
  · simp at h
def posN (l:List Str) (k:Str):Nat:=ff (fun i=>!(k==l.getD i [])) l.length
theorem e26 (l:List Str) (k:Str):evF tell0 noTL (atL 2 LS26 noL) 2 Tryz.f68 [.pl (pStrs l) .any,.str k] =
    ck_ (((l.length:Int)==(l.length:Int))&&Nat.ble l.length big) (bif Nat.beq (posN l k) l.length then some (dI (-1)) else some (dI (posN l k))):=by kernel_rfl
def idxV (l:List Str) (k:Str):Int:=bif Nat.beq (posN l k) l.length then -1 else (posN l k:Int)
theorem index_sound (l:List Str) (k:Str):Snd 68 [.pl (pStrs l) .any,.str k] (dI (idxV l k)):=by
  refine SoundAt.rooms fun hroom=>snd_fn (n:=2) (tell0_ok _) (noTL_ok _ _) (f:=68) (fn:=Tryz.f68) (by kernel_rfl) (loops_of (f:=68) (fn:=Tryz.f68) (by kernel_rfl) (loops_1 ids26.1 (atL_ok (fun _=>LS26_ok) fun h=>absurd ids26.2.1 h))) ((e26 l k).trans ?_)
  have ha:l.length * 16≤big:=hroom (.pl (pStrs l) .any) (by simp)
  rw [ck_t (by rw [beq_self_eq_true,ble_t (by omega)];rfl)]
  unfold idxV
  cases Nat.beq (posN l k) l.length<;>rfl
theorem e29 (f:List Str→Str→Int) (l:List Str) (k:Str):evF (tell 68 (pHasS fun l x=>dI (f l x)) tell0) noTL noL 1 Tryz.f45 [.pl (pStrs l) .any,.str k]=some (.bool (decide (f l k ≥ 0))):=by kernel_rfl
theorem idxV_has (l:List Str) (k:Str):decide (idxV l k ≥ 0)=hasS l k:=by
  have h0:((List.range l.length).all fun i=>!(k==l.getD i []))=!(hasS l k):=by
    rw [←hasS_range]
    congr 1
    funext i
    rw [Bool.beq_comm]
  unfold idxV
  rcases ff_spec l.length (fun i=>!(k==l.getD i [])) with ⟨h1,h2⟩ | ⟨h1,h2,_⟩
  · have:posN l k=l.length:=h1
    rw [this,Nat.beq_refl,cond_true]
    have h3:((List.range l.length).all fun i=>!(k==l.getD i []))=true:=List.all_eq_true.2 fun i hi=>h2 i (List.mem_range.1 hi)
    rw [h3] at h0
    have:hasS l k=false:=by simpa using h0.symm
    rw [this];rfl
  · have hlt:posN l k < l.length:=h1
    rw [show Nat.beq (posN l k) l.length=false from by
      cases hb:Nat.beq (posN l k) l.length with
      | false=>rfl
      | true=>have:=Nat.eq_of_beq_eq_true hb;omega,cond_false]
    have h3:((List.range l.length).all fun i=>!(k==l.getD i []))=false:=by
      rw [List.all_eq_false]
      exact ⟨posN l k,List.mem_range.2 hlt,by rw [show (!(k==l.getD (posN l k) []))=false from h2];simp⟩
    rw [h3] at h0
    have:hasS l k=true:=by simpa using h0.symm
    rw [this]
    exact decide_eq_true (by omega)
theorem pIdx_ok:∀ds b d,pHasS (fun l x=>dI (idxV l x)) ds=some (b,d)→b=true→Snd 68 ds d:=pHasS_ok index_sound
theorem contains_sound (l:List Str) (k:Str):Snd 45 [.pl (pStrs l) .any,.str k] (.bool (hasS l k)):=by
  rw [←idxV_has]
  exact snd_fn (n:=1) (tell_ok pIdx_ok (tell0_ok _)) (noTL_ok _ _) (f:=45) (fn:=Tryz.f45) (by kernel_rfl) (loops_of (f:=45) (fn:=Tryz.f45) (by kernel_rfl) (loops_0 (by kernel_rfl))) (e29 idxV l k)
end Go.Proofs.YtpjfilgmfbdfoaaGreat
namespace Go.Proofs.YtpjfilgmfbdfoaaGreat
open Go.Eng
set_option maxRecDepth 100000
def isL (op:Int):Bool:=bif op==24 then true else op==25
def isD (e:ExprR):Bool:=bif (bif e.op==3 then (e.l.length:Int)==1 else false) then (e.l.getD 0 default).op==2 else false
def bnd (b:List Str) (e:ExprR) (i:Nat):List Str:=bif (bif decide ((i:Int) > 0) then isL e.op else false) then b++[e.s,e.s2] else b
def accA (A:List Str→ExprR→List AskedR) (b:List Str) (e:ExprR):Nat→List AskedR
  | 0=>[]
  | i+1=>accA A b e i++A (bnd b e i) (e.l.getD i default)
def allR:Nat→List Str→ExprR→List AskedR
  | 0,_,_=>[]
  | n+1,b,e =>
    bif e.op==2 then (bif hasS b e.s then [] else [⟨⟨e.s,[]⟩,e.p⟩])
    else bif isD e then (bif hasS b (e.l.getD 0 default).s then [] else [⟨⟨(e.l.getD 0 default).s,e.s⟩,(e.l.getD 0 default).p⟩])
    else accA (allR n) b e e.l.length
def okA (b:List Str) (e:ExprR):Bool:=Nat.ble ((b.length+2 * esz e) * 64) big
theorem eszs_take {l:List ExprR} {i:Nat} (hi:i < l.length):eszs (l.take (i+1))=eszs (l.take i)+esz (l.getD i default):=by
  induction l generalizing i with
  | nil=>simp at hi
  | cons x r ih =>
    cases i with
    | zero=>simp [eszs]
    | succ i =>
      have:=ih (i:=i) (by simpa using hi)
      simp only [List.take_succ_cons,eszs,List.getD_cons_succ] at this ⊢
      omega
theorem accA_len {A:List Str→ExprR→List AskedR} (hA:∀b x,(A b x).length≤esz x) (b:List Str) (e:ExprR):∀i,i≤e.l.length→(accA A b e i).length≤eszs (e.l.take i)
  | 0,_=>by simp [accA]
  | i+1,hi=>by
    have h1:=accA_len hA b e i (by omega)
    have h2:=hA (bnd b e i) (e.l.getD i default)
    rw [eszs_take (by omega),accA,List.length_append]
    omega
theorem esz_pos (e:ExprR):0 < esz e:=by have:=esz_eq e;omega
theorem allR_len:∀n b e,(allR n b e).length≤esz e
  | 0,_,_=>by simp [allR]
  | n+1,b,e=>by
    have:=esz_pos e
    have h1:=accA_len (allR_len n) b e e.l.length (Nat.le_refl _)
    have h2:=esz_eq e
    rw [List.take_length] at h1
    rw [allR]
    cases e.op==2 with
    | true =>
      rw [cond_true]
      cases hasS b e.s<;>simp<;>omega
    | false =>
      rw [cond_false]
      cases isD e with
      | true =>
        rw [cond_true]
        cases hasS b (e.l.getD 0 default).s<;>simp<;>omega
      | false=>rw [cond_false];omega
theorem okA_of {b:List Str} {e:ExprR} (h:okA b e=true):(b.length+2 * esz e) * 64≤big:=by
  unfold okA at h
  rwa [Nat.ble_eq] at h
end Go.Proofs.YtpjfilgmfbdfoaaGreat
namespace Go.Proofs.YtpjfilgmfbdfoaaGreat
open Go.Eng
set_option maxRecDepth 100000
def cu {α:Type} (o:List α) (a n:Nat):List α:=(o.drop a).take n
abbrev Mp:Type:=List (Tw×Unit)
def mpT (m:Mp):Pl:=⟨.map .two .unit,m⟩
def HW (m:Mp):Obs Pl:=[(50000,.box false [.mp 100000]),(100000,.map false (mpT m))]
def putT (m:Mp) (x:Tw):Mp:=putM (k:=.two) (v:=.unit) m x ()
theorem e13 (m:Mp) (x:Tw) (p:PosR):evM tell0 noTL noL 1 Tryz.f21 (HW m) [.agg (cT x),.agg (cPos p),.ptr 50000 0]=some (.env (encH (HW (putT m x))) (.bool true)):=by kernel_rfl
theorem put_sound (m:Mp) (x:Tw) (p:PosR):SndM 21 (HW m) [.agg (cT x),.agg (cPos p),.ptr 50000 0] (.bool true) (HW (putT m x)):=by
  rw [←dec_enc (HW (putT m x)) (by intro e he;simp only [HW,List.mem_cons,List.not_mem_nil,or_false] at he;rcases he with rfl | rfl<;>rfl)]
  exact snd_m (n:=1) (tell0_ok _) (noTL_ok _ _) (f:=21) (fn:=Tryz.f21) (by kernel_rfl) (loops_of (f:=21) (fn:=Tryz.f21) (by kernel_rfl) (loops_0 (by kernel_rfl))) (e13 m x p)
def accW (W:List Str→ExprR→Mp→Mp) (b:List Str) (e:ExprR) (m:Mp):Nat→Mp
  | 0=>m
  | i+1=>W (bnd b e i) (e.l.getD i default) (accW W b e m i)
def walkR:Nat→List Str→ExprR→Mp→Mp
  | 0,_,_,m=>m
  | n+1,b,e,m =>
    bif e.op==2 then (bif hasS b e.s then m else putT m (e.s,[]))
    else bif isD e then (bif hasS b (e.l.getD 0 default).s then m else putT m ((e.l.getD 0 default).s,e.s))
    else accW (walkR n) b e m e.l.length
def pPut:List (D Pl)→List (D Pl)→Option (Bool×D Pl×List (D Pl))
  | [.obB 50000 [.mp 100000],.obM 100000 ⟨.map .two .unit,m⟩],[.agg [.str a,.str b],.agg [.int .i64 _,.int .i64 _,.int .i64 _],.ptr 50000 0]=>some (true,.bool true,encH (HW (putT m (a,b))))
  | _,_=>none
def pWalk (n:Nat):List (D Pl)→List (D Pl)→Option (Bool×D Pl×List (D Pl))
  | [.obB 50000 [.mp 100000],.obM 100000 ⟨.map .two .unit,m⟩],[d,b,.fn 21 [.ptr 50000 0]]=>match asE d,asL .strs b with
    | some e,some b=>some (Nat.blt (esz e) n&&okA b e,.bool true,encH (HW (walkR n b e m)))
    | _,_=>none
  | _,_=>none
def tW (n:Nat):Eng.Told Pl:=tell 45 (pHasS fun l x=>.bool (hasS l x)) (tellM 21 pPut (tellM 20 (pWalk n) tell0))
def sW (e:ExprR) (b c:List Str) (m:Mp) (i:Int):St Pl:=mkS 101 [(1,.pl (pStrs b) .any),(2,.fn 21 [.ptr 50000 0]),(8,.pl (pStrs c) .any),(84,.pl (pExprs e.l) .any),(85,dI e.l.length),(86,dI i)] [(50000,.box false [.mp 100000]),(100000,.map false (mpT m))]
def FW:Fix Pl:={ keep:=[1,2,8,84,85,86],lose:=[10],can:=[(50000,0,100000)],ord:=[50000,100000] }
theorem bW (e:ExprR) (b c:List Str) (m:Mp) (n i:Nat):evZ (tW n) noTL noL 2 (loopAt 20 0) FW (sW e b c m i) =
  (let k:=fun (nm:List Str)=>ck_ (Nat.blt (esz (etaE (e.l.getD i default))) n&&okA nm (etaE (e.l.getD i default))) (some (Ex.normal,sW e b c (walkR n nm (etaE (e.l.getD i default)) m) (w64 ((i:Int)+1))))
  lt_ i e.l.length (ix_ i e.l.length (bif (i:Int)==0 then k b else k c)) (some (.exit 1,sW e b c m i))):=by kernel_rfl
theorem idsW:(loopsAt 20).length=1∧firstId (loopAt 20 0)=12∧loopsOf (loopAt 20 0)=[]:=⟨by kernel_rfl,by kernel_rfl,by kernel_rfl⟩
def loc (b:List Str) (e:ExprR):List Str:=bif isL e.op then b++[e.s,e.s2] else b
theorem bnd_loc (b:List Str) (e:ExprR) (i:Nat):bnd b e i=bif (i:Int)==0 then b else loc b e:=by
  unfold bnd loc
  cases i with
  | zero=>rfl
  | succ i =>
    rw [decide_eq_true (by omega),show (((i+1:Nat):Int)==0)=false by rw [beq_eq_false_iff_ne];omega]
    rfl
def rW (m:Mp):St Pl:=mkS 101 [] [(50000,.box false [.mp 100000]),(100000,.map false (mpT m))]
def FWh:Fix Pl:={ calm:=[82],keep:=[1,2,8,84,85,86],lose:=[3,7,82],can:=[(50000,0,100000)],ord:=[50000,100000] }
def accC (W:List Str→ExprR→Mp→Mp) (b c:List Str) (l:List ExprR) (m:Mp):Nat→Mp
  | 0=>m
  | i+1=>W (bif (i:Int)==0 then b else c) (l.getD i default) (accC W b c l m i)
def okC (b c:List Str) (l:List ExprR):Bool:=Nat.ble ((b.length+2 * eszs l) * 64) big&&Nat.ble ((c.length+2 * eszs l) * 64) big
noncomputable def LSW (n:Nat) (S:St Pl):Option (Bool×LR Pl):=match seenS 101 [1,2,8,84,85,86] (fixS X0.C FWh S) with
  | some ([.pl ⟨.strs,b⟩ .any,.fn 21 [.ptr 50000 0],.pl ⟨.strs,c⟩ .any,.pl ⟨.exprs,l⟩ .any,.int .i64 k,.int .i64 (.ofNat 0)],[(50000,.box false [.mp 100000]),(100000,.map false ⟨.map .two .unit,m⟩)]) =>
    some (k==(l.length:Int)&&(Nat.blt (eszs l) n&&okC b c l),.leaf (.exit 1) (rW (accC (walkR n) b c l m l.length)))
  | _=>none
theorem eW (e:ExprR) (b:List Str) (m:Mp) (n:Nat):evM (tW n) noTL (atL 12 (LSW n) noL) 2 Tryz.f20 (HW m) [.agg (cExpr e),.pl (pStrs b) .any,.fn 21 [.ptr 50000 0]] =
  (let A:=fun (m:Mp)=>some (D.env (encH (HW m)) (.bool true))
  let L:=fun (c:List Str)=>ck_ (((e.l.length:Int)==(e.l.length:Int))&&(Nat.blt (eszs e.l) n&&okC b c e.l)) (A (accC (walkR n) b c e.l m e.l.length))
  let q:=cu b 0 b.length
  let L':=bif isL e.op then ck_ (true&&true&&decide ((0:Int)≤(b.length:Int))&&decide ((b.length:Int)≤(b.length:Int))&&((b.length:Int)==(b.length:Int))||false) <| ck_ (true&&(true&&(Nat.beq q.length 0||true)&&true&&true&&true&&Nat.ble ((q.length+2) * 16) big)) (L (q++[e.s,e.s2])) else L b
  bif e.op==2 then (bif hasS b e.s==false then A (putT m (e.s,[])) else A m)
  else bif e.op==3 then ixo_ 0 e.l.length (((e.l.length:Int)==1)==true) (bif (bif (e.l.length:Int)==1 then (e.l.getD 0 default).op==2 else false) then ix_ 0 e.l.length (bif hasS b (e.l.getD 0 default).s==false then A (putT m ((e.l.getD 0 default).s,e.s)) else A m) else L') else L'):=by kernel_rfl
theorem SoundM.pre {P:Program} {C:Pay Pl} {glob:Nat→Option (List (D Pl))} {f:FuncId} {H H':Obs Pl} {ds ds':List (D Pl)} {d:D Pl} (hle:RDles C ds ds') (h:SoundM P C glob f H ds' d H'):SoundM P C glob f H ds d H':=by
  intro g vs ht hS hs hr
  obtain ⟨hl,hget⟩:=hle.spec
  refine h g vs ht hS (hs.trans hl) fun i v c hv hc=>?_
  obtain ⟨e,he,hle⟩:=hget i c hc
  exact hle _ _ (hr i v e hv he)
theorem dec_HW (m:Mp):decH (encH (HW m))=HW m:=rfl
theorem pPut_ok:∀os ds b d os',pPut os ds=some (b,d,os')→b=true→SndM 21 (decH os) ds d (decH os'):=by
  intro os ds b d os' h hb
  unfold pPut at h
  split at h
  · simp only [Option.some.injEq,Prod.mk.injEq] at h
    obtain ⟨_,rfl,rfl⟩:=h
    exact put_sound _ (_,_) ⟨_,_,_⟩
  · simp at h
theorem pWalk_ok {n:Nat} (ih:∀b e m,esz e < n→okA b e=true→SndM 20 (HW m) [.agg (cExpr e),.pl (pStrs b) .any,.fn 21 [.ptr 50000 0]] (.bool true) (HW (walkR n b e m))) :
    ∀os ds c d os',pWalk n os ds=some (c,d,os')→c=true→SndM 20 (decH os) ds d (decH os'):=by
  intro os ds c d os' h hc
  unfold pWalk at h
  split at h
  · split at h
    · rename_i h1 h2
      simp only [Option.some.injEq,Prod.mk.injEq] at h
      obtain ⟨rfl,rfl,rfl⟩:=h
      rw [Bool.and_eq_true,Nat.blt_eq] at hc
      exact SoundM.pre (.cons (asE_rdle h1) (.cons (asL_rdle h2) (.cons (RDle.refl _) .nil))) (ih _ _ _ hc.1 hc.2)
    · simp at h
  · simp at h
theorem accC_eq (W:List Str→ExprR→Mp→Mp) (b:List Str) (e:ExprR) (m:Mp):∀i,accC W b (loc b e) e.l m i=accW W b e m i
  | 0=>rfl
  | i+1=>by rw [accC,accW,accC_eq W b e m i,bnd_loc]
theorem loc_len (b:List Str) (e:ExprR):(loc b e).length≤b.length+2:=by
  unfold loc
  cases isL e.op<;>simp
theorem okC_of {b:List Str} {e:ExprR} (h:okA b e=true):okC b (loc b e) e.l=true:=by
  have h1:=okA_of h
  have h2:=loc_len b e
  have h3:=esz_eq e
  unfold okC
  rw [ble_t (by omega),ble_t (by omega)]
  rfl
theorem LSW_ok {n:Nat} (hT:TOk (tW n)):SOk X0 (loopAt 20 0) (LSW n):=by
  intro S c r h hc
  unfold LSW at h
  split at h
  · rename_i b c l k m hs
    simp only [Option.some.injEq,Prod.mk.injEq] at h
    obtain ⟨rfl,rfl⟩:=h
    simp only [Bool.and_eq_true,Nat.blt_eq,beq_iff_eq,okC,Nat.ble_eq] at hc
    obtain ⟨rfl,hsz,hb,hcl⟩:=hc
    have hbig:big=140737488355328:=rfl
    have hlen:l.length≤eszs l:=by
      clear hs hsz hb hcl
      induction l with
      | nil=>simp
      | cons x r ih=>have:=esz_pos x;simp only [List.length_cons,eszs];omega
    refine Goes.weakPre (Weak.fix xok FWh S) (Goes.pre (keepOf [1,2,8,84,85,86]) ?_)
    rw [seenS_mask hs]
    obtain ⟨e,rfl⟩:∃e:ExprR,l=e.l:=⟨⟨0,[],[],default,l,p00⟩,rfl⟩
    refine loop_all (Sf:=fun i=>sW e b c (accC (walkR n) b c e.l m i) (i:Int)) (n:=e.l.length) (by simp) (fun i hi=>?_) ?_
    · refine goes_ofZ hT (noTL_ok _ _) (noLoops idsW.2.2) ((bW e b c _ n i).trans ?_)
      have h1:=eszs_mem (getD_mem (d:=default) hi:e.l.getD i default∈e.l)
      rw [lt_t hi,ix_t hi]
      have fin:∀nm,nm=(bif (i:Int)==0 then b else c)→(nm.length+2 * eszs e.l) * 64≤big→ck_ (Nat.blt (esz (etaE (e.l.getD i default))) n&&okA nm (etaE (e.l.getD i default))) (some (Ex.normal,sW e b c (walkR n nm (etaE (e.l.getD i default)) (accC (walkR n) b c e.l m i)) (w64 ((i:Int)+1))))=some (.normal,sW e b c (accC (walkR n) b c e.l m (i+1)) ((i+1:Nat):Int)):=by
        rintro nm hnm hl
        rw [etaE_eq,ck_t (by rw [blt_t (by omega)];unfold okA;rw [ble_t (by omega)];rfl),show w64 ((i:Int)+1)=((i+1:Nat):Int) from wrap_nat (by omega),hnm]
        rfl
      cases h0:(i:Int)==0 with
      | true=>exact fin _ (by rw [h0];rfl) hb
      | false=>exact fin _ (by rw [h0];rfl) hcl
    · exact (goes_ofZ hT (noTL_ok _ _) (noLoops idsW.2.2) ((bW e b c _ n e.l.length).trans (lt_f (by omega) _ _))).post (keepOf [])
  · simp at h
theorem walk_n:∀n b e m,esz e < n→okA b e=true→SndM 20 (HW m) [.agg (cExpr e),.pl (pStrs b) .any,.fn 21 [.ptr 50000 0]] (.bool true) (HW (walkR n b e m)):=by
  intro n
  induction n with
  | zero=>intro b e m h;omega
  | succ n ih =>
    intro b e m hlt hok
    have hT:TOk (tW n):=tell_ok (pHasS_ok contains_sound) (tellM_ok pPut_ok (tellM_ok (pWalk_ok ih) (tell0_ok _)))
    have h1:eszs e.l < n:=by have:=esz_eq e;omega
    have go:∀{m'},_=some (D.env (encH (HW m')) (.bool true))→SndM 20 (HW m) [.agg (cExpr e),.pl (pStrs b) .any,.fn 21 [.ptr 50000 0]] (.bool true) (HW m'):=fun {m'} h=>by
      rw [←dec_HW m']
      exact snd_m (n:=2) hT (noTL_ok _ _) (f:=20) (fn:=Tryz.f20) (by kernel_rfl) (loops_of (f:=20) (fn:=Tryz.f20) (by kernel_rfl) (loops_1 idsW.1 (atL_ok (fun _=>LSW_ok hT) fun h=>absurd idsW.2.1 h))) ((eW e b m n).trans h)
    have hb:=okA_of hok
    have hbig:big=140737488355328:=rfl
    have hq:cu b 0 b.length=b:=by unfold cu;rw [List.drop_zero,List.take_length]
    simp only [hq] at go
    have hL:(bif isL e.op then ck_ (true&&true&&decide ((0:Int)≤(b.length:Int))&&decide ((b.length:Int)≤(b.length:Int))&&((b.length:Int)==(b.length:Int))||false) <| ck_ (true&&(true&&(Nat.beq b.length 0||true)&&true&&true&&true&&Nat.ble ((b.length+2) * 16) big)) (ck_ (((e.l.length:Int)==(e.l.length:Int))&&(Nat.blt (eszs e.l) n&&okC b (b++[e.s,e.s2]) e.l)) (some (D.env (encH (HW (accC (walkR n) b (b++[e.s,e.s2]) e.l m e.l.length))) (.bool true))))
        else (ck_ (((e.l.length:Int)==(e.l.length:Int))&&(Nat.blt (eszs e.l) n&&okC b b e.l)) (some (D.env (encH (HW (accC (walkR n) b b e.l m e.l.length))) (.bool true)))))=some (D.env (encH (HW (accW (walkR n) b e m e.l.length))) (.bool true)):=by
      have hc:=okC_of hok
      have he:=accC_eq (walkR n) b e m e.l.length
      unfold loc at hc he
      cases hl:isL e.op with
      | true =>
        rw [hl,cond_true] at hc he
        rw [cond_true,ck_t (by simp),ck_t (by rw [ble_t (by omega)];simp),ck_t (by rw [beq_self_eq_true,blt_t h1,hc];rfl),he]
      | false =>
        rw [hl,cond_false] at hc he
        rw [cond_false,ck_t (by rw [beq_self_eq_true,blt_t h1,hc];rfl),he]
    rw [hL] at go
    rw [walkR]
    cases c1:e.op==2 with
    | true =>
      rw [c1,cond_true] at go
      rw [cond_true]
      cases c2:hasS b e.s with
      | true=>rw [c2] at go;exact go rfl
      | false=>rw [c2] at go;exact go rfl
    | false =>
      rw [c1,cond_false] at go
      rw [cond_false]
      unfold isD
      cases c3:e.op==3 with
      | false=>rw [c3,cond_false] at go;exact go rfl
      | true =>
        rw [c3,cond_true] at go
        rw [cond_true]
        cases c4:(e.l.length:Int)==1 with
        | false =>
          rw [c4,show ∀x:Option (D Pl),ixo_ 0 e.l.length (false==true) x=x from fun x=>by unfold ixo_;simp] at go
          exact go rfl
        | true =>
          have hl:0 < e.l.length:=by rw [beq_iff_eq] at c4;omega
          rw [c4,ixo_t hl,cond_true] at go
          rw [cond_true]
          cases c5:(e.l.getD 0 default).op==2 with
          | false=>rw [c5] at go;exact go rfl
          | true =>
            rw [c5,cond_true,ix_t hl] at go
            rw [cond_true]
            cases c6:hasS b (e.l.getD 0 default).s with
            | true=>rw [c6] at go;exact go rfl
            | false=>rw [c6] at go;exact go rfl
end Go.Proofs.YtpjfilgmfbdfoaaGreat
