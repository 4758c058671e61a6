/-
  THE DOCUMENT's DECLARATIONS: all blocks of a text, plainly.
-/
import Derived.Test.YtobleaffkomcmaaGreatDoorDeclF2
namespace Go.Proofs.YtobleaffkomcmaaGreatDoor
open Go.Eng
set_option maxRecDepth 100000
namespace Dec
def pLab (LB:ItemR→List ItemR→DwR):List (D Pl)→Option (Bool×D Pl)
  | [d,.pl ⟨.items,l⟩ .any]=>match asI d with
    | some x=>some (okAh x l (nl x.name),.agg (cDw (LB x l)))
    | none=>none
  | _=>none
theorem pLab_ok:∀ds b d,pLab labM ds=some (b,d)→b=true→Snd 34 ds d:=by
  intro ds b d h hb
  unfold pLab at h
  split at h
  · split at h
    · rename_i h1
      simp only [Option.some.injEq,Prod.mk.injEq] at h
      obtain ⟨rfl,rfl⟩:=h
      exact (labels_sound _ _ hb).pre (.cons (asI_rdle h1) (.cons (RDle.refl _) .nil))
    · simp at h
  · simp at h
def pIt1 (f:ItemR→Bool×D Pl):List (D Pl)→Option (Bool×D Pl)
  | [d]=>match asI d with
    | some x=>some (f x)
    | none=>none
  | _=>none
theorem pIt1_ok {g:FuncId} {f:ItemR→Bool×D Pl} (h:∀x,(f x).1=true→Snd g [.agg (cItem x)] (f x).2):∀ds b d,pIt1 f ds=some (b,d)→b=true→Snd g ds d:=by
  intro ds b d hp hb
  unfold pIt1 at hp
  split at hp
  · split at hp
    · rename_i h1
      simp only [Option.some.injEq] at hp
      have h2:=h _ (by rw [hp];exact hb)
      rw [hp] at h2
      exact h2.pre (.cons (asI_rdle h1) .nil)
    · simp at hp
  · simp at hp
def oE (b:Bool) (e:ExprR):Option ExprR:=bif b then some e else none
def shR (cb eb:Bool) (r:ResR):ResR:=Res.withC r (oE cb (r.count.getD e00)) (oE eb (r.each.getD e00))
theorem shR_eq {cb eb:Bool} {r:ResR} (h1:r.count.isSome=cb) (h2:r.each.isSome=eb):shR cb eb r=r:=by
  obtain ⟨ty,nm,fs,c,e,de,g,f,ig,tr,pr,po,p⟩:=r
  subst h1 h2
  cases c<;>cases e<;>rfl
def shB (cb eb:Bool) (r:ResR):Bool:=(r.count.isSome==cb)&&(r.each.isSome==eb)
def reT (RV:ItemR→ResR) (cb eb:Bool) (x:ItemR):Bool×D Pl:=((Nat.blt 1 x.labels.length&&Nat.ble x.items.length 1000000000)&&shB cb eb (RV x),.agg (cRes (shR cb eb (RV x))))
def coT (x:ItemR):Bool×D Pl:=(true,.agg (cCond (condC x)))
def xCfg:List (D Pl)→Option CfgR
  | [.pl ⟨.inputs,a⟩ .any,.pl ⟨.fields,b⟩ .any,.pl ⟨.ress,r⟩ .any,.pl ⟨.fields,d⟩ .any,.pl ⟨.conds,e⟩ .any]=>some ⟨a,b,r,d,e⟩
  | _=>none
theorem xCfg_eq {cs:List (D Pl)} {c:CfgR} (h:xCfg cs=some c):cs=cCfg c:=by
  unfold xCfg at h
  split at h
  · simp only [Option.some.injEq] at h;subst h;rfl
  · simp at h
def pFd (f:CfgR→Str→Str→Int):List (D Pl)→Option (Bool×D Pl)
  | [.agg cs,.str t,.str n]=>match xCfg cs with
    | some c=>some (true,dI (f c t n))
    | none=>none
  | _=>none
theorem pFd_ok:∀ds b d,pFd fdM ds=some (b,d)→b=true→Snd 9 ds d:=by
  intro ds b d h hb
  unfold pFd at h
  split at h
  · split at h
    · rename_i h1
      simp only [Option.some.injEq,Prod.mk.injEq] at h
      obtain ⟨_,rfl⟩:=h
      rw [xCfg_eq h1]
      exact fd_sound _ _ _
    · simp at h
  · simp at h
noncomputable def tDe (LB:ItemR→List ItemR→DwR) (RV:ItemR→ResR) (cb eb:Bool) (n:Nat) (Q:Ins.InsQ):Eng.Told Pl :=
  tell 33 pDi (tell 32 (pHasS fun l x=>.bool (hasS l x)) (tell 34 (pLab LB) (tell 35 (Ins.pIns n Q) (tell 36 (pItS atT) (tell 38 (pIt1 (reT RV cb eb)) (tell 39 (pIt1 coT)
  (tell 37 (pS fun s=>.tup [.agg (cTyp (T11.tyK s T11.tyL).1),dI (T11.tyK s T11.tyL).2]) (tell 40 (pS fun s=>.tup [.str (splitM s).1,.str (splitM s).2.1,.bool (splitM s).2.2]) (tell 9 (pFd fdM) tell0)))))))))
theorem tDe_ok {cb eb:Bool} {n:Nat} {Q:Ins.InsQ} (hQ:Ins.SndIns n Q):TOk (tDe labM Res.resV cb eb n Q) :=
  tell_ok pDi_ok (tell_ok (pHasS_ok has_sound) (tell_ok pLab_ok (tell_ok (Ins.pIns_ok hQ) (tell_ok atT_ok (tell_ok (pIt1_ok fun x h=>by
    unfold reT at h ⊢
    simp only [Bool.and_eq_true,Nat.blt_eq,Nat.ble_eq] at h
    obtain ⟨⟨h1,h2⟩,h3⟩:=h
    unfold shB at h3
    simp only [Bool.and_eq_true,beq_iff_eq] at h3
    rw [shR_eq h3.1 h3.2]
    exact Res.res_sound x h1 h2) (tell_ok (pIt1_ok fun x _=>cond12_sound x) (tell_ok (pS_ok T11.ty_sound) (tell_ok (pS_ok split_sound) (tell_ok pFd_ok (tell0_ok _))))))))))
def z5:List (D Pl):=[.nilS,.nilS,.nilS,.nilS,.nilS]
def o5 (c:CfgR) (lc:List Str):List (Nat×Ob Pl):=[(128,.arr false (pInputs c.inputs)),(164,.arr false (pFields c.locals)),(173,.arr false (pRess c.ress)),(191,.arr false (pFields c.outs)),(200,.arr false (pConds c.checks)),(147,.arr false (pStrs lc))]
def b5:List (Nat×Ob Pl):=[(5,.box false [.arr 128,.arr 164,.arr 173,.arr 191,.arr 200]),(4,.box false z5),(3,.box false dz),(2,.box false z5)]
def d5:List (Nat×D Pl):=[(2,.ptr 2 0),(3,.ptr 3 0),(4,.ptr 4 0),(5,.ptr 5 0)]
def sDe (l:List ItemR) (c:CfgR) (lc:List Str) (i:Int):St Pl:=mkS 251 ((0,.pl (pItems l) .any)::d5++[(6,.arr 147),(7,dI i)]) (o5 c lc++b5)
def rDe (d:DwR):St Pl:=mkS 251 [(2,.ptr 2 0),(3,.ptr 3 0)] [(3,.box false (cDw d)),(2,.box false z5)]
def xDe (c:CfgR):St Pl:=mkS 251 d5 [(5,.box false (cCfg c)),(4,.box false z5),(3,.box false dz),(2,.box false z5)]
def FDr:Fix Pl:={ keep:=[2,3],lose:=[4,5,8,9,10,11,12,13,16,19,41,128,164,173,191,200,147],ord:=[3,2] }
noncomputable def fDe:Fin:=finE { keep:=[0,2,3,4,5,6,7],lose:=[8,9,10,11,12,13,16,41],ord:=[128,164,173,191,200,147,5,4,3,2] } { calm:=[128,164,173,191,200],keep:=[2,3,4,5],lose:=[147,128,164,173,191,200],ord:=[5,4,3,2] } FDr
theorem idsDe:(loopsAt 12).length=4∧firstId (loopAt 12 0)=5∧firstId (loopAt 12 1)=31∧firstId (loopAt 12 2)=43∧firstId (loopAt 12 3)=48 :=
  ⟨by kernel_rfl,by kernel_rfl,by kernel_rfl,by kernel_rfl,by kernel_rfl⟩
theorem inDe:loopsOf (loopAt 12 1)=[]∧loopsOf (loopAt 12 3)=[]∧loopsOf (loopAt 12 0)=[loopAt 12 1]∧loopsOf (loopAt 12 2)=[loopAt 12 3] :=
  ⟨by kernel_rfl,by kernel_rfl,by kernel_rfl,by kernel_rfl⟩
def sLo (l:List ItemR) (c:CfgR) (lc:List Str) (x:ItemR) (i k:Int):St Pl:=mkS 251 ((0,.pl (pItems l) .any)::d5++[(6,.arr 147),(7,dI i),(8,.ptr 8 0),(15,dI k)]) (o5 c lc++(8,.box false (cItem x))::b5)
noncomputable def fLo:Fin:=finE { keep:=[0,2,3,4,5,6,7,8,15],ord:=[128,164,173,191,200,147,8,5,4,3,2] } { keep:=[0,2,3,4,5,6,7],lose:=[8],ord:=[128,164,173,191,200,147,5,4,3,2] } FDr
def withL (c:CfgR) (f:List FieldR):CfgR:={ c with locals:=f }
section
variable (LB:ItemR→List ItemR→DwR) (RV:ItemR→ResR) (n:Nat) (Q:Ins.InsQ)
theorem bLo (l:List ItemR) (c:CfgR) (lc:List Str) (x:ItemR) (i:Int) (k:Nat):evG (tDe LB RV true true n Q) noTL noL 1 (loopAt 12 1) fLo (sLo l c lc x i k) =
  lt_ k x.items.length (ix_ k x.items.length (apK 16 lc (x.items.getD k default).name fun lc=>ix_ k x.items.length (ix_ k x.items.length (apK 208 c.locals ⟨(x.items.getD k default).name,etaE (x.items.getD k default).e⟩ fun f=>some (.normal,sLo l (withL c f) lc x i (w64 ((k:Int)+1))))))) (some (.exit 3,sDe l c lc i)):=by kernel_rfl
end
def flds (l:List ItemR):List FieldR:=l.map fun y=>⟨y.name,y.e⟩
def nms (l:List ItemR):List Str:=l.map fun y=>y.name
def cLo (c:CfgR) (l:List ItemR):CfgR:=withL c (c.locals++flds l)
theorem flds_take {l:List ItemR} {i:Nat} (h:i < l.length):flds (l.take (i+1))=flds (l.take i)++[⟨(l.getD i default).name,(l.getD i default).e⟩]:=by
  unfold flds
  rw [List.take_add_one,List.getElem?_eq_getElem h,Option.toList_some,List.map_append,List.getD_eq_getElem?_getD,List.getElem?_eq_getElem h]
  rfl
theorem nms_take {l:List ItemR} {i:Nat} (h:i < l.length):nms (l.take (i+1))=nms (l.take i)++[(l.getD i default).name]:=by
  unfold nms
  rw [List.take_add_one,List.getElem?_eq_getElem h,Option.toList_some,List.map_append,List.getD_eq_getElem?_getD,List.getElem?_eq_getElem h]
  rfl
def FLh:Fix Pl:={ keep:=[0,2,3,4,5,6,7,8,15],lose:=[9,10,11,12,13,16,41],ord:=[128,164,173,191,200,147,8,5,4,3,2] }
noncomputable def LSLo (S:St Pl):Option (Bool×LR Pl):=match seenS 251 [0,2,3,4,5,6,7,8,15] (fixS X0.C FLh S) with
  | some ([.pl ⟨.items,l⟩ .any,.ptr 2 0,.ptr 3 0,.ptr 4 0,.ptr 5 0,.arr 147,.int .i64 i,.ptr 8 0,.int .i64 (.ofNat 0)],[(128,.arr false ⟨.inputs,a⟩),(164,.arr false ⟨.fields,b⟩),(173,.arr false ⟨.ress,r⟩),(191,.arr false ⟨.fields,d⟩),(200,.arr false ⟨.conds,e⟩),(147,.arr false ⟨.strs,lc⟩),(8,.box false cx),
      (5,.box false [.arr 128,.arr 164,.arr 173,.arr 191,.arr 200]),(4,.box false [.nilS,.nilS,.nilS,.nilS,.nilS]),(3,.box false [.int .i64 (.ofNat 0),.int .i64 (.ofNat 0),.int .i64 (.ofNat 0),.int .i64 (.ofNat 0),.str []]),(2,.box false [.nilS,.nilS,.nilS,.nilS,.nilS])]) =>
    (match xItem cx with
    | some x=>some (Nat.ble ((lc.length+x.items.length+1) * 16) big&&Nat.ble ((b.length+x.items.length+1) * 208) big,.leaf (.exit 3) (sDe l (cLo ⟨a,b,r,d,e⟩ x.items) (lc++nms x.items) i))
    | none=>none)
  | _=>none
theorem LSLo_ok {n:Nat} {Q:Ins.InsQ} (hQ:Ins.SndIns n Q):SOk X0 (loopAt 12 1) LSLo:=by
  intro S c r h hc
  unfold LSLo at h
  split at h
  · rename_i l i a b r d e lc cx hs
    split at h
    · rename_i x hx
      simp only [Option.some.injEq,Prod.mk.injEq] at h
      obtain ⟨rfl,rfl⟩:=h
      simp only [Bool.and_eq_true,Nat.ble_eq] at hc
      have hbig:big=140737488355328:=rfl
      rw [xItem_eq hx] at hs
      refine Goes.weakPre (Weak.fix xok FLh S) (Goes.pre (keepOf [0,2,3,4,5,6,7,8,15]) ?_)
      rw [seenS_mask hs]
      have h0:sLo l ⟨a,b,r,d,e⟩ lc x i 0=sLo l (cLo ⟨a,b,r,d,e⟩ (x.items.take 0)) (lc++nms (x.items.take 0)) x i ((0:Nat):Int):=by
        show _=sLo l (withL ⟨a,b,r,d,e⟩ (b++[])) (lc++[]) x i 0
        rw [List.append_nil,List.append_nil]
        rfl
      change Goes X0 _ (sLo l ⟨a,b,r,d,e⟩ lc x i 0) _ _
      rw [h0]
      refine loop_all (Sf:=fun k:Nat=>sLo l (cLo ⟨a,b,r,d,e⟩ (x.items.take k)) (lc++nms (x.items.take k)) x i k) (n:=x.items.length) (by simp) (fun k hk=>?_) ?_
      · refine goes_ofG (tDe_ok (cb:=true) (eb:=true) hQ) (noTL_ok _ _) (finE_ok _ _ _) (noLoops inDe.1) ((bLo labM Res.resV n Q l _ _ x i k).trans ?_)
        have n1:(nms (x.items.take k)).length=k:=by unfold nms;rw [List.length_map,List.length_take];omega
        have n2:(flds (x.items.take k)).length=k:=by unfold flds;rw [List.length_map,List.length_take];omega
        rw [lt_t hk,ix_t hk,apK_t (by rw [List.length_append,n1];omega),ix_t hk,ix_t hk,apK_t (by show ((b++flds (x.items.take k)).length+1) * 208≤big;rw [List.length_append,n2];omega),etaE_eq,show w64 ((k:Int)+1)=((k+1:Nat):Int) from wrap_nat (by omega),List.append_assoc,←nms_take hk]
        show some (Ex.normal,sLo l (withL ⟨a,b,r,d,e⟩ ((b++flds (x.items.take k))++[_])) _ x i _)=some (Ex.normal,sLo l (withL ⟨a,b,r,d,e⟩ (b++flds (x.items.take (k+1)))) _ x i _)
        rw [List.append_assoc,←flds_take hk]
      · simp only [List.take_length]
        exact goes_ofG (tDe_ok (cb:=true) (eb:=true) hQ) (noTL_ok _ _) (finE_ok _ _ _) (noLoops inDe.1) ((bLo labM Res.resV n Q l _ _ x i x.items.length).trans (lt_f (by omega) _ _))
    · simp at h
  · simp at h
end Dec
end Go.Proofs.YtobleaffkomcmaaGreatDoor
namespace Go.Proofs.YtobleaffkomcmaaGreatDoor
open Go.Eng
def seqL:Code→Code
  | .seq a _=>a
  | .block _ b=>b
  | .cond _ a _=>a
  | c=>c
def seqR:Code→Code
  | .seq _ b=>b
  | .cond _ _ b=>b
  | c=>c
theorem goes_seq {a b:Code} {S S1 S':St Pl} {e:Ex} (h1:GoesTo a S .normal S1) (h2:GoesTo b S1 e S'):GoesTo (.seq a b) S e S' :=
  fun g ac w hS hK Q hQ=>wp_seq (h1 g ac w hS hK _ fun rho' a' w' hS' hK'=>h2 { g with rho:=rho' } a' w' hS' hK' Q fun rho'' a'' w''=>hQ rho'' a'' w'')
theorem goes_seqX {a b:Code} {S S':St Pl} {e:Ex} (h1:GoesTo a S e S') (he:e≠.normal):GoesTo (.seq a b) S e S':=by
  cases e with
  | normal=>exact absurd rfl he
  | exit id=>exact fun g ac w hS hK Q hQ=>wp_seq (h1 g ac w hS hK _ hQ)
  | ret=>exact fun g ac w hS hK Q hQ=>wp_seq (h1 g ac w hS hK _ hQ)
def outB (id:Nat):Ex→Ex
  | .exit id'=>bif Nat.beq id' id then .normal else .exit id'
  | e=>e
theorem goes_block {id:Nat} {b:Code} {S S':St Pl} {e:Ex} (h:GoesTo b S e S'):GoesTo (.block id b) S (outB id e) S':=by
  cases e with
  | normal=>exact fun g ac w hS hK Q hQ=>wp_block (h g ac w hS hK _ hQ)
  | ret=>exact fun g ac w hS hK Q hQ=>wp_block (h g ac w hS hK _ hQ)
  | exit id' =>
    intro g ac w hS hK Q hQ
    refine wp_block (h g ac w hS hK _ fun rho' a' w' hS' hK'=>?_)
    simp only [outB] at hQ
    simp only [toExit,Exit.inBlock]
    cases hb:Nat.beq id' id with
    | true =>
      rw [hb] at hQ
      rw [if_pos (Nat.eq_of_beq_eq_true hb)]
      exact hQ rho' a' w' hS' hK'
    | false =>
      rw [hb] at hQ
      rw [if_neg (fun h=>by rw [h,Nat.beq_refl] at hb;cases hb)]
      exact hQ rho' a' w' hS' hK'
end Go.Proofs.YtobleaffkomcmaaGreatDoor
namespace Go.Proofs.YtobleaffkomcmaaGreatDoor
open Go.Eng
set_option maxRecDepth 100000
namespace Dec
def five:List Str:=[n_variable,n_locals,n_resource,n_output,n_check]
def etaRe (x:ResR):ResR:=Res.withC x (x.count.map etaE) (x.each.map etaE)
def apIn (o:List InputR) (x:InputR) (k:List InputR→Option (Ex×St Pl)):Option (Ex×St Pl):=apK 256 o ⟨x.name,x.tk,x.tof,x.has,etaE x.e,etaP x.p⟩ k
def apFi (o:List FieldR) (x:FieldR) (k:List FieldR→Option (Ex×St Pl)):Option (Ex×St Pl):=apK 208 o ⟨x.name,etaE x.e⟩ k
def apRe (o:List ResR) (x:ResR) (k:List ResR→Option (Ex×St Pl)):Option (Ex×St Pl):=apK 224 o (etaRe x) k
def apCo (o:List CondR) (x:CondR) (k:List CondR→Option (Ex×St Pl)):Option (Ex×St Pl):=apK 400 o (Res.etaC x) k
def loK (x:ItemR) (c:CfgR) (lc:List Str) (k:CfgR→List Str→Option (Ex×St Pl)):Option (Ex×St Pl) :=
  ck_ (Nat.ble ((lc.length+x.items.length+1) * 16) big&&Nat.ble ((c.locals.length+x.items.length+1) * 208) big) (k (cLo c x.items) (lc++nms x.items))
section
variable {β:Type} (C:Bool→Option β→Option β) (IX:Nat→Nat→Option β→Option β) (PI:List InputR→InputR→(List InputR→Option β)→Option β) (PF:List FieldR→FieldR→(List FieldR→Option β)→Option β)
  (PR:List ResR→ResR→(List ResR→Option β)→Option β) (PC:List CondR→CondR→(List CondR→Option β)→Option β) (LO:ItemR→CfgR→List Str→(CfgR→List Str→Option β)→Option β)
  (e:ItemR→ItemR) (LB:ItemR→List ItemR→DwR) (RV:ItemR→ResR) (rok:ItemR→Bool) (n:Nat) (Q:Ins.InsQ) (x:ItemR) (c:CfgR) (lc:List Str) (N:CfgR→List Str→Option β) (R:DwR→Option β)
def inp (x:ItemR) (t:TypR):InputR:=⟨x.labels.getD 0 [],t.tk,t.tof,hasAt (e x) n_default,getAt (e x) n_default,x.p⟩
def swK:Option β :=
  bif x.name==n_variable then IX 0 x.labels.length (
     bif hasAt (e x) n_type then PI c.inputs (inp e x ⟨(T11.tyK (getAt (e x) n_type).v.s T11.tyL).1.1,(T11.tyK (getAt (e x) n_type).v.s T11.tyL).1.2⟩) fun l=>N { c with inputs:=l } lc
     else PI c.inputs (inp e x ⟨0,0⟩) fun l=>N { c with inputs:=l } lc)
  else bif x.name==n_locals then LO x c lc N
  else bif x.name==n_resource then C (rok (e x)) (PR c.ress (RV (e x)) fun l=>N { c with ress:=l } lc)
  else bif x.name==n_output then IX 0 x.labels.length (PF c.outs ⟨x.labels.getD 0 [],getAt (e x) n_value⟩ fun l=>N { c with outs:=l } lc)
  else bif x.name==n_check then PC c.checks (condC (e x)) fun l=>N { c with checks:=l } lc
  else N c lc
def tyB (t:Str):Option β:=C ((Nat.blt (isz (e x)) n&&blkN x.name)&&Nat.ble lc.length 1000000000) (bif (Q (e x) t lc).c != 0 then R (Q (e x) t lc) else swK C IX PI PF PR PC LO e RV rok x c lc N)
def deR (l:List ItemR):Option β :=
  C (okAh (e x) l (nl x.name)) (bif (LB (e x) l).c != 0 then R (LB (e x) l)
  else bif (bif x.name==n_resource then decide ((c.ress.length:Int) ≥ 24) else false) then R ⟨3,x.p,x.name⟩
  else bif x.name==n_resource then IX 0 x.labels.length (tyB C IX PI PF PR PC LO e RV rok n Q x c lc N R (x.labels.getD 0 [])) else tyB C IX PI PF PR PC LO e RV rok n Q x c lc N R [])
def deB (l:List ItemR):Option β :=
  bif (!x.block)==false then (bif !(hasS five x.name) then R ⟨9,x.p,x.name⟩ else deR C IX PI PF PR PC LO e LB RV rok n Q x c lc N R l) else R ⟨9,x.p,x.name⟩
end
end Dec
end Go.Proofs.YtobleaffkomcmaaGreatDoor
namespace Go.Proofs.YtobleaffkomcmaaGreatDoor
open Go.Eng
set_option maxRecDepth 100000
namespace Dec
def slc (i n:Nat) (x:Option (Ex×St Pl)):Option (Ex×St Pl):=bif ((true&&true)&&decide ((0:Int)≤(i:Int)))&&decide ((i:Int)≤(n:Int))||false then x else none
def cu {α:Type} (o:List α) (a n:Nat):List α:=(o.drop a).take n
noncomputable def roK (LB:ItemR→List ItemR→DwR) (RV:ItemR→ResR) (cb eb:Bool) (n:Nat) (Q:Ins.InsQ) (l:List ItemR) (c:CfgR) (lc:List Str) (i:Nat):Option (Ex×St Pl) :=
  let x:=l.getD i default
  bif (!x.block)==false then (bif !(hasS five x.name) then some (.ret,rDe ⟨9,x.p,x.name⟩) else slc i l.length (deK LB RV cb eb n Q l c lc i x)) else some (.ret,rDe ⟨9,x.p,x.name⟩)
where
  deK (LB:ItemR→List ItemR→DwR) (RV:ItemR→ResR) (cb eb:Bool) (n:Nat) (Q:Ins.InsQ) (l:List ItemR) (c:CfgR) (lc:List Str) (i:Nat) (x:ItemR):Option (Ex×St Pl) :=
    deR ck_ ix_ apIn apFi apRe apCo loK etaI LB (fun x=>shR cb eb (RV x)) (fun x=>(Nat.blt 1 x.labels.length&&Nat.ble x.items.length 1000000000)&&shB cb eb (RV x)) n Q x c lc (fun c lc=>some (.normal,sDe l c lc (w64 ((i:Int)+1)))) (fun d=>some (.ret,rDe d)) (cu l 0 i)
theorem bDe (LB:ItemR→List ItemR→DwR) (RV:ItemR→ResR) (cb eb:Bool) (n:Nat) (Q:Ins.InsQ) (l:List ItemR) (c:CfgR) (lc:List Str) (i:Nat) :
    evG (tDe LB RV cb eb n Q) noTL (atL 31 LSLo noL) 1 (loopAt 12 0) fDe (sDe l c lc i)=lt_ i l.length (ix_ i l.length (roK LB RV cb eb n Q l c lc i)) (some (.exit 0,xDe c)):=by
  cases cb<;>cases eb<;>kernel_rfl
end Dec
end Go.Proofs.YtobleaffkomcmaaGreatDoor
namespace Go.Proofs.YtobleaffkomcmaaGreatDoor
open Go.Eng
set_option maxRecDepth 100000
section
variable {γ:Type} {body:Code} {S0:St Pl} {out:γ→Ex×St Pl}
theorem SimR.ix {k n:Nat} (hc:k < n) {M:Option γ} {K:Option (Ex×St Pl)} (h:SimR body S0 out M K):SimR body S0 out M (ix_ k n K):=by rw [ix_t hc];exact h
end
namespace Dec
theorem slc_t {i n:Nat} (h:i≤n) (x:Option (Ex×St Pl)):slc i n x=x:=by
  unfold slc
  rw [decide_eq_true (show (0:Int)≤(i:Int) by omega),decide_eq_true (show (i:Int)≤(n:Int) by omega)]
  rfl
noncomputable def deL (Q:Ins.InsQ) (l:List ItemR):Nat→Nat→CfgR→List Str→Option (Option DwR×CfgR)
  | 0,_,c,_=>some (none,c)
  | k+1,i,c,lc=>deB (fun _ a=>a) (fun _ _ a=>a) (fun o x K=>K (o++[x])) (fun o x K=>K (o++[x])) (fun o x K=>K (o++[x])) (fun o x K=>K (o++[x])) (fun x c lc K=>K (cLo c x.items) (lc++nms x.items)) id labM Res.resV (fun _=>true) 0 Q
      (l.getD i default) c lc (fun c lc=>deL Q l k (i+1) c lc) (fun d=>some (some d,c)) (l.take i)
def outDe (r:Option DwR×CfgR):Ex×St Pl:=match r.1 with
  | some d=>(.ret,rDe d)
  | none=>(.exit 0,xDe r.2)
structure Iv (l:List ItemR) (i:Nat) (c:CfgR) (lc:List Str):Prop where
  a:c.inputs.length≤i
  b:c.locals.length≤128 * i
  r:c.ress.length≤i
  o:c.outs.length≤i
  k:c.checks.length≤i
  lc:lc.length≤128 * i
  lb:∀y∈l.take i,y.labels.length=nl y.name
theorem labM_z {x:ItemR} {l:List ItemR} (h:(labM x l).c=0):x.labels.length=nl x.name:=by
  unfold labM at h
  cases hb:Nat.beq x.labels.length (nl x.name) with
  | true=>exact Nat.eq_of_beq_eq_true hb
  | false =>
    rw [hb] at h
    have h1:(1:Int)=0:=h
    omega
theorem take_snoc {l:List ItemR} {i:Nat} (h:i < l.length):l.take (i+1)=l.take i++[l.getD i default]:=by
  rw [List.take_add_one,List.getElem?_eq_getElem h,Option.toList_some,List.getD_eq_getElem?_getD,List.getElem?_eq_getElem h]
  rfl
theorem five_blk {s:Str} (h:hasS five s=true):blkN s=true:=by
  have:∀t∈five,blkN t=true:=by
    intro t ht
    simp only [five,List.mem_cons,List.not_mem_nil,or_false] at ht
    rcases ht with rfl | rfl | rfl | rfl | rfl<;>rfl
  unfold hasS at h
  obtain ⟨t,ht,e⟩:=List.any_eq_true.1 h
  rw [←beq_iff_eq.1 e]
  exact this t ht
theorem nl_eq {s t:Str} (h:(s==t)=true):nl s=nl t:=by rw [beq_iff_eq.1 h]
theorem etaRe_eq (r:ResR):etaRe r=r:=by
  obtain ⟨ty,nm,fs,c,e,de,g,f,ig,tr,pr,po,p⟩:=r
  unfold etaRe Res.withC
  cases c<;>cases e<;>simp [etaE_eq]
theorem loopDe {n:Nat} {Q:Ins.InsQ} (hQ:Ins.SndIns n Q):∀b∈loopsOf (loopAt 12 0),LoopOk X0 (atL 31 LSLo noL) b:=by
  rw [inDe.2.2.1]
  intro b hb
  rw [List.mem_singleton] at hb
  subst hb
  exact atL_ok (fun _=>LSLo_ok hQ) fun h=>absurd idsDe.2.2.1 h
theorem de_rnd {n:Nat} {Q:Ins.InsQ} (hQ:Ins.SndIns n Q) (l:List ItemR) (hl:l.length≤128) (hi:∀x∈l,x.items.length≤128) (hn:∀x∈l,isz x < n) :
    ∀(k i:Nat) (c:CfgR) (lc:List Str) (r:Option DwR×CfgR),l.length - i=k→i≤l.length→Iv l i c lc→deL Q l k i c lc=some r→Rnd (loopAt 12 0) (sDe l c lc i) (outDe r).1 (outDe r).2
  | 0,i,c,lc,r,hk,hle,hv,h=>by
    obtain rfl:i=l.length:=by omega
    obtain rfl:=Option.some.inj h
    exact .stop (by simp [outDe]) (goes_ofG (tDe_ok (cb:=true) (eb:=true) hQ) (noTL_ok _ _) (finE_ok _ _ _) (loopDe hQ) ((bDe labM Res.resV true true n Q l c lc l.length).trans (lt_f (by omega) _ _)))
  | k+1,i,c,lc,r,hk,hle,hv,h=>by
    have hbig:big=140737488355328:=rfl
    have hlt:i < l.length:=by omega
    have hw:w64 ((i:Int)+1)=((i+1:Nat):Int):=wrap_nat (by omega)
    have step:=fun e S' (h:_=some (e,S'))=>goes_ofG (tDe_ok (cb:=(Res.resV (l.getD i default)).count.isSome) (eb:=(Res.resV (l.getD i default)).each.isSome) hQ) (noTL_ok _ _) (finE_ok _ _ _) (loopDe hQ) ((bDe labM Res.resV _ _ n Q l c lc i).trans h)
    rw [lt_t hlt,ix_t hlt] at step
    unfold roK at step
    simp only [slc_t hle] at step
    unfold roK.deK at step
    rw [hw,show cu l 0 i=l.take i by unfold cu;rw [List.drop_zero]] at step
    unfold deL at h
    have hm:l.getD i default∈l:=getD_mem hlt
    have hix:=hi _ hm
    have hnx:=hn _ hm
    have hts:=take_snoc hlt
    generalize l.getD i default=x at *
    refine (?_:SimR (loopAt 12 0) (sDe l c lc i) outDe _ _) r h step
    have hR:∀d:DwR,SimR (loopAt 12 0) (sDe l c lc i) outDe (some (some d,c)) (some (.ret,rDe d)):=fun d=>.stop (by simp) rfl
    have hN:∀(c':CfgR) (lc':List Str),Iv l (i+1) c' lc'→SimR (loopAt 12 0) (sDe l c lc i) outDe (deL Q l k (i+1) c' lc') (some (.normal,sDe l c' lc' ((i+1:Nat):Int))) :=
      fun c' lc' hv'=>.step fun r hr=>de_rnd hQ l hl hi hn k (i+1) c' lc' r (by omega) (by omega) hv' hr
    have hlb:x.labels.length=nl x.name→∀y∈l.take (i+1),y.labels.length=nl y.name:=fun hx y hy=>by
      rw [hts] at hy
      rcases List.mem_append.1 hy with hy | hy
      · exact hv.lb y hy
      · rw [List.mem_singleton.1 hy];exact hx
    have hsw:x.labels.length=nl x.name→SimR (loopAt 12 0) (sDe l c lc i) outDe
        (swK (fun _ a=>a) (fun _ _ a=>a) (fun o x K=>K (o++[x])) (fun o x K=>K (o++[x])) (fun o x K=>K (o++[x])) (fun o x K=>K (o++[x])) (fun x c lc K=>K (cLo c x.items) (lc++nms x.items)) id Res.resV (fun _=>true) x c lc (fun c lc=>deL Q l k (i+1) c lc))
        (swK ck_ ix_ apIn apFi apRe apCo loK etaI (fun y=>shR (Res.resV x).count.isSome (Res.resV x).each.isSome (Res.resV y)) (fun y=>(Nat.blt 1 y.labels.length&&Nat.ble y.items.length 1000000000)&&shB (Res.resV x).count.isSome (Res.resV x).each.isSome (Res.resV y)) x c lc (fun c lc=>some (.normal,sDe l c lc ((i+1:Nat):Int)))):=by
      intro hx
      have hb:=hlb hx
      unfold swK
      have va:=hv.a
      have vb:=hv.b
      have vr:=hv.r
      have vo:=hv.o
      have vk:=hv.k
      have vl:=hv.lc
      rw [etaI_eq]
      refine .br (fun h1=>.ix (by rw [hx,nl_eq h1];decide) (.br (fun _=>?_) fun _=>?_)) fun _=>.br (fun _=>?_) fun _=>.br (fun h1=>.ck ?_ ?_) fun _=>.br (fun h1=>.ix (by rw [hx,nl_eq h1];decide) ?_) fun _=>.br (fun _=>?_) fun _=>hN _ _ ⟨by omega,by omega,by omega,by omega,by omega,by omega,hb⟩
      · unfold apIn
        rw [apK_t (by omega),etaE_eq]
        exact hN _ _ ⟨by rw [List.length_append,List.length_singleton];omega,by show c.locals.length≤_;omega,by show c.ress.length≤_;omega,by show c.outs.length≤_;omega,by show c.checks.length≤_;omega,by omega,hb⟩
      · unfold apIn
        rw [apK_t (by omega),etaE_eq]
        exact hN _ _ ⟨by rw [List.length_append,List.length_singleton];omega,by show c.locals.length≤_;omega,by show c.ress.length≤_;omega,by show c.outs.length≤_;omega,by show c.checks.length≤_;omega,by omega,hb⟩
      · unfold loK
        rw [ck_t (by rw [ble_t (by omega),ble_t (by omega)];rfl)]
        have n1:(nms x.items).length=x.items.length:=by unfold nms;rw [List.length_map]
        have n2:(flds x.items).length=x.items.length:=by unfold flds;rw [List.length_map]
        exact hN _ _ ⟨by show c.inputs.length≤_;omega,by show (c.locals++flds x.items).length≤_;rw [List.length_append,n2];omega,by show c.ress.length≤_;omega,by show c.outs.length≤_;omega,by show c.checks.length≤_;omega,by rw [List.length_append,n1];omega,hb⟩
      · show ((Nat.blt 1 x.labels.length&&Nat.ble x.items.length 1000000000)&&shB (Res.resV x).count.isSome (Res.resV x).each.isSome (Res.resV x))=true
        rw [hx,nl_eq h1,ble_t (by omega)]
        unfold shB
        rw [beq_self_eq_true,beq_self_eq_true]
        rfl
      · unfold apRe
        rw [apK_t (by omega),etaRe_eq]
        dsimp only
        rw [shR_eq rfl rfl]
        exact hN _ _ ⟨by show c.inputs.length≤_;omega,by show c.locals.length≤_;omega,by rw [List.length_append,List.length_singleton];omega,by show c.outs.length≤_;omega,by show c.checks.length≤_;omega,by omega,hb⟩
      · unfold apFi
        rw [apK_t (by omega),etaE_eq]
        exact hN _ _ ⟨by show c.inputs.length≤_;omega,by show c.locals.length≤_;omega,by show c.ress.length≤_;omega,by rw [List.length_append,List.length_singleton];omega,by show c.checks.length≤_;omega,by omega,hb⟩
      · unfold apCo
        rw [apK_t (by omega),Res.etaC_eq]
        exact hN _ _ ⟨by show c.inputs.length≤_;omega,by show c.locals.length≤_;omega,by show c.ress.length≤_;omega,by show c.outs.length≤_;omega,by rw [List.length_append,List.length_singleton];omega,by omega,hb⟩
    unfold deB
    refine .br (fun _=>.br (fun _=>hR _) fun hf=>?_) fun _=>hR _
    have hblk:=five_blk (by simpa using hf:hasS five x.name=true)
    have hg:((Nat.blt (isz x) n&&blkN x.name)&&Nat.ble lc.length 1000000000)=true:=by have:=hv.lc;rw [blt_t hnx,hblk,ble_t (by omega)];rfl
    unfold deR tyB
    rw [etaI_eq]
    refine .ck ?_ (.br (fun _=>hR _) fun hlab=>.br (fun _=>hR _) fun _=>?_)
    · refine List.all_eq_true.2 fun y hy=>?_
      cases hA:laA x y with
      | false=>rfl
      | true =>
        have:y.name=x.name:=by
          unfold laA at hA
          cases hyb:y.block with
          | false=>rw [hyb] at hA;cases hA
          | true=>rw [hyb] at hA;exact beq_iff_eq.1 hA
        rw [hv.lb y hy,this]
        exact Nat.beq_refl _
    · have hx:=labM_z (by simpa using hlab)
      exact .br (fun h1=>.ix (by rw [hx,nl_eq h1];decide) (.ck hg (.br (fun _=>hR _) fun _=>hsw hx))) fun _=>.ck hg (.br (fun _=>hR _) fun _=>hsw hx)
end Dec
end Go.Proofs.YtobleaffkomcmaaGreatDoor
