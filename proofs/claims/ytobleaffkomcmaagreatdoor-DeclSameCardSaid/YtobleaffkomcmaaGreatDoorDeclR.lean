/-
  THE DOCUMENT's DECLARATIONS: suretyref12.Decode, Read by their contracts; what is known of what they answer.
-/
import Derived.Test.YtobleaffkomcmaaGreatDoorDeclJ
import Derived.Test.YtobleaffkomcmaaGreatDoorItemsR
namespace Go.Proofs.YtobleaffkomcmaaGreatDoor
open Go.Eng
set_option maxRecDepth 100000
namespace Dec
def noRe (FD:CfgR→Str→Str→Int) (c:CfgR) (s:Str):Bool:=decide (FD c (splitM s).1 (splitM s).2.1 < 0)
noncomputable def tRf (FD:CfgR→Str→Str→Int):Eng.Told Pl:=tell 40 (pS fun s=>.tup [.str (splitM s).1,.str (splitM s).2.1,.bool (splitM s).2.2]) (tell 9 (pFd FD) tell0)
theorem tRf_ok:TOk (tRf fdM):=tell_ok (pS_ok split_sound) (tell_ok pFd_ok (tell0_ok _))
def sR3 (c:CfgR) (r:ResR) (al:List Str) (i k:Int):St Pl:=mkS 251 (d5++[(18,dI i),(19,.ptr 19 0),(20,.pl (pStrs al) .any),(21,dI k)]) [(19,.box false (cRes r)),(5,.box false (cCfg c)),(4,.box false z5),(3,.box false dz),(2,.box false z5)]
def sR2 (c:CfgR) (i:Int):St Pl:=mkS 251 (d5++[(18,dI i)]) [(5,.box false (cCfg c)),(4,.box false z5),(3,.box false dz),(2,.box false z5)]
noncomputable def fR3:Fin:=finE { keep:=[2,3,4,5,18,19,20,21],lose:=[],ord:=[19,5,4,3,2] } { keep:=[2,3,4,5,18],lose:=[19],ord:=[5,4,3,2] } { keep:=[2,3],lose:=[4,5,19],ord:=[3,2] }
theorem bR3 (FD:CfgR→Str→Str→Int) (c:CfgR) (r:ResR) (cb eb:Bool) (ce ee:ExprR) (al:List Str) (i:Int) (k:Nat):evG (tRf FD) noTL noL 1 (loopAt 12 3) fR3 (sR3 c (Res.withC r (oE cb ce) (oE eb ee)) al i k) =
  lt_ k al.length (ix_ k al.length (bif noRe FD c (al.getD k []) then ix_ k al.length (some (.ret,rDe ⟨9,r.p,al.getD k []⟩)) else some (.normal,sR3 c (Res.withC r (oE cb ce) (oE eb ee)) al i (w64 ((k:Int)+1))))) (some (.exit 7,sR2 c i)):=by
  cases cb<;>cases eb<;>kernel_rfl
def dOE2:D Pl→Option (Option ExprR)
  | .nilP=>some none
  | .ref cs=>(match xExpr cs with
    | some e=>some (some e)
    | none=>none)
  | _=>none
theorem dOE2_eq {d:D Pl} {o:Option ExprR} (h:dOE2 d=some o):d=cOE o:=by
  unfold dOE2 at h
  split at h
  · simp only [Option.some.injEq] at h;subst h;rfl
  · split at h
    · rename_i h1
      simp only [Option.some.injEq] at h
      subst h
      rw [xExpr_eq h1]
      rfl
    · simp at h
  · simp at h
def FR3h:Fix Pl:={ calm:=[220],keep:=[2,3,4,5,18,19,20,21],lose:=[217,214,220],ord:=[19,5,4,3,2] }
noncomputable def LSR3 (FD:CfgR→Str→Str→Int) (S:St Pl):Option (Bool×LR Pl):=match seenS 251 [2,3,4,5,18,19,20,21] (fixS X0.C FR3h S) with
  | some ([.ptr 2 0,.ptr 3 0,.ptr 4 0,.ptr 5 0,.int .i64 i,.ptr 19 0,.pl ⟨.strs,al⟩ .any,.int .i64 (.ofNat 0)],[(19,.box false [.str ty,.str nm,.pl ⟨.fields,fs⟩ .any,C,E,.pl ⟨.strs,de⟩ .any,.bool g,.bool f,.pl ⟨.strs,ig⟩ .any,.pl ⟨.strs,tr⟩ .any,.pl ⟨.conds,pr⟩ .any,.pl ⟨.conds,po⟩ .any,.int .i64 a,.int .i64 b,.int .i64 d]),
      (5,.box false cs),(4,.box false [.nilS,.nilS,.nilS,.nilS,.nilS]),(3,.box false [.int .i64 (.ofNat 0),.int .i64 (.ofNat 0),.int .i64 (.ofNat 0),.int .i64 (.ofNat 0),.str []]),(2,.box false [.nilS,.nilS,.nilS,.nilS,.nilS])]) =>
    (match xCfg cs with
    | some c=>some (Nat.ble al.length big&&((dOE2 C).isSome&&(dOE2 E).isSome),loopR al.length (fun k=>!(noRe FD c (al.getD k []))) (.exit 7) (sR2 c i) .ret fun k=>rDe ⟨9,⟨a,b,d⟩,al.getD k []⟩)
    | none=>none)
  | _=>none
theorem LSR3_ok:SOk X0 (loopAt 12 3) (LSR3 fdM):=by
  intro S c r h hc
  unfold LSR3 at h
  split at h
  · rename_i i al ty nm fs C E de g f ig tr pr po a b d cs hs
    split at h
    · rename_i c hx
      simp only [Option.some.injEq,Prod.mk.injEq] at h
      obtain ⟨rfl,rfl⟩:=h
      simp only [Bool.and_eq_true,Nat.ble_eq,Option.isSome_iff_exists] at hc
      obtain ⟨hl,⟨o1,h1⟩,o2,h2⟩:=hc
      have e1:o1=oE o1.isSome (o1.getD e00):=by cases o1<;>rfl
      have e2:o2=oE o2.isSome (o2.getD e00):=by cases o2<;>rfl
      rw [xCfg_eq hx,dOE2_eq h1,dOE2_eq h2,e1,e2] at hs
      refine Goes.weakPre (Weak.fix xok FR3h S) (Goes.pre (keepOf [2,3,4,5,18,19,20,21]) ?_)
      rw [seenS_mask hs]
      have step:=bR3 fdM c ⟨ty,nm,fs,none,none,de,g,f,ig,tr,pr,po,⟨a,b,d⟩⟩ o1.isSome o2.isSome (o1.getD e00) (o2.getD e00) al i
      refine srch tRf_ok (noLoops inDe.2.1) (finE_ok _ _ _) (k:=1) (Sf:=fun k=>sR3 c (Res.withC ⟨ty,nm,fs,none,none,de,g,f,ig,tr,pr,po,⟨a,b,d⟩⟩ (oE o1.isSome (o1.getD e00)) (oE o2.isSome (o2.getD e00))) al i k) hl (by simp) (by simp) (fun k hk=>(step k).trans ?_) ((step al.length).trans (lt_f (by omega) _ _))
      rw [lt_t hk,ix_t hk,ix_t hk]
      cases noRe fdM c (al.getD k [])<;>rfl
    · simp at h
  · simp at h
end Dec
end Go.Proofs.YtobleaffkomcmaaGreatDoor
namespace Go.Proofs.YtobleaffkomcmaaGreatDoor
open Go.Eng
set_option maxRecDepth 100000
namespace Dec
def reM (FD:CfgR→Str→Str→Int) (c:CfgR) (r:ResR):Bool:=noF (fun k=>!(noRe FD c ((r.depends++r.trigger).getD k []))) (r.depends++r.trigger).length
def reD (FD:CfgR→Str→Str→Int) (c:CfgR) (r:ResR):DwR:=⟨9,r.p,(r.depends++r.trigger).getD (ff (fun k=>!(noRe FD c ((r.depends++r.trigger).getD k []))) (r.depends++r.trigger).length) []⟩
def sR45 (c:CfgR) (r:ResR) (i:Int):St Pl:=mkS 251 (d5++[(18,dI i),(19,.ptr 19 0)]) [(19,.box false (cRes r)),(5,.box false (cCfg c)),(4,.box false z5),(3,.box false dz),(2,.box false z5)]
noncomputable def fR2:Fin:=finE { keep:=[2,3,4,5,18],ord:=[5,4,3,2] } { keep:=[2,3,4,5],ord:=[5,4,3,2] } { keep:=[2,3],lose:=[4,5,19,220,214,217],ord:=[3,2] }
def fM (keep ord:List Nat):Fin:=fun _ S=>ordX ord (maskS (keepOf keep) S)
theorem fM_ok (keep ord:List Nat):Fok (fM keep ord):=fun _ S=>Weak.trans (fun g a w hS hK=>⟨g.rho,hS.mask (keepOf keep),hK.mask (keepOf keep)⟩) (Weak.ordX _ _)
noncomputable def fRC:Fin:=finE { keep:=[2,3,4,5,18],lose:=[19,214,217,220],ord:=[5,4,3,2] } { keep:=[] } { keep:=[2,3],lose:=[4,5,19,220,214,217],ord:=[3,2] }
noncomputable def lp2:Code:=loopAt 12 2
noncomputable def pA:Code:=seqL lp2
noncomputable def p45:Code:=seqL (seqL (seqL (seqR lp2)))
noncomputable def pC:Code:=seqR (seqL (seqL (seqR lp2)))
noncomputable def pI:Code:=seqR (seqR lp2)
theorem lp2_eq:lp2=.seq pA (.seq (.block 6 (.seq p45 pC)) pI):=by kernel_rfl
theorem lp2_in:loopsOf pA=[]∧loopsOf p45=[]∧loopsOf pI=[]∧loopsOf pC=[loopAt 12 3]:=⟨by kernel_rfl,by kernel_rfl,by kernel_rfl,by kernel_rfl⟩
theorem eA2 (FD:CfgR→Str→Str→Int) (c:CfgR) (i:Nat):evG (tRf FD) noTL noL 1 pA fR2 (sR2 c i)=lt_ i c.ress.length (some (.normal,sR2 c i)) (some (.exit 5,xDe c)):=by kernel_rfl
def sR45k (c:CfgR) (r:ResR) (i:Int):St Pl:=mkS 251 (d5++[(18,dI i),(19,.ptr 19 0)]) [(19,.box false [.str r.ty,.str r.name,.pl (pFields r.fields) .any,kill (nsOf 19 19) (cOE r.count),kill (nsOf 19 19) (cOE r.each),.pl (pStrs r.depends) .any,.bool r.guard,.bool r.first,.pl (pStrs r.ignore) .any,.pl (pStrs r.trigger) .any,
  .pl (pConds r.pre) .any,.pl (pConds r.post) .any,dI r.p.at',dI r.p.line,dI r.p.col]),(5,.box false (cCfg c)),(4,.box false z5),(3,.box false dz),(2,.box false z5)]
theorem killOE (o:Option ExprR):kill (nsOf 19 19) (cOE o)=cOE o:=by cases o<;>rfl
theorem sR45_eq (c:CfgR) (r:ResR) (i:Int):sR45k c r i=sR45 c r i:=by
  unfold sR45k sR45
  rw [killOE,killOE]
  rfl
theorem eB2 (FD:CfgR→Str→Str→Int) (c:CfgR) (i:Nat):evG (tRf FD) noTL noL 1 p45 (fM [2,3,4,5,18,19] [19,5,4,3,2]) (sR2 c i)=ix_ i c.ress.length (some (.normal,sR45k c (c.ress.getD i default) i)):=by kernel_rfl
theorem eI2 (FD:CfgR→Str→Str→Int) (c:CfgR) (i:Nat):evG (tRf FD) noTL noL 1 pI fR2 (sR2 c i)=some (.normal,sR2 c (w64 ((i:Int)+1))):=by kernel_rfl
theorem eC2 (FD:CfgR→Str→Str→Int) (c:CfgR) (r:ResR) (cb eb:Bool) (ce ee:ExprR) (i:Int):evG (tRf FD) noTL (atL 48 (LSR3 FD) noL) 1 pC fRC (sR45 c (Res.withC r (oE cb ce) (oE eb ee)) i) =
  ck_ (true&&Nat.ble ((0+r.depends.length) * 16) big) (ck_ (true&&Nat.ble ((r.depends.length+r.trigger.length) * 16) big) (ck_ (Nat.ble (r.depends++r.trigger).length big&&true) (
    bif reM FD c r then some (.normal,sR2 c i) else some (.ret,rDe (reD FD c r))))):=by
  cases cb<;>cases eb<;>kernel_rfl
end Dec
end Go.Proofs.YtobleaffkomcmaaGreatDoor
namespace Go.Proofs.YtobleaffkomcmaaGreatDoor
open Go.Eng
set_option maxRecDepth 100000
namespace Ins
theorem hasS_no {l:List Str} {s:Str} (h:hasS l s=false):s ∉ l:=by
  intro hm
  unfold hasS at h
  rw [List.any_eq_false] at h
  exact h s hm (by simp)
theorem nodup_snoc {l:List Str} {s:Str} (h:l.Nodup) (hs:s ∉ l):(l++[s]).Nodup:=by
  rw [List.nodup_append]
  refine ⟨h,by simp,fun a ha b hb=>?_⟩
  rw [List.mem_singleton] at hb
  subst hb
  exact fun e=>hs (e ▸ ha)
theorem names_drop {x:ItemR} {i:Nat} (hi:i < x.items.length) (lc:List Str):(lc++[(x.items.getD i default).name])++Dec.nms (x.items.drop (i+1))=lc++Dec.nms (x.items.drop i):=by
  rw [List.append_assoc]
  congr 1
  rw [List.drop_eq_getElem_cons hi,List.getD_eq_getElem?_getD,List.getElem?_eq_getElem hi]
  rfl
theorem inL_nd {Q:InsQ} {x:ItemR} (hx:x.name=n_locals) (t:Str):∀(k i:Nat) (lc:List Str) (lv:Int),x.items.length - i=k→i≤x.items.length→inL Q x t k i lc lv=some none→lc.Nodup→(lc++Dec.nms (x.items.drop i)).Nodup
  | 0,i,lc,lv,hk,hi,h,hn=>by
    rw [List.drop_eq_nil_of_le (by omega)]
    simpa [Dec.nms] using hn
  | k+1,i,lc,lv,hk,hi,h,hn=>by
    have hlt:i < x.items.length:=by omega
    rw [←names_drop hlt lc]
    unfold inL inB at h
    have hres:(x.name != n_resource)=true:=by rw [hx];decide
    have hloc:(x.name==n_locals)=true:=by rw [hx];decide
    generalize x.items.getD i default=y at *
    have rest:∀lc lv,restK (fun _ a=>a) (fun o s K=>K (o++[s])) (fun _=>true) (fun _=>true) Q id x y t i (fun lc lv=>inL Q x t k (i+1) lc lv) (fun d=>some (some d)) lc lv=some none→lc.Nodup→((lc++[y.name])++Dec.nms (x.items.drop (i+1))).Nodup:=by
      intro lc lv h hn
      unfold restK at h
      cases hb:y.block with
      | true =>
        rw [hb] at h
        unfold badB at h
        rw [hres] at h
        cases h
      | false =>
        rw [hb] at h
        simp only [Bool.not_false,cond_true] at h
        cases ha:(alM x.name t (id y)).c != 0 with
        | true=>rw [ha] at h;cases h
        | false =>
        rw [ha,cond_false,hloc,cond_true] at h
        cases hh:hasS lc y.name with
        | true=>rw [hh] at h;cases h
        | false =>
        rw [hh,cond_false] at h
        unfold cntK cntB at h
        rw [show (x.name==n_resource)=false by rw [hx];decide] at h
        exact inL_nd hx t k (i+1) _ _ (by omega) (by omega) h (nodup_snoc hn (hasS_no hh))
    cases hb:y.block with
    | true=>rw [hb] at h;exact rest lc lv h hn
    | false =>
      rw [hb,cond_false] at h
      cases hq:noF (fun k=>!(isA x y.name k)) i with
      | false=>rw [hq] at h;cases h
      | true=>rw [hq] at h;exact rest lc lv h hn
theorem inL_bad {Q:InsQ} {x:ItemR} {t:Str}:∀(k i:Nat) (lc:List Str) (lv:Int) (d:DwR),inL Q x t k i lc lv=some (some d)→d.c≠0
  | 0,_,_,_,_,h=>by cases h
  | k+1,i,lc,lv,d,h=>by
    have R:∀{d':DwR},d'.c≠0→(some (some d'):Option (Option DwR))=some (some d)→d.c≠0:=by
      intro d' hd e
      simp only [Option.some.injEq] at e
      rw [←e];exact hd
    have N:∀lc lv,inL Q x t k (i+1) lc lv=some (some d)→d.c≠0:=fun lc lv h=>inL_bad k (i+1) lc lv d h
    unfold inL inB at h
    generalize x.items.getD i default=y at *
    have cnt:∀lv lc,cntK (fun _ a=>a) (fun _=>true) id x y i (fun lc lv=>inL Q x t k (i+1) lc lv) (fun d=>some (some d)) lv lc=some (some d)→d.c≠0:=by
      intro lv lc h
      unfold cntK at h
      cases c1:cntB x y with
      | false=>rw [c1] at h;exact N _ _ h
      | true =>
        rw [c1,cond_true] at h
        cases c2:noF (fun k=>!(bothX x (id y) k)) i with
        | true=>rw [c2] at h;exact N _ _ h
        | false=>rw [c2] at h;exact R (show (10:Int)≠0 by decide) h
    have deep:∀lv lc,deepK (fun _ a=>a) (fun _=>true) Q id y t (fun lc lv=>inL Q x t k (i+1) lc lv) (fun d=>some (some d)) lc lv=some (some d)→d.c≠0:=by
      intro lv lc h
      unfold deepK at h
      cases c1:decide ((y.labels.length:Int) > 0) with
      | true=>rw [c1] at h;exact R (show (1:Int)≠0 by decide) h
      | false =>
        rw [c1,cond_false] at h
        cases c2:(Q (id y) t []).c != 0 with
        | true=>rw [c2] at h;exact R (by simpa using c2) h
        | false=>rw [c2] at h;exact N _ _ h
    have rest:restK (fun _ a=>a) (fun o s K=>K (o++[s])) (fun _=>true) (fun _=>true) Q id x y t i (fun lc lv=>inL Q x t k (i+1) lc lv) (fun d=>some (some d)) lc lv=some (some d)→d.c≠0:=by
      intro h
      unfold restK at h
      cases c1:!y.block with
      | true =>
        rw [c1,cond_true] at h
        cases c2:(alM x.name t (id y)).c != 0 with
        | true=>rw [c2] at h;exact R (by simpa using c2) h
        | false =>
        rw [c2,cond_false] at h
        cases c3:x.name==n_locals with
        | false=>rw [c3] at h;exact cnt _ _ h
        | true =>
          rw [c3,cond_true] at h
          cases c4:hasS lc y.name with
          | true=>rw [c4] at h;exact R (show (10:Int)≠0 by decide) h
          | false=>rw [c4] at h;exact cnt _ _ h
      | false =>
        rw [c1,cond_false] at h
        cases c2:badB x y with
        | true=>rw [c2] at h;exact R (show (9:Int)≠0 by decide) h
        | false =>
        rw [c2,cond_false] at h
        cases c3:y.name==n_lifecycle with
        | false=>rw [c3] at h;exact deep _ _ h
        | true =>
          rw [c3,cond_true] at h
          cases c4:decide (w64 (lv+1) > 1) with
          | true=>rw [c4] at h;exact R (show (10:Int)≠0 by decide) h
          | false=>rw [c4] at h;exact deep _ _ h
    cases hb:y.block with
    | true=>rw [hb] at h;exact rest h
    | false =>
      rw [hb,cond_false] at h
      cases hq:noF (fun k=>!(isA x y.name k)) i with
      | false=>rw [hq] at h;exact R (show (10:Int)≠0 by decide) h
      | true=>rw [hq] at h;exact rest h
theorem insM_nd {n:Nat} {x:ItemR} (hx:x.name=n_locals) {t:Str} {lc:List Str} (h:(insM (n+1) x t lc).c=0) (hn:lc.Nodup):(lc++Dec.nms x.items).Nodup:=by
  unfold insM at h
  obtain ⟨q,hq⟩:=inL_some (insM n) x t x.items.length 0 lc 0
  rw [hq] at h
  cases q with
  | none =>
    have:=inL_nd hx t x.items.length 0 lc 0 (by omega) (by omega) hq hn
    simpa using this
  | some d =>
    have h:d.c=0:=h
    exact absurd h (inL_bad _ _ _ _ _ hq)
end Ins
namespace Dec
theorem litM_sz (e:ExprR):(litM e).length≤esz e:=by
  have h1:=litM_len e
  have h2:∀l:List ExprR,l.length≤eszs l:=by
    intro l
    induction l with
    | nil=>simp
    | cons x r ih =>
      have h0:0 < esz x:=by
        obtain ⟨op,s,s2,v,l,p⟩:=x
        simp only [esz];omega
      simp only [List.length_cons,eszs];omega
  have h3:=h2 e.l
  have h4:esz e=1+eszs e.l:=by
    obtain ⟨op,s,s2,v,l,p⟩:=e
    simp only [esz]
  omega
def Few (r:ResR):Prop:=r.depends.length≤4000000000∧r.trigger.length≤4000000000
theorem getAt_sz {y:ItemR} (h:∀z∈y.items,GE z.e) (s:Str):esz (getAt y s)≤4000000000:=by
  unfold getAt
  cases hb:hasAt y s with
  | false=>show esz e00≤_;rw [show esz e00=1 from rfl];omega
  | true =>
    have hlt:atP y s < y.items.length:=by
      have:=ff_le (fun i=>!(isA y s i)) y.items.length
      have h1:atP y s≠y.items.length:=fun e=>by
        unfold hasAt at hb
        rw [e,Nat.beq_refl] at hb
        cases hb
      have h2:atP y s≤y.items.length:=this
      omega
    exact h _ (getD_mem hlt)
theorem resL_few {x:ItemR} (he:∀y∈x.items,GE y.e) (h3:∀y∈x.items,∀z∈y.items,GE z.e):∀(k i:Nat) (r q:ResR),x.items.length - i=k→Few r→Res.resL x k i r=some q→Few q
  | 0,_,r,q,_,hr,h=>by obtain rfl:=Option.some.inj h;exact hr
  | k+1,i,r,q,hk,hr,h=>by
    have hm:x.items.getD i default∈x.items:=getD_mem (by omega)
    have he':=he _ hm
    have h3':=h3 _ hm
    unfold Res.resL at h
    generalize x.items.getD i default=y at *
    have N:∀r',Few r'→Res.resL x k (i+1) r'=some q→Few q:=fun r' hr' h=>resL_few he h3 k (i+1) r' q (by omega) hr' h
    have a1:∀r',Few r'→Res.reA1 id id y (fun r=>Res.resL x k (i+1) r) r'=some q→Few q:=by
      intro r' hr' h
      unfold Res.reA1 at h
      cases hc:hasAt (id y) n_replace_triggered_by with
      | false=>rw [hc] at h;exact N _ hr' h
      | true=>rw [hc] at h;exact N _ (by exact ⟨hr'.1,Nat.le_trans (litM_sz (getAt y n_replace_triggered_by)) (getAt_sz h3' n_replace_triggered_by)⟩) h
    have a2:∀r',Few r'→Res.reA2 id id y (fun r=>Res.resL x k (i+1) r) r'=some q→Few q:=by
      intro r' hr' h
      unfold Res.reA2 at h
      cases hc:hasAt (id y) n_ignore_changes with
      | false=>rw [hc] at h;exact a1 _ hr' h
      | true=>rw [hc] at h;exact a1 _ (by exact ⟨hr'.1,hr'.2⟩) h
    have a3:∀r',Few r'→Res.reA3 id id y (fun r=>Res.resL x k (i+1) r) r'=some q→Few q:=by
      intro r' hr' h
      unfold Res.reA3 at h
      cases hc:hasAt (id y) n_create_before_destroy with
      | false=>rw [hc] at h;exact a2 _ hr' h
      | true=>rw [hc] at h;exact a2 _ (by exact ⟨hr'.1,hr'.2⟩) h
    have a4:∀r',Few r'→Res.reA4 id id y (fun r=>Res.resL x k (i+1) r) r'=some q→Few q:=by
      intro r' hr' h
      unfold Res.reA4 at h
      cases hc:hasAt (id y) n_prevent_destroy with
      | false=>rw [hc] at h;exact a3 _ hr' h
      | true=>rw [hc] at h;exact a3 _ (by exact ⟨hr'.1,hr'.2⟩) h
    unfold Res.reB at h
    cases c1:(bif y.block then y.name==n_precondition else false) with
    | true=>rw [c1] at h;exact N _ (by exact ⟨hr.1,hr.2⟩) h
    | false =>
    rw [c1,cond_false] at h
    cases c2:(bif y.block then y.name==n_postcondition else false) with
    | true=>rw [c2] at h;exact N _ (by exact ⟨hr.1,hr.2⟩) h
    | false =>
    rw [c2,cond_false] at h
    cases c3:y.block with
    | true=>rw [c3] at h;exact a4 _ hr h
    | false =>
    rw [c3,cond_false] at h
    cases c4:y.name==n_count with
    | true=>rw [c4] at h;exact N _ (by exact ⟨hr.1,hr.2⟩) h
    | false =>
    rw [c4,cond_false] at h
    cases c5:y.name==n_for_each with
    | true=>rw [c5] at h;exact N _ (by exact ⟨hr.1,hr.2⟩) h
    | false =>
    rw [c5,cond_false] at h
    cases c6:y.name==n_depends_on with
    | true=>rw [c6] at h;exact N _ (by exact ⟨Nat.le_trans (litM_sz y.e) he',hr.2⟩) h
    | false=>rw [c6] at h;exact N _ (by exact ⟨hr.1,hr.2⟩) h
theorem resV_few {x:ItemR} (he:∀y∈x.items,GE y.e) (h3:∀y∈x.items,∀z∈y.items,GE z.e):Few (Res.resV x):=by
  obtain ⟨q,hq⟩:=Res.resL_some x x.items.length 0 (Res.r0 (x.labels.getD 0 []) (x.labels.getD 1 []) x.p)
  unfold Res.resV
  rw [hq]
  exact resL_few he h3 x.items.length 0 _ q (by omega) ⟨by simp [Res.r0],by simp [Res.r0]⟩ hq
inductive Nx (Q:Ins.InsQ) (x:ItemR) (c:CfgR) (lc:List Str):CfgR→List Str→Prop
  | var (v:InputR):Nx Q x c lc { c with inputs:=c.inputs++[v] } lc
  | loc (h:x.name=n_locals) (hq:(Q x [] lc).c=0):Nx Q x c lc (cLo c x.items) (lc++nms x.items)
  | res:Nx Q x c lc { c with ress:=c.ress++[Res.resV x] } lc
  | out (v:FieldR):Nx Q x c lc { c with outs:=c.outs++[v] } lc
  | chk (v:CondR):Nx Q x c lc { c with checks:=c.checks++[v] } lc
  | no:Nx Q x c lc c lc
theorem deB_nx {Q:Ins.InsQ} {x:ItemR} {c c':CfgR} {lc:List Str} {l:List ItemR} {N:CfgR→List Str→Option (Option DwR×CfgR)}
    (h:deB (fun _ a=>a) (fun _ _ a=>a) (fun o x K=>K (o++[x])) (fun o x K=>K (o++[x])) (fun o x K=>K (o++[x])) (fun o x K=>K (o++[x])) (fun x c lc K=>K (cLo c x.items) (lc++nms x.items)) id labM Res.resV (fun _=>true) 0 Q
      x c lc N (fun d=>some (some d,c)) l=some (none,c')):∃c1 lc1,Nx Q x c lc c1 lc1∧N c1 lc1=some (none,c'):=by
  have no:∀{d:DwR},(some (some d,c):Option (Option DwR×CfgR))=some (none,c')→∃c1 lc1,Nx Q x c lc c1 lc1∧N c1 lc1=some (none,c'):=fun h=>by simp at h
  have sw:(x.name=n_locals→(Q x [] lc).c=0)→swK (fun _ a=>a) (fun _ _ a=>a) (fun o x K=>K (o++[x])) (fun o x K=>K (o++[x])) (fun o x K=>K (o++[x])) (fun o x K=>K (o++[x])) (fun x c lc K=>K (cLo c x.items) (lc++nms x.items)) id Res.resV (fun _=>true) x c lc N=some (none,c')→∃c1 lc1,Nx Q x c lc c1 lc1∧N c1 lc1=some (none,c'):=by
    intro hq h
    unfold swK at h
    cases c1:x.name==n_variable with
    | true =>
      rw [c1,cond_true] at h
      cases hc:hasAt (id x) n_type with
      | true=>rw [hc] at h;exact ⟨_,_,.var _,h⟩
      | false=>rw [hc] at h;exact ⟨_,_,.var _,h⟩
    | false =>
    rw [c1,cond_false] at h
    cases c2:x.name==n_locals with
    | true=>rw [c2] at h;exact ⟨_,_,.loc (beq_iff_eq.1 c2) (hq (beq_iff_eq.1 c2)),h⟩
    | false =>
    rw [c2,cond_false] at h
    cases c3:x.name==n_resource with
    | true=>rw [c3] at h;exact ⟨_,_,.res,h⟩
    | false =>
    rw [c3,cond_false] at h
    cases c4:x.name==n_output with
    | true=>rw [c4] at h;exact ⟨_,_,.out _,h⟩
    | false =>
    rw [c4,cond_false] at h
    cases c5:x.name==n_check with
    | true=>rw [c5] at h;exact ⟨_,_,.chk _,h⟩
    | false=>rw [c5] at h;exact ⟨_,_,.no,h⟩
  have ty:∀t,(x.name=n_locals→t=[])→tyB (fun _ a=>a) (fun _ _ a=>a) (fun o x K=>K (o++[x])) (fun o x K=>K (o++[x])) (fun o x K=>K (o++[x])) (fun o x K=>K (o++[x])) (fun x c lc K=>K (cLo c x.items) (lc++nms x.items)) id Res.resV (fun _=>true) 0 Q x c lc N (fun d=>some (some d,c)) t=some (none,c')→∃c1 lc1,Nx Q x c lc c1 lc1∧N c1 lc1=some (none,c'):=by
    intro t ht h
    unfold tyB at h
    cases c1:(Q (id x) t lc).c != 0 with
    | true=>rw [c1] at h;exact no h
    | false =>
      rw [c1,cond_false] at h
      refine sw (fun hx=>?_) h
      have:=ht hx
      subst this
      simpa using c1
  unfold deB at h
  cases c1:(!x.block)==false with
  | false=>rw [c1] at h;exact no h
  | true =>
  rw [c1,cond_true] at h
  cases c2:!(hasS five x.name) with
  | true=>rw [c2] at h;exact no h
  | false =>
  rw [c2,cond_false] at h
  unfold deR at h
  cases c3:(labM (id x) l).c != 0 with
  | true=>rw [c3] at h;exact no h
  | false =>
  rw [c3,cond_false] at h
  cases c4:(bif x.name==n_resource then decide ((c.ress.length:Int) ≥ 24) else false) with
  | true=>rw [c4] at h;exact no h
  | false =>
  rw [c4,cond_false] at h
  cases c5:x.name==n_resource with
  | true =>
    rw [c5] at h
    refine ty _ (fun hx=>?_) h
    rw [hx] at c5
    exact absurd c5 (by decide)
  | false=>rw [c5] at h;exact ty _ (fun _=>rfl) h
structure Fine (i:Nat) (c:CfgR) (lc:List Str):Prop where
  eq:lc=c.locals.map fun f=>f.name
  nd:lc.Nodup
  len:c.locals.length≤128 * i
  sz:∀f∈c.locals,GE f.e
  few:∀r∈c.ress,Few r
  rl:c.ress.length≤i
theorem Fine.next {m i:Nat} {x:ItemR} {c c1:CfgR} {lc lc1:List Str} (h:Fine i c lc) (hx:Nx (Ins.insM (m+1)) x c lc c1 lc1) (hi:x.items.length≤128) (he:∀y∈x.items,GE y.e) (h3:∀y∈x.items,∀z∈y.items,GE z.e):Fine (i+1) c1 lc1:=by
  have hl:=h.len
  have hr:=h.rl
  cases hx with
  | var v=>exact ⟨h.eq,h.nd,by show c.locals.length≤_;omega,h.sz,h.few,by show c.ress.length≤_;omega⟩
  | loc hn hq =>
    refine ⟨?_,Ins.insM_nd hn hq h.nd,?_,fun f hf=>?_,h.few,by show c.ress.length≤_;omega⟩
    · show _=(c.locals++flds x.items).map _
      rw [List.map_append,←h.eq]
      congr 1
      unfold nms flds
      rw [List.map_map]
      rfl
    · show (c.locals++flds x.items).length≤_
      rw [List.length_append]
      unfold flds
      rw [List.length_map]
      omega
    · rcases List.mem_append.1 hf with hf | hf
      · exact h.sz f hf
      · obtain ⟨y,hy,rfl⟩:=List.mem_map.1 hf
        exact he y hy
  | res =>
    refine ⟨h.eq,h.nd,by show c.locals.length≤_;omega,h.sz,fun r hr=>?_,by rw [List.length_append,List.length_singleton];omega⟩
    rcases List.mem_append.1 hr with hr | hr
    · exact h.few r hr
    · rw [List.mem_singleton.1 hr];exact resV_few he h3
  | out v=>exact ⟨h.eq,h.nd,by show c.locals.length≤_;omega,h.sz,h.few,by show c.ress.length≤_;omega⟩
  | chk v=>exact ⟨h.eq,h.nd,by show c.locals.length≤_;omega,h.sz,h.few,by show c.ress.length≤_;omega⟩
  | no=>exact ⟨h.eq,h.nd,by omega,h.sz,h.few,by omega⟩
theorem deL_fine {m:Nat} {l:List ItemR} (hl:Lst GE l):∀(k i:Nat) (c:CfgR) (lc:List Str) (c':CfgR),l.length - i=k→i≤l.length→Fine i c lc→deL (Ins.insM (m+1)) l k i c lc=some (none,c')→∃lc',Fine l.length c' lc'
  | 0,i,c,lc,c',hk,hi,hf,h=>by
    obtain rfl:i=l.length:=by omega
    have:c=c':=by simpa [deL] using h
    subst this
    exact ⟨lc,hf⟩
  | k+1,i,c,lc,c',hk,hi,hf,h=>by
    unfold deL at h
    have hm:l.getD i default∈l:=getD_mem (by omega)
    obtain ⟨c1,lc1,hx,h1⟩:=deB_nx h
    exact deL_fine hl k (i+1) c1 lc1 c' (by omega) (by omega) (hf.next hx (hl.il _ hm) (hl.ie _ hm) (hl.i3 _ hm)) h1
theorem deL_some {Q:Ins.InsQ} {l:List ItemR}:∀(k i:Nat) (c:CfgR) (lc:List Str),∃r,deL Q l k i c lc=some r
  | 0,_,_,_=>⟨_,rfl⟩
  | k+1,i,c,lc=>by
    have br:∀{b:Bool} {x y:Option (Option DwR×CfgR)},(∃r,x=some r)→(∃r,y=some r)→∃r,(bif b then x else y)=some r:=by intro b x y h1 h2;cases b<;>assumption
    have hN:=fun c lc=>deL_some (Q:=Q) (l:=l) k (i+1) c lc
    have hR:∀d:DwR,∃r,(some (some d,c):Option (Option DwR×CfgR))=some r:=fun d=>⟨_,rfl⟩
    unfold deL deB deR tyB swK
    repeat' first | exact hN _ _ | exact hR _ | apply br
end Dec
end Go.Proofs.YtobleaffkomcmaaGreatDoor
namespace Go.Proofs.YtobleaffkomcmaaGreatDoor
open Go.Eng
set_option maxRecDepth 100000
namespace Dec
theorem loopC {FD:CfgR→Str→Str→Int} (h:SOk X0 (loopAt 12 3) (LSR3 FD)):∀b∈loopsOf pC,LoopOk X0 (atL 48 (LSR3 FD) noL) b:=by
  rw [lp2_in.2.2.2]
  intro b hb
  rw [List.mem_singleton] at hb
  subst hb
  exact atL_ok (fun _=>h) fun h=>absurd idsDe.2.2.2.2 h
theorem shape (r:ResR):r=Res.withC r (oE r.count.isSome (r.count.getD e00)) (oE r.each.isSome (r.each.getD e00)):=(shR_eq rfl rfl).symm
theorem a2_goes (c:CfgR) {i:Nat} (hi:i < c.ress.length):GoesTo pA (sR2 c i) .normal (sR2 c i):=goes_ofG tRf_ok (noTL_ok _ _) (finE_ok _ _ _) (noLoops lp2_in.1) ((eA2 fdM c i).trans (lt_t hi _ _))
theorem b2_goes (c:CfgR) {i:Nat} (hi:i < c.ress.length):GoesTo p45 (sR2 c i) .normal (sR45 c (c.ress.getD i default) i):=by
  rw [←sR45_eq]
  exact goes_ofG tRf_ok (noTL_ok _ _) (fM_ok _ _) (noLoops lp2_in.2.1) ((eB2 fdM c i).trans (ix_t hi _))
theorem c2_goes (c:CfgR) (r:ResR) (i:Int) (hs:(r.depends.length+r.trigger.length) * 16≤big):(reM fdM c r=true→GoesTo pC (sR45 c r i) .normal (sR2 c i))∧(reM fdM c r=false→GoesTo pC (sR45 c r i) .ret (rDe (reD fdM c r))):=by
  have step:=fun e S' (h:_=some (e,S'))=>goes_ofG tRf_ok (noTL_ok _ _) (finE_ok _ _ _) (loopC LSR3_ok) ((eC2 fdM c r r.count.isSome r.each.isSome (r.count.getD e00) (r.each.getD e00) i).trans h)
  rw [←shape r] at step
  have hbig:big=140737488355328:=rfl
  rw [ck_t (by rw [ble_t (by omega)];rfl),ck_t (by rw [ble_t (by omega)];rfl),ck_t (by rw [ble_t (by rw [List.length_append];omega)];rfl)] at step
  exact ⟨fun h=>step _ _ (by rw [h];rfl),fun h=>step _ _ (by rw [h];rfl)⟩
theorem l2_goes (c:CfgR) {i:Nat} (hi:i < c.ress.length) (hs:((c.ress.getD i default).depends.length+(c.ress.getD i default).trigger.length) * 16≤big) :
    (reM fdM c (c.ress.getD i default)=true→GoesTo lp2 (sR2 c i) .normal (sR2 c (w64 ((i:Int)+1))))∧(reM fdM c (c.ress.getD i default)=false→GoesTo lp2 (sR2 c i) .ret (rDe (reD fdM c (c.ress.getD i default)))):=by
  obtain ⟨h1,h2⟩:=c2_goes c (c.ress.getD i default) i hs
  rw [lp2_eq]
  refine ⟨fun h=>goes_seq (a2_goes c hi) (goes_seq (goes_block (e:=.normal) (goes_seq (b2_goes c hi) (h1 h))) ?_),fun h=>goes_seq (a2_goes c hi) (goes_seqX (goes_block (e:=.ret) (goes_seq (b2_goes c hi) (h2 h))) (by simp [outB]))⟩
  exact goes_ofG tRf_ok (noTL_ok _ _) (finE_ok _ _ _) (noLoops lp2_in.2.2.1) (eI2 fdM c i)
theorem l2_end (c:CfgR):GoesTo lp2 (sR2 c (c.ress.length:Nat)) (.exit 5) (xDe c):=by
  rw [lp2_eq]
  exact goes_seqX (goes_ofG tRf_ok (noTL_ok _ _) (finE_ok _ _ _) (noLoops lp2_in.1) ((eA2 fdM c c.ress.length).trans (lt_f (by omega) _ _))) (by simp)
def okRs (c:CfgR):Bool:=Nat.ble c.ress.length big&&c.ress.all fun r=>Nat.ble ((r.depends.length+r.trigger.length) * 16) big
def LSR2 (O:CfgR→Bool) (M:CfgR→ResR→Bool) (D:CfgR→ResR→DwR) (S:St Pl):Option (Bool×LR Pl):=match seenS 251 [2,3,4,5,18] S with
  | some ([.ptr 2 0,.ptr 3 0,.ptr 4 0,.ptr 5 0,.int .i64 (.ofNat 0)],[(5,.box false cs),(4,.box false [.nilS,.nilS,.nilS,.nilS,.nilS]),(3,.box false [.int .i64 (.ofNat 0),.int .i64 (.ofNat 0),.int .i64 (.ofNat 0),.int .i64 (.ofNat 0),.str []]),(2,.box false [.nilS,.nilS,.nilS,.nilS,.nilS])]) =>
    (match xCfg cs with
    | some c=>some (O c,loopR c.ress.length (fun i=>M c (c.ress.getD i default)) (.exit 5) (xDe c) .ret fun i=>rDe (D c (c.ress.getD i default)))
    | none=>none)
  | _=>none
theorem LSR2_ok:SOk X0 (loopAt 12 2) (LSR2 okRs (reM fdM) (reD fdM)):=by
  intro S c r h hc
  unfold LSR2 at h
  split at h
  · rename_i cs hs
    split at h
    · rename_i c hx
      simp only [Option.some.injEq,Prod.mk.injEq] at h
      obtain ⟨rfl,rfl⟩:=h
      unfold okRs at hc
      rw [Bool.and_eq_true,Nat.ble_eq] at hc
      rw [xCfg_eq hx] at hs
      refine Goes.pre (keepOf [2,3,4,5,18]) ?_
      rw [seenS_mask hs]
      have hsz:∀i,i < c.ress.length→((c.ress.getD i default).depends.length+(c.ress.getD i default).trigger.length) * 16≤big:=fun i hi=>by
        have:=List.all_eq_true.1 hc.2 _ (getD_mem (d:=default) hi)
        rwa [Nat.ble_eq] at this
      refine loop_gen (Sf:=fun i:Nat=>sR2 c i) (by simp) (by simp) (fun i hi hp=>?_) (fun i hi hp=>?_) (l2_end c)
      · have:=(l2_goes c hi (hsz i hi)).1 hp
        rw [show w64 ((i:Int)+1)=((i+1:Nat):Int) from wrap_nat (show i≤big by omega)] at this
        exact this
      · exact (l2_goes c hi (hsz i hi)).2 hp
    · simp at h
  · simp at h
def c00:CfgR:=⟨[],[],[],[],[]⟩
def sDe0 (l:List ItemR):St Pl:=mkS 251 ((0,.pl (pItems l) .any)::d5++[(6,.nilS),(7,dI 0)]) [(5,.box false z5),(4,.box false z5),(3,.box false dz),(2,.box false z5)]
def FDe0:Fix Pl:={ keep:=[0,2,3,4,5,6,7],nils:=[(.cell 5 0,128,pInputs []),(.cell 5 1,164,pFields []),(.cell 5 2,173,pRess []),(.cell 5 3,191,pFields []),(.cell 5 4,200,pConds []),(.slot 6,147,pStrs [])],ord:=[128,164,173,191,200,147,5,4,3,2] }
theorem weakDe_eq (l:List ItemR):fixS X0.C FDe0 (sDe0 l)=sDe l c00 [] 0:=by kernel_rfl
theorem weakDe (l:List ItemR):Weak X0 (sDe0 l) (sDe l c00 [] 0):=weakDe_eq l ▸ Weak.fix xok FDe0 (sDe0 l)
def okDe (l:List ItemR):Bool:=Nat.ble l.length 128&&l.all fun x=>Nat.ble x.items.length 128
noncomputable def deV (l:List ItemR):Option DwR×CfgR:=prP (deL (Ins.insM (iszs l+1)) l l.length 0 c00 [])
theorem deV_eq (l:List ItemR):deL (Ins.insM (iszs l+1)) l l.length 0 c00 []=some (deV l):=by
  obtain ⟨r,e⟩:=deL_some (Q:=Ins.insM (iszs l+1)) (l:=l) l.length 0 c00 []
  unfold deV
  rw [e];rfl
def LSDe (O:List ItemR→Bool) (V:List ItemR→Option DwR×CfgR) (S:St Pl):Option (Bool×LR Pl):=match seenS 251 [0,2,3,4,5,6,7] S with
  | some ([.pl ⟨.items,l⟩ .any,.ptr 2 0,.ptr 3 0,.ptr 4 0,.ptr 5 0,.nilS,.int .i64 (.ofNat 0)],[(5,.box false [.nilS,.nilS,.nilS,.nilS,.nilS]),(4,.box false [.nilS,.nilS,.nilS,.nilS,.nilS]),(3,.box false [.int .i64 (.ofNat 0),.int .i64 (.ofNat 0),.int .i64 (.ofNat 0),.int .i64 (.ofNat 0),.str []]),(2,.box false [.nilS,.nilS,.nilS,.nilS,.nilS])]) =>
    some (O l,.ite (V l).1.isSome (.leaf .ret (rDe ((V l).1.getD dw0))) (.leaf (.exit 0) (xDe (V l).2)))
  | _=>none
theorem LSDe_ok:SOk X0 (loopAt 12 0) (LSDe okDe deV):=by
  intro S c r h hc
  unfold LSDe at h
  split at h
  · rename_i l hs
    simp only [Option.some.injEq,Prod.mk.injEq] at h
    obtain ⟨rfl,rfl⟩:=h
    unfold okDe at hc
    rw [Bool.and_eq_true,Nat.ble_eq] at hc
    refine Goes.pre (keepOf [0,2,3,4,5,6,7]) ?_
    rw [seenS_mask hs]
    refine Goes.weakPre (weakDe l) ?_
    have:=(de_rnd (Ins.ins_sound (iszs l+1)) l hc.1 (fun x hx=>by
      have:=List.all_eq_true.1 hc.2 x hx
      rwa [Nat.ble_eq] at this) (fun x hx=>by have:=iszs_mem hx;omega) l.length 0 c00 [] _ (by omega) (by omega) ⟨by simp [c00],by simp [c00],by simp [c00],by simp [c00],by simp [c00],by simp,by simp⟩ (deV_eq l)).goes
    revert this
    generalize deV l=v
    obtain ⟨a,c⟩:=v
    cases a with
    | none=>exact id
    | some d=>exact id
  · simp at h
def okC2 (d:DwR):Option (D Pl):=some (.tup [.agg z5,.agg (cDw d)])
theorem eDe (O:List ItemR→Bool) (V:List ItemR→Option DwR×CfgR) (O2:CfgR→Bool) (M:CfgR→ResR→Bool) (E:CfgR→ResR→DwR) (l:List ItemR):evF tell0 noTL (atL 5 (LSDe O V) (atL 43 (LSR2 O2 M E) noL)) 1 Tryz.f12 [.pl (pItems l) .any] =
   ck_ (O l) (bif (V l).1.isSome then okC2 ((V l).1.getD dw0) else ck_ (O2 (V l).2) (bif noF (fun i=>M (V l).2 ((V l).2.ress.getD i default)) (V l).2.ress.length then some (.tup [.agg (cCfg (V l).2),.agg dz])
     else okC2 (E (V l).2 ((V l).2.ress.getD (ff (fun i=>M (V l).2 ((V l).2.ress.getD i default)) (V l).2.ress.length) default)))):=by kernel_rfl
end Dec
end Go.Proofs.YtobleaffkomcmaaGreatDoor
namespace Go.Proofs.YtobleaffkomcmaaGreatDoor
open Go.Eng
set_option maxRecDepth 100000
namespace Dec
noncomputable def decM (l:List ItemR):CfgR×DwR:=match (deV l).1 with
  | some d=>(c00,d)
  | none=>bif noF (fun i=>reM fdM (deV l).2 ((deV l).2.ress.getD i default)) (deV l).2.ress.length then ((deV l).2,dw0)
     else (c00,reD fdM (deV l).2 ((deV l).2.ress.getD (ff (fun i=>reM fdM (deV l).2 ((deV l).2.ress.getD i default)) (deV l).2.ress.length) default))
def encR (r:CfgR×DwR):D Pl:=.tup [.agg (cCfg r.1),.agg (cDw r.2)]
theorem z5_rdle:RDle X0.C (.agg z5) (.agg (cCfg c00)):=RDle.agg (.cons (RDle.of (.nil _ rfl)) (.cons (RDle.of (.nil _ rfl)) (.cons (RDle.of (.nil _ rfl)) (.cons (RDle.of (.nil _ rfl)) (.cons (RDle.of (.nil _ rfl)) .nil)))))
theorem deV_fine {l:List ItemR} (hl:Lst GE l) (h:(deV l).1=none):∃lc,Fine l.length (deV l).2 lc:=by
  have e:=deV_eq l
  have:deV l=(none,(deV l).2):=by rw [←h]
  rw [this] at e
  exact deL_fine (m:=iszs l) hl l.length 0 c00 [] _ (by omega) (by omega) ⟨rfl,List.nodup_nil,by simp [c00],by simp [c00],by simp [c00],by simp [c00]⟩ e
theorem dec_sound {l:List ItemR} (hl:Lst GE l):Snd 12 [.pl (pItems l) .any] (encR (decM l)):=by
  have hbig:big=140737488355328:=rfl
  have hLs:∀i,i < (loopsAt 12).length→LoopOk X0 (atL 5 (LSDe okDe deV) (atL 43 (LSR2 okRs (reM fdM) (reD fdM)) noL)) (loopAt 12 i):=by
    intro i hi
    rw [idsDe.1] at hi
    have no:∀{j m k:Nat},firstId (loopAt 12 j)=m→m≠k→¬ (firstId (loopAt 12 j)=k):=fun h1 h2 h3=>h2 (h1.symm.trans h3)
    match i,hi with
    | 0,_=>exact atL_ok (fun _=>LSDe_ok) fun h=>absurd idsDe.2.1 h
    | 1,_=>exact atL_ok (fun h=>absurd h (no idsDe.2.2.1 (by decide))) fun _=>atL_ok (fun h=>absurd h (no idsDe.2.2.1 (by decide))) fun _=>noL_ok _ _
    | 2,_=>exact atL_ok (fun h=>absurd h (no idsDe.2.2.2.1 (by decide))) fun _=>atL_ok (fun _=>LSR2_ok) fun h=>absurd idsDe.2.2.2.1 h
    | 3,_=>exact atL_ok (fun h=>absurd h (no idsDe.2.2.2.2 (by decide))) fun _=>atL_ok (fun h=>absurd h (no idsDe.2.2.2.2 (by decide))) fun _=>noL_ok _ _
  have go:=fun {d} (h:_=some d)=>snd_fn (n:=1) (tell0_ok _) (noTL_ok _ _) (f:=12) (fn:=Tryz.f12) (by kernel_rfl) (loops_of (f:=12) (fn:=Tryz.f12) (by kernel_rfl) hLs) ((eDe okDe deV okRs (reM fdM) (reD fdM) l).trans h)
  have hok:okDe l=true:=by
    unfold okDe
    rw [ble_t hl.len,Bool.true_and]
    exact List.all_eq_true.2 fun x hx=>ble_t (hl.il x hx)
  have bad:∀d:DwR,RDle X0.C (.tup [.agg z5,.agg (cDw d)]) (encR (c00,d)):=fun d=>RDle.tup (.cons z5_rdle (RDles.refl _))
  rw [ck_t hok] at go
  unfold decM
  cases hv:(deV l).1 with
  | some d =>
    rw [hv] at go
    exact (go rfl).post (bad d)
  | none =>
    obtain ⟨lc,hf⟩:=deV_fine hl hv
    rw [hv] at go
    have hro:okRs (deV l).2=true:=by
      unfold okRs
      rw [Bool.and_eq_true,Nat.ble_eq]
      refine ⟨?_,List.all_eq_true.2 fun r hr=>?_⟩
      · have:=hf.rl
        have:=hl.len
        omega
      · have:=hf.few r hr
        unfold Few at this
        exact ble_t (by omega)
    simp only [Option.isSome_none,cond_false] at go
    rw [ck_t hro] at go
    cases hn:noF (fun i=>reM fdM (deV l).2 ((deV l).2.ress.getD i default)) (deV l).2.ress.length with
    | true =>
      rw [hn] at go
      exact go rfl
    | false =>
      rw [hn] at go
      exact (go rfl).post (bad _)
def pDe (K:List ItemR→Bool) (M:List ItemR→CfgR×DwR):List (D Pl)→Option (Bool×D Pl)
  | [d]=>match asL .items d with
    | some l=>some (K l,encR (M l))
    | none=>none
  | _=>none
noncomputable def okLst (l:List ItemR):Bool:=@decide (Lst GE l) (Classical.propDecidable _)
theorem pDe_ok:∀ds b d,pDe okLst decM ds=some (b,d)→b=true→Snd 12 ds d:=by
  intro ds b d h hb
  unfold pDe at h
  split at h
  · split at h
    · rename_i h1
      simp only [Option.some.injEq,Prod.mk.injEq] at h
      obtain ⟨rfl,rfl⟩:=h
      exact (dec_sound (@of_decide_eq_true _ (Classical.propDecidable _) hb)).pre (.cons (asL_rdle h1) .nil)
    · simp at h
  · simp at h
noncomputable def tR12 (R:Str→Rd9.RdO) (K:List ItemR→Bool) (M:List ItemR→CfgR×DwR):Eng.Told Pl:=tell 11 (pS fun s=>Rd9.encO (R s)) (tell 12 (pDe K M) tell0)
theorem tR12_ok:TOk (tR12 Rd9.rd9 okLst decM):=tell_ok (pS_ok Rd9.rd9_sound) (tell_ok pDe_ok (tell0_ok _))
theorem eR12 (R:Str→Rd9.RdO) (K:List ItemR→Bool) (M:List ItemR→CfgR×DwR) (s:Str):evF (tR12 R K M) noTL noL 1 Tryz.f5 [.str s] =
   bif (R s).d.c != 0 then some (.tup [.agg z5,.agg (cDw ⟨(R s).d.c,(R s).d.p,[]⟩)]) else ck_ (K (R s).l) (some (encR (M (R s).l))):=by kernel_rfl
noncomputable def readV (s:Str):CfgR×DwR:=bif (Rd9.rd9 s).d.c != 0 then (c00,⟨(Rd9.rd9 s).d.c,(Rd9.rd9 s).d.p,[]⟩) else decM (Rd9.rd9 s).l
theorem read_sound (s:Str):Snd 5 [.str s] (encR (readV s)):=by
  have go:=fun {d} (h:_=some d)=>snd_fn (n:=1) tR12_ok (noTL_ok _ _) (f:=5) (fn:=Tryz.f5) (by kernel_rfl) (loops_of (f:=5) (fn:=Tryz.f5) (by kernel_rfl) (loops_0 (by kernel_rfl))) ((eR12 Rd9.rd9 okLst decM s).trans h)
  unfold readV
  cases hc:(Rd9.rd9 s).d.c != 0 with
  | true =>
    rw [hc] at go
    exact (go rfl).post (RDle.tup (.cons z5_rdle (RDles.refl _)))
  | false =>
    have hk:okLst (Rd9.rd9 s).l=true:=@decide_eq_true _ (Classical.propDecidable _) (Rd9.rd9_ok (by simpa using hc))
    rw [hc,cond_false,ck_t hk] at go
    exact go rfl
structure Known (c:CfgR):Prop where
  nd:(c.locals.map fun f=>f.name).Nodup
  sz:∀f∈c.locals,GE f.e
  len:c.locals.length≤16384
  few:∀r∈c.ress,Few r
  rl:c.ress.length≤128
theorem Known.none:Known c00:=⟨by simp [c00],by simp [c00],by simp [c00],by simp [c00],by simp [c00]⟩
end Dec
end Go.Proofs.YtobleaffkomcmaaGreatDoor
