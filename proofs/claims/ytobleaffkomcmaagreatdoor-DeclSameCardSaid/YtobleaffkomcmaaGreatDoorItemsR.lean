/-
  THE DOCUMENT's READER OF ITEMS: all of a text.
-/
import Derived.Test.YtobleaffkomcmaaGreatDoorItemsL
import Derived.Test.YtobleaffkomcmaaGreatDoorBrLaw2
namespace Go.Proofs.YtobleaffkomcmaaGreatDoor
open Go.Eng
set_option maxRecDepth 100000
def aM:Ats:=fun l a=>(rdM l T1 fuel 0 a).map fun r=>⟨(atM l a r).1,(atM l a r).2.1,(atM l a r).2.2⟩
theorem aM_snd:SndA aM:=by
  intro l a r h
  unfold aM at h
  cases hr:rdM l T1 fuel 0 a with
  | none=>rw [hr] at h;cases h
  | some x=>rw [hr] at h;obtain rfl:=Option.some.inj h;exact at_sound P2_snd hr
theorem aM_inv {l:List TokR} {a:Int} {r:AR} (h:aM l a=some r) (hc:r.d.c=0):∃x,rdM l T1 fuel 0 a=some x∧x.b.is=false∧r.e=x.e∧r.a=x.a:=by
  unfold aM at h
  cases hr:rdM l T1 fuel 0 a with
  | none=>rw [hr] at h;cases h
  | some x =>
    rw [hr] at h
    have hb:=rd_cb (l:=l) T1_ct fuel 0 a x hr
    obtain rfl:=Option.some.inj h
    refine ⟨x,rfl,?_⟩
    simp only at hc ⊢
    unfold atM at hc ⊢
    cases c1:x.b.is with
    | true =>
      rw [c1] at hc
      simp only [Bool.not_true,cond_false,cond_true] at hc
      exact absurd hc (hb c1)
    | false =>
      rw [c1] at hc
      simp only [Bool.not_false,cond_true,cond_false] at hc ⊢
      cases c2:decide (deepE x.e > 24) with
      | true =>
        rw [c2] at hc
        have h12:(12:Int)=0:=hc
        omega
      | false=>exact ⟨trivial,rfl,rfl⟩
theorem T1_all (s:Str) (a':Int) (hk:(tokA (allM s).l a').kind=3):∃x,T1 (tokA (allM s).l a')=some x:=by
  have hm:=tokA_mem (l:=(allM s).l) (a:=a') (by rw [hk];decide)
  exact T1_tot _ ((allM_toks s).1 _ hm) ((allM_toks s).2.2.2 ⟨_,hm⟩) hk
theorem aM_tot (s:Str) {a:Int} (h0:0≤a) (h1:a≤((allM s).l.length:Int)):∃r,aM (allM s).l a=some r∧(r.d.c=0→a < r.a∧r.a≤((allM s).l.length:Int)):=by
  have hl:=(allM_toks s).2.1
  obtain ⟨r,e,g⟩:=rd_tot (T:=T1) (allM s).l (by omega) (T1_all s) fuel 0 a (by omega) h0 h1 (by have:fuel=1000000:=rfl;omega)
  have hA:aM (allM s).l a=some ⟨(atM (allM s).l a r).1,(atM (allM s).l a r).2.1,(atM (allM s).l a r).2.2⟩:=by unfold aM;rw [e];rfl
  refine ⟨_,hA,fun hc=>?_⟩
  obtain ⟨x,e1,hx,_,ha⟩:=aM_inv hA hc
  rw [e] at e1
  obtain rfl:=Option.some.inj e1
  rw [ha]
  exact g hx
theorem allK_last (s:Str):∀(k p:Nat) (acc:List TokR),p≤s.length→s.length - p < k→(allK k s p acc).bad=0→∃L t,(allK k s p acc).l=L++[t]∧t.kind=0
  | 0,p,acc,_,h,_=>by omega
  | k+1,p,acc,hp,hk,hz=>by
    have hb:=blankM_in s _ p rfl hp
    simp only [allK] at hz ⊢
    cases he:(tokO s (blankM s p)).e==0 with
    | false =>
      rw [he] at hz
      rw [show (tokO s (blankM s p)).e=0 from hz] at he
      cases he
    | true =>
      obtain ⟨h1,_,h2⟩:=tokO_in hb.2 he
      rw [he] at hz
      simp only [Bool.not_true,cond_false] at hz ⊢
      rcases h2 with ⟨h2,h3⟩ | ⟨h2,h3⟩
      · rw [h2]
        exact ⟨acc,_,rfl,beq_iff_eq.1 h2⟩
      · rw [h2] at hz ⊢
        exact allK_last s k _ _ h1 (by omega) hz
theorem allM_last {s:Str} (hb:(allM s).bad=0):∃L t,(allM s).l=L++[t]∧t.kind=0:=by
  unfold allM at hb ⊢
  cases h:Nat.blt 32768 s.length with
  | true =>
    rw [h] at hb
    have h3:(3:Int)=0:=hb
    omega
  | false =>
    rw [h] at hb
    exact allK_last s _ 0 [] (by omega) (by omega) hb
def t41:TokR:={ tok00 with kind:=4,s:=[41] }
theorem self_r2 {T:Texts} {L:List TokR} {t0:TokR} (h0:t0.kind=0) (hl:(L++[t0]).length≤90000) {C:Int} (hC:1≤C) (hT:∀a',(tokA (L++[t0]) a').kind=3→∃x,T (tokA (L++[t0]) a')=some x)
    (hs:∀a x,(tokA (L++[t0]) a).kind=3→T (tokA (L++[t0]) a)=some x→x.2.is=false→(esz x.1:Int)≤C) {a:Int} (ha:0≤a) (ha2:a < ((L++[t0]).length:Int)) {x:PR} (hx:rdM (L++[t0]) T fuel 0 a=some x) (hg:x.b.is=false) :
    x.a < ((L++[t0]).length:Int)∧(esz x.e:Int)+C * a≤C * x.a:=by
  rw [List.length_append,List.length_singleton] at hl ha2 ⊢
  have g1:∀i:Nat,i < L.length→tokA (L++[t0]) (i:Int)=L.getD i default:=fun i hi=>by
    rw [tokA_at (by simp;omega),getD_app,if_pos hi]
  have g2:∀i:Nat,i < L.length→tokA ((t41::L)++[t41]) ((i:Int)+1)=L.getD i default:=fun i hi=>by
    rw [show ((i:Int)+1)=((i+1:Nat):Int) from rfl,tokA_at (by simp;omega),getD_app,if_pos (by simp;omega)]
    rfl
  have e1:tokA (L++[t0]) (L.length:Int)=t0:=by
    rw [tokA_at (by simp),getD_app,if_neg (by omega),if_pos rfl]
  have e2:tokA ((t41::L)++[t41]) ((L.length:Int)+1)=t41:=by
    rw [show ((L.length:Int)+1)=((L.length+1:Nat):Int) from rfl,tokA_at (by simp),getD_app,if_neg (by simp),if_pos (by simp)]
  have same:∀a:Int,0≤a→a < (L.length:Int)→tokA ((t41::L)++[t41]) (a+1)=tokA (L++[t0]) a:=fun a h0 h1=>by
    obtain ⟨i,rfl⟩:∃i:Nat,a=(i:Int):=⟨a.toNat,by omega⟩
    rw [g2 i (by omega),g1 i (by omega)]
  have M:Mirror (L++[t0]) ((t41::L)++[t41]) (L.length:Int) :=
    { n0:=by omega,n1:=by omega,len:=by rw [List.length_append,List.length_singleton];omega,
      kd:=fun a h0 h1=>by rw [same a h0 h1],s:=fun a h0 h1=>by rw [same a h0 h1],n:=fun a h0 h1=>by rw [same a h0 h1],
      e1:=by rw [e1];exact h0,k2:=by rw [e2];rfl,s2:=by rw [e2];rfl }
  have hW:∀a:Int,(fun a=>C * a) a+1≤(fun a:Int=>C * a) (a+1):=fun a=>by
    simp only
    rw [Int.mul_add,Int.mul_one]
    omega
  have hRT:RT (L++[t0]) ((t41::L)++[t41]) (L.length:Int) (fun a=>C * a) T T:=by
    intro a h0 h1 hk x1 x2 e1 e2 hx
    rw [same a h0 h1,e1] at e2
    obtain rfl:=Option.some.inj e2
    refine ⟨hx,rfl,?_⟩
    have:=hs a x1 hk e1 hx
    simp only
    rw [Int.mul_add,Int.mul_one]
    omega
  have hT2:∀a',(tokA ((t41::L)++[t41]) a').kind=3→∃x,T (tokA ((t41::L)++[t41]) a')=some x:=by
    intro a' hk
    have hin:=kd_in hk (by decide)
    rw [List.length_append,List.length_cons,List.length_singleton] at hin
    rcases Int.lt_or_le 0 a' with h1 | h1
    · rcases Int.lt_or_le a' ((L.length:Int)+1) with h2 | h2
      · have:=same (a' - 1) (by omega) (by omega)
        rw [show a' - 1+1=a' by omega] at this
        rw [this] at hk ⊢
        exact hT _ hk
      · obtain rfl:a'=(L.length:Int)+1:=by omega
        rw [e2] at hk
        exact absurd hk (by decide)
    · obtain rfl:a'=((0:Nat):Int):=by omega
      rw [tokA_at (by simp)] at hk
      exact absurd hk (by show ¬ ((4:Int)=3);decide)
  have hlen2:((t41::L)++[t41]).length=L.length+2:=by simp
  obtain ⟨r2,e2,_⟩:=rd_tot (T:=T) ((t41::L)++[t41]) (by omega) hT2 fuel 0 (a+1) (by omega) (by omega) (by omega) (by have:fuel=1000000:=rfl;omega)
  have S:=rd_r2 M hW hRT fuel fuel 0 a ha (by omega) x r2 hx e2 hg
  exact ⟨by have:=S.hi;omega,S.sz⟩
def szT (t:TokR):Nat:=match T1 t with
  | some x=>esz x.1
  | none=>0
theorem szT_mem:∀{l:List TokR} {t:TokR},t∈l→szT t≤(l.map szT).sum
  | x::r,t,h=>by
    rw [List.map_cons,List.sum_cons]
    rcases List.mem_cons.1 h with rfl | h
    · omega
    · have:=szT_mem h;omega
theorem aM_in {s:Str} (hb:(allM s).bad=0) {a:Int} (h0:0≤a) (h1:a≤((allM s).l.length:Int)) {r:AR} (h:aM (allM s).l a=some r) (hc:r.d.c=0):a < r.a∧r.a < ((allM s).l.length:Int):=by
  obtain ⟨x,e1,hg,he,ha⟩:=aM_inv h hc
  obtain ⟨r',e',g⟩:=aM_tot s h0 h1
  rw [h] at e'
  obtain rfl:=Option.some.inj e'
  have g:=g hc
  refine ⟨g.1,?_⟩
  obtain ⟨L,t0,hL,k0⟩:=allM_last hb
  have hl:=(allM_toks s).2.1
  have hT:=T1_all s
  rw [ha] at g ⊢
  rw [hL] at g hl hT e1 ⊢
  refine (self_r2 (T:=T1) (C:=((((L++[t0]).map szT).sum+1:Nat):Int)) k0 (by omega) (by omega) hT (fun a x hk hx _=>?_) h0 (by omega) e1 hg).1
  have:=szT_mem (tokA_mem (l:=L++[t0]) (a:=a) (by rw [hk];decide))
  unfold szT at this
  rw [hx] at this
  simp only at this
  unfold szT
  omega
theorem T0_all {s:Str} (hq:noQ s) (a':Int) (hk:(tokA (allM s).l a').kind=3):∃x,T0 (tokA (allM s).l a')=some x:=by
  exfalso
  exact noQ_tok hq (tokA_mem (by rw [hk];decide)) hk
theorem W1_len {s:Str} (hq:noQ s) {w:WR} (h:W1 s=some w) (hc:w.c=0):esz w.e≤s.length+1:=by
  obtain ⟨hb,r,hr,hg,_,he⟩:=whole_inv T0_ct h hc
  obtain ⟨L,t0,hL,k0⟩:=allM_last hb
  have hl:=(allM_toks s).2.1
  have hl2:=allM_len s
  have hT:=T0_all hq
  rw [he]
  rw [hL] at hl hl2 hT hr
  have:=self_r2 (T:=T0) (C:=1) k0 (by omega) (by decide) hT (fun a x hk hx _=>by cases hx) (Int.le_refl _) (by rw [List.length_append,List.length_singleton];omega) hr hg
  omega
theorem txL_sz {W:Wholes} (tp:PosR):∀(l:List PartR) (o:List ExprR) (x:Bool×List ExprR×BadR),(∀q∈l,q.expr=true→∀w,W q.s=some w→w.c=0→esz w.e≤q.s.length+1) →
    txL W tp l o=some x→x.2.2.is=false→eszs x.2.1≤eszs o+psum l+l.length
  | [],o,x,_,hx,_=>by
    obtain rfl:=Option.some.inj hx
    simp [psum]
  | q::r,o,x,hw,hx,hg=>by
    have hw':∀q∈r,q.expr=true→∀w,W q.s=some w→w.c=0→esz w.e≤q.s.length+1:=fun z hz=>hw z (List.mem_cons_of_mem _ hz)
    simp only [txL] at hx
    simp only [psum]
    cases c1:q.expr with
    | false =>
      rw [c1] at hx
      simp only [Bool.not_false,cond_true] at hx
      have g3:=txL_sz tp r _ x hw' hx hg
      rw [eszs_app] at g3
      simp only [eszs,lit_sz] at g3
      rw [List.length_cons]
      omega
    | true =>
      rw [c1] at hx
      simp only [Bool.not_true,cond_false] at hx
      cases hq:W q.s with
      | none=>rw [hq] at hx;cases hx
      | some w =>
      rw [hq] at hx
      simp only [thn] at hx
      cases c2:w.c != 0 with
      | true =>
        rw [c2] at hx
        obtain rfl:=Option.some.inj hx
        cases hg
      | false =>
        rw [c2,cond_false] at hx
        have g3:=txL_sz tp r _ x hw' hx hg
        have h4:=hw q List.mem_cons_self c1 w hq (by simpa using c2)
        rw [eszs_app] at g3
        simp only [eszs,esz_mov] at g3
        rw [List.length_cons]
        omega
theorem T1_sz {s:Str} {t:TokR} (ht:okTok s t) (hk:t.kind=3) (hp:psum t.parts≤s.length) {y:ExprR×BadR} (hy:T1 t=some y) (hg:y.2.is=false):esz y.1≤1+s.length+(s.length+1):=by
  obtain ⟨⟨o1,o2⟩,_⟩:=ht hk
  unfold T1 textM at hy
  cases c0:Nat.ble t.parts.length 100000 with
  | false=>rw [c0] at hy;cases hy
  | true =>
  rw [c0,cond_true] at hy
  cases c1:(t.parts.length:Int)==0 with
  | true =>
    rw [c1] at hy
    obtain rfl:=Option.some.inj hy
    rw [lit_sz];omega
  | false =>
  rw [c1,cond_false] at hy
  cases c2:(bif (t.parts.length:Int)==1 then !(pt t 0).expr else false) with
  | true =>
    rw [c2] at hy
    obtain rfl:=Option.some.inj hy
    rw [lit_sz];omega
  | false =>
  rw [c2,cond_false] at hy
  cases hx:txL W1 t.p t.parts [] with
  | none=>rw [hx] at hy;cases hy
  | some x =>
    rw [hx] at hy
    simp only [thn] at hy
    obtain rfl:=Option.some.inj hy
    have:=txL_sz t.p t.parts [] x (fun q hq hqe w hw hwc=>W1_len (o1 q hq hqe) hw hwc) hx hg
    simp only [eszs] at this
    rw [node_sz]
    omega
theorem aM_sz {s:Str} (hb:(allM s).bad=0) {a:Int} (h0:0≤a) (h1:a≤((allM s).l.length:Int)) {r:AR} (h:aM (allM s).l a=some r) (hc:r.d.c=0):esz r.e≤4000000000:=by
  obtain ⟨x,e1,hg,he,ha⟩:=aM_inv h hc
  have g:=aM_in hb h0 h1 h hc
  obtain ⟨L,t0,hL,k0⟩:=allM_last hb
  have hl:=(allM_toks s).2.1
  have hT:=T1_all s
  have ht:=allM_toks s
  have hp:=allM_each (Pr:=fun t=>psum t.parts≤s.length) (s:=s) tok_small
  rw [he]
  rw [ha] at g
  rw [hL] at g hl hT e1 ht hp
  have:=(self_r2 (T:=T1) (C:=65538) k0 (by omega) (by decide) hT (fun a y hk hy hy2=>?_) h0 (by omega) e1 hg).2
  · omega
  · have hm:=tokA_mem (l:=L++[t0]) (a:=a) (by rw [hk];decide)
    have h5:=T1_sz (ht.1 _ hm) hk (hp _ hm) hy hy2
    have h6:=ht.2.2.2 ⟨_,hm⟩
    omega
section
variable {l:List TokR}
theorem sgI_kd {a:Int} {s:Str} (h:sgI l a s=true):kdI l a 4=true:=by
  unfold sgI at h
  unfold kdI
  cases hd:(bif decide (a < lenI l) then (tokI l a).kind==4 else false) with
  | true=>rfl
  | false=>rw [hd] at h;cases h
def Lz (l:List TokR):Prop:=∀a:Int,0≤a→a+1=(l.length:Int)→(tokI l a).kind=0
theorem nx (hz:Lz l) {a k:Int} (h0:0≤a) (hk:k≠0) (h:kdI l a k=true):a+1 < (l.length:Int):=by
  have h1:=kdI_lt h
  rcases Int.lt_or_le (a+1) (l.length:Int) with h2 | h2
  · exact h2
  · have h3:=hz a h0 (by omega)
    unfold kdI at h
    rw [h3] at h
    cases hd:decide (a < lenI l) with
    | false=>rw [hd] at h;cases h
    | true=>rw [hd] at h;exact absurd (beq_iff_eq.1 h).symm hk
theorem nxs (hz:Lz l) {a:Int} {s:Str} (h0:0≤a) (h:sgI l a s=true):a+1 < (l.length:Int):=nx hz h0 (by decide) (sgI_kd h)
theorem lb_tot (hz:Lz l) (hl0:0 < l.length) (hl:l.length≤100000):∀(m:Nat) (ls:List Str) (a:Int),0≤a→a < (l.length:Int)→(l.length:Int) - a < m →
    ∃x,lbL l m ls a=some x∧0≤x.a∧(x.bad=false→a≤x.a∧x.a < (l.length:Int))∧(x.bad=true→x.d.c≠0)
  | 0,_,_,_,_,h=>by omega
  | m+1,ls,a,h0,h1,h=>by
    have hbig:big=140737488355328:=rfl
    have bad:∀c:Int,c≠0→∃x,(some (⟨[],a,true,dgM c l a⟩:LB))=some x∧0≤x.a∧(x.bad=false→a≤x.a∧x.a < (l.length:Int))∧(x.bad=true→x.d.c≠0):=fun c hc=>⟨_,rfl,h0,fun h=>by (cases h),fun _=>hc⟩
    unfold lbL
    rw [show gI l a=true by unfold gI;rw [decide_eq_true h0,blt_t hl0,ble_t (by omega)];rfl,cond_true]
    unfold lbB
    cases c1:kdI l a 3 with
    | false=>exact ⟨_,rfl,h0,fun _=>⟨Int.le_refl _,h1⟩,fun h=>by (cases h)⟩
    | true =>
    have hlt:=kdI_lt c1
    have hlt2:=nx hz h0 (by decide) c1
    have hw:=w1I h0 hlt (by omega)
    simp only [cond_true]
    cases c2:twoP (tokI l a).parts with
    | true=>exact bad 4 (by decide)
    | false =>
    have go:∀t:Str,∃x,lbG l ls a t (fun o s K=>K (o++[s])) (lbL l m) (fun a d=>some ⟨[],a,true,d⟩)=some x∧0≤x.a∧(x.bad=false→a≤x.a∧x.a < (l.length:Int))∧(x.bad=true→x.d.c≠0):=by
      intro t
      unfold lbG
      cases c3:decide ((ls.length:Int) ≥ 4) with
      | true=>exact bad 3 (by decide)
      | false =>
        obtain ⟨x,e,g0,g1,g2⟩:=lb_tot hz hl0 hl m (ls++[t]) (w64 (a+1)) (by omega) (by omega) (by omega)
        exact ⟨x,e,g0,fun h=>⟨by have:=g1 h;omega,(g1 h).2⟩,g2⟩
    simp only [cond_false]
    cases ((tokI l a).parts.length:Int)==1 with
    | true=>exact go _
    | false=>exact go _
structure Lst (G:ExprR→Prop) (l:List ItemR):Prop where
  len:l.length≤128
  e:∀x∈l,G x.e
  il:∀x∈l,x.items.length≤128
  ie:∀x∈l,∀y∈x.items,G y.e
  i3:∀x∈l,∀y∈x.items,∀z∈y.items,G z.e
theorem Lst.nil {G:ExprR→Prop}:Lst G []:=⟨by simp,by simp,by simp,by simp,by simp⟩
theorem Lst.snoc {G:ExprR→Prop} {l:List ItemR} {x:ItemR} (h:Lst G l) (hl:l.length < 128) (h1:G x.e) (h2:x.items.length≤128) (h3:∀y∈x.items,G y.e) (h4:∀y∈x.items,∀z∈y.items,G z.e):Lst G (l++[x]):=by
  refine ⟨by rw [List.length_append,List.length_singleton];omega,fun y hy=>?_,fun y hy=>?_,fun y hy=>?_,fun y hy=>?_⟩<;>rcases List.mem_append.1 hy with hy | hy
  · exact h.e y hy
  · rw [List.mem_singleton.1 hy];exact h1
  · exact h.il y hy
  · rw [List.mem_singleton.1 hy];exact h2
  · exact h.ie y hy
  · rw [List.mem_singleton.1 hy];exact h3
  · exact h.i3 y hy
  · rw [List.mem_singleton.1 hy];exact h4
def Well (l:List TokR) (G:ExprR→Prop) (a:Int) (r:PI):Prop:=0≤r.a∧(r.d.c=0→a≤r.a∧r.a < (l.length:Int)∧Lst G r.l)
theorem itL_tot {G:ExprR→Prop} (hG:G e00) {A:Int→Option AR} {Q:Int→Option PI} {m:Nat} (hz:Lz l) (hl0:0 < l.length) (hl:l.length≤100000) {b:Int} (hb:0≤b) (hm:(l.length:Int) - b < m)
    (hA:∀a,0≤a→a≤(l.length:Int)→∃r,A a=some r∧(r.d.c=0→a < r.a∧r.a < (l.length:Int)∧G r.e))
    (hQ:∀a,b < a→a < (l.length:Int)→∃r,Q a=some r∧Well l G a r) :
    ∀(k:Nat) (out:List ItemR) (a:Int),b≤a→a < (l.length:Int)→(l.length:Int) - a < k→Lst G out→∃x,itL l A Q m k out a=some x∧Well l G a x.2
  | 0,_,_,_,_,h,_=>by omega
  | k+1,out,a,h0,h1,h,ho=>by
    have hbig:big=140737488355328:=rfl
    have bad:∀(b:Int) (d:DgR),0≤b→d.c≠0→∃x,(some ((true,⟨[],b,d⟩):Bool×PI))=some x∧Well l G a x.2:=fun b d h1 h2=>⟨_,rfl,h1,fun h=>absurd h h2⟩
    unfold itL
    rw [show gI l a=true by unfold gI;rw [decide_eq_true (show 0≤a by omega),blt_t hl0,ble_t (by omega)];rfl,cond_true]
    unfold itB
    cases c1:kdI l a 1 with
    | false=>exact ⟨_,rfl,by show 0≤a;omega,fun _=>⟨Int.le_refl _,h1,ho⟩⟩
    | true =>
    have hlt:=kdI_lt c1
    have hlt2:=nx hz (show 0≤a by omega) (by decide) c1
    have hw:=w1I (show 0≤a by omega) hlt (by omega)
    simp only [cond_true]
    cases c2:decide ((out.length:Int) ≥ 128) with
    | true=>exact bad _ _ (by omega) (show (3:Int)≠0 by decide)
    | false =>
    have hlen:out.length < 128:=by have:=of_decide_eq_false c2;omega
    simp only [cond_false]
    cases c3:sgI l (w64 (a+1)) [61] with
    | true =>
      have h2:=nxs hz (by omega) c3
      simp only [cond_true]
      cases c4:twI out (tokI l a).s with
      | true=>exact bad _ _ (by omega) (show (10:Int)≠0 by decide)
      | false =>
      have hw2:w64 (a+2)=a+2:=wrap_in _ (by omega)
      obtain ⟨r,e,g⟩:=hA (w64 (a+2)) (by omega) (by omega)
      simp only [cond_false,e,thn]
      cases c5:r.d.c != 0 with
      | true=>exact bad _ _ (by omega) (by simpa using c5)
      | false =>
        have hc:r.d.c=0:=by simpa using c5
        obtain ⟨g1,g2,g3⟩:=g hc
        obtain ⟨x,e,w⟩:=itL_tot hG hz hl0 hl hb hm hA hQ k (out++[⟨false,(tokI l a).s,[],r.e,[],(tokI l a).p⟩]) r.a (by omega) (by omega) (by omega) (ho.snoc hlen g3 (by simp) (by simp) (by simp))
        exact ⟨x,e,w.1,fun h=>⟨by have:=(w.2 h).1;omega,(w.2 h).2⟩⟩
    | false =>
    simp only [cond_false]
    obtain ⟨y,e1,y0,y1,y2⟩:=lb_tot hz hl0 hl m [] (w64 (a+1)) (by omega) (by omega) (by omega)
    simp only [thA,e1,thn,decide_eq_true y0,cond_true]
    cases c4:y.bad with
    | true=>exact bad _ _ y0 (y2 c4)
    | false =>
    have y1:=y1 c4
    simp only [cond_false]
    cases c5:sgI l y.a [123] with
    | false=>exact bad _ _ y0 (show (4:Int)≠0 by decide)
    | true =>
    have h2:=nxs hz y0 c5
    have hw2:=w1I y0 (show y.a < (l.length:Int) by omega) (by omega)
    simp only [Bool.not_true,cond_false]
    obtain ⟨z,e2,z0,z1⟩:=hQ (w64 (y.a+1)) (by omega) (by omega)
    simp only [e2,decide_eq_true z0,cond_true]
    cases c6:z.d.c != 0 with
    | true=>exact bad _ _ y0 (by simpa using c6)
    | false =>
    obtain ⟨z1,z2,z3⟩:=z1 (by simpa using c6)
    simp only [cond_false]
    cases c7:sgI l z.a [125] with
    | false=>exact bad _ _ y0 (show (4:Int)≠0 by decide)
    | true =>
    have h3:=nxs hz z0 c7
    have hw3:=w1I z0 (show z.a < (l.length:Int) by omega) (by omega)
    simp only [Bool.not_true,cond_false]
    obtain ⟨x,e,w⟩:=itL_tot hG hz hl0 hl hb hm hA hQ k (out++[⟨true,(tokI l a).s,y.l,e00,z.l,(tokI l a).p⟩]) (w64 (z.a+1)) (by omega) (by omega) (by omega) (ho.snoc hlen hG z3.len z3.e z3.ie)
    exact ⟨x,e,w.1,fun h=>⟨by have:=(w.2 h).1;omega,(w.2 h).2⟩⟩
theorem itM_tot {G:ExprR→Prop} (hG:G e00) {A:Int→Option AR} (hz:Lz l) (hl0:0 < l.length) (hl:l.length≤100000)
    (hA:∀a,0≤a→a≤(l.length:Int)→∃r,A a=some r∧(r.d.c=0→a < r.a∧r.a < (l.length:Int)∧G r.e)) :
    ∀(n:Nat) (a:Int),0≤a→a < (l.length:Int)→(l.length:Int) - a+1 < n→∃r,itM l A n a=some r∧Well l G a r
  | 0,_,_,_,h=>by omega
  | n+1,a,h0,h1,h=>by
    obtain ⟨x,e,w⟩:=itL_tot hG hz hl0 hl h0 (m:=n) (by omega) hA (fun a' h2 h3=>itM_tot hG hz hl0 hl hA n a' (by omega) h3 (by omega)) n [] a (Int.le_refl _) h1 (by omega) Lst.nil
    exact ⟨x.2,by unfold itM;rw [e];rfl,w⟩
end
def GE (e:ExprR):Prop:=esz e≤4000000000
def itV (s:Str):PI:=prP (itM (allM s).l (aM (allM s).l) 200000 0)
theorem allM_Lz {s:Str} (hb:(allM s).bad=0):Lz (allM s).l:=by
  obtain ⟨L,t,hL,hk⟩:=allM_last hb
  rw [hL]
  intro a h0 h1
  rw [List.length_append,List.length_singleton] at h1
  unfold tokI
  rw [show a.toNat=L.length by omega,getD_app,if_neg (by omega),if_pos rfl]
  exact hk
theorem itV_ok {s:Str} (hb:(allM s).bad=0):itM (allM s).l (aM (allM s).l) 200000 0=some (itV s)∧Well (allM s).l GE 0 (itV s):=by
  have hl:=(allM_toks s).2.1
  have hl0:=(allM_toks s).2.2.1 hb
  obtain ⟨r,e,w⟩:=itM_tot (l:=(allM s).l) (G:=GE) (by show esz e00≤_;rw [show esz e00=1 from rfl];omega) (A:=aM (allM s).l) (allM_Lz hb) hl0 (by omega)
    (fun a h0 h1=>by
      obtain ⟨r,e,g⟩:=aM_tot s h0 h1
      exact ⟨r,e,fun hc=>⟨(aM_in hb h0 h1 e hc).1,(aM_in hb h0 h1 e hc).2,aM_sz hb h0 h1 e hc⟩⟩) 200000 0 (by omega) (by omega) (by omega)
  have:itV s=r:=by unfold itV;rw [e];rfl
  rw [this]
  exact ⟨e,w⟩
end Go.Proofs.YtobleaffkomcmaaGreatDoor
namespace Go.Proofs.YtobleaffkomcmaaGreatDoor
open Go.Eng
set_option maxRecDepth 100000
namespace Rd9
def itQ:Its:=fun l a=>itM l (aM l) 200000 a
theorem itQ_snd:SndI itQ:=it_sound aM_snd 200000
def pDp (f:List ItemR→Int):List (D Pl)→Option (Bool×D Pl)
  | [d]=>match asL .items d with
    | some l=>some (true,dI (f l))
    | none=>none
  | _=>none
theorem pDp_ok:∀ds b d,pDp deepI ds=some (b,d)→b=true→Snd 30 ds d:=by
  intro ds b d h hb
  unfold pDp at h
  split at h
  · split at h
    · rename_i h1
      simp only [Option.some.injEq,Prod.mk.injEq] at h
      obtain ⟨_,rfl⟩:=h
      exact (deepI_sound _).pre (.cons (asL_rdle h1) .nil)
    · simp at h
  · simp at h
def tRo (Q:Its) (F:List ItemR→Int):Eng.Told Pl:=tell 27 pLex (tell 28 (pItI Q) (tell 30 (pDp F) (tell 29 pDgM (tell 31 pAtD tell0))))
theorem tRo_ok {Q:Its} (hQ:SndI Q):TOk (tRo Q deepI):=tell_ok pLex_ok (tell_ok (pItI_ok hQ) (tell_ok pDp_ok (tell_ok pDgM_ok (tell_ok pAtD_ok (tell0_ok _)))))
def rdF (d:DgR) (l:List ItemR):Option (D Pl):=bif d.c != 0 then some (.tup [.nilS,.agg (cDg d.c d.p)]) else some (.tup [.pl (pItems l) .any,.agg (cDg d.c d.p)])
def rdD (F:List ItemR→Int) (s:Str) (d:DgR) (l:List ItemR):Option (D Pl):=bif (d.c==0)==true then (bif decide (F l > 8) then rdF ⟨12,posR s (cm s 0)⟩ l else rdF d l) else rdF d l
theorem eRo (s:Str) (Q:Its) (F:List ItemR→Int):evF (tRo Q F) noTL noL 2 Tryz.f11 [.str s]=bif (allM s).bad != 0 then some (.tup [.nilS,.agg (cDg (allM s).bad (allM s).bp)]) else
  ckP (Q (allM s).l 0) fun x=>ixg (allM s).l x.a ((x.d.c==0)==true) (bif (bif x.d.c==0 then (tokI (allM s).l x.a).kind != 0 else false) then dgK (allM s).l x.a (rdD F s (dgM 4 (allM s).l x.a) x.l) else rdD F s x.d x.l):=by kernel_rfl
structure RdO where
  l:List ItemR
  d:DgR
def finF (d:DgR) (l:List ItemR):RdO:=bif d.c != 0 then ⟨[],d⟩ else ⟨l,d⟩
def finD (s:Str) (d:DgR) (l:List ItemR):RdO:=bif d.c==0 then (bif decide (deepI l > 8) then finF ⟨12,posR s (cm s 0)⟩ l else finF d l) else finF d l
def rd9 (s:Str):RdO:=bif (allM s).bad != 0 then ⟨[],⟨(allM s).bad,(allM s).bp⟩⟩ else
  bif (bif (itV s).d.c==0 then (tokI (allM s).l (itV s).a).kind != 0 else false) then finD s (dgM 4 (allM s).l (itV s).a) (itV s).l else finD s (itV s).d (itV s).l
def encO (r:RdO):D Pl:=.tup [.pl (pItems r.l) .any,.agg (cDg r.d.c r.d.p)]
theorem nil_rdle (c:Int) (p:PosR):RDle X0.C (.tup [.nilS,.agg (cDg c p)]) (encO ⟨[],⟨c,p⟩⟩):=RDle.tup (.cons (RDle.of (.nil _ rfl)) (RDles.refl _))
theorem finF_of (d:DgR) (l:List ItemR):∃x,rdF d l=some x∧RDle X0.C x (encO (finF d l)):=by
  unfold rdF finF
  cases d.c != 0 with
  | true=>exact ⟨_,rfl,nil_rdle _ _⟩
  | false=>exact ⟨_,rfl,RDle.refl _⟩
theorem finD_of (s:Str) (d:DgR) (l:List ItemR):∃x,rdD deepI s d l=some x∧RDle X0.C x (encO (finD s d l)):=by
  unfold rdD finD
  cases d.c==0 with
  | true =>
    cases decide (deepI l > 8) with
    | true=>exact finF_of ⟨12,posR s (cm s 0)⟩ l
    | false=>exact finF_of d l
  | false=>exact finF_of d l
theorem rd9_sound (s:Str):Snd 11 [.str s] (encO (rd9 s)):=by
  have go:=fun {d} (h:_=some d)=>snd_fn (n:=2) (tRo_ok itQ_snd) (noTL_ok _ _) (f:=11) (fn:=Tryz.f11) (by kernel_rfl) (loops_of (f:=11) (fn:=Tryz.f11) (by kernel_rfl) (loops_0 (by kernel_rfl))) ((eRo s itQ deepI).trans h)
  unfold rd9
  cases hb:(allM s).bad != 0 with
  | true=>rw [hb] at go;exact (go rfl).post (nil_rdle _ _)
  | false =>
    have hb0:(allM s).bad=0:=by simpa using hb
    obtain ⟨e,w⟩:=itV_ok hb0
    have hl0:=(allM_toks s).2.2.1 hb0
    rw [hb,cond_false,show itQ (allM s).l 0=some (itV s) from e,ckP_eq] at go
    simp only [thn] at go
    rw [ixg_t (fun h=>by
      have hc:(itV s).d.c=0:=by simpa using h
      exact ⟨w.1,(w.2 hc).2.1⟩)] at go
    rw [cond_false]
    cases hk:(bif (itV s).d.c==0 then (tokI (allM s).l (itV s).a).kind != 0 else false) with
    | true =>
      obtain ⟨x,e1,h1⟩:=finD_of s (dgM 4 (allM s).l (itV s).a) (itV s).l
      exact (go (by rw [hk,cond_true,dgK_t w.1 hl0];exact e1)).post h1
    | false =>
      obtain ⟨x,e1,h1⟩:=finD_of s (itV s).d (itV s).l
      exact (go (by rw [hk,cond_false];exact e1)).post h1
theorem finF_z {d:DgR} {l:List ItemR} (h:(finF d l).d.c=0):finF d l=⟨l,d⟩∧d.c=0:=by
  unfold finF at h ⊢
  cases hc:d.c != 0 with
  | true=>rw [hc] at h;rw [show d.c=0 from h] at hc;cases hc
  | false=>exact ⟨rfl,by simpa using hc⟩
theorem finD_z {s:Str} {d:DgR} {l:List ItemR} (h:(finD s d l).d.c=0):finD s d l=⟨l,d⟩∧d.c=0:=by
  unfold finD at h ⊢
  cases hc:d.c==0 with
  | false =>
    rw [hc] at h
    have:=(finF_z h).2
    rw [this] at hc
    cases hc
  | true =>
    rw [hc] at h
    cases hd:decide (deepI l > 8) with
    | true =>
      rw [hd] at h
      have h12:(12:Int)=0:=(finF_z (d:=⟨12,posR s (cm s 0)⟩) (l:=l) h).2
      omega
    | false=>rw [hd] at h;exact finF_z h
theorem rd9_ok {s:Str} (h:(rd9 s).d.c=0):Lst GE (rd9 s).l:=by
  unfold rd9 at h ⊢
  cases hb:(allM s).bad != 0 with
  | true=>exact Lst.nil
  | false =>
    have hb0:(allM s).bad=0:=by simpa using hb
    obtain ⟨_,w⟩:=itV_ok hb0
    rw [hb,cond_false] at h
    rw [cond_false]
    cases hk:(bif (itV s).d.c==0 then (tokI (allM s).l (itV s).a).kind != 0 else false) with
    | true =>
      rw [hk] at h
      have h4:(4:Int)=0:=(finD_z (s:=s) (d:=dgM 4 (allM s).l (itV s).a) (l:=(itV s).l) h).2
      omega
    | false =>
      rw [hk] at h
      obtain ⟨e,hc⟩:=finD_z h
      rw [cond_false,e]
      exact (w.2 hc).2.2
end Rd9
end Go.Proofs.YtobleaffkomcmaaGreatDoor
