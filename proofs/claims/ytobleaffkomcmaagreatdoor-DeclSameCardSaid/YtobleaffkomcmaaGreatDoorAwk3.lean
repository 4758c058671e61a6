/-
  THE DOCUMENT's EXAMPLES of a configuration come to true: the parts joined.
-/
import Derived.Test.YtobleaffkomcmaaGreatDoorLook
import Derived.Test.YtobleaffkomcmaaGreatDoorEngNl
namespace Go.Proofs.YtobleaffkomcmaaGreatDoor
open Go.Eng
set_option maxRecDepth 100000
namespace DS
def sDisk:Str:=[100,105,115,107]
def attL:List AttrR:=[⟨[105,100],3,0,false,true,false,false⟩,⟨[107,105,110,100],3,0,false,false,true,false⟩,⟨[108,97,98,101,108],3,0,false,false,false,false⟩,⟨[115,101,114,105,97,108],2,0,false,true,false,false⟩,⟨[115,105,122,101],2,0,true,false,false,false⟩]
theorem eAtt:evF tell0 noTL noL 5 Tryz.f157 [.str sDisk]=some (.pl (pAttrs attL) .full):=by kernel_rfl
theorem attrs_some (l:List AttrR) (k:SK) (h:Nat.beq l.length 0=false):RDle (plC emp) (.pl (pAttrs l) k) (.pl (pAttrs l) (.nil false)):=by
  intro cx v hr
  have hne:¬ l.length=0:=fun e=>by rw [e] at h;simp at h
  cases hr with
  | pl0 _ _ _ _ hl hk=>exact absurd hl hne
  | pl b off n c _ _ vs hn hc hb hk hav hcell h1 hrd=>exact .pl b off n c (pAttrs l) (.nil false) vs hn hc hb rfl hav hcell h1 hrd
def pAtt:List (D Pl)→Option (Bool×D Pl)
  | [.str t]=>some (t==sDisk,.pl (pAttrs attL) (.nil false))
  | _=>none
theorem pAtt_ok:∀ds b d,pAtt ds=some (b,d)→b=true→Snd 157 ds d:=by
  intro ds b d h hb
  unfold pAtt at h
  split at h
  · simp only [Option.some.injEq,Prod.mk.injEq] at h
    obtain ⟨rfl,rfl⟩:=h
    rw [beq_iff_eq] at hb
    subst hb
    exact (snd_fn (n:=5) (tell0_ok _) (noTL_ok _ _) (fn:=Tryz.f157) (by kernel_rfl) (fun _ _ b _=>noL_ok _ b) eAtt).post (attrs_some _ _ rfl)
  · simp at h
def sSize:Str:=[115,105,122,101]
theorem eFi:ev tell0 noTL 60 154 [.str sDisk,.str sSize]=some (.tup [.agg (cA ⟨sSize,2,0,true,false,false,false⟩),dI 0]):=by kernel_rfl
def pFi:List (D Pl)→Option (Bool×D Pl)
  | [.str t,.str n]=>some (t==sDisk&&n==sSize,.tup [.agg (cA ⟨sSize,2,0,true,false,false,false⟩),dI 0])
  | _=>none
theorem pFi_ok:∀ds b d,pFi ds=some (b,d)→b=true→Snd 154 ds d:=by
  intro ds b d h hb
  unfold pFi at h
  split at h
  · simp only [Option.some.injEq,Prod.mk.injEq] at h
    obtain ⟨rfl,rfl⟩:=h
    simp only [Bool.and_eq_true,beq_iff_eq] at hb
    obtain ⟨rfl,rfl⟩:=hb
    exact snd_of (tell0_ok _) (noTL_ok _ _) eFi
  · simp at h
def tAw:Eng.Told Pl:=tLk (tell 154 pFi (tell 157 pAtt tell0))
theorem tAw_ok:TOk tAw:=tLk_ok (tell_ok pFi_ok (tell_ok pAtt_ok (tell0_ok _)))
def arrsOf:Obs Pl→List Nat
  | []=>[]
  | (n,.arr false _)::r=>n::arrsOf r
  | _::r=>arrsOf r
noncomputable def L25 (S:St Pl):Option (Bool×LR Pl) :=
  match exec X0 (callK X0 F0 tAw noTL 60) noL (.loop (loopAt 89 1)) (calmAS X0.C (arrsOf S.hs) S) (fun e S=>some (e,S)) with
  | some (e,S')=>some (true,.leaf e S')
  | none=>none
theorem L25_ok:SOk X0 (loopAt 89 1) L25:=by
  intro S c r h _
  unfold L25 at h
  split at h
  · rename_i e S' he
    simp only [Option.some.injEq,Prod.mk.injEq] at h
    obtain ⟨_,rfl⟩:=h
    obtain ⟨e1,S1,h1,h2⟩:=body_goes xok fok tAw_ok (noTL_ok _ _) (fun b _=>noL_ok _ b) he
    simp only [Option.some.injEq,Prod.mk.injEq] at h1
    obtain ⟨rfl,rfl⟩:=h1
    exact Goes.weakPre (Weak.calmA xok _ S) h2
  · simp at h
noncomputable def TLr:LoopsT Pl:=tellL 89 (atL 25 L25 noL) noTL
theorem idsRr:(loopsAt 89).length=2∧firstId (loopAt 89 0)≠25:=⟨by kernel_rfl,by decide +kernel⟩
theorem TLr_ok:LOk TLr:=tellL_ok (fun fn code hf hc b hb=>loops_of hf (fun i hi=>by
  rw [idsRr.1] at hi
  match i,hi with
  | 0,_=>exact atL_ok (fun h=>absurd h idsRr.2) fun _=>noL_ok _ _
  | 1,_=>exact atL_ok (fun _=>L25_ok) fun _=>noL_ok _ _) code hc b hb) (noTL_ok _ _)
end DS
end Go.Proofs.YtobleaffkomcmaaGreatDoor
namespace Go.Proofs.YtobleaffkomcmaaGreatDoor
open Go.Eng
set_option maxRecDepth 100000
namespace DS
def tx1:Str:=[114,101,115,111,117,114,99,101,32,34,100,105,115,107,34,32,34,97,34,32,123,32,115,105,122,101,32,61,32,49,32,125]
def tx2:Str:=[114,101,115,111,117,114,99,101,32,34,100,105,115,107,34,32,34,97,34,32,123,32,125]
def it1:ItemR:=⟨true,[114,101,115,111,117,114,99,101],[[100,105,115,107],[97]],⟨0,[],[],⟨0,0,[],[],[],0,0,false⟩,[],⟨0,0,0⟩⟩,[⟨false,[115,105,122,101],[],⟨1,[],[],⟨2,1,[],[],[],0,0,false⟩,[],⟨29,1,30⟩⟩,[],⟨22,1,23⟩⟩],⟨0,1,1⟩⟩
def it2:ItemR:=⟨true,[114,101,115,111,117,114,99,101],[[100,105,115,107],[97]],⟨0,[],[],⟨0,0,[],[],[],0,0,false⟩,[],⟨0,0,0⟩⟩,[],⟨0,1,1⟩⟩
def dg0:List (D Pl):=[dI 0,dI 0,dI 0,dI 0,.str []]
def res1:ResR:=⟨sDisk,[97],[⟨sSize,⟨1,[],[],⟨2,1,[],[],[],0,0,false⟩,[],⟨29,1,30⟩⟩⟩],none,none,[],false,false,[],[],[],[],⟨0,1,1⟩⟩
theorem r2_eq:ev (tLk tell0) noTL 60 25 [.str tx2]=some (.tup [.pl (pItems [it2]) .any,.agg dg0]):=by kernel_rfl
theorem r1_eq:ev (tLk tell0) noTL 60 25 [.str tx1]=some (.tup [.pl (pItems [it1]) .any,.agg dg0]):=by kernel_rfl
theorem d1_eq:ev tAw TLr 60 26 [.pl (pItems [it1]) .any]=some (.tup [.agg [.nilS,.nilS,.pl (pRess [res1]) .any,.nilS,.nilS],.agg dg0]):=by kernel_rfl
theorem d2_eq:ev tAw TLr 60 26 [.pl (pItems [it2]) .any]=some (.tup [.agg [.nilS,.nilS,.nilS,.nilS,.nilS],.agg [dI 15,dI 0,dI 1,dI 1,.str sSize]]):=by kernel_rfl
def pRe2:List (D Pl)→Option (Bool×D Pl)
  | [.str t]=>bif Nat.beq t.length 32 then some (t==tx1,.tup [.pl (pItems [it1]) .any,.agg dg0]) else some (t==tx2,.tup [.pl (pItems [it2]) .any,.agg dg0])
  | _=>none
theorem pRe2_ok:∀ds b d,pRe2 ds=some (b,d)→b=true→Snd 25 ds d:=by
  intro ds b d h hb
  unfold pRe2 at h
  split at h
  · rename_i t
    cases hc:Nat.beq t.length 32 with
    | true =>
      rw [hc,cond_true] at h
      simp only [Option.some.injEq,Prod.mk.injEq] at h
      obtain ⟨rfl,rfl⟩:=h
      rw [beq_iff_eq] at hb
      subst hb
      exact snd_of (tLk_ok (tell0_ok _)) (noTL_ok _ _) r1_eq
    | false =>
      rw [hc,cond_false] at h
      simp only [Option.some.injEq,Prod.mk.injEq] at h
      obtain ⟨rfl,rfl⟩:=h
      rw [beq_iff_eq] at hb
      subst hb
      exact snd_of (tLk_ok (tell0_ok _)) (noTL_ok _ _) r2_eq
  · simp at h
def dec1:D Pl:=.tup [.agg [.nilS,.nilS,.pl (pRess [res1]) .any,.nilS,.nilS],.agg dg0]
def dec2:D Pl:=.tup [.agg [.nilS,.nilS,.nilS,.nilS,.nilS],.agg [dI 15,dI 0,dI 1,dI 1,.str sSize]]
theorem dec1_sound:Snd 26 [.pl (pItems [it1]) .any] dec1:=snd_of tAw_ok TLr_ok d1_eq
theorem dec2_sound:Snd 26 [.pl (pItems [it2]) .any] dec2:=snd_of tAw_ok TLr_ok d2_eq
end DS
end Go.Proofs.YtobleaffkomcmaaGreatDoor
namespace Go.Proofs.YtobleaffkomcmaaGreatDoor
open Go.Eng
set_option maxRecDepth 100000
namespace DS
def eV0 (a b:Val):Bool:=a.kind==b.kind&&(a.i==b.i&&(a.s==b.s&&(a.l.isEmpty&&(b.l.isEmpty&&(a.keys==b.keys&&(a.tk==b.tk&&(a.tof==b.tof&&a.sec==b.sec)))))))
theorem eV0_eq {a b:Val} (h:eV0 a b=true):a=b:=by
  obtain ⟨a1,a2,a3,a4,a5,a6,a7,a8⟩:=a
  obtain ⟨b1,b2,b3,b4,b5,b6,b7,b8⟩:=b
  simp only [eV0,Bool.and_eq_true,beq_iff_eq,List.isEmpty_iff] at h
  obtain ⟨rfl,rfl,rfl,rfl,rfl,rfl,rfl,rfl,rfl⟩:=h
  rfl
def eP0 (a b:PosR):Bool:=a.at'==b.at'&&(a.line==b.line&&a.col==b.col)
theorem eP0_eq {a b:PosR} (h:eP0 a b=true):a=b:=by
  obtain ⟨a1,a2,a3⟩:=a
  obtain ⟨b1,b2,b3⟩:=b
  simp only [eP0,Bool.and_eq_true,beq_iff_eq] at h
  obtain ⟨rfl,rfl,rfl⟩:=h
  rfl
def eE0 (a b:ExprR):Bool:=a.op==b.op&&(a.s==b.s&&(a.s2==b.s2&&(eV0 a.v b.v&&(a.l.isEmpty&&(b.l.isEmpty&&eP0 a.p b.p)))))
theorem eE0_eq {a b:ExprR} (h:eE0 a b=true):a=b:=by
  obtain ⟨a1,a2,a3,a4,a5,a6⟩:=a
  obtain ⟨b1,b2,b3,b4,b5,b6⟩:=b
  simp only [eE0,Bool.and_eq_true,beq_iff_eq,List.isEmpty_iff] at h
  obtain ⟨rfl,rfl,rfl,hv,rfl,rfl,hp⟩:=h
  rw [eV0_eq hv,eP0_eq hp]
def eI0 (a b:ItemR):Bool:=a.block==b.block&&(a.name==b.name&&(a.labels==b.labels&&(eE0 a.e b.e&&(a.items.isEmpty&&(b.items.isEmpty&&eP0 a.p b.p)))))
theorem eI0_eq {a b:ItemR} (h:eI0 a b=true):a=b:=by
  obtain ⟨a1,a2,a3,a4,a5,a6⟩:=a
  obtain ⟨b1,b2,b3,b4,b5,b6⟩:=b
  simp only [eI0,Bool.and_eq_true,beq_iff_eq,List.isEmpty_iff] at h
  obtain ⟨rfl,rfl,rfl,he,rfl,rfl,hp⟩:=h
  rw [eE0_eq he,eP0_eq hp]
def eI1 (a b:ItemR):Bool:=a.block==b.block&&(a.name==b.name&&(a.labels==b.labels&&(eE0 a.e b.e&&(eP0 a.p b.p&&(match a.items,b.items with
  | [],[]=>true
  | [x],[y]=>eI0 x y
  | _,_=>false)))))
theorem eI1_eq {a b:ItemR} (h:eI1 a b=true):a=b:=by
  obtain ⟨a1,a2,a3,a4,a5,a6⟩:=a
  obtain ⟨b1,b2,b3,b4,b5,b6⟩:=b
  simp only [eI1,Bool.and_eq_true,beq_iff_eq] at h
  obtain ⟨rfl,rfl,rfl,he,hp,hi⟩:=h
  have hi':a5=b5:=by
    split at hi
    · rfl
    · rw [eI0_eq hi]
    · cases hi
  rw [eE0_eq he,eP0_eq hp,hi']
def pDe2:List (D Pl)→Option (Bool×D Pl)
  | [.pl ⟨.items,[x]⟩ .any]=>bif x.items.isEmpty then some (eI1 x it2,dec2) else some (eI1 x it1,dec1)
  | _=>none
theorem pDe2_ok:∀ds b d,pDe2 ds=some (b,d)→b=true→Snd 26 ds d:=by
  intro ds b d h hb
  unfold pDe2 at h
  split at h
  · rename_i x
    cases hc:x.items.isEmpty with
    | true =>
      rw [hc,cond_true] at h
      simp only [Option.some.injEq,Prod.mk.injEq] at h
      obtain ⟨rfl,rfl⟩:=h
      rw [eI1_eq hb]
      exact dec2_sound
    | false =>
      rw [hc,cond_false] at h
      simp only [Option.some.injEq,Prod.mk.injEq] at h
      obtain ⟨rfl,rfl⟩:=h
      rw [eI1_eq hb]
      exact dec1_sound
  · simp at h
def tR2:Eng.Told Pl:=tell 25 pRe2 (tell 26 pDe2 tell0)
theorem tR2_ok:TOk tR2:=tell_ok pRe2_ok (tell_ok pDe2_ok (tell0_ok _))
theorem rd1_eq:ev tR2 noTL 5 10 [.str tx1]=some dec1:=by kernel_rfl
theorem rd2_eq:ev tR2 noTL 5 10 [.str tx2]=some dec2:=by kernel_rfl
def pRd2:List (D Pl)→Option (Bool×D Pl)
  | [.str t]=>bif Nat.beq t.length 32 then some (t==tx1,dec1) else some (t==tx2,dec2)
  | _=>none
theorem pRd2_ok:∀ds b d,pRd2 ds=some (b,d)→b=true→Snd 10 ds d:=by
  intro ds b d h hb
  unfold pRd2 at h
  split at h
  · rename_i t
    cases hc:Nat.beq t.length 32 with
    | true =>
      rw [hc,cond_true] at h
      simp only [Option.some.injEq,Prod.mk.injEq] at h
      obtain ⟨rfl,rfl⟩:=h
      rw [beq_iff_eq] at hb
      subst hb
      exact snd_of tR2_ok (noTL_ok _ _) rd1_eq
    | false =>
      rw [hc,cond_false] at h
      simp only [Option.some.injEq,Prod.mk.injEq] at h
      obtain ⟨rfl,rfl⟩:=h
      rw [beq_iff_eq] at hb
      subst hb
      exact snd_of tR2_ok (noTL_ok _ _) rd2_eq
  · simp at h
def tRd2:Eng.Told Pl:=tell 10 pRd2 tell0
theorem tRd2_ok:TOk tRd2:=tell_ok pRd2_ok (tell0_ok _)
theorem awake_eq:ev tRd2 noTL 5 4 []=some (.bool true):=by kernel_rfl
theorem awake_sound:Snd 4 [] (.bool true):=snd_of tRd2_ok (noTL_ok _ _) awake_eq
def pAwake:List (D Pl)→Option (Bool×D Pl)
  | []=>some (true,.bool true)
  | _=>none
theorem pAwake_ok:∀ds b d,pAwake ds=some (b,d)→b=true→Snd 4 ds d:=by
  intro ds b d h hb
  unfold pAwake at h
  split at h
  · simp only [Option.some.injEq,Prod.mk.injEq] at h
    obtain ⟨_,rfl⟩:=h
    exact awake_sound
  · simp at h
end DS
end Go.Proofs.YtobleaffkomcmaaGreatDoor
