/-
  THE DOCUMENT's SCHEMA, NAMES AND TYPES: what their functions answer.
-/
import Derived.Test.YtobleaffkomcmaaGreatDoorWholeD
namespace Go.Proofs.YtobleaffkomcmaaGreatDoor.T11
open Go.Eng
set_option maxRecDepth 100000
def table:List RowR:=[⟨[100,105,115,107],[105,100],3,0,[99]⟩,
  ⟨[100,105,115,107],[107,105,110,100],3,0,[97]⟩,
  ⟨[100,105,115,107],[108,97,98,101,108],3,0,[]⟩,
  ⟨[100,105,115,107],[115,101,114,105,97,108],2,0,[99]⟩,
  ⟨[100,105,115,107],[115,105,122,101],2,0,[110]⟩,
  ⟨[110,111,100,101],[97,100,100,114],3,0,[99]⟩,
  ⟨[110,111,100,101],[100,105,115,107],3,0,[]⟩,
  ⟨[110,111,100,101],[105,100],3,0,[99]⟩,
  ⟨[110,111,100,101],[105,109,97,103,101],3,0,[110,97]⟩,
  ⟨[110,111,100,101],[112,111,114,116,115],4,2,[]⟩,
  ⟨[110,111,100,101],[115,101,99,114,101,116],3,0,[111]⟩,
  ⟨[110,111,100,101],[116,97,103,115],5,3,[]⟩,
  ⟨[110,111,116,101],[105,100],3,0,[99]⟩,
  ⟨[110,111,116,101],[109,101,116,97],5,0,[]⟩,
  ⟨[110,111,116,101],[116,101,120,116],3,0,[]⟩,
  ⟨[114,117,108,101],[97,108,108,111,119],4,3,[]⟩,
  ⟨[114,117,108,101],[102,114,111,109],3,0,[110]⟩,
  ⟨[114,117,108,101],[105,100],3,0,[99]⟩,
  ⟨[114,117,108,101],[116,111],3,0,[]⟩]
def a_disk:Str:=[100,105,115,107]
def l_disk:List AttrR:=[⟨[105,100],3,0,false,true,false,false⟩,⟨[107,105,110,100],3,0,false,false,true,false⟩,⟨[108,97,98,101,108],3,0,false,false,false,false⟩,⟨[115,101,114,105,97,108],2,0,false,true,false,false⟩,⟨[115,105,122,101],2,0,true,false,false,false⟩]
def a_node:Str:=[110,111,100,101]
def l_node:List AttrR:=[⟨[97,100,100,114],3,0,false,true,false,false⟩,⟨[100,105,115,107],3,0,false,false,false,false⟩,⟨[105,100],3,0,false,true,false,false⟩,⟨[105,109,97,103,101],3,0,true,false,true,false⟩,⟨[112,111,114,116,115],4,2,false,false,false,false⟩,⟨[115,101,99,114,101,116],3,0,false,false,false,true⟩,⟨[116,97,103,115],5,3,false,false,false,false⟩]
def a_note:Str:=[110,111,116,101]
def l_note:List AttrR:=[⟨[105,100],3,0,false,true,false,false⟩,⟨[109,101,116,97],5,0,false,false,false,false⟩,⟨[116,101,120,116],3,0,false,false,false,false⟩]
def a_rule:Str:=[114,117,108,101]
def l_rule:List AttrR:=[⟨[97,108,108,111,119],4,3,false,false,false,false⟩,⟨[102,114,111,109],3,0,true,false,false,false⟩,⟨[105,100],3,0,false,true,false,false⟩,⟨[116,111],3,0,false,false,false,false⟩]
def s46 (s:Str) (c:Int) (i:Int):St Pl:=mkS 17 [(0,.str s),(1,.int .u8 c),(4,.bool false),(5,dI i)] []
def r46 (s:Str) (c:Int) (b:Bool):St Pl:=mkS 17 [(0,.str s),(1,.int .u8 c),(4,.bool b)] []
def isC (s:Str) (c:Int) (i:Nat):Bool:=Int.ofNat (s.getD i 0).toNat==c
def hasC (s:Str) (c:Int):Bool:=!((List.range s.length).all fun i=>!(isC s c i))
theorem b46 (s:Str) (c:Int) (i:Nat):evC tell0 noTL noL 1 (loopAt 136 0) [0,1,4,5] (s46 s c i) =
    lt_ i s.length (ix_ i s.length (bif isC s c i then some (.ret,mkS 17 [(0,.str s),(1,.int .u8 c),(4,.bool true),(5,dI i)] []) else some (.normal,s46 s c (IntKind.i64.wrap ((i:Int)+1))))) (some (.exit 0,s46 s c i)):=by kernel_rfl
theorem ids46:(loopsAt 136).length=1∧firstId (loopAt 136 0)=2∧loopsOf (loopAt 136 0)=[]:=⟨by kernel_rfl,by kernel_rfl,by kernel_rfl⟩
def LS46 (S:St Pl):Option (Bool×LR Pl):=match seenS 17 [0,1,4,5] S with
  | some ([.str s,.int .u8 c,.bool false,.int .i64 (.ofNat 0)],[])=>some (Nat.ble s.length big,.ite ((List.range s.length).all fun i=>!(isC s c i)) (.leaf (.exit 0) (r46 s c false)) (.leaf .ret (r46 s c true)))
  | _=>none
theorem LS46_ok:SOk X0 (loopAt 136 0) LS46:=by
  intro S b r h hb
  unfold LS46 at h
  split at h
  · rename_i s c hs
    simp only [Option.some.injEq,Prod.mk.injEq] at h
    obtain ⟨rfl,rfl⟩:=h
    simp only [Nat.ble_eq] at hb
    refine Goes.pre (keepOf [0,1,4,5]) ?_
    rw [seenS_mask hs]
    refine loop_search (Sf:=fun i=>s46 s c i) (n:=s.length) (p:=fun i=>!(isC s c i)) (by simp) (by simp) (fun i hi hp=>?_) (fun i hi hp=>?_) ?_
    · have hp:isC s c i=false:=by simpa using hp
      refine goes_of (tell0_ok _) (noTL_ok _ _) (noLoops ids46.2.2) ((b46 s c i).trans ?_)
      rw [lt_t hi,ix_t hi,hp,wrap_nat (show i≤big by omega)]
      rfl
    · have hp:isC s c i=true:=by simpa using hp
      exact (goes_of (tell0_ok _) (noTL_ok _ _) (noLoops ids46.2.2) ((b46 s c i).trans (show _=some (.ret,mkS 17 [(0,.str s),(1,.int .u8 c),(4,.bool true),(5,dI i)] []) by rw [lt_t hi,ix_t hi,hp];rfl))).post (keepOf [0,1,4])
    · exact (goes_of (tell0_ok _) (noTL_ok _ _) (noLoops ids46.2.2) ((b46 s c s.length).trans (show _=some (.exit 0,s46 s c s.length) by rw [lt_f (by omega)]))).post (keepOf [0,1,4])
  · simp at h
theorem e46 (s:Str) (c:Int):evF tell0 noTL (atL 2 LS46 noL) 1 Tryz.f136 [.str s,.int .u8 c]=ck_ (Nat.ble s.length big) (bif (List.range s.length).all (fun i=>!(isC s c i)) then some (.bool false) else some (.bool true)):=by kernel_rfl
theorem has_sound (s:Str) (c:Int):Snd 136 [.str s,.int .u8 c] (.bool (hasC s c)):=by
  refine SoundAt.rooms fun hroom=>snd_fn (n:=1) (tell0_ok _) (noTL_ok _ _) (fn:=Tryz.f136) (by kernel_rfl) (loops_of (fn:=Tryz.f136) (by kernel_rfl) (loops_1 ids46.1 (atL_ok (fun _=>LS46_ok) fun h=>absurd ids46.2.1 h))) ((e46 s c).trans ?_)
  have h1:s.length≤big:=hroom (.str s) (by simp)
  rw [ck_t (ble_t h1)]
  unfold hasC
  cases (List.range s.length).all fun i=>!(isC s c i)<;>rfl
def pHas:List (D Pl)→Option (Bool×D Pl)
  | [.str s,.int .u8 c]=>some (true,.bool (hasC s c))
  | _=>none
theorem pHas_ok:∀ds b d,pHas ds=some (b,d)→b=true→Snd 136 ds d:=by
  intro ds b d h hb
  unfold pHas at h
  split at h
  · simp only [Option.some.injEq,Prod.mk.injEq] at h
    obtain ⟨_,rfl⟩:=h
    exact has_sound _ _
  · simp at h
def attrR (r:RowR):AttrR:=⟨r.name,r.tk,r.tof,hasC r.is 110,hasC r.is 99,hasC r.is 97,hasC r.is 111⟩
theorem e41 (r:RowR):ev (tell 136 pHas tell0) noTL 1 98 [.agg (cR r)]=some (.agg (cA (attrR r))):=by kernel_rfl
theorem attr_sound (r:RowR):Snd 98 [.agg (cR r)] (.agg (cA (attrR r))):=snd_of (tell_ok pHas_ok (tell0_ok _)) (noTL_ok _ _) (e41 r)
def pAttr:List (D Pl)→Option (Bool×D Pl)
  | [.agg cs]=>match dR cs with
    | some r=>some (true,.agg (cA (attrR r)))
    | none=>none
  | _=>none
theorem dR_eq {cs:List (D Pl)} {r:RowR} (h:dR cs=some r):cs=cR r:=by
  unfold dR at h
  split at h
  · simp only [Option.some.injEq] at h;subst h;rfl
  · simp at h
theorem pAttr_ok:∀ds b d,pAttr ds=some (b,d)→b=true→Snd 98 ds d:=by
  intro ds b d h hb
  unfold pAttr at h
  split at h
  · split at h
    · rename_i hr
      simp only [Option.some.injEq,Prod.mk.injEq] at h
      obtain ⟨_,rfl⟩:=h
      rw [dR_eq hr]
      exact attr_sound _
    · simp at h
  · simp at h
theorem e40:ev tell0 noTL 1 97 []=some (.pl (pRows table) .full):=by kernel_rfl
theorem table_sound:Snd 97 [] (.pl (pRows table) .any):=(snd_of (tell0_ok _) (noTL_ok _ _) e40).post (RDle.of (.any _ _))
def attrsV (t:Str):List AttrR:=bif t==a_disk then l_disk else bif t==a_node then l_node else bif t==a_note then l_note else bif t==a_rule then l_rule else []
def tRow:Eng.Told Pl:=tell 98 pAttr (tell 97 (fun ds=>match ds with
  | []=>some (true,.pl (pRows table) .any)
  | _=>none) tell0)
theorem tRow_ok:TOk tRow:=tell_ok pAttr_ok (tell_ok (fun ds b d h hb=>by
  split at h
  · simp only [Option.some.injEq,Prod.mk.injEq] at h
    obtain ⟨_,rfl⟩:=h
    exact table_sound
  · simp at h) (tell0_ok _))
def f29a (t:Str) (tb:List RowR) (i:Int):St Pl:=mkS 29 [(0,.str t),(2,.nilS),(3,.pl (pRows tb) .any),(4,.nilS),(5,dI i)] []
def f29b (t:Str) (tb:List RowR) (acc:List AttrR) (i:Int):St Pl:=mkS 29 [(0,.str t),(2,.nilS),(3,.pl (pRows tb) .any),(4,.arr 27),(5,dI i)] [(27,.arr false (pAttrs acc))]
theorem b29a (t:Str) (tb:List RowR) (i:Nat):evD tRow noTL noL 1 (loopAt 70 0) [0,2,3,4,5] [26] (f29a t tb i) =
    lt_ i tb.length (ix_ i tb.length (bif (tb.getD i default).t==t then ix_ i tb.length (some (.normal,f29b t tb [attrR (tb.getD i default)] (IntKind.i64.wrap ((i:Int)+1)))) else some (.normal,f29a t tb (IntKind.i64.wrap ((i:Int)+1))))) (some (.exit 0,f29a t tb i)):=by kernel_rfl
theorem b29b (t:Str) (tb:List RowR) (acc:List AttrR) (i:Nat):evD tRow noTL noL 1 (loopAt 70 0) [0,2,3,4,5] [26] (f29b t tb acc i) =
    lt_ i tb.length (ix_ i tb.length (bif (tb.getD i default).t==t then ix_ i tb.length (ck_ (Nat.ble ((acc.length+1) * 40) big) (some (.normal,f29b t tb (acc++[attrR (tb.getD i default)]) (IntKind.i64.wrap ((i:Int)+1))))) else some (.normal,f29b t tb acc (IntKind.i64.wrap ((i:Int)+1))))) (some (.exit 0,f29b t tb acc i)):=by kernel_rfl
theorem ids29:(loopsAt 70).length=1∧firstId (loopAt 70 0)=4∧loopsOf (loopAt 70 0)=[]:=⟨by kernel_rfl,by kernel_rfl,by kernel_rfl⟩
def r29a (t:Str) (tb:List RowR):St Pl:=mkS 29 [(0,.str t),(2,.nilS),(3,.pl (pRows tb) .any),(4,.nilS)] []
def r29b (t:Str) (tb:List RowR) (acc:List AttrR):St Pl:=mkS 29 [(0,.str t),(2,.nilS),(3,.pl (pRows tb) .any),(4,.arr 27)] [(27,.arr false (pAttrs acc))]
def gR (t:Str) (tb:List RowR) (i:Nat):Option AttrR:=bif (tb.getD i default).t==t then some (attrR (tb.getD i default)) else none
def allR (t:Str) (tb:List RowR):List AttrR:=(List.range tb.length).filterMap (gR t tb)
def LS29 (S:St Pl):Option (Bool×LR Pl):=match seenS 29 [0,2,3,4,5] S with
  | some ([.str t,.nilS,.pl ⟨.rows,tb⟩ .any,.nilS,.int .i64 (.ofNat 0)],[])=>some (Nat.ble (tb.length * 40) big,.ite (allR t tb).isEmpty (.leaf (.exit 0) (r29a t tb)) (.leaf (.exit 0) (r29b t tb (allR t tb))))
  | _=>none
theorem LS29_ok:SOk X0 (loopAt 70 0) LS29:=by
  intro S b r h hb
  unfold LS29 at h
  split at h
  · rename_i t tb hs
    simp only [Option.some.injEq,Prod.mk.injEq] at h
    obtain ⟨rfl,rfl⟩:=h
    simp only [Nat.ble_eq] at hb
    refine Goes.pre (keepOf [0,2,3,4,5]) ?_
    rw [seenS_mask hs]
    refine loop_filter (n:=tb.length) (E0:=r29a t tb) (E1:=r29b t tb) (fun i=>f29a t tb i) (fun acc i=>f29b t tb acc i) (gR t tb) (by simp) (fun i hi=>?_) (fun i acc hi ha=>?_) ?_ (fun acc=>?_)
    · have he:=b29a t tb i
      rw [lt_t hi,ix_t hi,ix_t hi,wrap_nat (show i≤big by omega)] at he
      unfold gR
      cases hc:(tb.getD i default).t==t with
      | true=>rw [hc] at he;exact goes_ofD tRow_ok (noTL_ok _ _) (noLoops ids29.2.2) he
      | false=>rw [hc] at he;exact goes_ofD tRow_ok (noTL_ok _ _) (noLoops ids29.2.2) he
    · have he:=b29b t tb acc i
      rw [lt_t hi,ix_t hi,ix_t hi,wrap_nat (show i≤big by omega),ck_t (ble_t (by omega))] at he
      unfold gR
      cases hc:(tb.getD i default).t==t with
      | true=>rw [hc] at he;exact goes_ofD tRow_ok (noTL_ok _ _) (noLoops ids29.2.2) he
      | false=>rw [hc] at he;exact goes_ofD tRow_ok (noTL_ok _ _) (noLoops ids29.2.2) he
    · exact (goes_ofD tRow_ok (noTL_ok _ _) (noLoops ids29.2.2) ((b29a t tb tb.length).trans (show _=some (.exit 0,f29a t tb tb.length) by rw [lt_f (by omega)]))).post (keepOf [0,2,3,4])
    · exact (goes_ofD tRow_ok (noTL_ok _ _) (noLoops ids29.2.2) ((b29b t tb acc tb.length).trans (show _=some (.exit 0,f29b t tb acc tb.length) by rw [lt_f (by omega)]))).post (keepOf [0,2,3,4])
  · simp at h
theorem e29 (t:Str):evF tRow noTL (atL 4 LS29 noL) 1 Tryz.f70 [.str t]=bif (allR t table).isEmpty then some .nilS else some (.pl (pAttrs (allR t table)) .any):=by kernel_rfl
theorem table_types:table.all (fun r=>r.t==a_disk||(r.t==a_node||(r.t==a_note||r.t==a_rule)))=true:=by kernel_rfl
theorem all_disk:allR a_disk table=l_disk:=by kernel_rfl
theorem all_node:allR a_node table=l_node:=by kernel_rfl
theorem all_note:allR a_note table=l_note:=by kernel_rfl
theorem all_rule:allR a_rule table=l_rule:=by kernel_rfl
theorem all_attrs (t:Str):allR t table=attrsV t:=by
  unfold attrsV
  cases h1:t==a_disk with
  | true=>rw [show t=a_disk by simpa using h1];exact all_disk
  | false =>
    cases h2:t==a_node with
    | true=>rw [show t=a_node by simpa using h2];exact all_node
    | false =>
      cases h3:t==a_note with
      | true=>rw [show t=a_note by simpa using h3];exact all_note
      | false =>
        cases h4:t==a_rule with
        | true=>rw [show t=a_rule by simpa using h4];exact all_rule
        | false =>
          show allR t table=[]
          unfold allR
          rw [List.filterMap_eq_nil_iff]
          intro i hi
          have hi:i < table.length:=by simpa using hi
          have hall:=List.all_eq_true.1 table_types _ (getD_mem (d:=default) hi)
          unfold gR
          cases hc:(table.getD i default).t==t with
          | false=>rfl
          | true =>
            have he:(table.getD i default).t=t:=by simpa using hc
            rw [he,h1,h2,h3,h4] at hall
            simp at hall
theorem Attrs_sound (t:Str):Snd 70 [.str t] (.pl (pAttrs (attrsV t)) .any):=by
  have he:=e29 t
  rw [all_attrs] at he
  have hL:=loops_of (f:=70) (L:=atL 4 LS29 noL) (fn:=Tryz.f70) (by kernel_rfl) (loops_1 ids29.1 (atL_ok (fun _=>LS29_ok) fun h=>absurd ids29.2.1 h))
  cases h:(attrsV t).isEmpty with
  | true =>
    rw [h] at he
    have:attrsV t=[]:=by simpa using h
    rw [this]
    exact (snd_fn (n:=1) tRow_ok (noTL_ok _ _) (fn:=Tryz.f70) (by kernel_rfl) hL he).post (RDle.of (.nil _ rfl))
  | false =>
    rw [h] at he
    exact snd_fn (n:=1) tRow_ok (noTL_ok _ _) (fn:=Tryz.f70) (by kernel_rfl) hL he
def pSt (f:Str→Bool×D Pl):List (D Pl)→Option (Bool×D Pl)
  | [.str t]=>some (f t)
  | _=>none
theorem pSt_ok {g:FuncId} {f:Str→Bool×D Pl} (h:∀t,(f t).1=true→Snd g [.str t] (f t).2):∀ds b d,pSt f ds=some (b,d)→b=true→Snd g ds d:=by
  intro ds b d hp hb
  unfold pSt at hp
  split at hp
  · simp only [Option.some.injEq] at hp
    have h1:=h _ (by rw [hp];exact hb)
    rw [hp] at h1
    exact h1
  · simp at hp
theorem attrs_len (t:Str):(attrsV t).length≤7:=by
  unfold attrsV
  cases t==a_disk<;>cases t==a_node<;>cases t==a_note<;>cases t==a_rule<;>decide
def aZ:AttrR:=⟨[],.ofNat 0,.ofNat 0,false,false,false,false⟩
def s36 (l:List AttrR) (nm:Str) (f:Bool) (x:AttrR) (i:Int):St Pl:=mkS 28 [(1,.str nm),(4,.ptr 4 0),(5,.bool f),(6,.pl (pAttrs l) .any),(7,dI i)] [(4,.box false (cA x))]
def r36 (l:List AttrR) (nm:Str) (f:Bool) (x:AttrR):St Pl:=mkS 28 [(1,.str nm),(4,.ptr 4 0),(5,.bool f),(6,.pl (pAttrs l) .any)] [(4,.box false (cA x))]
theorem b36 (l:List AttrR) (nm:Str) (i:Nat):evC tell0 noTL noL 1 (loopAt 100 0) [1,4,5,6,7] (s36 l nm false aZ i) =
    lt_ i l.length (ix_ i l.length (bif (l.getD i default).name==nm then ix_ i l.length (some (.ret,s36 l nm true (l.getD i default) i)) else some (.normal,s36 l nm false aZ (IntKind.i64.wrap ((i:Int)+1))))) (some (.exit 0,s36 l nm false aZ i)):=by kernel_rfl
theorem ids36:(loopsAt 100).length=1∧firstId (loopAt 100 0)=3∧loopsOf (loopAt 100 0)=[]:=⟨by kernel_rfl,by kernel_rfl,by kernel_rfl⟩
def noA (l:List AttrR) (nm:Str) (i:Nat):Bool:=!((l.getD i default).name==nm)
def posA (l:List AttrR) (nm:Str):Nat:=ff (noA l nm) l.length
def LS36 (S:St Pl):Option (Bool×LR Pl):=match seenS 28 [1,4,5,6,7] S with
  | some ([.str nm,.ptr 4 0,.bool false,.pl ⟨.attrs,l⟩ .any,.int .i64 (.ofNat 0)],[(4,.box false [.str [],.int .i64 (.ofNat 0),.int .i64 (.ofNat 0),.bool false,.bool false,.bool false,.bool false])]) =>
    some (Nat.ble l.length big,loopR l.length (noA l nm) (.exit 0) (r36 l nm false aZ) .ret (fun i=>r36 l nm true (l.getD i default)))
  | _=>none
theorem LS36_ok:SOk X0 (loopAt 100 0) LS36:=by
  intro S c r h hc
  unfold LS36 at h
  split at h
  · rename_i nm l hs
    simp only [Option.some.injEq,Prod.mk.injEq] at h
    obtain ⟨rfl,rfl⟩:=h
    simp only [Nat.ble_eq] at hc
    refine Goes.pre (keepOf [1,4,5,6,7]) ?_
    rw [seenS_mask hs]
    refine loop_gen (Sf:=fun i=>s36 l nm false aZ i) (n:=l.length) (p:=noA l nm) (by simp) (by simp) (fun i hi hp=>?_) (fun i hi hp=>?_) ?_
    · have hp:((l.getD i default).name==nm)=false:=by simpa [noA] using hp
      refine goes_of (tell0_ok _) (noTL_ok _ _) (noLoops ids36.2.2) ((b36 l nm i).trans ?_)
      rw [lt_t hi,ix_t hi,hp,wrap_nat (show i≤big by omega)];rfl
    · have hp:((l.getD i default).name==nm)=true:=by simpa [noA] using hp
      exact (goes_of (tell0_ok _) (noTL_ok _ _) (noLoops ids36.2.2) ((b36 l nm i).trans (show _=some (.ret,s36 l nm true (l.getD i default) i) by rw [lt_t hi,ix_t hi,hp,ix_t hi];rfl))).post (keepOf [1,4,5,6])
    · exact (goes_of (tell0_ok _) (noTL_ok _ _) (noLoops ids36.2.2) ((b36 l nm l.length).trans (show _=some (.exit 0,s36 l nm false aZ l.length) by rw [lt_f (by omega)]))).post (keepOf [1,4,5,6])
  · simp at h
def tA:Eng.Told Pl:=tell 70 (pSt fun t=>(true,.pl (pAttrs (attrsV t)) .any)) tell0
theorem tA_ok:TOk tA:=tell_ok (pSt_ok fun t _=>Attrs_sound t) (tell0_ok _)
theorem e36 (t nm:Str):evF tA noTL (atL 3 LS36 noL) 1 Tryz.f100 [.str t,.str nm] =
    ck_ (Nat.ble (attrsV t).length big) (bif Nat.beq (posA (attrsV t) nm) (attrsV t).length then some (.tup [.agg (cA aZ),.bool false]) else some (.tup [.agg (cA ((attrsV t).getD (posA (attrsV t) nm) default)),.bool true])):=by kernel_rfl
def hasA (l:List AttrR) (nm:Str):Bool:=!(Nat.beq (posA l nm) l.length)
def getA (l:List AttrR) (nm:Str):AttrR:=bif hasA l nm then l.getD (posA l nm) default else aZ
theorem FindA_sound (t nm:Str):Snd 100 [.str t,.str nm] (.tup [.agg (cA (getA (attrsV t) nm)),.bool (hasA (attrsV t) nm)]):=by
  have he:=e36 t nm
  have hlen:=attrs_len t
  have hbig:big=140737488355328:=rfl
  rw [ck_t (ble_t (by omega))] at he
  have hL:=loops_of (f:=100) (L:=atL 3 LS36 noL) (fn:=Tryz.f100) (by kernel_rfl) (loops_1 ids36.1 (atL_ok (fun _=>LS36_ok) fun h=>absurd ids36.2.1 h))
  unfold getA hasA
  cases h:Nat.beq (posA (attrsV t) nm) (attrsV t).length with
  | true=>rw [h] at he;exact snd_fn (n:=1) tA_ok (noTL_ok _ _) (fn:=Tryz.f100) (by kernel_rfl) hL he
  | false=>rw [h] at he;exact snd_fn (n:=1) tA_ok (noTL_ok _ _) (fn:=Tryz.f100) (by kernel_rfl) hL he
def smallB (c:Int):Bool:=bif decide (c ≥ 97) then decide (c≤122) else false
def digitB (c:Int):Bool:=bif decide (c ≥ 48) then decide (c≤57) else false
theorem e27 (c:Int):ev tell0 noTL 2 99 [.int .u8 c]=some (.bool (smallB c)):=by kernel_rfl
def tSm (R:Eng.Told Pl):Eng.Told Pl:=tell 99 (pU8 fun c=>.bool (smallB c)) R
theorem tSm_ok {R:Eng.Told Pl} (h:TOk R):TOk (tSm R):=tell_ok (pU8_ok fun c=>snd_of (tell0_ok _) (noTL_ok _ _) (e27 c)) h
def allB (P:Int→Bool) (s:Str):Bool:=(List.range s.length).all fun i=>P (byt s i)
def badN (c:Int):Bool:=bif (bif !(smallB c) then !(digitB c) else false) then c != 95 else false
def s14 (s:Str) (i:Int):St Pl:=mkS 48 [(0,.str s),(2,.bool false),(3,dI i)] []
def r14 (s:Str):St Pl:=mkS 48 [(0,.str s),(2,.bool false)] []
theorem b14 (s:Str) (i:Nat):evC (tSm tell0) noTL noL 1 (loopAt 71 0) [0,2,3] (s14 s i) =
    lt_ i s.length (ix_ i s.length (ixo_ i s.length ((!(smallB (byt s i)))==true) (ixo_ i s.length ((decide (byt s i ≥ 48)==true)&&((!(smallB (byt s i)))==true)) (ixo_ i s.length ((bif !(smallB (byt s i)) then !(digitB (byt s i)) else false)==true) (bif badN (byt s i) then some (.ret,s14 s i) else some (.normal,s14 s (IntKind.i64.wrap ((i:Int)+1)))))))) (some (.exit 0,s14 s i)):=by kernel_rfl
theorem ids14:(loopsAt 71).length=1∧firstId (loopAt 71 0)=4∧loopsOf (loopAt 71 0)=[]:=⟨by kernel_rfl,by kernel_rfl,by kernel_rfl⟩
def LS14 (S:St Pl):Option (Bool×LR Pl):=match seenS 48 [0,2,3] S with
  | some ([.str s,.bool false,.int .i64 (.ofNat 0)],[])=>some (Nat.ble s.length big,.ite (allB (fun c=>!(badN c)) s) (.leaf (.exit 0) (r14 s)) (.leaf .ret (r14 s)))
  | _=>none
theorem LS14_ok:SOk X0 (loopAt 71 0) LS14:=by
  intro S b r h hb
  unfold LS14 at h
  split at h
  · rename_i s hs
    simp only [Option.some.injEq,Prod.mk.injEq] at h
    obtain ⟨rfl,rfl⟩:=h
    simp only [Nat.ble_eq] at hb
    refine Goes.pre (keepOf [0,2,3]) ?_
    rw [seenS_mask hs]
    exact search_of (tSm_ok (tell0_ok _)) ids14.2.2 (Sf:=fun i=>s14 s i) (S2':=fun i=>s14 s i) (keep2:=[0,2]) (p:=fun i=>!(badN (byt s i))) (by simp) (by simp)
      (fun i hi=>by
        rw [b14,lt_t hi,ix_t hi,wrap_nat (show i≤big by omega)]
        try rw [ixo_t hi,ixo_t hi,ixo_t hi]
        cases badN (byt s i)<;>rfl) (by rw [b14,lt_f (by omega)]) rfl (fun i=>rfl)
  · simp at h
def shortV (s:Str):Bool:=bif decide ((s.length:Int) < 1) then true else decide ((s.length:Int) > 24)
theorem e14 (s:Str):evF (tSm tell0) noTL (atL 4 LS14 noL) 1 Tryz.f71 [.str s]=ck_ ((true&&decide ((0:Int) < (s.length:Int)))||!(shortV s==false))
    (bif (shortV s==false) then (bif !(smallB (byt s 0)) then some (.bool false) else ck_ (Nat.ble s.length big) (bif allB (fun c=>!(badN c)) s then some (.bool true) else some (.bool false))) else some (.bool false)):=by kernel_rfl
def nameV (s:Str):Bool:=bif shortV s then false else bif !(smallB (byt s 0)) then false else allB (fun c=>!(badN c)) s
theorem name_sound (s:Str):Snd 71 [.str s] (.bool (nameV s)):=by
  refine SoundAt.rooms fun hroom=>snd_fn (n:=1) (tSm_ok (tell0_ok _)) (noTL_ok _ _) (f:=71) (fn:=Tryz.f71) (by kernel_rfl) (loops_of (f:=71) (fn:=Tryz.f71) (by kernel_rfl) (loops_1 ids14.1 (atL_ok (fun _=>LS14_ok) fun h=>absurd ids14.2.1 h))) ((e14 s).trans ?_)
  have h1:s.length≤big:=hroom (.str s) (by simp)
  unfold nameV
  cases hb:shortV s with
  | true=>rw [ck_t (by simp)];rfl
  | false =>
    have:0 < s.length:=by
      cases s with
      | nil=>exact absurd hb (by decide)
      | cons a r=>simp
    rw [decide_eq_true (show (0:Int) < (s.length:Int) by omega),ck_t (ble_t h1)]
    cases smallB (byt s 0)<;>cases allB (fun c=>!(badN c)) s<;>rfl
def tyL:List (Str×Int×Int):=[([97,110,121],0,0),([98,111,111,108],1,0),([105,110,116],2,0),([115,116,114],3,0),([108,105,115,116],4,0),([108,105,115,116,40,98,111,111,108,41],4,1),([108,105,115,116,40,105,110,116,41],4,2),([108,105,115,116,40,115,116,114,41],4,3),([109,97,112],5,0),([109,97,112,40,98,111,111,108,41],5,1),([109,97,112,40,105,110,116,41],5,2),([109,97,112,40,115,116,114,41],5,3)]
def tyK (s:Str):List (Str×Int×Int)→TypR×Int
  | []=>(⟨0,0⟩,4)
  | x::r=>bif x.1==s then (⟨x.2.1,x.2.2⟩,0) else tyK s r
def tyD (s:Str):List (Str×Int×Int)→Option (D Pl)
  | []=>some (.tup [.agg [dI 0,dI 0],dI 4])
  | x::r=>bif x.1==s then some (.tup [.agg [dI x.2.1,dI x.2.2],dI 0]) else tyD s r
theorem eTy (s:Str):ev tell0 noTL 5 37 [.str s]=tyD s tyL:=by kernel_rfl
theorem tyD_eq (s:Str):∀l:List (Str×Int×Int),tyD s l=some (.tup [.agg (cTyp (tyK s l).1),dI (tyK s l).2])
  | []=>rfl
  | x::r=>by
    unfold tyD tyK
    cases x.1==s with
    | true=>rfl
    | false=>exact tyD_eq s r
theorem ty_sound (s:Str):Snd 37 [.str s] (.tup [.agg (cTyp (tyK s tyL).1),dI (tyK s tyL).2]):=snd_of (tell0_ok _) (noTL_ok _ _) ((eTy s).trans (tyD_eq s tyL))
end Go.Proofs.YtobleaffkomcmaaGreatDoor.T11
