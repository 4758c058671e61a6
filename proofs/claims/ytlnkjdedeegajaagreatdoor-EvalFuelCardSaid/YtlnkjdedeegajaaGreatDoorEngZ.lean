/-
  THE BRIDGE: WHAT IS READ AS DATA BEFORE THE CALL READS AS THE ENGINE's DATA.
-/
import Derived.Test.YtlnkjdedeegajaaGreatDoorEngTell
import Derived.ProofKit
import Derived.Handed
import Derived.Carry
import Derived.ChangeSame
import Derived.LaidMore
import Derived.MakeChecks
import Derived.WideKeyArgs
import Derived.Lib.LaidTab
namespace Go.Eng
open Go.RowKit Go.ChangeShapes Go.WideShapes
section
variable {H:Type} {enc:TypeId×Value→H} {P:Program} {W:World} {emp:TypeId→Option Ty}
def w0cx (W:World):Cx Pl:=cx0 W (fun _=>False)
def RdCs (emp:TypeId→Option Ty) (W:World) (cs:List Value) (ds:List (D Pl)):Prop :=
  cs.length=ds.length∧(∀v∈cs,v.oneCell'=true)∧∀(i:Nat) v d,cs[i]?=some v→ds[i]?=some d→RD (plC emp) (w0cx W) v d
def Wt {H:Type} (P:Program) (t:TypeId) (d:DataW H):Prop:=(d.weights P t).all (fun n=>decide (n≤reachBytes))=true
def RdAt (enc:TypeId×Value→H) (P:Program) (emp:TypeId→Option Ty) (W:World) (fuel:Nat) (t:TypeId) (ok:List (D Pl)→Prop):Prop :=
  ∀cs d ps,DataW.trod enc P W 0 (fun _=>true) true fuel t cs=some (d,ps)→Wt P t d→∃ds,ok ds∧RdCs emp W cs ds
theorem RdAt.mono {n:Nat} {t:TypeId} {ok ok':List (D Pl)→Prop} (h:RdAt enc P emp W n t ok) (hk:∀ds,ok ds→ok' ds):RdAt enc P emp W n t ok' :=
  fun cs d ps h1 h2=>let ⟨ds,h3,h4⟩:=h cs d ps h1 h2;⟨ds,hk ds h3,h4⟩
theorem RdCs.one {v:Value} {d:D Pl} (h1:v.oneCell'=true) (h:RD (plC emp) (w0cx W) v d):RdCs emp W [v] [d] :=
  ⟨rfl,fun u hu=>by simp only [List.mem_singleton] at hu;subst hu;exact h1,fun i u e hu he=>by
    cases i with
    | zero=>simp only [List.getElem?_cons_zero,Option.some.injEq] at hu he;subst hu he;exact h
    | succ i=>simp at hu⟩
theorem RdCs.nil:RdCs emp W [] []:=⟨rfl,fun v hv=>by simp at hv,fun i v d h=>by simp at h⟩
theorem RdCs.append {as bs:List Value} {ds es:List (D Pl)} (h:RdCs emp W as ds) (k:RdCs emp W bs es):RdCs emp W (as++bs) (ds++es):=by
  refine ⟨by simp [h.1,k.1],fun v hv=>?_,fun i v d hv hd=>?_⟩
  · rcases List.mem_append.1 hv with h' | h'
    · exact h.2.1 v h'
    · exact k.2.1 v h'
  · rw [List.getElem?_append] at hv hd
    rw [←h.1] at hd
    split at hv
    · rename_i hlt;rw [if_pos hlt] at hd;exact h.2.2 i v d hv hd
    · rename_i hlt;rw [if_neg hlt] at hd;exact k.2.2 _ v d hv hd
theorem inR_of_wf {k:IntKind} {n:Int} (h:(Lit.int k n).wf=true):inR k n=true:=by
  simp only [Lit.wf,Bool.and_eq_true,decide_eq_true_eq] at h
  unfold inR
  simp only [Bool.and_eq_true,decide_eq_true_eq]
  have h1:=h.1
  have h2:=h.2
  cases k<;>simp_all [lo,hi,IntKind.min,IntKind.max,IntKind.bits,IntKind.signed]
theorem rd_int {t:TypeId} {k:IntKind} (hu:P.underlying t=some (.int k)) (n:Nat):RdAt enc P emp W n t fun ds=>∃i,inR k i=true∧ds=[.int k i]:=by
  intro cs d ps h hw
  obtain ⟨i,rfl,_,hwf⟩:=DataW.trod_int hu h
  exact ⟨[.int k i],⟨i,inR_of_wf hwf,rfl⟩,RdCs.one rfl (.int k i (inR_of_wf hwf))⟩
inductive Flds (enc:TypeId×Value→H) (P:Program) (emp:TypeId→Option Ty) (W:World) (n:Nat):Nat→List Field→Nat→(List (D Pl)→Prop)→Prop
  | nil (off:Nat):Flds enc P emp W n off [] off (fun ds=>ds=[])
  | cons (f:Field) (r:List Field) (off tot:Nat) (ok okr:List (D Pl)→Prop) (ho:f.offset=off) (h:RdAt enc P emp W n f.type ok) (hr:Flds enc P emp W n (off+P.cellsOf f.type) r tot okr) :
      Flds enc P emp W n off (f::r) tot (fun ds=>∃a b,ds=a++b∧ok a∧okr b)
theorem arg_cells {t:TypeId} {v:Value} {d:DataW H} {p:List MemPlace} {ok:List (D Pl)→Prop} (h:DataW.Trod enc P W 0 (fun _=>true) true t v d p) (hw:Wt P t d) (hr:∀n,RdAt enc P emp W n t ok) :
    ∃ds,ok ds∧RdCs emp W v.cells.toList ds:=by
  obtain ⟨n,hn⟩:=h
  exact hr n _ _ _ hn hw
theorem arg_one {t:TypeId} {v:Value} {r:Reach} {base:Nat} {d:D Pl} (hs:shapeT P t=1) (hv:Value.okWide P W r base t v) (h:RdCs emp W v.cells.toList [d]):RD (plC emp) (w0cx W) v d:=by
  have:v.cells=#[v]:=by
    cases v with
    | agg cs =>
      exfalso
      unfold shapeT at hs
      unfold Value.okWide at hv
      split at hv
      · rename_i h';rw [h'] at hs;simp at hs
      · rename_i h';rw [h'] at hs;simp at hs
      · unfold Cell.okWide at hv
        split at hv<;>rename_i hx<;>first | (simp at hx;done) | skip
        all_goals (try (unfold Cell.ok at hv;split at hv<;>rename_i hy<;>simp_all))
    | _=>rfl
  rw [this] at h
  exact h.2.2 0 v d rfl rfl
end
end Go.Eng
namespace Go.Eng
open Go.RowKit Go.ChangeShapes Go.WideShapes
section
variable {P:Program} {W:World} {emp:TypeId→Option Ty}
theorem laid_mem:∀(l:List (String×DataW Unit)) (ps:List MemPlace),DataW.LaidVars P W l ps→∀n d,(n,d)∈l →
    ∃g t cs fuel p,P.globalNamed n=some g∧(P.globals[g]?).map (·.type)=some t∧W.var? P n=some cs∧DataW.trod (fun _=>()) P W 0 (fun _=>true) false fuel t cs.toList=some (d,p)
  | [],_,_,n,d,h=>by simp at h
  | (n',d')::r,ps,hl,n,d,h=>by
    obtain ⟨g,t,cs,fuel,p,q,h1,h2,h3,h4,h5,_⟩:=hl
    rcases List.mem_cons.1 h with h | h
    · simp only [Prod.mk.injEq] at h
      obtain ⟨rfl,rfl⟩:=h
      exact ⟨g,t,cs,fuel,p,h1,h2,h3,h4⟩
    · exact laid_mem r q h5 n d h
theorem var_size {n:String} {g:Nat} {cs:Array Value} {k:Nat} (hg:P.globalNamed n=some g) (hv:W.var? P n=some cs) (hk:cs.size=k):GSz W g k:=by
  unfold World.var? at hv
  rw [hg] at hv
  simp only [Option.bind_some] at hv
  split at hv
  · rename_i cs' T fz hh
    simp only [Option.some.injEq] at hv
    subst hv
    exact ⟨cs',T,fz,hh,hk⟩
  · simp at hv
theorem glob_tab {l:List (String×DataW Unit)} (hp:(l.all fun x=>x.2.handleName?.isNone)=true) (hL:laidMetH P l W) {n:String} {k:IntKind} {zs:List Int} (hm:(n,Lib.tabData k zs)∈l)
    {g:Nat} (hg:P.globalNamed n=some g) {t e:TypeId} (ht:(P.globals[g]?).map (·.type)=some t) {m:Nat} (hu:P.underlying t=some (.array m e)) (he:P.underlying e=some (.int k)) (hce:P.cellsOf e=1) (hct:P.cellsOf t=m)
    (hz:zs.all (inR k)=true) (av:Nat→Prop) (hav:¬ av g) :
    RD (plC emp) (cx0 W av) (.pointer (some ⟨g,0,none⟩)) (.ref (zs.map fun z=>.int k z))∧GSz W g (zs.map fun z=>(.int k z:D Pl)).length:=by
  rw [MakeChecks.laidMetH_plain _ _ _ hp] at hL
  obtain ⟨ps,hlv,_,_⟩:=hL
  obtain ⟨g',t',cs,fuel,p,e1,e2,e3,e4⟩:=laid_mem l ps hlv n _ hm
  obtain rfl:=Option.some.inj (hg.symm.trans e1)
  obtain rfl:=Option.some.inj (ht.symm.trans e2)
  have hcs:=Lib.cells_of_tab hu he hce hct e4
  have hcell:∀(i:Nat) z,zs[i]?=some z→W.cell? ⟨g,0+i,none⟩=some (.int k z):=by
    intro i z hi
    have:=World.var?_cell e1 e3 i
    rw [show 0+i=i by omega,this,←Array.getElem?_toList,hcs,List.getElem?_map,hi];rfl
  refine ⟨.ref g 0 _ (fun i=>.int k (zs.getD i 0)) (fun _=>hav) (fun i c hc=>?_) (fun i c hc=>rfl) fun i c hc=>?_,var_size e1 e3 (by rw [←Array.length_toList,hcs];simp)⟩
  · rw [List.getElem?_map] at hc
    obtain ⟨z,hz',rfl⟩:=Option.map_eq_some_iff.1 hc
    refine (hcell i z hz').trans ?_
    rw [List.getD_eq_getElem?_getD,hz'];rfl
  · rw [List.getElem?_map] at hc
    obtain ⟨z,hz',rfl⟩:=Option.map_eq_some_iff.1 hc
    rw [List.getD_eq_getElem?_getD,hz']
    exact .int _ _ (List.all_eq_true.1 hz z (List.mem_of_getElem? hz'))
variable {H:Type} {enc:TypeId×Value→H}
theorem trodAll_stays (hl:laidOutB P=true) {W':World} {sp:Nat→Bool}:∀(ts:List TypeId) (vs:List Value) (ds:List (DataW H)) (ps:List MemPlace),(∀t∈ts,P.readableRec t=true∧t < P.types.size) →
    DataW.TrodAll enc P W 0 (fun _=>true) true ts vs ds ps→(∀p∈ps,W.sameAt W' p)→(∀p∈ps,sp p.block=true)→DataW.TrodAll enc P W' 0 sp true ts vs ds ps
  | [],vs,ds,ps,_,h,_,_=>by
    obtain ⟨rfl,rfl,rfl⟩:=trodAll_nil h
    exact trodAll_mk0
  | t::ts,vs,ds,ps,hr,h,h1,h2=>by
    obtain ⟨v,vs',d,ds',p,q,rfl,rfl,rfl,hd,hrest⟩:=trodAll_cons h
    have ht:=hr t List.mem_cons_self
    exact ⟨p,q,WideElems.Trod_stays hl ht.1 ht.2 hd (fun x hx=>h1 x (List.mem_append_left _ hx)) (fun x hx=>h2 x (List.mem_append_left _ hx)),
      trodAll_stays hl ts vs' ds' q (fun t ht=>hr t (List.mem_cons_of_mem _ ht)) hrest (fun x hx=>h1 x (List.mem_append_right _ hx)) (fun x hx=>h2 x (List.mem_append_right _ hx)),rfl⟩
theorem close_true {fn:Func} {s:ChangeSpec} {tb:TypeId} (hl:laidOutB P=true) (hr:∀t∈fn.params.toList,P.readableRec t=true∧t < P.types.size) (hres:fn.resultTypes=#[tb]) (htb:P.underlying tb=some .bool)
    {args:Array Value} {ds gs:List (DataW H)} {before:List MemPlace} (hW:DataW.Whole enc P fn.params.toList s.vars false W args.toList ds gs before) (hv:s.vars=[])
    (hfn:(s.fn H (ds++gs))={ results:=[.lit (.bool true)],args:=ds }) {W':World} {δ:Bool} (hb:BelowD δ W.heap.size W W') :
    s.post enc P fn false true false false W args (.bool true) W':=by
  have hW':=hW
  obtain ⟨p,q,hA,hV,hpq,hfz,hnd⟩:=hW'
  rw [hv] at hV
  obtain ⟨rfl,rfl⟩:=trodVars_none hV
  rw [List.append_nil] at hpq
  subst hpq
  have hlt:∀x∈before,x.block < W.heap.size:=fun x hx=>by simpa using hW.lt x hx
  refine ⟨ds,[],before,[],before,[],hW,?_,?_,?_,hb.frame _,fun h=>by cases h⟩
  · rw [hfn,hres]
    exact trodAll_mk1 (shut_bool htb _)
  · rw [hfn]
    exact trodAll_stays hl _ _ _ _ hr hA (fun x hx=>hb.same (hlt x hx)) (fun x hx=>by simpa using hlt x hx)
  · rw [hfn,hv]
    exact rfl
theorem calls_of {f:FuncId} {vs:Array Value} {w:World} {R:Value→World→Prop} {fn:Func} (hf:P.funcs[f]?=some fn) (hn:(fn.name=="runtime.NumGoroutine")=false) (hb:fn.body.isNone=false) (h:CallOk P f vs w R) :
    Calls P f vs w fun e w'=>∃v,e=.returned v∧R v w':=by
  have hrun:(callFunc f vs).run P w=.ok (.enter f vs) w:=by
    have hn':¬ fn.name="runtime.NumGoroutine" := by simpa using hn
    have hb':¬ fn.body=none:=fun h=>by rw [h] at hb;simp at hb
    simp [callFunc,hf,hn',hb']
  rcases h with ⟨_,h⟩ | ⟨v,w',h,_⟩
  · exact h
  · rw [hrun] at h
    simp at h
end
end Go.Eng
