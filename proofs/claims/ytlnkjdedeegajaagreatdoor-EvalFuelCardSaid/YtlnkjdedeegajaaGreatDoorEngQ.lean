/-
  THE ENGINE, PART Q: A REGION's OPERATIONS, one at a time; what an operation hangs on.
-/
import Derived.Test.YtlnkjdedeegajaaGreatDoorEngP
import Derived.Orders
namespace Go.Eng
open Go.RowKit
variable {α:Type}
theorem getT_put (tm:List (D α)) (dst:Option Nat) (t:Nat) (x:D α):getT (putT tm dst x) t=if dst=some t∧t < tm.length then x else getT tm t:=by
  cases dst with
  | none=>simp [putT]
  | some d=>simp [putT,getT_set]
theorem putT_length (tm:List (D α)) (dst:Option Nat) (x:D α):(putT tm dst x).length=tm.length:=by
  cases dst<;>simp [putT,setT_length]
def KeyIn (tm:List (D α)) (K:Nat→Prop):Prop:=∀t ks b e,getT tm t=.gd ks b e→∀k∈ks,K k.1
theorem kill_gd {ns:Nat→Bool} {d e:D α} {ks:List (Nat×Bool)} {b:Bool} (h:kill ns d=.gd ks b e):∃e',d=.gd ks b e':=by
  cases d<;>simp only [kill] at h
  case gd ks' b' d=>simp only [D.gd.injEq] at h;obtain ⟨rfl,rfl,_⟩:=h;exact ⟨_,rfl⟩
  case arr o=>cases hb:ns o<;>simp [hb] at h
  case ptr o f=>cases hb:ns o<;>simp [hb] at h
  case epr o i f=>cases hb:ns o<;>simp [hb] at h
  case mp o=>cases hb:ns o<;>simp [hb] at h
  all_goals simp at h
theorem KeyIn.kill {tm:List (D α)} {K:Nat→Prop} (h:KeyIn tm K) (ns:Nat→Bool):KeyIn (tm.map (kill ns)) K:=by
  intro t ks b e ht
  rw [getT_map _ (by simp [Eng.kill])] at ht
  obtain ⟨e',he⟩:=kill_gd ht
  exact h t ks b e' he
theorem KeyIn.mono {tm:List (D α)} {K K':Nat→Prop} (h:KeyIn tm K) (hk:∀s,K s→K' s):KeyIn tm K' :=
  fun t ks b e ht k hk'=>hk _ (h t ks b e ht k hk')
theorem KeyIn.put {tm:List (D α)} {K:Nat→Prop} (h:KeyIn tm K) (dst:Option Nat) (x:D α) (hx:∀ks b e,x=.gd ks b e→∀k∈ks,K k.1):KeyIn (putT tm dst x) K:=by
  intro t ks b e ht
  rw [getT_put] at ht
  split at ht
  · exact hx ks b e ht
  · exact h t ks b e ht
theorem RD.noGd {C:Pay α} {cx:Cx α} {v:Value} {ks:List (Nat×Bool)} {b:Bool} {e:D α} (h:RD C cx v (.gd ks b e)):False:=by cases h
theorem put_tmps (a:Act) (dst:Option Nat) (v:Value) (t:Nat):(a.put dst v).tmps[t]?=if dst=some t∧t < a.tmps.size then some v else a.tmps[t]?:=by
  cases dst with
  | none=>simp [Act.put]
  | some d =>
    simp only [Act.put,Array.getElem?_setIfInBounds,Option.some.injEq]
    by_cases h:d=t
    · subst h
      by_cases h2:d < a.tmps.size
      · simp [h2]
      · simp [h2]
    · simp [h]
theorem put_size (a:Act) (dst:Option Nat) (v:Value):(a.put dst v).tmps.size=a.tmps.size:=by cases dst<;>simp [Act.put]
theorem holds_put {a:Act} {dst:Option Nat} {v:Value} {ks:List (Nat×Bool)} (h:∀k∈ks,dst≠some k.1):holds (a.put dst v).tmps ks↔holds a.tmps ks:=by
  unfold holds
  constructor<;>intro hh k hk<;>have:=hh k hk<;>rw [put_tmps,if_neg (fun h'=>h k hk h'.1)] at *<;>exact this
section
variable {X:Ctx α} {g:Gh} {tm:List (D α)} {hs:Obs α} {a:Act} {w:World}
theorem Sim.put (hS:Sim X g tm hs a w) {dst:Option Nat} {v:Value} {d:D α} (hd:RG X.C (cxOf g hs w) a.tmps v d) (hdk:∀ks b e,d=.gd ks b e→∀k∈ks,dst≠some k.1)
    {K:Nat→Prop} (hK:KeyIn tm K) (hdst:∀s,dst=some s→¬ K s):Sim X g (putT tm dst d) hs (a.put dst v) w:=by
  have hRG:∀(u:Value) (e:D α),(∀ks b e',e=.gd ks b e'→∀k∈ks,dst≠some k.1)→RG X.C (cxOf g hs w) a.tmps u e→RG X.C (cxOf g hs w) (a.put dst v).tmps u e:=by
    intro u e he h
    cases e
    case gd ks b e' =>
      have:=holds_put (a:=a) (v:=v) (he ks b e' rfl)
      exact ⟨fun h1=>h.1 (this.1 h1),fun h1=>h.2 (fun h2=>h1 (this.2 h2))⟩
    all_goals exact h
  refine ⟨by rw [put_size,putT_length];exact hS.size,fun t=>?_,by cases dst<;>exact hS.dfr,hS.obs,hS.inj,hS.own,hS.below,hS.av0,hS.lav,hS.top,hS.glob⟩
  rw [getT_put]
  simp only [Array.getD_eq_getD_getElem?,put_tmps,hS.size]
  by_cases h:dst=some t∧t < tm.length
  · rw [if_pos h,if_pos h]
    exact hRG v d hdk hd
  · rw [if_neg h,if_neg h]
    refine hRG _ _ (fun ks b e he k hk hd'=>hdst _ hd' (hK t ks b e he k hk)) ?_
    have:=hS.tm t
    simpa [Array.getD_eq_getD_getElem?] using this
theorem RG.of {C:Pay α} {cx:Cx α} {tmps:Array Value} {v:Value} {d:D α} (h:RD C cx v d):RG C cx tmps v d:=by
  cases d
  case gd=>exact h.noGd.elim
  all_goals exact h
theorem binD_ch (op:BinOp) (t:TypeId) (x y:D α):(binD X op t x y).ch=none:=by
  unfold binD intOp shiftOp strOp
  simp only [Bool.cond_eq_ite]
  repeat' (first | rfl | split)
theorem binN_ch (op:BinOp) (t:TypeId) (xo yo:Operand) (x y:D α):(binN X op t xo yo x y).ch=none:=by
  unfold binN
  split
  · simp only [Bool.cond_eq_ite];split<;>rfl
  · simp only [Bool.cond_eq_ite];split<;>rfl
  · exact binD_ch _ _ _ _
theorem unD_ch (op:UnOp) (x:D α):(unD op x).ch=none:=by
  unfold unD
  repeat' (first | rfl | split)
theorem convD_ch (s t:TypeId) (x:D α):(convD X hs s t x).ch=none:=by
  unfold convD
  repeat' (first | rfl | split)
theorem Res.o_ch (d:Option (D α)):(Res.o d).ch=none:=by cases d<;>rfl
theorem fieldD_ch (t:TypeId) (x:D α) (f:Nat):(fieldD X.P t x f).ch=none:=by
  unfold fieldD
  repeat' (first | rfl | exact Res.o_ch _ | split)
theorem fieldAddrD_ch (t:TypeId) (x:D α) (f:Nat):(fieldAddrD X.P t x f).ch=none:=by
  unfold fieldAddrD
  simp only [Bool.cond_eq_ite]
  repeat' (first | rfl | exact Res.o_ch _ | split)
theorem indexD_ch (t:TypeId) (x i:D α):(indexD X.P t x i).ch=none:=by
  unfold indexD
  repeat' (first | rfl | exact Res.o_ch _ | split)
theorem indexAddrD_ch (t:TypeId) (x i:D α):(indexAddrD X hs t x i).ch=none:=by
  unfold indexAddrD
  simp only [Bool.cond_eq_ite]
  repeat' (first | rfl | exact Res.o_ch _ | split)
theorem buildD_ch (t:TypeId) (ps:List (Nat×D α)):(buildD X.P t ps).ch=none:=by
  unfold buildD
  repeat' (first | rfl | exact Res.o_ch _ | split)
theorem capD_ch (t:TypeId) (x:D α):(capD X t x).ch=none:=by
  unfold capD
  repeat' (first | rfl | split)
theorem lenD_ch (t:TypeId) (x:D α):(lenD X hs t x).ch=none:=by
  unfold lenD
  repeat' (first | rfl | exact Res.o_ch _ | split)
theorem sliceD_ch (t:TypeId) (x:D α) (l h m:Option (D α)):(sliceD X hs tm t x l h m).ch=none∧(∀tm',sliceD X hs tm' t x l h m=sliceD X hs tm t x l h m)∨∃hs',(sliceD X hs tm t x l h m).ch=some (tm,hs'):=by
  unfold sliceD
  repeat' (first | exact .inl ⟨rfl,fun _=>rfl⟩ | exact .inr ⟨_,rfl⟩ | split)
theorem buildSliceD_ch (t:TypeId) (n:Nat) (ps:List (Nat×D α)):(buildSliceD X hs tm t n ps).ch=none∧(∀tm',buildSliceD X hs tm' t n ps=buildSliceD X hs tm t n ps)∨∃hs',(buildSliceD X hs tm t n ps).ch=some (tm,hs'):=by
  unfold buildSliceD
  repeat' (first | exact .inl ⟨rfl,fun _=>rfl⟩ | exact .inr ⟨_,rfl⟩ | split)
  generalize isNil _=b
  cases b
  · exact .inr ⟨_,rfl⟩
  · exact .inl ⟨rfl,fun _=>rfl⟩
theorem storeD_ch (t:TypeId) (x y:D α):(storeD X tm hs t x y).ch=none∧(∀tm',storeD X tm' hs t x y=storeD X tm hs t x y)∨∃hs',(storeD X tm hs t x y).ch=some (tm,hs'):=by
  unfold storeD
  repeat' (first | exact .inl ⟨rfl,fun _=>rfl⟩ | exact .inr ⟨_,rfl⟩ | split)
theorem lookupD_ch (t:TypeId) (x y:D α) (ok:Bool):(lookupD X hs t x y ok).ch=none:=by
  unfold lookupD
  repeat' (first | rfl | split)
theorem mapUpdateD_ch (t:TypeId) (x y z:D α):(mapUpdateD X tm hs t x y z).ch=none∧(∀tm',mapUpdateD X tm' hs t x y z=mapUpdateD X tm hs t x y z)∨∃hs',(mapUpdateD X tm hs t x y z).ch=some (tm,hs'):=by
  unfold mapUpdateD
  repeat' (first | exact .inl ⟨rfl,fun _=>rfl⟩ | exact .inr ⟨_,rfl⟩ | split)
theorem makeMapD_ch (dst:Nat) (t:TypeId):(makeMapD X tm hs dst t).ch=none∧(∀tm',makeMapD X tm' hs dst t=makeMapD X tm hs dst t)∨∃ns hs',(makeMapD X tm hs dst t).ch=some (tm.map (kill ns),hs'):=by
  unfold makeMapD
  repeat' (first | exact .inl ⟨rfl,fun _=>rfl⟩ | exact .inr ⟨_,_,rfl⟩ | split)
theorem makeSliceD_ch (dst:Nat) (t:TypeId) (x y:D α):(makeSliceD X tm hs dst t x y).ch=none∧(∀tm',makeSliceD X tm' hs dst t x y=makeSliceD X tm hs dst t x y)∨∃ns hs',(makeSliceD X tm hs dst t x y).ch=some (tm.map (kill ns),hs'):=by
  unfold makeSliceD
  split
  · rename_i e _ _ _ _ _
    cases zu8 X.P e with
    | true =>
      simp only [cond_true]
      split
      · exact .inr ⟨_,_,rfl⟩
      · exact .inl ⟨rfl,fun _=>rfl⟩
    | false =>
      simp only [cond_false]
      split
      · exact .inr ⟨_,_,rfl⟩
      · exact .inl ⟨rfl,fun _=>rfl⟩
  · exact .inl ⟨rfl,fun _=>rfl⟩
theorem backM_none {ns:List Nat} {tops nests:List (Nat×Nat)} {H:Obs α} {d:D α} (h:backM X tm hs tops nests ns H d=none) (tm':List (D α)):backM X tm' hs tops nests ns H d=none:=by
  unfold backM at h ⊢
  simp only at h ⊢
  split at h
  · revert h
    generalize List.all _ _=b
    generalize List.all _ _=b'
    cases b<;>cases b'<;>simp
  · rfl
theorem callMD_ch (f:FuncId) (args:List (D α)):(callMD X hs tm f args).ch=none∧(∀tm',callMD X hs tm' f args=callMD X hs tm f args)∨∃ns hs',(callMD X hs tm f args).ch=some (tm.map (kill ns),hs'):=by
  unfold callMD
  split
  · split
    · rename_i tops nests H ds ns _ _ b os d _
      cases h:backM X tm hs tops nests ns (decH os) d with
      | none =>
        refine .inl ⟨rfl,fun tm'=>?_⟩
        simp only [backM_none h tm']
      | some ch =>
        refine .inr ?_
        unfold backM at h
        simp only at h
        split at h
        · revert h
          generalize (_&&_:Bool)=b
          cases b with
          | false=>simp
          | true =>
            intro h
            simp only [cond_true,Option.some.injEq] at h
            subst h
            exact ⟨_,_,rfl⟩
        · simp at h
    · exact .inl ⟨rfl,fun _=>rfl⟩
  · exact .inl ⟨rfl,fun _=>rfl⟩
theorem callD_ch (dst:Option Nat) (f:FuncId) (args:List (D α)):(callD X hs tm dst f args).ch=none∧(∀tm',callD X hs tm' dst f args=callD X hs tm dst f args)∨∃ns hs',(callD X hs tm dst f args).ch=some (tm.map (kill ns),hs'):=by
  have hid:∀hs':Obs α,∃ns hs'',(some (tm,hs'):Option (List (D α)×Obs α))=some (tm.map (kill ns),hs''):=fun hs'=>⟨fun _=>false,hs',by simp [show (kill fun _=>false:D α→D α)=id from funext kill_none]⟩
  unfold callD
  cases mOf X f with
  | true=>exact callMD_ch f args
  | false =>
  simp only [cond_false]
  simp only [Bool.cond_eq_ite]
  repeat' (first | exact .inl ⟨rfl,fun _=>rfl⟩ | exact .inr (hid _) | split)
theorem appendD_ch (dst:Nat) (t t2:TypeId) (x y:D α):(appendD X hs tm dst t t2 x y).ch=none∧(∀tm',appendD X hs tm' dst t t2 x y=appendD X hs tm dst t t2 x y)∨∃ns hs',(appendD X hs tm dst t t2 x y).ch=some (tm.map (kill ns),hs'):=by
  unfold appendD appendTo
  repeat' (first | exact .inl ⟨rfl,fun _=>rfl⟩ | exact .inr ⟨_,_,rfl⟩ | split)
theorem evalOp_on (o:Oper) (ks:List (Nat×Bool)):(∃ns hs',(evalOp X tm hs ks o).ch=some (tm.map (kill ns),hs')) ∨
    ((evalOp X tm hs ks o).ch=none∧∀tm',(∀x∈o.op.operands,∀ks,evK X tm' ks x=evK X tm ks x)→evalOp X tm' hs ks o=evalOp X tm hs ks o):=by
  have hid:∀{r:Res α},(∃hs',r.ch=some (tm,hs'))→∃ns hs',r.ch=some (tm.map (kill ns),hs'):=fun ⟨hs',h⟩=>⟨fun _=>false,hs',by rw [h];simp [show (kill fun _=>false:D α→D α)=id from funext kill_none]⟩
  obtain ⟨dst,op,type,pos,after,guard⟩:=o
  have hps:∀(ps:Array (Nat×Operand)) (tm':List (D α)),(∀x∈(ps.toList.map (·.2)).toArray,∀ks,evK X tm' ks x=evK X tm ks x)→(ps.toList.map fun x=>(x.1,evK X tm' ks x.2))=ps.toList.map fun x=>(x.1,evK X tm ks x.2):=by
    intro ps tm' h
    refine List.map_congr_left fun p hp=>?_
    rw [h p.2 (by simp;exact ⟨p.1,by simpa using hp⟩)]
  have has:∀(xs:Array Operand) (tm':List (D α)),(∀x∈xs,∀ks,evK X tm' ks x=evK X tm ks x)→xs.toList.map (evK X tm' ks)=xs.toList.map (evK X tm ks) :=
    fun xs tm' h=>List.map_congr_left fun p hp=>h p (by simpa using hp) ks
  have hop:∀(l:Option Operand) (tm':List (D α)),(∀x∈l.toArray,∀ks,evK X tm' ks x=evK X tm ks x)→l.map (evK X tm' ks)=l.map (evK X tm ks):=by
    intro l tm' h
    cases l with
    | none=>rfl
    | some x=>simp only [Option.map_some];rw [h x (by simp) ks]
  cases op
  case move x=>exact .inr ⟨rfl,fun tm' h=>by simp only [evalOp];rw [h x (by simp [Op.operands])]⟩
  case assign x=>exact .inr ⟨rfl,fun tm' h=>by simp only [evalOp];rw [h x (by simp [Op.operands])]⟩
  case pick c x y =>
    refine .inr ⟨?_,fun tm' h=>?_⟩
    · simp only [evalOp]
      repeat' (first | rfl | split)
    · have h1:=h c (by simp [Op.operands])
      have h2:=h x (by simp [Op.operands])
      have h3:=h y (by simp [Op.operands])
      simp only [evalOp,h1,h2,h3]
  case box t x =>
    cases hs':storeCellsD X.P t (evK X tm ks x) with
    | none=>exact .inr ⟨by simp only [evalOp,hs'];rfl,fun tm' h=>by simp only [evalOp];rw [h x (by simp [Op.operands])];simp only [hs']⟩
    | some cs=>exact .inl ⟨_,_,by simp only [evalOp,hs',boxD];rfl⟩
  case alloc t =>
    cases hs':(zeroD X.P t:Option (D α)) with
    | none=>exact .inr ⟨by simp only [evalOp,hs'];rfl,fun tm' h=>by simp only [evalOp,hs']⟩
    | some z =>
      cases hg:goodCells (cellsD z) with
      | false=>exact .inr ⟨by simp only [evalOp,hs',hg,cond_false];rfl,fun tm' h=>by simp only [evalOp,hs',hg,cond_false]⟩
      | true=>exact .inl ⟨_,_,by simp only [evalOp,hs',hg,cond_true,boxD];rfl⟩
  case build t ps=>exact .inr ⟨buildD_ch _ _,fun tm' h=>by simp only [evalOp];rw [hps ps tm' h]⟩
  case buildSlice t n ps =>
    rcases buildSliceD_ch (X:=X) (hs:=hs) (tm:=tm) t n (ps.toList.map fun x=>(x.1,evK X tm ks x.2)) with ⟨h1,h2⟩ | h1
    · exact .inr ⟨h1,fun tm' h=>by simp only [evalOp];rw [hps ps tm' h];exact h2 tm'⟩
    · exact .inl (hid h1)
  case load t x =>
    refine .inr ⟨?_,fun tm' h=>by simp only [evalOp];rw [h x (by simp [Op.operands])]⟩
    simp only [evalOp]
    split
    · exact Res.o_ch _
    · rfl
  case store t x y =>
    rcases storeD_ch (X:=X) (hs:=hs) (tm:=tm) t (evK X tm ks x) (evK X tm ks y) with ⟨h1,h2⟩ | h1
    · exact .inr ⟨h1,fun tm' h=>by simp only [evalOp];rw [h x (by simp [Op.operands]),h y (by simp [Op.operands])];exact h2 tm'⟩
    · exact .inl (hid h1)
  case makeMap t rsv =>
    cases rsv with
    | none =>
      rcases makeMapD_ch (X:=X) (hs:=hs) (tm:=tm) (dst.getD 0) t with ⟨h1,h2⟩ | h1
      · exact .inr ⟨h1,fun tm' _=>h2 tm'⟩
      · exact .inl h1
    | some y=>exact .inr ⟨rfl,fun _ _=>rfl⟩
  case makeSlice t x y =>
    rcases makeSliceD_ch (X:=X) (hs:=hs) (tm:=tm) (dst.getD 0) t (evK X tm ks x) (evK X tm ks y) with ⟨h1,h2⟩ | h1
    · exact .inr ⟨h1,fun tm' h=>by simp only [evalOp];rw [h x (by simp [Op.operands]),h y (by simp [Op.operands])];exact h2 tm'⟩
    · exact .inl h1
  case lookup t x y ok=>exact .inr ⟨lookupD_ch _ _ _ _,fun tm' h=>by simp only [evalOp];rw [h x (by simp [Op.operands]),h y (by simp [Op.operands])]⟩
  case mapUpdate t m y z =>
    rcases mapUpdateD_ch (X:=X) (hs:=hs) (tm:=tm) t (evK X tm ks m) (evK X tm ks y) (evK X tm ks z) with ⟨h1,h2⟩ | h1
    · exact .inr ⟨h1,fun tm' h=>by simp only [evalOp];rw [h m (by simp [Op.operands]),h y (by simp [Op.operands]),h z (by simp [Op.operands])];exact h2 tm'⟩
    · exact .inl (hid h1)
  case insert t m y z =>
    rcases mapUpdateD_ch (X:=X) (hs:=hs) (tm:=tm) t (evK X tm ks m) (evK X tm ks y) (evK X tm ks z) with ⟨h1,h2⟩ | h1
    · exact .inr ⟨h1,fun tm' h=>by simp only [evalOp];rw [h m (by simp [Op.operands]),h y (by simp [Op.operands]),h z (by simp [Op.operands])];exact h2 tm'⟩
    · exact .inl (hid h1)
  case nilCheck x =>
    refine .inr ⟨?_,fun tm' h=>by simp only [evalOp];rw [h x (by simp [Op.operands])]⟩
    simp only [evalOp]
    split<;>rfl
  case binOp op t x y ty=>exact .inr ⟨binN_ch _ _ _ _ _ _,fun tm' h=>by simp only [evalOp];rw [h x (by simp [Op.operands]),h y (by simp [Op.operands])]⟩
  case unOp op t x=>exact .inr ⟨unD_ch _ _,fun tm' h=>by simp only [evalOp];rw [h x (by simp [Op.operands])]⟩
  case convert s t x=>exact .inr ⟨convD_ch _ _ _,fun tm' h=>by simp only [evalOp];rw [h x (by simp [Op.operands])]⟩
  case makeFunc fn first cap =>
    cases fn with
    | func f =>
      refine .inr ⟨?_,fun tm' h=>by simp only [evalOp];rw [has cap tm' (fun x hx=>h x (by simp [Op.operands,hx])),has first tm' (fun x hx=>h x (by simp [Op.operands,hx]))]⟩
      simp only [evalOp]
      cases Nat.blt f mvB<;>cases Nat.beq first.size 0<;>cases Nat.beq cap.size 0<;>rfl
    | _=>exact .inr ⟨rfl,fun _ _=>rfl⟩
  case slice t x l h m =>
    rcases sliceD_ch (X:=X) (hs:=hs) (tm:=tm) t (evK X tm ks x) (l.map (evK X tm ks)) (h.map (evK X tm ks)) (m.map (evK X tm ks)) with ⟨h1,h2⟩ | h1
    · refine .inr ⟨h1,fun tm' hh=>?_⟩
      simp only [evalOp]
      rw [hh x (by simp [Op.operands]),hop l tm' (fun x hx=>hh x (by simp [Op.operands] at hx ⊢;simp [hx])),hop h tm' (fun x hx=>hh x (by simp [Op.operands] at hx ⊢;simp [hx])),hop m tm' (fun x hx=>hh x (by simp [Op.operands] at hx ⊢;simp [hx]))]
      exact h2 tm'
    · exact .inl (hid h1)
  case fieldAddr t x f=>exact .inr ⟨fieldAddrD_ch _ _ _,fun tm' h=>by simp only [evalOp];rw [h x (by simp [Op.operands])]⟩
  case field t x f=>exact .inr ⟨fieldD_ch _ _ _,fun tm' h=>by simp only [evalOp];rw [h x (by simp [Op.operands])]⟩
  case indexAddr t x i=>exact .inr ⟨indexAddrD_ch _ _ _,fun tm' h=>by simp only [evalOp];rw [h x (by simp [Op.operands]),h i (by simp [Op.operands])]⟩
  case index t x i=>exact .inr ⟨indexD_ch _ _ _,fun tm' h=>by simp only [evalOp];rw [h x (by simp [Op.operands]),h i (by simp [Op.operands])]⟩
  case extract x i =>
    refine .inr ⟨?_,fun tm' h=>by simp only [evalOp];rw [h x (by simp [Op.operands])]⟩
    simp only [evalOp]
    split
    · exact Res.o_ch _
    · rfl
  case call c =>
    obtain ⟨callee,args,argTypes⟩:=c
    cases callee with
    | value f =>
      cases hf:evK X tm ks f with
      | fn g cs =>
        rcases callD_ch (X:=X) (hs:=hs) (tm:=tm) dst (fnId g) (capA g cs (args.toList.map (evK X tm ks))) with ⟨h1,h2⟩ | h1
        · refine .inr ⟨by simp only [evalOp,hf];exact h1,fun tm' h=>?_⟩
          simp only [evalOp]
          rw [h f (by simp [Op.operands,Call.operands]),hf,has args tm' (fun x hx=>h x (by simp [Op.operands,Call.operands,hx]))]
          exact h2 tm'
        · exact .inl (by simp only [evalOp,hf];exact h1)
      | _=>exact .inr ⟨by simp only [evalOp,hf];rfl,fun tm' h=>by simp only [evalOp];rw [h f (by simp [Op.operands,Call.operands]),hf]⟩
    | invoke rc m=>exact .inr ⟨rfl,fun _ _=>rfl⟩
    | builtin b =>
      have hx1:∀x∈args.toList,x∈(Op.call ⟨.builtin b,args,argTypes⟩).operands:=by intro x hx;simpa [Op.operands,Call.operands] using hx
      cases b with
      | len =>
        simp only [evalOp]
        split
        · rename_i x t hx ht
          exact .inr ⟨lenD_ch _ _,fun tm' h=>by rw [h x (hx1 x (by simp [hx]))]⟩
        · exact .inr ⟨rfl,fun _ _=>rfl⟩
      | cap =>
        simp only [evalOp]
        split
        · rename_i x t hx ht
          exact .inr ⟨capD_ch _ _,fun tm' h=>by rw [h x (hx1 x (by simp [hx]))]⟩
        · exact .inr ⟨rfl,fun _ _=>rfl⟩
      | append =>
        simp only [evalOp]
        split
        · rename_i x y t t2 hx ht
          rcases appendD_ch (X:=X) (hs:=hs) (tm:=tm) (dst.getD 0) t t2 (evK X tm ks x) (evK X tm ks y) with ⟨h1,h2⟩ | h1
          · exact .inr ⟨h1,fun tm' h=>by rw [h x (hx1 x (by simp [hx])),h y (hx1 y (by simp [hx]))];exact h2 tm'⟩
          · exact .inl h1
        · exact .inr ⟨rfl,fun _ _=>rfl⟩
      | min =>
        simp only [evalOp]
        split
        · rename_i x l hx
          refine .inr ⟨Res.o_ch _,fun tm' h=>?_⟩
          have hl:l.map (evK X tm' ks)=l.map (evK X tm ks):=List.map_congr_left fun y hy=>h y (hx1 y (by simp [hx,hy])) ks
          rw [h x (hx1 x (by simp [hx])),hl]
        · exact .inr ⟨rfl,fun _ _=>rfl⟩
      | max =>
        simp only [evalOp]
        split
        · rename_i x l hx
          refine .inr ⟨Res.o_ch _,fun tm' h=>?_⟩
          have hl:l.map (evK X tm' ks)=l.map (evK X tm ks):=List.map_congr_left fun y hy=>h y (hx1 y (by simp [hx,hy])) ks
          rw [h x (hx1 x (by simp [hx])),hl]
        · exact .inr ⟨rfl,fun _ _=>rfl⟩
      | _=>exact .inr ⟨rfl,fun _ _=>rfl⟩
  all_goals exact .inr ⟨rfl,fun _ _=>rfl⟩
inductive AStep (X:Ctx α) (ops:Array Oper) (i:Nat) (o:Oper) (tm:List (D α)) (hs:Obs α):List (D α)→Obs α→Bool→Prop
  | quiet (g:List (Nat×Bool)×Bool) (hg:guardD ops i tm o=some g) (hc:(evalOp X tm hs g.1 o).ch=none) (hok:((evalOp X tm hs g.1 o).ok||!g.2)=true) :
      AStep X ops i o tm hs (putT tm o.dst (wrapG g.1 g.2 (evalOp X tm hs g.1 o).d)) hs false
  | write (g:List (Nat×Bool)×Bool) (hg:guardD ops i tm o=some g) (tm':List (D α)) (hs':Obs α) (hc:(evalOp X tm hs g.1 o).ch=some (tm',hs')) (h2:g.2=true)
      (hok:(evalOp X tm hs g.1 o).ok=true):AStep X ops i o tm hs (putT tm' o.dst (evalOp X tm hs g.1 o).d) hs' true
  | off (g:List (Nat×Bool)×Bool) (hg:guardD ops i tm o=some g) (h2:g.2=false) (W:Bool):AStep X ops i o tm hs (putT tm o.dst .bad) hs W
  | on (g:List (Nat×Bool)×Bool) (hg:guardD ops i tm o=some g) (hc:(evalOp X tm hs g.1 o).ch=none) (h2:g.2=true) (hok:(evalOp X tm hs g.1 o).ok=true) :
      AStep X ops i o tm hs (putT tm o.dst (evalOp X tm hs g.1 o).d) hs false
theorem slot_yield {ops:Array Oper} {tmps:Array Value} {j s:Nat} (h:slotOf ops j=some s) (b:Bool):yielded ops tmps j=some b↔tmps[s]?=some (.bool b):=by
  unfold slotOf at h
  unfold yielded
  rw [h]
  simp only [Option.bind_some]
  cases hs:tmps[s]? with
  | none=>simp
  | some v=>cases v<;>simp
theorem get_bool {tmps:Array Value} {s:Nat} {b:Bool} (h:tmps.getD s undef=.bool b):tmps[s]?=some (.bool b):=by
  simp only [Array.getD_eq_getD_getElem?] at h
  cases hg:tmps[s]? with
  | none=>rw [hg] at h;simp [undef] at h
  | some v=>rw [hg] at h;simpa using h
theorem guard_spec (hS:Sim X g tm hs a w) {ops:Array Oper} {i:Nat} {o:Oper} {q:List (Nat×Bool)×Bool} (h:guardD ops i tm o=some q) {K:Nat→Prop} (hK:KeyIn tm K) :
    (Region.wanted o (yielded ops a.tmps)=true→holds a.tmps q.1∧q.2=true)∧(q.2=true→Region.wanted o (yielded ops a.tmps)=true) ∧
    (Region.wanted o (yielded ops a.tmps)=false→¬ holds a.tmps q.1)∧∀k∈q.1,K k.1∨∃j want,o.guard=some (j,want)∧j < i∧slotOf ops j=some k.1:=by
  unfold guardD at h
  split at h
  · rename_i hg
    simp only [Option.some.injEq] at h
    subst h
    simp [Region.wanted,hg,holds]
  · rename_i j want hg
    cases hjb:Nat.ble (j+1) i with
    | false=>rw [hjb] at h;simp at h
    | true =>
    have hj:j < i:=Nat.le_of_ble_eq_true hjb
    rw [hjb] at h
    simp only [cond_true] at h
    split at h
    · simp at h
    · rename_i s hsl
      have hw:Region.wanted o (yielded ops a.tmps)=true↔a.tmps[s]?=some (.bool want):=by
        rw [←slot_yield hsl want]
        simp [Region.wanted,hg]
      have hh:∀ks,holds a.tmps ((s,want)::ks)↔a.tmps[s]?=some (.bool want)∧holds a.tmps ks:=by simp [holds]
      have ht:=hS.tm s
      split at h
      · rename_i b hb
        rw [hb] at ht
        have hv:=get_bool (lit_eq ht)
        simp only [Option.some.injEq] at h
        subst h
        have h0:holds a.tmps ([]:List (Nat×Bool)):=by intro k hk;simp at hk
        refine ⟨fun h=>⟨(hh []).2 ⟨hw.1 h,h0⟩,?_⟩,fun h=>hw.2 ?_,fun h h'=>by rw [hw.2 ((hh []).1 h').1] at h;simp at h,fun k hk=>?_⟩
        · have:=hw.1 h
          rw [hv] at this
          simpa using this
        · rw [hv];simpa using h
        · simp only [List.mem_singleton] at hk
          subst hk
          exact .inr ⟨j,want,hg,hj,hsl⟩
      · rename_i ks t b hb
        rw [hb] at ht
        simp only [Option.some.injEq] at h
        subst h
        by_cases hk0:holds a.tmps ks
        · obtain ⟨rfl,hr⟩:=ht.1 hk0
          have hv:=get_bool (lit_eq hr)
          refine ⟨fun h=>⟨(hh ks).2 ⟨hw.1 h,hk0⟩,?_⟩,fun h=>hw.2 ?_,fun h h'=>by rw [hw.2 ((hh ks).1 h').1] at h;simp at h,fun k hk=>?_⟩
          · have:=hw.1 h
            rw [hv] at this
            simpa using this
          · rw [hv];simpa using h
          · rcases List.mem_cons.1 hk with rfl | hk
            · exact .inr ⟨j,want,hg,hj,hsl⟩
            · exact .inl (hK _ _ _ _ hb k hk)
        · obtain ⟨rfl,hu⟩:=ht.2 hk0
          have hnw:¬ a.tmps[s]?=some (.bool want):=by
            intro h
            simp [Array.getD_eq_getD_getElem?,h,undef] at hu
          refine ⟨fun h=>absurd (hw.1 h) hnw,fun h=>by simp at h,fun _ h'=>hk0 ((hh ks).1 h').2,fun k hk=>?_⟩
          rcases List.mem_cons.1 hk with rfl | hk
          · exact .inr ⟨j,want,hg,hj,hsl⟩
          · exact .inl (hK _ _ _ _ hb k hk)
      · rename_i ks t hb
        rw [hb] at ht
        cases t with
        | true=>simp at h
        | false =>
        simp only [cond_false,Option.some.injEq] at h
        subst h
        by_cases hk0:holds a.tmps ks
        · exact absurd (ht.1 hk0).1 (by simp)
        · obtain ⟨_,hu⟩:=ht.2 hk0
          have hnw:¬ a.tmps[s]?=some (.bool want):=by
            intro h
            simp [Array.getD_eq_getD_getElem?,h,undef] at hu
          refine ⟨fun h=>absurd (hw.1 h) hnw,fun h=>by simp at h,fun _ h'=>hk0 ((hh ks).1 h').2,fun k hk=>?_⟩
          rcases List.mem_cons.1 hk with rfl | hk
          · exact .inr ⟨j,want,hg,hj,hsl⟩
          · exact .inl (hK _ _ _ _ hb k hk)
      · simp at h
theorem astep_sound (hX:XOk X) (hR:ROk X) (hS:Sim X g tm hs a w) {ops:Array Oper} {i:Nat} {o:Oper} {tm1:List (D α)} {hs1:Obs α} {W:Bool} (hi:ops[i]?=some o)
    (st:AStep X ops i o tm hs tm1 hs1 W) {K K':Nat→Prop} (hK:KeyIn tm K) (hKK:∀s,K s→K' s) (hd:∀s,o.dst=some s→¬ K s)
    (hg:∀j want s,o.guard=some (j,want)→j < i→slotOf ops j=some s→o.dst≠some s∧K' s)
    {Kt:Act→World→Prop} {Q:Exit→Act→World→Prop} (hQ:∀rho' a' w',Sim X { g with rho:=rho' } tm1 hs1 a' w'→KeyIn tm1 K'→Kt a' w'):wpOp X.P ops Q i Kt a w:=by
  unfold wpOp
  simp only [hi]
  cases st with
  | quiet q hq hc hok =>
    obtain ⟨g1,g2,g3,g4⟩:=guard_spec hS hq hK
    have hkeys:∀k∈q.1,K' k.1:=fun k hk=>by
      rcases g4 k hk with h | ⟨j,want,h1,h2,h3⟩
      · exact hKK _ h
      · exact (hg j want _ h1 h2 h3).2
    have hkd:∀k∈q.1,o.dst≠some k.1:=fun k hk he=>by
      rcases g4 k hk with h | ⟨j,want,h1,h2,h3⟩
      · exact hd _ he h
      · exact (hg j want _ h1 h2 h3).1 he
    by_cases hw:Region.wanted o (yielded ops a.tmps)=true
    · rw [if_pos hw]
      obtain ⟨hh,h2⟩:=g1 hw
      simp only [h2,Bool.not_true,Bool.or_false] at hok
      refine .inl ((op_sound hX hS hR hh o hok).wp fun v w' ⟨rho',h1,h3⟩=>?_)
      simp only [hc,Option.getD_none] at h1 h3
      have hgd:∀ks b e,wrapG q.1 q.2 (evalOp X tm hs q.1 o).d=.gd ks b e→ks=q.1:=by
        intro ks b e he
        unfold wrapG at he
        split at he
        · rw [he] at h3;exact h3.noGd.elim
        · simp only [D.gd.injEq] at he;exact he.1.symm
      refine hQ rho' _ w' (h1.put (K:=K) ?_ (fun ks b e he k hk=>hkd k (by rw [←hgd ks b e he];exact hk)) hK hd) ((hK.mono hKK).put _ _ fun ks b e he k hk=>hkeys k (by rw [←hgd ks b e he];exact hk))
      unfold wrapG
      split
      · exact RG.of h3
      · exact ⟨fun _=>⟨h2,h3⟩,fun hn=>absurd hh hn⟩
    · rw [if_neg hw]
      have hn:=g3 (by simpa using hw)
      have hq2:q.2=false:=by
        cases h:q.2 with
        | false=>rfl
        | true=>exact absurd (g2 h) hw
      have hne:q.1≠[]:=by rintro h;rw [h] at hn;exact hn (by intro k hk;simp at hk)
      have hwr:wrapG q.1 q.2 (evalOp X tm hs q.1 o).d=.gd q.1 q.2 (evalOp X tm hs q.1 o).d:=by
        unfold wrapG
        split
        · rename_i h;exact absurd h hne
        · rfl
      rw [hwr] at hQ
      refine hQ g.rho _ w (hS.put (K:=K) ⟨fun h=>absurd h hn,fun _=>⟨hq2,rfl⟩⟩ (fun ks b e he k hk=>hkd k (by simp only [D.gd.injEq] at he;rw [he.1];exact hk)) hK hd)
        ((hK.mono hKK).put _ _ fun ks b e he k hk=>hkeys k (by simp only [D.gd.injEq] at he;rw [he.1];exact hk))
  | write q hq tm' hs' hc h2 hok =>
    obtain ⟨g1,g2,g3,g4⟩:=guard_spec hS hq hK
    have hw:=g2 h2
    rw [if_pos hw]
    obtain ⟨hh,_⟩:=g1 hw
    refine .inl ((op_sound hX hS hR hh o hok).wp fun v w' ⟨rho',h1,h3⟩=>?_)
    simp only [hc,Option.getD_some] at h1 h3
    have hK1:KeyIn tm' K:=by
      rcases evalOp_on (X:=X) (tm:=tm) (hs:=hs) o q.1 with ⟨ns,hs'',h4⟩ | ⟨h4,_⟩
      · rw [hc] at h4
        simp only [Option.some.injEq,Prod.mk.injEq] at h4
        rw [h4.1]
        exact hK.kill ns
      · rw [hc] at h4;simp at h4
    exact hQ rho' _ w' (h1.put (K:=K) (RG.of h3) (fun ks b e he=>by rw [he] at h3;exact h3.noGd.elim) hK1 hd) ((hK1.mono hKK).put _ _ fun ks b e he=>by rw [he] at h3;exact h3.noGd.elim)
  | on q hq hc h2 hok =>
    obtain ⟨g1,g2,g3,g4⟩:=guard_spec hS hq hK
    have hw:=g2 h2
    rw [if_pos hw]
    obtain ⟨hh,_⟩:=g1 hw
    refine .inl ((op_sound hX hS hR hh o hok).wp fun v w' ⟨rho',h1,h3⟩=>?_)
    simp only [hc,Option.getD_none] at h1 h3
    exact hQ rho' _ w' (h1.put (K:=K) (RG.of h3) (fun ks b e he=>by rw [he] at h3;exact h3.noGd.elim) hK hd) ((hK.mono hKK).put _ _ fun ks b e he=>by rw [he] at h3;exact h3.noGd.elim)
  | off q hq h2 =>
    obtain ⟨g1,g2,g3,g4⟩:=guard_spec hS hq hK
    have hw:Region.wanted o (yielded ops a.tmps)=false:=by
      cases hw:Region.wanted o (yielded ops a.tmps) with
      | false=>rfl
      | true=>have:=(g1 hw).2;rw [h2] at this;simp at this
    rw [hw]
    simp only [Bool.false_eq_true,if_false]
    exact hQ g.rho _ w (hS.put (K:=K) (.bad _) (fun ks b e he=>by simp at he) hK hd) ((hK.mono hKK).put _ _ fun ks b e he=>by simp at he)
end
end Go.Eng
