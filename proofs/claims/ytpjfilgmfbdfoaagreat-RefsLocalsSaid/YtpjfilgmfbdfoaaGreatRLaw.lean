/-
  SORTED REFERENCES, plainly: what is put in its place, each once, is the sorted list of what there is.
-/
import Derived.Test.YtpjfilgmfbdfoaaGreatLib
import Derived.Lib.Bytealg
import Derived.Test.YtpjfilgmfbdfoaaGreatEngW
namespace Go.Proofs.YtpjfilgmfbdfoaaGreat
open Go.Eng
set_option maxRecDepth 100000
noncomputable def X1:Ctx Pl:={ P:=Tryz.prog,C:=plC emp true,R:=fun _ _=>none,glob:=glb,plainT:=plainT,N:=1000 }
theorem xok1:XOk X1 where
  pay:=plC_ok emp true
  plain:=xok.plain
  mixed:=xok.mixed
abbrev Tw:Type:=Str×Str
def cT (x:Tw):List (D Pl):=[.str x.1,.str x.2]
def cmpS (a b:Str):Int:=bif ltS a b then -1 else bif !(ltS a b||a==b) then 1 else 0
theorem cmpB_eq:∀a b:Str,Lib.compareBytes a b=cmpS a b
  | [],[]=>rfl
  | [],_::_=>by simp [Lib.compareBytes,cmpS,ltS_nil_cons]
  | _::_,[]=>by simp [Lib.compareBytes,cmpS,ltS_nil]
  | a::x,b::y=>by
    unfold Lib.compareBytes
    by_cases h1:a < b
    · simp [h1,cmpS,ltS_cons]
    · by_cases h2:b < a
      · have:a≠b:=by rintro rfl;exact absurd h2 (UInt8.lt_irrefl a)
        have e:(a==b)=false:=beq_eq_false_iff_ne.2 this
        simp [h1,h2,cmpS,ltS_cons,e]
      · have:a=b:=UInt8.le_antisymm (UInt8.not_lt.1 h2) (UInt8.not_lt.1 h1)
        subst this
        rw [if_neg h1,if_neg h2,cmpB_eq x y]
        simp [cmpS,ltS_cons,h1]
structure Pre {K:Type} (r:K→K→Int):Prop where
  anti:∀a b,r b a=- r a b
  le:∀a b c,r a b≤0→r b c≤0→r a c≤0
theorem cmpS_cases (a b:Str):(ltS a b=true∧ltS b a=false∧a≠b∧cmpS a b=-1)∨(a=b∧cmpS a b=0)∨(ltS b a=true∧ltS a b=false∧a≠b∧cmpS a b=1):=by
  unfold cmpS
  cases h:ltS a b
  · cases h2:ltS b a
    · obtain rfl:=ltS_tri h h2
      exact .inr (.inl ⟨rfl,by simp⟩)
    · refine .inr (.inr ⟨rfl,rfl,?_⟩)
      have hne:a≠b:=by rintro rfl;rw [ltS_irr] at h2;simp at h2
      exact ⟨hne,by rw [show (a==b)=false from beq_eq_false_iff_ne.2 hne];rfl⟩
  · refine .inl ⟨rfl,ltS_asymm h,?_,rfl⟩
    rintro rfl;rw [ltS_irr] at h;simp at h
theorem pre_S:Pre cmpS where
  anti a b:=by
    rcases cmpS_cases a b with ⟨h1,h2,h3,h⟩ | ⟨rfl,h⟩ | ⟨h1,h2,h3,h⟩
    · rcases cmpS_cases b a with ⟨k1,_,_,k⟩ | ⟨k1,k⟩ | ⟨k1,_,_,k⟩
      · rw [k1] at h2;simp at h2
      · exact (h3 k1.symm).elim
      · rw [h,k];rfl
    · rw [h];rfl
    · rcases cmpS_cases b a with ⟨k1,_,_,k⟩ | ⟨k1,k⟩ | ⟨k1,_,_,k⟩
      · rw [h,k]
      · exact (h3 k1.symm).elim
      · rw [k1] at h2;simp at h2
  le a b c h1 h2:=by
    rcases cmpS_cases a b with ⟨k1,_,_,_⟩ | ⟨rfl,_⟩ | ⟨_,_,_,k⟩
    · rcases cmpS_cases b c with ⟨j1,_,_,_⟩ | ⟨rfl,_⟩ | ⟨_,_,_,j⟩
      · have:=ltS_trans k1 j1
        unfold cmpS;rw [this];simp
      · exact h1
      · rw [j] at h2;simp at h2
    · exact h2
    · rw [k] at h1;simp at h1
theorem Pre.on {K L:Type} {r:L→L→Int} (h:Pre r) (f:K→L):Pre fun a b=>r (f a) (f b):=⟨fun a b=>h.anti _ _,fun a b c=>h.le _ _ _⟩
theorem pre_0 {K:Type}:Pre fun (_ _:K)=>(0:Int):=⟨fun _ _=>rfl,fun _ _ _ h _=>h⟩
def orI (x y:Int):Int:=bif x != 0 then x else y
theorem orI_def (x y:Int):orI x y=if x=0 then y else x:=by
  unfold orI;by_cases h:x=0
  · simp [h]
  · rw [show (x != 0)=true from bne_iff_ne.2 h,if_neg h];rfl
theorem Pre.lex {K:Type} {r s:K→K→Int} (h:Pre r) (g:Pre s):Pre fun a b=>orI (r a b) (s a b) where
  anti a b:=by
    show orI (r b a) (s b a)=- orI (r a b) (s a b)
    rw [orI_def,orI_def,h.anti a b,g.anti a b]
    by_cases h0:r a b=0<;>simp [h0]
  le a b c h1 h2:=by
    show orI (r a c) (s a c)≤0
    have h1':orI (r a b) (s a b)≤0:=h1
    have h2':orI (r b c) (s b c)≤0:=h2
    rw [orI_def] at *
    have q1:r a b≤0:=by split at h1'<;>omega
    have q2:r b c≤0:=by split at h2'<;>omega
    have q3:=h.le a b c q1 q2
    split
    · rename_i h0
      have e1:=h.anti a c
      have e2:=h.anti b c
      have e3:=h.anti a b
      have q4:=h.le c a b (by omega) q1
      have q5:=h.le b c a q2 (by omega)
      rw [if_pos (by omega)] at h1' h2'
      exact g.le a b c h1' h2'
    · exact q3
def cmpK (a b:Tw):Int:=orI (cmpS a.1 b.1) (orI (cmpS a.2 b.2) 0)
theorem pre_K:Pre cmpK:=(pre_S.on Prod.fst).lex ((pre_S.on Prod.snd).lex pre_0)
theorem or_less (x y:Int):decide (orI x y < 0)=bif x != 0 then decide (x < 0) else decide (y < 0):=by
  unfold orI;cases x != 0<;>rfl
theorem cmpS_less (a b:Str):decide (cmpS a b < 0)=ltS a b:=by
  rcases cmpS_cases a b with ⟨h1,_,_,h⟩ | ⟨rfl,h⟩ | ⟨_,h1,_,h⟩
  · rw [h,h1];rfl
  · rw [h,ltS_irr];rfl
  · rw [h,h1];rfl
theorem cmpS_ne (a b:Str):(cmpS a b != 0)=!(a==b):=by
  rcases cmpS_cases a b with ⟨_,_,h1,h⟩ | ⟨rfl,h⟩ | ⟨_,_,h1,h⟩<;>rw [h]
  · rw [show (a==b)=false from beq_eq_false_iff_ne.2 h1];rfl
  · simp
  · rw [show (a==b)=false from beq_eq_false_iff_ne.2 h1];rfl
theorem cmpS_0 {a b:Str} (h:cmpS a b=0):a=b:=by
  rcases cmpS_cases a b with ⟨_,_,_,k⟩ | ⟨h,_⟩ | ⟨_,_,_,k⟩
  · rw [k] at h;cases h
  · exact h
  · rw [k] at h;cases h
theorem cmpK_0 {a b:Tw} (h:cmpK a b=0):a=b:=by
  unfold cmpK at h
  rw [orI_def,orI_def] at h
  split at h
  · rename_i h1
    split at h
    · rename_i h2
      exact Prod.ext (cmpS_0 h1) (cmpS_0 h2)
    · rename_i h2;exact absurd h h2
  · rename_i h1;exact absurd h h1
def lessK (a b:Tw):Bool:=decide (cmpK a b < 0)
def docK (a b:Tw):Bool:=bif !(a.1==b.1) then ltS a.1 b.1 else ltS a.2 b.2
theorem lessK_eq (a b:Tw):lessK a b=docK a b:=by
  unfold lessK cmpK docK
  simp only [or_less,cmpS_ne,cmpS_less]
  cases h:(a.2==b.2) with
  | false=>rfl
  | true=>rw [beq_iff_eq] at h;rw [h,ltS_irr];cases a.1==b.1<;>rfl
abbrev Snd1 (f:FuncId) (ds:List (D Pl)) (d:D Pl):Prop:=SoundAt X1.P X1.C X1.glob f ds d
abbrev TOk1 (R:Eng.Told Pl):Prop:=ToldOk X1 R
noncomputable abbrev ev1 (R:Eng.Told Pl) (TL:LoopsT Pl) (n:Nat) (f:FuncId) (ds:List (D Pl)):Option (D Pl):=callK X1 F0 R TL n f ds (fun d=>some d)
theorem snd_of1 {R:Eng.Told Pl} (hR:TOk1 R) {TL:LoopsT Pl} (hTL:TLOk X1 F0 TL) {n:Nat} {f:FuncId} {ds:List (D Pl)} {d:D Pl} (h:ev1 R TL n f ds=some d) (hlt:Nat.blt f 1000000=true:=by rfl):Snd1 f ds d:=by
  obtain ⟨e,he,hs⟩:=callK_sound xok1 fok hR hTL h
  simp only [Option.some.injEq] at he
  subst he
  exact hs.1 hlt
def pCmpV (C:Str→Str→Int):List (D Pl)→Option (Bool×D Pl)
  | [.str a,.str b]=>some (true,dI (C a b))
  | _=>none
theorem cmpstr1 (a b:Str):Snd1 93 [.str a,.str b] (dI (cmpS a b)):=by
  rw [←cmpB_eq]
  intro w av vs hg _ hs hr
  obtain ⟨v0,v1,rfl⟩:∃v0 v1,vs=#[v0,v1]:=by
    obtain ⟨l⟩:=vs
    match l,hs with
    | [a,b],_=>exact ⟨a,b,rfl⟩
  have h0:=hr 0 _ _ rfl rfl
  have h1:=hr 1 _ _ rfl rfl
  cases h1 with
  | str b' _ hb' hlb =>
  cases h0 with
  | str a' _ ha' hla =>
  subst hb' ha'
  refine .inr ⟨.int .i64 (Lib.compareBytes a'.data.toList b'.data.toList),w,?_,?_,BelowD.refl _ _,trivial⟩
  · show (callFunc 93 _).run Tryz.prog w=_
    rw [run_callFunc_extern Tryz.func93 (by kernel_rfl) (by kernel_rfl) (by kernel_rfl) (e:=Extern.BytealgCompare.compare) (by kernel_rfl),Lib.run_compareString];rfl
  · refine .int _ _ ?_
    rw [cmpB_eq]
    rcases cmpS_cases a'.data.toList b'.data.toList with ⟨_,_,_,h⟩ | ⟨_,h⟩ | ⟨_,_,_,h⟩<;>rw [h]<;>rfl
theorem pCs_ok1:∀ds b d,pCmpV cmpS ds=some (b,d)→b=true→Snd1 93 ds d:=by
  intro ds b d h hb
  unfold pCmpV at h
  split at h
  · simp only [Option.some.injEq,Prod.mk.injEq] at h;obtain ⟨_,rfl⟩:=h;exact cmpstr1 _ _
  · simp at h
def or1 (x:Int) (r:Option (D Pl)):Option (D Pl):=bif x != 0 then some (dI x) else r
theorem or1_eq (x y:Int):or1 x (some (dI y))=some (dI (orI x y)):=by unfold or1 orI;cases x != 0<;>rfl
theorem e16 (C:Str→Str→Int) (a b:Tw):ev1 (tell 93 (pCmpV C) tell0) noTL 8 24 [.agg (cT a),.agg (cT b)]=or1 (C a.1 b.1) (or1 (C a.2 b.2) (some (dI 0))):=by kernel_rfl
theorem cmpK_sound (a b:Tw):Snd1 24 [.agg (cT a),.agg (cT b)] (dI (cmpK a b)):=by
  refine snd_of1 (tell_ok pCs_ok1 (tell0_ok _)) (noTL_ok _ _) ((e16 cmpS a b).trans ?_)
  simp only [or1_eq];rfl
end Go.Proofs.YtpjfilgmfbdfoaaGreat
namespace Go.Proofs.YtpjfilgmfbdfoaaGreat
open Go.Eng
set_option maxRecDepth 100000
def leK (a b:Tw):Bool:=!(lessK b a)
def sortK (l:List Tw):List Tw:=l.mergeSort leK
theorem leK_trans (a b c:Tw) (h1:leK a b=true) (h2:leK b c=true):leK a c=true:=by
  simp only [leK,lessK,Bool.not_eq_true',decide_eq_false_iff_not] at *
  have a1:=pre_K.anti a b
  have a2:=pre_K.anti b c
  have a3:=pre_K.anti a c
  have:=pre_K.le a b c (by omega) (by omega)
  omega
theorem leK_total (a b:Tw):(leK a b||leK b a)=true:=by
  simp only [leK,lessK,Bool.or_eq_true,Bool.not_eq_true',decide_eq_false_iff_not]
  have a1:=pre_K.anti a b
  omega
theorem leK_anti (a b:Tw) (h1:leK a b=true) (h2:leK b a=true):a=b:=by
  simp only [leK,lessK,Bool.not_eq_true',decide_eq_false_iff_not] at *
  have a1:=pre_K.anti a b
  exact cmpK_0 (by omega)
theorem sortK_perm {l l':List Tw} (h:l.Perm l'):sortK l=sortK l' :=
  List.Perm.eq_of_pairwise (le:=fun x y=>leK x y=true) (fun a b _ _ h1 h2=>leK_anti a b h1 h2) (List.pairwise_mergeSort leK_trans leK_total _) (List.pairwise_mergeSort leK_trans leK_total _) (((List.mergeSort_perm _ _).trans h).trans (List.mergeSort_perm _ _).symm)
theorem less_iff (a b:Tw):lessK a b=true↔cmpK a b < 0:=by simp [lessK]
theorem less_trans {a b c:Tw} (h1:lessK a b=true) (h2:lessK b c=true):lessK a c=true:=by
  rw [less_iff] at *
  have a1:=pre_K.anti a b
  have a2:=pre_K.anti b c
  have a3:=pre_K.anti a c
  have h3:=pre_K.le a b c (by omega) (by omega)
  by_cases h0:cmpK a c=0
  · have:=pre_K.le c a b (by omega) (by omega)
    omega
  · omega
theorem less_irr (a:Tw):lessK a a=false:=by
  have:=pre_K.anti a a
  simp [lessK];omega
theorem less_tri {a b:Tw} (h1:lessK a b=false) (h2:a≠b):lessK b a=true:=by
  have a1:=pre_K.anti a b
  have:cmpK a b≠0:=fun h=>h2 (cmpK_0 h)
  simp only [lessK,decide_eq_false_iff_not,decide_eq_true_eq] at *
  omega
def eqT (a b:Tw):Bool:=a.1==b.1&&a.2==b.2
theorem eqT_iff (a b:Tw):eqT a b=true↔a=b:=by
  unfold eqT
  rw [Bool.and_eq_true,beq_iff_eq,beq_iff_eq]
  exact ⟨fun h=>Prod.ext h.1 h.2,fun h=>by rw [h];exact ⟨rfl,rfl⟩⟩
def hasK (o:List Tw) (x:Tw):Bool:=o.any fun y=>eqT y x
theorem hasK_iff (o:List Tw) (x:Tw):hasK o x=true↔x∈o:=by
  simp only [hasK,List.any_eq_true,eqT_iff]
  exact ⟨fun ⟨y,h,e⟩=>e ▸ h,fun h=>⟨x,h,rfl⟩⟩
def atK (o:List Tw) (x:Tw):Nat:=(o.takeWhile fun y=>docK y x).length
def insK (o:List Tw) (x:Tw):List Tw:=bif hasK o x then o else (o.take (atK o x)++[x])++o.drop (atK o x)
def docS (l:List Tw):List Tw:=l.foldl insK []
abbrev Strict (o:List Tw):Prop:=o.Pairwise fun a b=>lessK a b=true
theorem take_at (o:List Tw) (x:Tw):o.take (atK o x)=o.takeWhile (fun y=>docK y x)∧o.drop (atK o x)=o.dropWhile (fun y=>docK y x):=by
  have h:=List.takeWhile_append_dropWhile (p:=fun y=>docK y x) (l:=o)
  unfold atK
  constructor
  · have e:=congrArg (List.take (o.takeWhile fun y=>docK y x).length) h
    rw [List.take_left] at e
    exact e.symm
  · have e:=congrArg (List.drop (o.takeWhile fun y=>docK y x).length) h
    rw [List.drop_left] at e
    exact e.symm
theorem dropWhile_head {p:Tw→Bool}:∀{l:List Tw} {b:Tw} {r:List Tw},l.dropWhile p=b::r→p b=false
  | [],_,_,h=>by simp at h
  | a::l,b,r,h=>by
    rw [List.dropWhile_cons] at h
    split at h
    · exact dropWhile_head h
    · rename_i hp
      simp only [List.cons.injEq] at h
      rw [←h.1];simpa using hp
theorem insK_ok {o:List Tw} (h:Strict o) (x:Tw):Strict (insK o x)∧∀y,y∈insK o x↔y∈o∨y=x:=by
  unfold insK
  cases hx:hasK o x with
  | true =>
    have:=(hasK_iff o x).1 hx
    exact ⟨h,fun y=>⟨.inl,fun e=>e.elim id fun e=>e ▸ this⟩⟩
  | false =>
    have hn:x ∉ o:=fun e=>by rw [(hasK_iff o x).2 e] at hx;cases hx
    simp only [cond_false]
    obtain ⟨t1,t2⟩:=take_at o x
    rw [t1,t2]
    have hab:=List.takeWhile_append_dropWhile (p:=fun y=>docK y x) (l:=o)
    have hA:∀a∈o.takeWhile (fun y=>docK y x),lessK a x=true:=fun a ha=>by
      have:docK a x=true:=List.all_eq_true.1 (List.all_takeWhile (p:=fun y=>docK y x) (l:=o)) a ha
      rwa [←lessK_eq] at this
    have hB:∀b∈o.dropWhile (fun y=>docK y x),lessK x b=true:=by
      intro b hb
      have hs:Strict (o.dropWhile (fun y=>docK y x)):=by
        have h':=h
        rw [←hab] at h'
        exact (List.pairwise_append.1 h').2.1
      cases hd:o.dropWhile (fun y=>docK y x) with
      | nil=>rw [hd] at hb;simp at hb
      | cons c r =>
        have hc:lessK c x=false:=by rw [lessK_eq];exact dropWhile_head (p:=fun y=>docK y x) hd
        have hco:c∈o:=by rw [←hab,hd];simp
        have hxc:lessK x c=true:=less_tri hc fun e=>hn (e ▸ hco)
        rw [hd] at hb hs
        rcases List.mem_cons.1 hb with rfl | hb
        · exact hxc
        · exact less_trans hxc ((List.pairwise_cons.1 hs).1 b hb)
    refine ⟨?_,fun y=>?_⟩
    · have h':=h
      rw [←hab] at h'
      obtain ⟨p1,p2,p3⟩:=List.pairwise_append.1 h'
      refine List.pairwise_append.2 ⟨List.pairwise_append.2 ⟨p1,List.pairwise_singleton _ _,fun a ha b hb=>?_⟩,p2,fun a ha b hb=>?_⟩
      · simp only [List.mem_singleton] at hb;subst hb;exact hA a ha
      · rcases List.mem_append.1 ha with ha | ha
        · exact p3 a ha b hb
        · simp only [List.mem_singleton] at ha;subst ha;exact hB b hb
    · rw [List.mem_append,List.mem_append,List.mem_singleton]
      conv=>rhs;rw [←hab,List.mem_append]
      constructor
      · rintro ((h | h) | h)
        · exact .inl (.inl h)
        · exact .inr h
        · exact .inl (.inr h)
      · rintro ((h | h) | h)
        · exact .inl (.inl h)
        · exact .inr h
        · exact .inl (.inr h)
theorem docS_from (l:List Tw):∀o,Strict o→Strict (l.foldl insK o)∧∀y,y∈l.foldl insK o↔y∈o∨y∈l:=by
  induction l with
  | nil=>intro o h;exact ⟨h,fun y=>by simp⟩
  | cons x r ih =>
    intro o h
    obtain ⟨h1,h2⟩:=insK_ok h x
    obtain ⟨h3,h4⟩:=ih _ h1
    refine ⟨h3,fun y=>?_⟩
    rw [List.foldl_cons,h4,h2,List.mem_cons,or_assoc]
theorem docS_ok (l:List Tw):Strict (docS l)∧∀y,y∈docS l↔y∈l:=by
  obtain ⟨h1,h2⟩:=docS_from l [] List.Pairwise.nil
  exact ⟨h1,fun y=>by rw [docS,h2];simp⟩
def mapS (l:List Tw):List (Tw×Unit):=l.foldl (fun m x=>putM (k:=.two) (v:=.unit) m x ()) []
theorem ktEq_iff (a b:Tw):KT.eq .two a b=true↔a=b:=eqT_iff a b
theorem putM_ok:∀(m:List (Tw×Unit)) (x:Tw),(m.map (·.1)).Nodup→((putM (k:=.two) (v:=.unit) m x ()).map (·.1)).Nodup∧∀y,y∈(putM (k:=.two) (v:=.unit) m x ()).map (·.1)↔y∈m.map (·.1)∨y=x
  | [],x,_=>⟨by simp [putM],fun y=>by simp [putM]⟩
  | e::r,x,h=>by
    rw [putM]
    cases he:KT.eq .two e.1 x with
    | true =>
      obtain rfl:=(ktEq_iff _ _).1 he
      simp only [cond_true]
      refine ⟨by simpa using h,fun y=>?_⟩
      simp only [List.map_cons,List.mem_cons]
      constructor
      · intro h;exact .inl h
      · rintro (h | h)
        · exact h
        · exact .inl h
    | false =>
      simp only [cond_false,List.map_cons]
      rw [List.map_cons,List.nodup_cons] at h
      obtain ⟨h1,h2⟩:=putM_ok r x h.2
      refine ⟨List.nodup_cons.2 ⟨fun hm=>?_,h1⟩,fun y=>?_⟩
      · rcases (h2 _).1 hm with hm | hm
        · exact h.1 hm
        · rw [(ktEq_iff _ _).2 hm] at he;cases he
      · rw [List.mem_cons,List.mem_cons,h2,or_assoc]
theorem mapS_from (l:List Tw):∀m:List (Tw×Unit),(m.map (·.1)).Nodup→((l.foldl (fun m x=>putM (k:=.two) (v:=.unit) m x ()) m).map (·.1)).Nodup∧∀y,y∈(l.foldl (fun m x=>putM (k:=.two) (v:=.unit) m x ()) m).map (·.1)↔y∈m.map (·.1)∨y∈l:=by
  induction l with
  | nil=>intro m h;exact ⟨h,fun y=>by simp⟩
  | cons x r ih =>
    intro m h
    obtain ⟨h1,h2⟩:=putM_ok m x h
    obtain ⟨h3,h4⟩:=ih _ h1
    refine ⟨h3,fun y=>?_⟩
    rw [List.foldl_cons,h4,h2,List.mem_cons,or_assoc]
theorem mapS_ok (l:List Tw):((mapS l).map (·.1)).Nodup∧∀y,y∈(mapS l).map (·.1)↔y∈l:=by
  obtain ⟨h1,h2⟩:=mapS_from l [] List.nodup_nil
  exact ⟨h1,fun y=>by rw [mapS,h2];simp⟩
theorem mapS_len (l:List Tw):(mapS l).length≤l.length:=by
  have key:∀(l:List Tw) (m:List (Tw×Unit)),(l.foldl (fun m x=>putM (k:=.two) (v:=.unit) m x ()) m).length≤m.length+l.length:=by
    have hp:∀(m:List (Tw×Unit)) x,(putM (k:=.two) (v:=.unit) m x ()).length≤m.length+1:=by
      intro m x
      induction m with
      | nil=>simp [putM]
      | cons e r ih=>rw [putM];cases KT.eq .two e.1 x<;>simp<;>omega
    intro l
    induction l with
    | nil=>intro m;simp
    | cons x r ih=>intro m;have:=ih (putM (k:=.two) (v:=.unit) m x ());have:=hp m x;simp;omega
  have:=key l []
  simpa [mapS] using this
theorem sort_law (l:List Tw):sortK ((mapS l).map (·.1))=docS l:=by
  obtain ⟨h1,h2⟩:=docS_ok l
  obtain ⟨h3,h4⟩:=mapS_ok l
  have hnd:(docS l).Nodup:=h1.imp fun {a b} h e=>by subst e;rw [less_irr] at h;cases h
  have hp:((mapS l).map (·.1)).Perm (docS l):=(List.perm_ext_iff_of_nodup h3 hnd).2 fun y=>(h4 y).trans (h2 y).symm
  refine List.Perm.eq_of_pairwise (le:=fun x y=>leK x y=true) (fun a b _ _ h1 h2=>leK_anti a b h1 h2) (List.pairwise_mergeSort leK_trans leK_total _) ?_ ((List.mergeSort_perm _ _).trans hp)
  refine h1.imp fun {a b} h=>?_
  simp only [leK,Bool.not_eq_true']
  cases hb:lessK b a with
  | false=>rfl
  | true=>have:=less_trans h hb;rw [less_irr] at this;cases this
end Go.Proofs.YtpjfilgmfbdfoaaGreat
