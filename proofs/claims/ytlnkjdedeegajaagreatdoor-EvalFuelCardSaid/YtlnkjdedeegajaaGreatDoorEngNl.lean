/-
  THE ENGINE: STATES THAT SAY LESS: nil as an empty slice of the frame's; pointers to what is only read from now on.
-/
import Derived.Test.YtlnkjdedeegajaaGreatDoorEngRn
namespace Go.Eng
open Go.RowKit
variable {α:Type} {X:Ctx α}
def mapOb (f:Nat→D α→D α):Ob α→Ob α
  | .box fz cs=>.box fz (cs.mapIdx f)
  | x=>x
def mapH (f:Nat→Nat→D α→D α):Obs α→Obs α
  | []=>[]
  | (n,x)::r=>(n,mapOb (f n) x)::mapH f r
theorem look_mapH (f:Nat→Nat→D α→D α):∀(hs:Obs α) (k:Nat),look (mapH f hs) k=(look hs k).map (mapOb (f k))
  | [],k=>rfl
  | (n,x)::r,k=>by
    simp only [mapH,look]
    cases hb:Nat.beq n k with
    | true=>obtain rfl:=Nat.eq_of_beq_eq_true hb;rfl
    | false=>exact look_mapH f r k
theorem mapOb_fz (f:Nat→D α→D α) (x:Ob α):(mapOb f x).fz=x.fz:=by cases x<;>rfl
theorem cxOf_mapH (f:Nat→Nat→D α→D α) (g:Gh) (hs:Obs α) (w:World):cxOf g (mapH f hs) w=cxOf g hs w:=by
  unfold cxOf
  simp only [Cx.mk.injEq,true_and]
  refine ⟨?_,?_,?_⟩
  · funext b
    refine propext (or_congr Iff.rfl ⟨?_,?_⟩)
    · rintro ⟨o,ob,h1,h2,h3⟩
      rw [look_mapH] at h1
      obtain ⟨x,hx,rfl⟩:=Option.map_eq_some_iff.1 h1
      exact ⟨o,x,hx,by rwa [mapOb_fz] at h2,h3⟩
    · rintro ⟨o,ob,h1,h2,h3⟩
      exact ⟨o,mapOb (f o) ob,by rw [look_mapH,h1];rfl,by rw [mapOb_fz];exact h2,h3⟩
  · funext o
    rw [look_mapH]
    cases look hs o with
    | none=>rfl
    | some x=>cases x<;>rfl
  · funext o
    rw [look_mapH]
    cases look hs o with
    | none=>rfl
    | some x=>cases x<;>rfl
theorem Sim.turned {g:Gh} {tm:List (D α)} {hs:Obs α} {a:Act} {w:World} (h:Sim X g tm hs a w) (f:Nat→D α→D α) (F:Nat→Nat→D α→D α) (hb:∀t,f t .bad=.bad)
    (hf:∀t v,RG X.C (cxOf g hs w) a.tmps v (getT tm t)→RG X.C (cxOf g hs w) a.tmps v (f t (getT tm t))) (hF:∀n i v d,RD X.C (cxOf g hs w) v d→RD X.C (cxOf g hs w) v (F n i d)) :
    Sim X g (tm.mapIdx f) (mapH F hs) a w where
  size:=by rw [h.size];simp
  tm := fun t => by
    rw [cxOf_mapH]
    have e:getT (tm.mapIdx f) t=f t (getT tm t):=by
      have key:∀(l:List (D α)) (t:Nat) (f:Nat→D α→D α),(∀t,f t .bad=.bad)→getT (l.mapIdx f) t=f t (getT l t):=by
        intro l
        induction l with
        | nil=>intro t f hb;simp [getT,hb]
        | cons d r ih =>
          intro t f hb
          cases t with
          | zero=>simp [getT]
          | succ t =>
            simp only [List.mapIdx_cons,getT]
            exact ih t (fun i=>f (i+1)) (fun i=>hb (i+1))
      exact key tm t f hb
    rw [e]
    exact hf t _ (h.tm t)
  dfr:=h.dfr
  obs:=fun o ob ho=>by
    rw [cxOf_mapH]
    rw [look_mapH] at ho
    obtain ⟨x,hx,rfl⟩:=Option.map_eq_some_iff.1 ho
    have h0:=h.obs o x hx
    cases x with
    | box fz cs =>
      obtain ⟨b',cells,T,h1,h2,h3,h4,h5⟩:=h0
      refine ⟨b',cells,T,h1,h2,by simpa using h3,h4,fun i v c hv hc=>?_⟩
      rw [List.getElem?_mapIdx] at hc
      obtain ⟨c',hc',rfl⟩:=Option.map_eq_some_iff.1 hc
      exact hF o i v c' (h5 i v c' hv hc')
    | arr fz p=>exact h0
    | map fz p=>exact h0
  inj:=fun o o' ob ob' b h1 h2 h3 h4=>by
    rw [look_mapH] at h1 h2
    obtain ⟨x,hx,rfl⟩:=Option.map_eq_some_iff.1 h1
    obtain ⟨y,hy,rfl⟩:=Option.map_eq_some_iff.1 h2
    exact h.inj o o' x y b hx hy h3 h4
  own:=fun o ob b h1 h3=>by
    rw [look_mapH] at h1
    obtain ⟨x,hx,rfl⟩:=Option.map_eq_some_iff.1 h1
    exact h.own o x b hx h3
  below:=h.below
  av0:=h.av0
  lav:=h.lav
  top:=fun c b hc=>by
    obtain ⟨h1,h2,h3⟩:=h.top c b hc
    refine ⟨h1,h2,fun ob ho=>?_⟩
    rw [look_mapH] at ho
    obtain ⟨x,hx,rfl⟩:=Option.map_eq_some_iff.1 ho
    obtain ⟨k1,k2⟩:=h3 x hx
    refine ⟨k1,fun fz p e=>?_⟩
    cases x with
    | arr fz' p'=>exact k2 fz' p' rfl
    | box _ _=>simp [mapOb] at e
    | map _ _=>simp [mapOb] at e
  glob:=h.glob
theorem getT_mapIdx (f:Nat→D α→D α) (hb:∀t,f t .bad=.bad):∀(l:List (D α)) (t:Nat),getT (l.mapIdx f) t=f t (getT l t):=by
  intro l
  induction l generalizing f with
  | nil=>intro t;simp [getT,hb]
  | cons d r ih =>
    intro t
    cases t with
    | zero=>simp [getT]
    | succ t =>
      simp only [List.mapIdx_cons,getT]
      exact ih (fun i=>f (i+1)) (fun i=>hb (i+1)) t
inductive NilAt where
  | slot (t:Nat)
  | cell (b j:Nat)
def toArr (o:Nat):D α→D α
  | .nilS=>.arr o
  | d=>d
def nilT (N:NilAt) (o t:Nat) (d:D α):D α:=match N with
  | .slot t'=>bif Nat.beq t t' then toArr o d else d
  | .cell _ _=>d
def nilF (N:NilAt) (o n i:Nat) (d:D α):D α:=match N with
  | .slot _=>d
  | .cell b j=>bif Nat.beq n b&&Nat.beq i j then toArr o d else d
def isNilAt (N:NilAt) (S:St α):Bool:=match N with
  | .slot t=>(match getT S.tm t with
    | .nilS=>true
    | _=>false)
  | .cell b j=>(match look S.hs b with
    | some (.box _ cs)=>(match cs[j]? with
      | some .nilS=>true
      | _=>false)
    | _=>false)
def nil1 (C:Pay α) (x:NilAt×Nat×α) (S:St α):St α:=match look S.hs x.2.1 with
  | none=>bif isNilAt x.1 S&&(Nat.blt x.2.1 50000&&Nat.beq (C.len x.2.2) 0) then ⟨S.tm.mapIdx (nilT x.1 x.2.1),mapH (nilF x.1 x.2.1) ((x.2.1,.arr false x.2.2)::S.hs)⟩ else S
  | _=>S
def nilsS (C:Pay α):List (NilAt×Nat×α)→St α→St α
  | [],S=>S
  | x::r,S=>nilsS C r (nil1 C x S)
theorem toArr_rd {C:Pay α} {cx:Cx α} {o:Nat} {p:α} (ho:cx.ar o=some (none,p)) (hp:C.len p=0) {v:Value} {d:D α} (h:RD C cx v d):RD C cx v (toArr o d):=by
  cases d<;>first | exact h | (cases h;exact .arrN o p none ho hp)
theorem toArr_rg {C:Pay α} {cx:Cx α} {o:Nat} {p:α} (ho:cx.ar o=some (none,p)) (hp:C.len p=0) {tmps:Array Value} {v:Value} {d:D α} (h:RG C cx tmps v d):RG C cx tmps v (toArr o d):=by
  cases d<;>first | exact h | exact toArr_rd ho hp (show RD C cx v .nilS from h)
theorem Weak.nil1 (hX:XOk X) (x:NilAt×Nat×α) (S:St α):Weak X S (nil1 X.C x S):=by
  obtain ⟨N,o,p⟩:=x
  unfold Eng.nil1
  simp only
  cases hlo:look S.hs o with
  | some _=>exact Weak.refl S
  | none =>
    simp only
    cases hb:isNilAt N S&&(Nat.blt o 50000&&Nat.beq (X.C.len p) 0) with
    | false=>exact Weak.refl S
    | true =>
      simp only [Bool.and_eq_true] at hb
      have hp:X.C.len p=0:=Nat.eq_of_beq_eq_true hb.2.2
      intro g a w hS hK
      have h1:Sim X { g with rho:=bind1 g.rho o none } S.tm ((o,.arr false p)::S.hs) a w :=
        bind_new hX hS o hlo hb.2.1 p none w (BelowD.refl _ _) (fun b hb=>by simp at hb) hp
      have hcx:(cxOf { g with rho:=bind1 g.rho o none } ((o,.arr false p)::S.hs) w).ar o=some (none,p):=by
        simp [cxOf,look,Nat.beq_refl,bind1]
      refine ⟨_,h1.turned (nilT N o) (nilF N o) (fun t=>?_) (fun t v hr=>?_) (fun n i v d hr=>?_),fun t ks b e ht=>?_⟩
      · unfold nilT;cases N<;>simp only;cases Nat.beq t _<;>rfl
      · unfold nilT
        cases N with
        | slot t' =>
          simp only
          cases Nat.beq t t' with
          | false=>exact hr
          | true=>exact toArr_rg hcx hp hr
        | cell b j=>exact hr
      · unfold nilF
        cases N with
        | slot t'=>exact hr
        | cell b j =>
          simp only
          cases Nat.beq n b&&Nat.beq i j with
          | false=>exact hr
          | true=>exact toArr_rd hcx hp hr
      · have ht:getT (S.tm.mapIdx (nilT N o)) t=.gd ks b e:=ht
        rw [getT_mapIdx _ (fun t=>by unfold nilT;cases N<;>simp only;cases Nat.beq t _<;>rfl)] at ht
        refine hK t ks b e ?_
        unfold nilT at ht
        cases N with
        | slot t' =>
          simp only at ht
          cases hbt:Nat.beq t t' with
          | false=>rwa [hbt] at ht
          | true =>
            rw [hbt,cond_true] at ht
            cases hd:getT S.tm t<;>rw [hd] at ht<;>simp [toArr] at ht ⊢<;>exact ht
        | cell b j=>exact ht
theorem Weak.nils (hX:XOk X):∀(l:List (NilAt×Nat×α)) (S:St α),Weak X S (nilsS X.C l S)
  | [],S=>Weak.refl S
  | o::r,S=>(Weak.nil1 hX o S).trans (Weak.nils hX r _)
def calmQ (o:Nat) (d':D α):D α→D α
  | .ptr k 0=>bif Nat.beq k o then d' else .ptr k 0
  | d=>d
def calmP1 (C:Pay α) (o:Nat) (S:St α):St α:=match lend C S.hs 40 (.ptr o 0) with
  | some (d',ns)=>bif closed d' then ⟨S.tm.mapIdx (fun _=>calmQ o d'),mapH (fun _ _=>calmQ o d') (freeze S.hs ns)⟩ else S
  | none=>S
def calmPS (C:Pay α):List Nat→St α→St α
  | [],S=>S
  | o::r,S=>calmPS C r (calmP1 C o S)
theorem calmQ_rd {C:Pay α} {cx:Cx α} {o:Nat} {d':D α} (ho:∀v,RD C cx v (.ptr o 0)→RD C cx v d') {v:Value} {d:D α} (h:RD C cx v d):RD C cx v (calmQ o d' d):=by
  unfold calmQ
  split
  · rename_i k
    cases hb:Nat.beq k o with
    | false=>exact h
    | true=>obtain rfl:=Nat.eq_of_beq_eq_true hb;exact ho v h
  · exact h
theorem calmQ_rg {C:Pay α} {cx:Cx α} {o:Nat} {d':D α} (hc:closed d'=true) (ho:∀v,RD C cx v (.ptr o 0)→RD C cx v d') {tmps:Array Value} {v:Value} {d:D α} (h:RG C cx tmps v d):RG C cx tmps v (calmQ o d' d):=by
  cases d
  case gd=>exact h
  case ptr k f =>
    have hr:=calmQ_rd ho (show RD C cx v (.ptr k f) from h)
    cases f with
    | succ f=>exact h
    | zero =>
      simp only [calmQ] at hr ⊢
      cases hb:Nat.beq k o with
      | false=>exact h
      | true =>
        rw [hb,cond_true] at hr
        rw [cond_true]
        cases d'<;>first | exact hr | (unfold closed at hc;cases hc)
  all_goals exact h
theorem Weak.calmP1 (hX:XOk X) (o:Nat) (S:St α):Weak X S (calmP1 X.C o S):=by
  unfold Eng.calmP1
  split
  · rename_i d' ns hl
    cases hc:closed d' with
    | false=>exact Weak.refl S
    | true =>
      intro g a w hS hK
      have hs1:=(sim_freeze hX hS ns).1
      have hle:=(sim_freeze hX hS ns).2
      have hrd:∀v,RD X.C (cxOf g (freeze S.hs ns) w) v (.ptr o 0)→RD X.C (cxOf g (freeze S.hs ns) w) v d':=by
        intro v hv
        have hv0:RD X.C (cxOf g S.hs w) v (.ptr o 0):=by
          cases hv with
          | ptr _ _ b ho =>
            refine .ptr o 0 b ?_
            simp only [cxOf] at ho ⊢
            rw [look_freeze] at ho
            by_cases hm:o∈ns
            · rw [if_pos hm] at ho
              cases hlo:look S.hs o with
              | none=>rw [hlo] at ho;simp at ho
              | some x=>rw [hlo] at ho;cases x<;>first | exact ho | (simp [freezeOb] at ho)
            · rw [if_neg hm] at ho
              exact ho
        have hx0:=(lend_sound hX hS (avBut g S.hs w ns) avBut_av 40).1 (.ptr o 0) v d' ns hv0 hl avBut_ns
        exact RD.closedTo hX.pay (frozen_of_out hS) hc hx0
      refine ⟨g.rho,hs1.turned (fun _=>calmQ o d') (fun _ _=>calmQ o d') (fun _=>rfl) (fun t v hr=>calmQ_rg hc hrd hr) (fun n i v d hr=>calmQ_rd hrd hr),fun t ks b e ht=>?_⟩
      have ht:getT (S.tm.mapIdx (fun _=>calmQ o d')) t=.gd ks b e:=ht
      rw [getT_mapIdx _ (fun _=>rfl)] at ht
      refine hK t ks b e ?_
      revert ht
      unfold calmQ
      split
      · rename_i k hk
        cases Nat.beq k o with
        | false=>simp
        | true =>
          simp only [cond_true]
          intro ht
          rw [ht] at hc
          simp [closed] at hc
      · exact id
  · exact Weak.refl S
theorem Weak.calmP (hX:XOk X):∀(l:List Nat) (S:St α),Weak X S (calmPS X.C l S)
  | [],S=>Weak.refl S
  | o::r,S=>(Weak.calmP1 hX o S).trans (Weak.calmP hX r _)
def calmAD (o:Nat) (d':D α):D α→D α
  | .arr k=>bif Nat.beq k o then d' else .arr k
  | d=>d
def calmA1 (C:Pay α) (o:Nat) (S:St α):St α:=match lend C S.hs 40 (.arr o) with
  | some (d',ns)=>bif closed d' then ⟨S.tm.mapIdx (fun _=>calmAD o d'),mapH (fun _ _=>calmAD o d') (freeze S.hs ns)⟩ else S
  | none=>S
def calmAS (C:Pay α):List Nat→St α→St α
  | [],S=>S
  | o::r,S=>calmAS C r (calmA1 C o S)
theorem calmAD_rd {C:Pay α} {cx:Cx α} {o:Nat} {d':D α} (ho:∀v,RD C cx v (.arr o)→RD C cx v d') {v:Value} {d:D α} (h:RD C cx v d):RD C cx v (calmAD o d' d):=by
  unfold calmAD
  split
  · rename_i k
    cases hb:Nat.beq k o with
    | false=>exact h
    | true=>obtain rfl:=Nat.eq_of_beq_eq_true hb;exact ho v h
  · exact h
theorem calmAD_rg {C:Pay α} {cx:Cx α} {o:Nat} {d':D α} (hc:closed d'=true) (ho:∀v,RD C cx v (.arr o)→RD C cx v d') {tmps:Array Value} {v:Value} {d:D α} (h:RG C cx tmps v d):RG C cx tmps v (calmAD o d' d):=by
  cases d
  case gd=>exact h
  case arr k =>
    have hr:=calmAD_rd ho (show RD C cx v (.arr k) from h)
    simp only [calmAD] at hr ⊢
    cases hb:Nat.beq k o with
    | false=>exact h
    | true =>
      rw [hb,cond_true] at hr
      rw [cond_true]
      cases d'<;>first | exact hr | (unfold closed at hc;cases hc)
  all_goals exact h
theorem Weak.calmA1 (hX:XOk X) (o:Nat) (S:St α):Weak X S (calmA1 X.C o S):=by
  unfold Eng.calmA1
  split
  · rename_i d' ns hl
    cases hc:closed d' with
    | false=>exact Weak.refl S
    | true =>
      intro g a w hS hK
      have hs1:=(sim_freeze hX hS ns).1
      have hrd:∀v,RD X.C (cxOf g (freeze S.hs ns) w) v (.arr o)→RD X.C (cxOf g (freeze S.hs ns) w) v d':=by
        intro v hv
        have har:∀b p,(cxOf g (freeze S.hs ns) w).ar o=some (b,p)→(cxOf g S.hs w).ar o=some (b,p):=by
          intro b p ho
          simp only [cxOf] at ho ⊢
          rw [look_freeze] at ho
          by_cases hm:o∈ns
          · rw [if_pos hm] at ho
            cases hlo:look S.hs o with
            | none=>rw [hlo] at ho;simp at ho
            | some x=>rw [hlo] at ho;cases x<;>first | exact ho | (simp [freezeOb] at ho)
          · rw [if_neg hm] at ho
            exact ho
        have hv0:RD X.C (cxOf g S.hs w) v (.arr o):=by
          cases hv with
          | arrO _ b p n c ho hn hc hsz=>exact .arrO o b p n c (har _ _ ho) hn hc hsz
          | arrN _ p a ho hn=>exact .arrN o p a (har _ _ ho) hn
        have hx0:=(lend_sound hX hS (avBut g S.hs w ns) avBut_av 40).1 (.arr o) v d' ns hv0 hl avBut_ns
        exact RD.closedTo hX.pay (frozen_of_out hS) hc hx0
      refine ⟨g.rho,hs1.turned (fun _=>calmAD o d') (fun _ _=>calmAD o d') (fun _=>rfl) (fun t v hr=>calmAD_rg hc hrd hr) (fun n i v d hr=>calmAD_rd hrd hr),fun t ks b e ht=>?_⟩
      have ht:getT (S.tm.mapIdx (fun _=>calmAD o d')) t=.gd ks b e:=ht
      rw [getT_mapIdx _ (fun _=>rfl)] at ht
      refine hK t ks b e ?_
      revert ht
      unfold calmAD
      split
      · rename_i k hk
        cases Nat.beq k o with
        | false=>simp
        | true =>
          simp only [cond_true]
          intro ht
          rw [ht] at hc
          simp [closed] at hc
      · exact id
  · exact Weak.refl S
theorem Weak.calmA (hX:XOk X):∀(l:List Nat) (S:St α),Weak X S (calmAS X.C l S)
  | [],S=>Weak.refl S
  | o::r,S=>(Weak.calmA1 hX o S).trans (Weak.calmA hX r _)
def widD (p0:α):D α→D α
  | .nilS=>.pl p0 .any
  | .pl p _=>.pl p .any
  | d=>d
def widF (b j:Nat) (p0:α) (n i:Nat) (d:D α):D α:=bif Nat.beq n b&&Nat.beq i j then widD p0 d else d
def wid1 (C:Pay α) (x:Nat×Nat×α) (S:St α):St α:=bif Nat.beq (C.len x.2.2) 0 then ⟨S.tm,mapH (widF x.1 x.2.1 x.2.2) S.hs⟩ else S
def widS (C:Pay α):List (Nat×Nat×α)→St α→St α
  | [],S=>S
  | x::r,S=>widS C r (wid1 C x S)
theorem widD_rd {C:Pay α} {cx:Cx α} {p0:α} (hp:C.len p0=0) {v:Value} {d:D α} (h:RD C cx v d):RD C cx v (widD p0 d):=by
  unfold widD
  split
  · exact h.le (.nil _ hp)
  · exact h.le (.any _ _)
  · exact h
theorem mapIdx_id (l:List (D α)):l.mapIdx (fun _ d=>d)=l:=by
  apply List.ext_getElem?
  intro i
  rw [List.getElem?_mapIdx]
  cases l[i]?<;>rfl
theorem Weak.wid1 (hX:XOk X) (x:Nat×Nat×α) (S:St α):Weak X S (wid1 X.C x S):=by
  unfold Eng.wid1
  cases hb:Nat.beq (X.C.len x.2.2) 0 with
  | false=>exact Weak.refl S
  | true =>
    have hp:=Nat.eq_of_beq_eq_true hb
    intro g a w hS hK
    have h1:=hS.turned (fun _ d=>d) (widF x.1 x.2.1 x.2.2) (fun _=>rfl) (fun _ _ h=>h) (fun n i v d h=>by
      unfold widF
      cases Nat.beq n x.1&&Nat.beq i x.2.1 with
      | false=>exact h
      | true=>exact widD_rd hp h)
    rw [mapIdx_id] at h1
    exact ⟨g.rho,h1,hK⟩
theorem Weak.wid (hX:XOk X):∀(l:List (Nat×Nat×α)) (S:St α),Weak X S (widS X.C l S)
  | [],S=>Weak.refl S
  | o::r,S=>(Weak.wid1 hX o S).trans (Weak.wid hX r _)
def goneF (b j:Nat) (n i:Nat) (d:D α):D α:=bif Nat.beq n b&&Nat.beq i j then .bad else d
def goneS:List (Nat×Nat)→St α→St α
  | [],S=>S
  | x::r,S=>goneS r ⟨S.tm,mapH (goneF x.1 x.2) S.hs⟩
theorem Weak.gone1 (x:Nat×Nat) (S:St α):Weak X S ⟨S.tm,mapH (goneF x.1 x.2) S.hs⟩:=by
  intro g a w hS hK
  have h1:=hS.turned (fun _ d=>d) (goneF x.1 x.2) (fun _=>rfl) (fun _ _ h=>h) (fun n i v d h=>by
    unfold goneF
    cases Nat.beq n x.1&&Nat.beq i x.2 with
    | false=>exact h
    | true=>exact .bad _)
  rw [mapIdx_id] at h1
  exact ⟨g.rho,h1,hK⟩
theorem Weak.gone:∀(l:List (Nat×Nat)) (S:St α),Weak X S (goneS l S)
  | [],S=>Weak.refl S
  | x::r,S=>(Weak.gone1 x S).trans (Weak.gone r _)
structure Fix (α:Type) where
  calmp:List Nat:=[]
  calm:List Nat:=[]
  keep:List Nat
  lose:List Nat:=[]
  wid:List (Nat×Nat×α):=[]
  gone:List (Nat×Nat):=[]
  nils:List (NilAt×Nat×α):=[]
  can:List (Nat×Nat×Nat):=[]
  ord:List Nat:=[]
def ordX (l:List Nat) (S:St α):St α:=match l with
  | []=>S
  | k::r=>ordS (k::r) S
def fixS (C:Pay α) (F:Fix α) (S:St α):St α :=
  ordX F.ord (canS F.can (nilsS C F.nils (goneS F.gone (widS C F.wid (normS (keepOf F.keep) (keepOf F.lose) (calmAS C F.calm (calmPS C F.calmp S)))))))
theorem Weak.ordX (l:List Nat) (S:St α):Weak X S (ordX l S):=by
  cases l with
  | nil=>exact Weak.refl S
  | cons k r=>exact Weak.ord _ _
theorem Weak.fix (hX:XOk X) (F:Fix α) (S:St α):Weak X S (fixS X.C F S) :=
  (Weak.calmP hX _ S).trans ((Weak.calmA hX _ _).trans ((Weak.norm hX _ _ _).trans ((Weak.wid hX _ _).trans ((Weak.gone _ _).trans ((Weak.nils hX _ _).trans ((Weak.can hX _ _).trans (Weak.ordX _ _)))))))
end Go.Eng
