/-
  A SLICE THAT A WRITING FUNCTION HANDS BACK IN A BOX may be taken as one that is only read from then on.
-/
import Derived.Test.YtlnkjdedeegajaaGreatDoorEvM
namespace Go.Eng
open Go.RowKit
variable {α:Type} {X:Ctx α}
theorem calmA1_sim (hX:XOk X) (o:Nat) {S:St α} {g:Gh} {a:Act} {w:World} (hS:Sim X g S.tm S.hs a w):Sim X g (calmA1 X.C o S).tm (calmA1 X.C o S).hs a w:=by
  unfold Eng.calmA1
  split
  · rename_i d' ns hl
    cases hc:closed d' with
    | false=>exact hS
    | true =>
      have hs1:=(sim_freeze hX hS ns).1
      have hrd:∀v,RD X.C (cxOf g (freeze S.hs ns) w) v (.arr o)→RD X.C (cxOf g (freeze S.hs ns) w) v d':=by
        intro v hv
        have har:∀b p,(cxOf g (freeze S.hs ns) w).ar o=some (b,p)→(cxOf g S.hs w).ar o=some (b,p):=by
          intro b p ho
          simp only [cxOf] at ho ⊢
          rw [look_freeze] at ho
          by_cases hm:o∈ns
          · rw [if_pos hm] at ho
            cases hlo:look S.hs o with
            | none=>rw [hlo] at ho;simp at ho
            | some x=>rw [hlo] at ho;cases x<;>first | exact ho | (simp [freezeOb] at ho)
          · rw [if_neg hm] at ho
            exact ho
        have hv0:RD X.C (cxOf g S.hs w) v (.arr o):=by
          cases hv with
          | arrO _ b p n c ho hn hc hsz=>exact .arrO o b p n c (har _ _ ho) hn hc hsz
          | arrN _ p a ho hn=>exact .arrN o p a (har _ _ ho) hn
        have hx0:=(lend_sound hX hS (avBut g S.hs w ns) avBut_av 40).1 (.arr o) v d' ns hv0 hl avBut_ns
        exact RD.closedTo hX.pay (frozen_of_out hS) hc hx0
      exact hs1.turned (fun _=>calmAD o d') (fun _ _=>calmAD o d') (fun _=>rfl) (fun t v hr=>calmAD_rg hc hrd hr) (fun n i v d hr=>calmAD_rd hrd hr)
  · exact hS
end Go.Eng
namespace Go.Proofs.YtlnkjdedeegajaaGreatDoor
open Go.Eng
set_option maxRecDepth 100000
namespace Ev
theorem simC {g:Gh} {tm:List (D Pl)} {hs:Obs Pl} {a:Act} {w:World}:Sim (ctx0 X0.P X0.C X0.glob) g tm hs a w↔Sim X0 g tm hs a w :=
  ⟨fun h=>⟨h.size,h.tm,h.dfr,h.obs,h.inj,h.own,h.below,h.av0,h.lav,h.top,h.glob⟩,fun h=>⟨h.size,h.tm,h.dfr,h.obs,h.inj,h.own,h.below,h.av0,h.lav,h.top,h.glob⟩⟩
def is5 (n:Nat):Bool:=Nat.beq n 100000
theorem calm_N (N:List BindR) (m:MR):killH is5 (dropA is5 (calmA1 X0.C 100000 ⟨[],decH (osN N m)⟩).hs)=decH (osP N m):=by kernel_rfl
theorem toP {f:FuncId} {H:Obs Pl} {ds:List (D Pl)} {d:D Pl} {N:List BindR} {m:MR} (hd:closed d=true) (h:SndM f H ds d (decH (osN N m))):SndM f H ds d (decH (osP N m)):=by
  intro g vs hg hS hsz hr
  refine (h g vs hg hS hsz hr).mono fun v w' ⟨rho',h1,h2,h3⟩=>⟨rho',simC.2 ?_,RD.closedTo (cx:=cxOf { g with rho:=rho' } (decH (osN N m)) w') (cx':=cxOf { g with rho:=rho' } (decH (osP N m)) w') xok.pay ⟨fun b ob _ hb=>hb,fun b ob hb hav hav'=>?_,fun _ _ h=>by simp at h,fun _ _ _ h=>by simp at h,fun b cells T fz hb=>⟨cells,T,fz,hb,rfl⟩⟩ hd h2,fun c ob hc ho=>?_⟩
  · have k1:=calmA1_sim xok 100000 (S:=⟨[],decH (osN N m)⟩) (simC.1 h1)
    have k2:=k1.forget xok is5
    rw [←calm_N N m]
    exact k2
  · rcases hav' with h0 | ⟨o,ob',hl,hf,hro⟩
    · exact hav (.inl h0)
    · refine hav (.inr ?_)
      have hl':Eng.look [(50000,Ob.box false (cMs (.pl (pBinds N) .any) m))] o=some ob':=hl
      simp only [Eng.look] at hl'
      cases ho:Nat.beq 50000 o with
      | false=>rw [ho] at hl';simp at hl'
      | true =>
        have:=Nat.eq_of_beq_eq_true ho
        subst this
        exact ⟨50000,.box false (cMs (.arr 100000) m),rfl,rfl,hro⟩
  · obtain ⟨e1,ob',h4,h5⟩:=h3 c ob hc ho
    refine ⟨e1,?_⟩
    have h4':Eng.look [(50000,Ob.box false (cMs (.arr 100000) m)),(100000,Ob.arr false (pBinds N))] c=some ob':=h4
    cases hb:Nat.beq 50000 c with
    | true =>
      have:=Nat.eq_of_beq_eq_true hb
      subst this
      exact ⟨.box false (cMs (.pl (pBinds N) .any) m),rfl,fun _ _ h=>by cases h⟩
    | false =>
      simp only [Eng.look,hb,cond_false] at h4'
      cases hb2:Nat.beq 100000 c with
      | false=>rw [hb2] at h4';simp at h4'
      | true=>have:=Nat.eq_of_beq_eq_true hb2;subst this;simp at hc
end Ev
end Go.Proofs.YtlnkjdedeegajaaGreatDoor
