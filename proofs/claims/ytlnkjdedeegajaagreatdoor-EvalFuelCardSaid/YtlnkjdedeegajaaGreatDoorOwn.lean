/-
  THE SAME RULES, where what a function hands back may be its own: contracts of that kind.
-/
import Derived.Test.YtlnkjdedeegajaaGreatDoorLib
namespace Go.Proofs.YtlnkjdedeegajaaGreatDoor
open Go.Eng
noncomputable def X1:Ctx Pl:={ X0 with own:=true }
theorem xok1:XOk X1:=⟨xok.pay,xok.plain,xok.mixed⟩
theorem sim1 {g:Gh} {tm:List (D Pl)} {hs:Obs Pl} {a:Act} {w:World}:Sim X1 g tm hs a w↔Sim X0 g tm hs a w :=
  ⟨fun h=>⟨h.size,h.tm,h.dfr,h.obs,h.inj,h.own,h.below,h.av0,h.lav,h.top,h.glob⟩,fun h=>⟨h.size,h.tm,h.dfr,h.obs,h.inj,h.own,h.below,h.av0,h.lav,h.top,h.glob⟩⟩
theorem goes1 {code:Code} {S S':St Pl} {e:Ex}:Goes X1 code S e S'↔Goes X0 code S e S' :=
  ⟨fun h g a w hS hK Q hQ=>h g a w (sim1.2 hS) hK Q fun rho' a' w' hS' hK'=>hQ rho' a' w' (sim1.1 hS') hK',
   fun h g a w hS hK Q hQ=>h g a w (sim1.1 hS) hK Q fun rho' a' w' hS' hK'=>hQ rho' a' w' (sim1.2 hS') hK'⟩
theorem loopOk1 {L:LK Pl} {b:Code} (h:LoopOk X0 L b):LoopOk X1 L b:=fun S c r h1 h2=>goes1.2 (h S c r h1 h2)
noncomputable abbrev evO (R:Eng.Told Pl) (L:LK Pl) (n:Nat) (fn:Func) (ds:List (D Pl)):Option (D Pl):=fnK X1 (callK X1 F0 R noTL n) L fn ds (fun d=>some d)
theorem snd_own {R:Eng.Told Pl} (hR:TOk R) {L:LK Pl} {n:Nat} {f:FuncId} {fn:Func} {ds:List (D Pl)} {d:D Pl} (hf:F0 f=some fn) (hL:∀code,fn.body=some code→∀b∈loopsOf code,LoopOk X0 L b)
    (h:evO R L n fn ds=some d):Snd f ds d:=by
  obtain ⟨e,he,hs⟩:=bodyK_sound (X:=X1) xok1 (F:=F0) (fun f fn h=>fok f fn h) (R0:=R) (fun f ds b d h hb=>hR f ds b d h hb) (TL:=noTL) (noTL_ok _ _) hf (fun code hc b hb=>loopOk1 (hL code hc b hb)) h
  simp only [Option.some.injEq] at he
  subst he
  exact hs
end Go.Proofs.YtlnkjdedeegajaaGreatDoor
