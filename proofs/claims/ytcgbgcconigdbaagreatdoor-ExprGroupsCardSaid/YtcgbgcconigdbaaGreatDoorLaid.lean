/-
 THE SEAT's VARIABLES: what the condition of the rows gives the engine; a world that meets it; the types of the arguments.
-/
import Derived.Test.YtcgbgcconigdbaaGreatDoorStep
import Derived.Test.YtcgbgcconigdbaaGreatDoorEngZ
import Derived.Test.YtcgbgcconigdbaaGreatDoorRows
namespace Go.Proofs.YtcgbgcconigdbaaGreatDoor
open Go.Eng Go.RowKit Go.ChangeShapes Go.WideShapes
set_option maxRecDepth 100000
def laid5:List (String×DataW Unit):=[("math/bits.deBruijn32tab",Rows.laid_math_bits_deBruijn32tab),("math/bits.deBruijn64tab",Rows.laid_math_bits_deBruijn64tab),("internal/strconv.uint64pow10",Rows.laid_internal_strconv_uint64pow10),("strconv.ErrRange",Rows.laid_strconv_ErrRange),("strconv.ErrSyntax",Rows.laid_strconv_ErrSyntax)]
theorem ownKnobs:ownKnob Tryz.prog.godebug=none:=by kernel_rfl
theorem laidOut:laidOutB Tryz.prog=true:=by kernel_rfl
theorem laid_plain:(laid5.all fun x=>x.2.handleName?.isNone)=true:=by kernel_rfl
theorem ifaN {C C':Pay Pl} {cx:Cx Pl} {v:Value} (h:RD C cx v (.ref [.ifa])):RD C' cx v (.ref [.ifa]):=by
 cases h with
 | ref b off _ vs hav hcell h1 hrd =>
  refine .ref b off _ vs hav hcell h1 fun i c hc=>?_
  have hr:=hrd i c hc
  match i with
  | 0 =>
   simp only [List.getElem?_cons_zero,Option.some.injEq] at hc
   subst hc
   generalize vs 0=u at hr ⊢
   cases hr with
   | ifa t u=>exact .ifa t u
  | i+1=>simp at hc
theorem strN {C C':Pay Pl} {cx cx':Cx Pl} {v:Value} {s:Str} (h:RD C cx v (.str s)):RD C' cx' v (.str s):=by
 cases h with
 | str s _ h hl=>exact .str s _ h hl
theorem intN {C C':Pay Pl} {cx cx':Cx Pl} {v:Value} {k:IntKind} {n:Int} (h:RD C cx v (.int k n)):RD C' cx' v (.int k n):=by
 cases h with
 | int _ _ h=>exact .int _ _ h
theorem glob_ok {W:World} (hL:laidMetH Tryz.prog laid5 W):GlobOk X0.C X0.glob W (fun _=>False):=by
 intro i cs h
 have h':glb i=some cs:=h
 unfold glb at h'
 split at h'<;>simp only [Option.some.injEq,reduceCtorEq] at h'<;>subst h'
 ·have:=glob_ifa (emp:=emp) (g:=1) laid_plain hL (show ("strconv.ErrSyntax",Rows.laid_strconv_ErrSyntax)∈laid5 by simp [laid5]) (by kernel_rfl) (t:=87) (by kernel_rfl) Tryz.underlying87 (fun _=>False) id
  exact ⟨ifaN this.1,this.2⟩
 ·have:=glob_ifa (emp:=emp) (g:=2) laid_plain hL (show ("strconv.ErrRange",Rows.laid_strconv_ErrRange)∈laid5 by simp [laid5]) (by kernel_rfl) (t:=87) (by kernel_rfl) Tryz.underlying87 (fun _=>False) id
  exact ⟨ifaN this.1,this.2⟩
theorem door_met (os:Os) (args:Array Value):laidMetH Tryz.prog laid5 ((World.doorLaid Tryz.prog 400 os).forCall (fun _ _=>0) ⟨#[],args,[]⟩).memory :=
 laidMetH_of_parts (laidMet_of_run' 8 (by kernel_rfl) (by kernel_rfl)) (by kernel_rfl)
section
variable {H:Type} {enc:TypeId×Value→H} {W:World}
theorem rds (n:Nat):RdAt enc Tryz.prog emp W n 9 fun ds=>∃s:Str,s.length≤reachBytes∧ds=[.str s]:=rd_str Tryz.underlying9 n
theorem rdu8 (n:Nat):RdAt enc Tryz.prog emp W n 5 fun ds=>∃i:Int,inR .u8 i=true∧ds=[.int .u8 i]:=rd_int Tryz.underlying5 n
end
end Go.Proofs.YtcgbgcconigdbaaGreatDoor
