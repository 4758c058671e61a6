/-
  THE SEAT's VARIABLES: what the condition of the rows gives the engine; a world that meets it; the types of the arguments.
-/
import Derived.Test.YtlnkjdedeegajaaGreatDoorLib
import Derived.Test.YtlnkjdedeegajaaGreatDoorEngZ
import Derived.Lib.Space
import Derived.Lay
import Derived.Test.YtlnkjdedeegajaaGreatDoorRows
namespace Go.Proofs.YtlnkjdedeegajaaGreatDoor
open Go.Eng Go.RowKit Go.ChangeShapes Go.WideShapes
set_option maxRecDepth 100000
def laid5:List (String×DataW Unit):=[("math/bits.deBruijn32tab",Rows.laid_math_bits_deBruijn32tab),("math/bits.deBruijn64tab",Rows.laid_math_bits_deBruijn64tab),("internal/strconv.uint64pow10",Rows.laid_internal_strconv_uint64pow10),("unicode/utf8.acceptRanges",Rows.laid_unicode_utf8_acceptRanges),("strconv.ErrRange",Rows.laid_strconv_ErrRange),("strconv.ErrSyntax",Rows.laid_strconv_ErrSyntax),("unicode.White_Space",Rows.laid_unicode_White_Space),("strings.asciiSpace",Rows.laid_strings_asciiSpace),("surety/sha.rounds",Rows.laid_surety_sha_rounds),("surety/sha.begin",Rows.laid_surety_sha_begin),("unicode/utf8.first",Rows.laid_unicode_utf8_first)]
theorem ownKnobs:ownKnob Tryz.prog.godebug=none:=by kernel_rfl
theorem laidOut:laidOutB Tryz.prog=true:=by kernel_rfl
theorem laid_plain:(laid5.all fun x=>x.2.handleName?.isNone)=true:=by kernel_rfl
theorem glob_ok {W:World} (hL:laidMetH Tryz.prog laid5 W):GlobOk X0.C X0.glob W (fun _=>False):=by
  intro i cs h
  have h':glb i=some cs:=h
  have m0:("strings.asciiSpace",(Lib.tabData .u8 Lib.asciiSpaceTab:DataW Unit))∈laid5:=by
    rw [show (Lib.tabData .u8 Lib.asciiSpaceTab:DataW Unit)=Rows.laid_strings_asciiSpace by kernel_rfl]
    simp [laid5]
  have hsp:spc=(Lib.asciiSpaceTab.map fun z=>(.int .u8 z:D Pl)):=by kernel_rfl
  unfold glb at h'
  split at h'<;>simp only [Option.some.injEq,reduceCtorEq] at h'<;>subst h'
  rw [hsp]
  exact glob_tab laid_plain hL m0 (by kernel_rfl) (t:=195) (by kernel_rfl) (m:=256) (e:=5) (by kernel_rfl) (by kernel_rfl) (by kernel_rfl) (by kernel_rfl) (by kernel_rfl) _ id
theorem met (os:Os) (args:Array Value):laidMetH Tryz.prog laid5 ((World.laidAll Tryz.prog os laid5).forCall (fun _ _=>0) ⟨#[],args,[]⟩).memory:=by
  rw [MakeChecks.laidMetH_plain _ _ _ laid_plain]
  exact laidMet_laidAll _ (by kernel_rfl) (by kernel_rfl)
theorem rdu8 {H:Type} {enc:TypeId×Value→H} {W:World} (n:Nat):RdAt enc Tryz.prog emp W n 5 fun ds=>∃i:Int,inR .u8 i=true∧ds=[.int .u8 i]:=rd_int Tryz.underlying5 n
end Go.Proofs.YtlnkjdedeegajaaGreatDoor
