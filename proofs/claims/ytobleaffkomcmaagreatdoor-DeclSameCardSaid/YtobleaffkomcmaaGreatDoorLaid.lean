/-
  THE SEAT's VARIABLES: what the condition of the rows gives the engine; a world that meets it; the types of the arguments.
-/
import Derived.Test.YtobleaffkomcmaaGreatDoorDSame
import Derived.Test.YtobleaffkomcmaaGreatDoorEngZ
import Derived.Test.YtobleaffkomcmaaGreatDoorRows
namespace Go.Proofs.YtobleaffkomcmaaGreatDoor
open Go.Eng Go.RowKit Go.ChangeShapes Go.WideShapes
set_option maxRecDepth 100000
def laid9:List (String×DataW Unit):=[("math/bits.deBruijn32tab",Rows.laid_math_bits_deBruijn32tab),("math/bits.deBruijn64tab",Rows.laid_math_bits_deBruijn64tab),("internal/strconv.uint64pow10",Rows.laid_internal_strconv_uint64pow10),("strconv.ErrRange",Rows.laid_strconv_ErrRange),("strconv.ErrSyntax",Rows.laid_strconv_ErrSyntax),("surety/schema.number",Rows.laid_surety_schema_number),("surety/schema.texts",Rows.laid_surety_schema_texts),("surety/schema.ints",Rows.laid_surety_schema_ints),("surety/schema.list",Rows.laid_surety_schema_list),("surety/schema.tags",Rows.laid_surety_schema_tags),("surety/schema.maps",Rows.laid_surety_schema_maps)]
theorem ownKnobs:ownKnob Tryz.prog.godebug=none:=by kernel_rfl
theorem laidOut:laidOutB Tryz.prog=true:=by kernel_rfl
theorem laid_plain:(laid9.all fun x=>x.2.handleName?.isNone)=true:=by kernel_rfl
theorem glob_ok {W:World} (hL:laidMetH Tryz.prog laid9 W):GlobOk X0.C X0.glob W (fun _=>False):=by
  have hp:=laid_plain
  intro i cs h
  have h':glb i=some cs:=h
  unfold glb at h'
  split at h'<;>simp only [Option.some.injEq,reduceCtorEq] at h'<;>subst h'
  · exact glob_pair hp hL (n:="surety/schema.texts") (by simp [laid9,Rows.laid_surety_schema_texts]) (t:=50) (by kernel_rfl) (by kernel_rfl) Tryz.underlying50 (by kernel_rfl) (by kernel_rfl) rfl rfl (by kernel_rfl) (by kernel_rfl) rfl rfl _ (fun h=>h) (by kernel_rfl)
  · exact glob_pair hp hL (n:="surety/schema.number") (by simp [laid9,Rows.laid_surety_schema_number]) (t:=50) (by kernel_rfl) (by kernel_rfl) Tryz.underlying50 (by kernel_rfl) (by kernel_rfl) rfl rfl (by kernel_rfl) (by kernel_rfl) rfl rfl _ (fun h=>h) (by kernel_rfl)
  · exact glob_pair hp hL (n:="surety/schema.ints") (by simp [laid9,Rows.laid_surety_schema_ints]) (t:=50) (by kernel_rfl) (by kernel_rfl) Tryz.underlying50 (by kernel_rfl) (by kernel_rfl) rfl rfl (by kernel_rfl) (by kernel_rfl) rfl rfl _ (fun h=>h) (by kernel_rfl)
  · exact glob_pair hp hL (n:="surety/schema.tags") (by simp [laid9,Rows.laid_surety_schema_tags]) (t:=50) (by kernel_rfl) (by kernel_rfl) Tryz.underlying50 (by kernel_rfl) (by kernel_rfl) rfl rfl (by kernel_rfl) (by kernel_rfl) rfl rfl _ (fun h=>h) (by kernel_rfl)
  · exact glob_pair hp hL (n:="surety/schema.maps") (by simp [laid9,Rows.laid_surety_schema_maps]) (t:=50) (by kernel_rfl) (by kernel_rfl) Tryz.underlying50 (by kernel_rfl) (by kernel_rfl) rfl rfl (by kernel_rfl) (by kernel_rfl) rfl rfl _ (fun h=>h) (by kernel_rfl)
  · exact glob_pair hp hL (n:="surety/schema.list") (by simp [laid9,Rows.laid_surety_schema_list]) (t:=50) (by kernel_rfl) (by kernel_rfl) Tryz.underlying50 (by kernel_rfl) (by kernel_rfl) rfl rfl (by kernel_rfl) (by kernel_rfl) rfl rfl _ (fun h=>h) (by kernel_rfl)
  · exact glob_ifa hp hL (show ("strconv.ErrSyntax",Rows.laid_strconv_ErrSyntax)∈laid9 by simp [laid9]) (by kernel_rfl) (t:=236) (by kernel_rfl) Tryz.underlying236 _ id
  · exact glob_ifa hp hL (show ("strconv.ErrRange",Rows.laid_strconv_ErrRange)∈laid9 by simp [laid9]) (by kernel_rfl) (t:=236) (by kernel_rfl) Tryz.underlying236 _ id
theorem door_met (os:Os) (args:Array Value):laidMetH Tryz.prog laid9 ((World.doorLaid Tryz.prog 400 os).forCall (fun _ _=>0) ⟨#[],args,[]⟩).memory :=
  laidMetH_of_parts (laidMet_of_run' 8 (by kernel_rfl) (by kernel_rfl)) (by kernel_rfl)
section
variable {H:Type} {enc:TypeId×Value→H} {W:World}
theorem rds (n:Nat):RdAt enc Tryz.prog emp W n 9 fun ds=>∃s:Str,s.length≤reachBytes∧ds=[.str s]:=rd_str Tryz.underlying9 n
end
end Go.Proofs.YtobleaffkomcmaaGreatDoor
