/-
  TEXTS OF ADDRESSES: the document's Parse.
-/
import Derived.Test.YtlfohmdclcdejaaDoorAddrC
namespace Go.Proofs.YtlfohmdclcdejaaDoor
open Go.Eng
open Nu (parseV refParseV back isD dec_ok byt_get parse_eq dgs)

set_option maxRecDepth 100000

def finR (s : Str) (c : KeyR) : Option (D Pl) := bif (!(okA c)) == false then ck_ (smA c) (bif !(printV c == s) then zz else some (.tup [.agg (cAd c), dI 0])) else zz
def keyR (s : Str) (ty nm t : Str) : Option (D Pl) :=
  ck_ ((true && decide ((0 : Int) < (t.length : Int))) || !(decide ((t.length : Int) ≥ 3) == true)) (bif (bif decide ((t.length : Int) ≥ 3) then byt t 0 == 34 else false) then
    ck_ (slOk 1 (w6 ((t.length : Int) - 2)) t.length || false) (finR s ⟨ty, nm, .ofNat 2, .ofNat 0, sl t 1 (w6 ((t.length : Int) - 2)), .ofNat 0⟩)
    else bif decide ((t.length : Int) > 0) then ck_ (hdOk (w6 ((t.length : Int) - 1)) t.length || false) (finR s ⟨ty, nm, .ofNat 1, (refParseV (sl t 0 (w6 ((t.length : Int) - 1)))).1, [], .ofNat 0⟩)
    else finR s ⟨ty, nm, .ofNat 0, .ofNat 0, [], .ofNat 0⟩)
def bodyR (s : Str) (d o : Int) : Option (D Pl) := bif noC d o then zz else ck_ (hdOk d s.length || false) (ck_ (slOk (w6 (d + 1)) s.length s.length || false) (bif decide (o ≥ 0) then
    ck_ (slOk (w6 (d + 1)) o s.length || false) (ck_ (slOk (w6 (o + 1)) s.length s.length || false) (keyR s (sl s 0 d) (sl s (w6 (d + 1)) o) (sl s (w6 (o + 1)) s.length)))
    else finR s ⟨sl s 0 d, sl s (w6 (d + 1)) s.length, .ofNat 0, .ofNat 0, [], .ofNat 0⟩))

theorem e21p (s : Str) : evF (tPa tell0) noTL (atL 3 LS21 noL) 1 Tryd.f21 [.str s] = ck_ (Nat.ble s.length big) (bodyR s (fsI s 46 s.length) (fsI s 91 s.length)) := by kernel_rfl

end Go.Proofs.YtlfohmdclcdejaaDoor
