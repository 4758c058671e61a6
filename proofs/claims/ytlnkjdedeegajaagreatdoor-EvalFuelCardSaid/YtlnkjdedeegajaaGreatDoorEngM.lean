/-
  THE ENGINE, PART M: SLICES, CONVERSIONS, LITERALS OF SLICES, CALLS.
-/
import Derived.Test.YtlnkjdedeegajaaGreatDoorEngL
namespace Go.Eng
open Go.RowKit
variable {α:Type}
section
variable {X:Ctx α} (hX:XOk X) {g:Gh} {tm:List (D α)} {hs:Obs α} {a:Act} {w:World} (hS:Sim X g tm hs a w)
def avBut (g:Gh) (hs:Obs α) (w:World) (ns:List Nat) (b:Nat):Prop:=(cxOf g hs w).av b∧∀o ob,o∈ns→look hs o=some ob→g.rho o≠some b
theorem avBut_av {ns:List Nat}:∀b,avBut g hs w ns b→(cxOf g hs w).av b:=fun _ h=>h.1
theorem avBut_ns {ns:List Nat}:∀o ob b,o∈ns→look hs o=some ob→g.rho o=some b→¬ avBut g hs w ns b:=fun o ob _ ho hl hr h=>h.2 o ob ho hl hr
include hS in
theorem frozen_of_out {C:Pay α} {ns:List Nat} {w':World}:CxLe C (fun _=>true) (cx0 w' (avBut g hs w ns):Cx α) (cxOf g (freeze hs ns) w') where
  cell:=fun _ _ _ h=>h
  av := fun b _ _ hav hav' => by
    rcases hav' with h0 | ⟨o,ob,hl,hf,hr⟩
    · exact hav ⟨.inl h0,fun o ob ho hl hr=>hS.not0 hl hr h0⟩
    · rw [look_freeze] at hl
      by_cases hm:o∈ns
      · rw [if_pos hm] at hl
        obtain ⟨y,_,rfl⟩:=Option.map_eq_some_iff.1 hl
        cases y<;>simp [freezeOb,Ob.fz] at hf
      · rw [if_neg hm] at hl
        refine hav ⟨.inr ⟨o,ob,hl,hf,hr⟩,fun o' ob' ho' hl' hr'=>?_⟩
        exact hm (by rw [hS.inj o o' ob ob' b hl hl' hr hr'];exact ho')
  bx:=fun _ _ h=>by simp at h
  ar:=fun _ _ _ h=>by simp at h
  size:=fun _ cells T fz h=>⟨cells,T,fz,h,rfl⟩
theorem optI_sound {C:Pay α} {cx:Cx α} {l:Option (D α)} {vl:Option Value} (hr:∀d v,l=some d→vl=some v→RD C cx v d) (hs:l.isSome=vl.isSome) {z i:Int} (h:optI l z=some i) :
    (vl=none∧i=z)∨∃k,vl=some (.int k i):=by
  cases l with
  | none =>
    cases vl with
    | none=>simp only [optI,Option.some.injEq] at h;exact .inl ⟨rfl,h.symm⟩
    | some v=>simp at hs
  | some d =>
    cases vl with
    | none=>simp at hs
    | some v =>
      have:=hr d v rfl rfl
      cases d<;>simp only [optI,reduceCtorEq] at h
      simp only [Option.some.injEq] at h
      subst h
      cases this
      exact .inr ⟨_,rfl⟩
theorem run_bounds2 {P:Program} (w:World) (isSlice:Bool) {len cap:Nat} {lo hi:Option Value} {x y:Int}
    (hlo:(lo=none∧x=0)∨∃k,lo=some (.int k x)) (hhi:(hi=none∧y=len)∨∃k,hi=some (.int k y)) (h0:0≤x) (h1:x≤y) (h2:y≤len) (hc:len≤cap) :
    (Instr.sliceBounds isSlice len cap lo hi none).run P w=.ok (x.toNat,y.toNat,cap) w:=by
  obtain ⟨x,rfl⟩:=Int.eq_ofNat_of_zero_le h0
  obtain ⟨y,rfl⟩:=Int.eq_ofNat_of_zero_le (by omega:0≤y)
  have hb:∀(k:IntKind) (n m:Nat) (code:BoundsCode),n≤m→(Instr.sliceBound (.int k n) m code).run P w=.ok n w:=by
    intro k n m code h
    simp [Instr.sliceBound,asIntOf,h]
  have hy:y≤cap:=by omega
  rcases hlo with ⟨rfl,hx⟩ | ⟨k,rfl⟩<;>rcases hhi with ⟨rfl,hy'⟩ | ⟨k',rfl⟩
  · have:x=0:=by omega
    have:y=len:=by omega
    subst_vars;simp [Instr.sliceBounds]
  · have:x=0:=by omega
    subst this;simp [Instr.sliceBounds,hb _ _ _ _ hy]
  · have:y=len:=by omega
    subst this;simp [Instr.sliceBounds,hb _ _ _ _ (by omega:x≤y)]
  · simp [Instr.sliceBounds,hb _ _ _ _ hy,hb _ _ _ _ (by omega:x≤y)]
theorem run_bounds3 {P:Program} (w:World) {len cap:Nat} {lo:Option Value} {k k':IntKind} {x y:Int}
    (hlo:(lo=none∧x=0)∨∃k,lo=some (.int k x)) (h0:0≤x) (h1:x≤y) (h2:y≤len) (hc:len≤cap) :
    (Instr.sliceBounds true len cap lo (some (.int k y)) (some (.int k' y))).run P w=.ok (x.toNat,y.toNat,y.toNat) w:=by
  obtain ⟨x,rfl⟩:=Int.eq_ofNat_of_zero_le h0
  obtain ⟨y,rfl⟩:=Int.eq_ofNat_of_zero_le (by omega:0≤y)
  have hb:∀(k:IntKind) (n m:Nat) (code:BoundsCode),n≤m→(Instr.sliceBound (.int k n) m code).run P w=.ok n w:=by
    intro k n m code h
    simp [Instr.sliceBound,asIntOf,h]
  have hy:y≤cap:=by omega
  rcases hlo with ⟨rfl,hx⟩ | ⟨k,rfl⟩
  · have:x=0:=by omega
    subst this;simp [Instr.sliceBounds,hb _ _ _ _ hy,hb _ _ _ _ (Nat.le_refl y)]
  · simp [Instr.sliceBounds,hb _ _ _ _ hy,hb _ _ _ _ (Nat.le_refl y),hb _ _ _ _ (by omega:x≤y)]
theorem run_bounds2c {P:Program} (w:World) {len cap:Nat} {lo hi:Option Value} {x y:Int}
    (hlo:(lo=none∧x=0)∨∃k,lo=some (.int k x)) (hhi:(hi=none∧y=len)∨∃k,hi=some (.int k y)) (h0:0≤x) (h1:x≤y) (h2:y≤cap) :
    (Instr.sliceBounds true len cap lo hi none).run P w=.ok (x.toNat,y.toNat,cap) w:=by
  obtain ⟨x,rfl⟩:=Int.eq_ofNat_of_zero_le h0
  obtain ⟨y,rfl⟩:=Int.eq_ofNat_of_zero_le (by omega:0≤y)
  have hb:∀(k:IntKind) (n m:Nat) (code:BoundsCode),n≤m→(Instr.sliceBound (.int k n) m code).run P w=.ok n w:=by
    intro k n m code h
    simp [Instr.sliceBound,asIntOf,h]
  have hy:y≤cap:=by omega
  rcases hlo with ⟨rfl,hx⟩ | ⟨k,rfl⟩<;>rcases hhi with ⟨rfl,hy'⟩ | ⟨k',rfl⟩
  · have:x=0:=by omega
    have:y=len:=by omega
    subst_vars;simp [Instr.sliceBounds]
  · have:x=0:=by omega
    subst this;simp [Instr.sliceBounds,hb _ _ _ _ hy]
  · have:y=len:=by omega
    subst this;simp [Instr.sliceBounds,hb _ _ _ _ (by omega:x≤y)]
  · simp [Instr.sliceBounds,hb _ _ _ _ hy,hb _ _ _ _ (by omega:x≤y)]
theorem extract_data (s:ByteArray) (i j:Nat):(s.extract i j).data.toList=(s.data.toList.drop i).take (j - i):=by
  have:s=ByteArray.mk s.data.toList.toArray:=by simp
  rw [this,ByteArray.extract_mk]
theorem slice_pl {C:Pay α} (hC:PayOk C) {cx:Cx α} {ad:Option Addr} {n c:Nat} {p:α} {k k':SK} (h:RD C cx (.slice ad n c) (.pl p k)) {x y m:Nat} (h1:x≤y) (h2:y≤C.len p) (hm:y≤m)
    (hk':k'=.any∨(k'=.full∧m=y)) :
    RD C cx (.slice (if m=x then ad else ad.map (·.add (x * C.esz p))) (y - x) (m - x)) (.pl (C.cut p x (y - x)) k'):=by
  obtain ⟨c1,c2,c3,c4⟩:=hC.cut p x (y - x) (by omega)
  have hkk:∀ad',okK k' ad' (y - x) (m - x):=by
    intro ad'
    rcases hk' with rfl | ⟨rfl,rfl⟩
    · trivial
    · rfl
  have hns:isSp k'=false:=by rcases hk' with rfl | ⟨rfl,_⟩<;>rfl
  have hnsp:∀w p b off n c,SpOk C w p k' b off n c:=by intro w p b off n c;rcases hk' with rfl | ⟨rfl,_⟩<;>exact True.intro
  by_cases h0:y - x=0
  · rw [h0] at c1 hkk ⊢
    exact .pl0 _ _ _ _ c1 (hkk _) hns
  · cases h with
    | pl0 _ _ _ _ hl hk=>omega
    | pl b off _ _ _ _ vs hn hc hb hk hav hcell h1c hrd =>
      have hne:¬ m=x:=by omega
      rw [if_neg hne]
      simp only [Option.map_some,add_zero']
      refine .pl b _ _ _ _ _ (fun i j=>vs (x+i) j) c1.symm (by omega) ?_ (hkk _) hav (fun i j d hi hd=>?_) (fun i j d hi hd=>?_) (fun i j d hi hd=>?_) (hnsp _ _ _ _ _ _)
      · rw [c3];exact Nat.le_trans (Nat.mul_le_mul_right _ (by omega)) hb
      · rw [c4 i hi] at hd
        have:=hcell (x+i) j d (by omega) hd
        rw [c2]
        rw [Nat.add_mul] at this
        rw [←this]
        congr 2;omega
      · rw [c4 i hi] at hd;exact h1c (x+i) j d (by omega) hd
      · rw [c4 i hi] at hd;exact hrd (x+i) j d (by omega) hd
theorem spare_pl {C:Pay α} (hC:PayOk C) {cx:Cx α} {ad:Option Addr} {n c:Nat} {p q r:α} {t:TypeId} {x:UInt8} {s:List UInt8} (h:RD C cx (.slice ad n c) (.pl p (.spare (x::s)))) (hq:C.ofBytes t (x::s)=some q) (hr:C.cat p q=some r) :
    RD C cx (.slice ad (C.len r) c) (.pl r .any)∧C.len r≤c∧n=C.len p:=by
  obtain ⟨r1,r2,r3,r4,r5,r6⟩:=hC.cat p q r hr
  obtain ⟨q1,q2,q3⟩:=hC.bytes q _ (hC.ofBytes t _ q hq).1
  cases h with
  | pl0 _ _ _ _ hl hk hsp=>simp [isSp] at hsp
  | pl b off _ _ _ _ vs hn hc hb hk hav hcell h1 hrd hsp =>
    obtain ⟨s1,s2,s3,s4⟩:=hsp
    have hlen:C.len r=n+(x::s).length:=by rw [r1,q1,hn]
    have hlt:∀i,¬ i < n→i < C.len r→i - n < (x::s).length:=by intro i h1 h2;omega
    have hel:∀i (h1:¬ i < n) (h2:i < C.len r),C.elem r i=[.int .u8 ((x::s)[i - n]'(hlt i h1 h2)).toNat]:=by
      intro i h1 h2
      have:=r6 (i - n) (by rw [q1];exact hlt i h1 h2)
      rw [show C.len p+(i - n)=i by omega] at this
      rw [this]
      exact q3 _ (hlt i h1 h2)
    refine ⟨.pl b off _ _ _ .any (fun i j=>if i < n then vs i j else .int .u8 (((x::s)[i - n]?).getD 0).toNat) rfl (by omega) (by rw [hlen,r3];exact s2) trivial hav (fun i j d hi hd=>?_) (fun i j d hi hd=>?_) (fun i j d hi hd=>?_),by omega,hn⟩
    · by_cases hin:i < n
      · rw [r5 i (by omega)] at hd
        simp only [hin,if_true]
        rw [r2]
        exact hcell i j d hin hd
      · have hd':=hd
        rw [hel i hin hi] at hd'
        have hj:j=0:=by
          cases j with
          | zero=>rfl
          | succ j=>simp at hd'
        subst hj
        simp only [hin,if_false]
        have:=s4 (i - n) (hlt i hin hi)
        rw [r2,s3,List.getElem?_eq_getElem (hlt i hin hi)]
        simp only [Option.getD_some]
        rw [←this]
        congr 2
        omega
    · by_cases hin:i < n
      · rw [r5 i (by omega)] at hd
        simp only [hin,if_true]
        exact h1 i j d hin hd
      · simp only [hin,if_false];rfl
    · by_cases hin:i < n
      · rw [r5 i (by omega)] at hd
        simp only [hin,if_true]
        exact hrd i j d hin hd
      · have hd':=hd
        rw [hel i hin hi] at hd'
        have hj:j=0:=by
          cases j with
          | zero=>rfl
          | succ j=>simp at hd'
        subst hj
        simp only [List.getElem?_cons_zero,Option.some.injEq] at hd'
        subst hd'
        simp only [hin,if_false]
        rw [List.getElem?_eq_getElem (hlt i hin hi)]
        simp only [Option.getD_some]
        exact .int _ _ (inR_u8 _)
theorem slice_sp {C:Pay α} (hC:PayOk C) {cx:Cx α} {ad:Option Addr} {n c:Nat} {p:α} {s:List UInt8} (h:RD C cx (.slice ad n c) (.pl p .any)) (hs:C.bytes p=some s) {y:Nat} (h2:y≤C.len p) (hnc:n≤c) :
    RD C cx (.slice (if c=0 then ad else ad.map (·.add (0 * C.esz p))) (y - 0) (c - 0)) (.pl (C.cut p 0 (y - 0)) (.spare (s.drop y))):=by
  obtain ⟨q1,q2,q3⟩:=hC.bytes p _ hs
  obtain ⟨c1,c2,c3,c4⟩:=hC.cut p 0 (y - 0) (by omega)
  cases h with
  | pl0 _ _ _ _ hl hk =>
    have hy:y=0:=by omega
    subst hy
    have hs0:s=[]:=List.length_eq_zero_iff.1 (by omega)
    subst hs0
    exact .pl0 _ _ _ _ c1 trivial rfl
  | pl b off _ _ _ _ vs hn hc hb hk hav hcell h1c hrd =>
    have hel:∀i (h:i < n),C.elem p i=[.int .u8 (s[i]'(by omega)).toNat]:=fun i h=>q3 i (by omega)
    have hv:∀i (h:i < n),vs i 0=.int .u8 (s[i]'(by omega)).toNat:=by
      intro i h
      have:=hrd i 0 _ h (by rw [hel i h];rfl)
      generalize vs i 0=u at this ⊢
      cases this
      rfl
    have hlast:RD C cx (.slice (some ⟨b,off,none⟩) y c) (.pl (C.cut p 0 (y - 0)) (.spare (s.drop y))):=by
      refine .pl b off y c _ _ vs (by rw [c1];omega) (by omega) ?_ trivial hav (fun i j d hi hd=>?_) (fun i j d hi hd=>?_) (fun i j d hi hd=>?_) ⟨?_,?_,?_,fun i h=>?_⟩
      · rw [c3];exact Nat.le_trans (Nat.mul_le_mul_right _ (by omega)) hb
      · rw [c4 i (by omega),Nat.zero_add] at hd
        rw [c2];exact hcell i j d (by omega) hd
      · rw [c4 i (by omega),Nat.zero_add] at hd
        exact h1c i j d (by omega) hd
      · rw [c4 i (by omega),Nat.zero_add] at hd
        exact hrd i j d (by omega) hd
      · rw [List.length_drop];omega
      · rw [List.length_drop,c3];exact Nat.le_trans (Nat.mul_le_mul_right _ (by omega)) hb
      · rw [c2];exact q2
      · rw [List.length_drop] at h
        have hi:y+i < n:=by omega
        have:=hcell (y+i) 0 _ hi (by rw [hel _ hi];rfl)
        rw [hv _ hi,q2] at this
        rw [List.getElem_drop,←this]
        congr 2
        omega
    by_cases h0:c=0
    · rw [if_pos h0];exact hlast
    · rw [if_neg h0]
      simp only [Option.map_some,Nat.zero_mul,add_zero',Nat.sub_zero] at hlast ⊢
      exact hlast
theorem sliceAt_slice {P:Program} (w:World) {t:TypeId} {d:TypeDesc} (hu:P.underlying t=some d) (hd:∀n e,d≠.array n e) (x:Value) (lo hi mx:Option Value) :
    (Instr.sliceAt t x lo hi mx).run P w=(Instr.slice t x lo hi mx).run P w:=by
  unfold Instr.sliceAt
  simp only [Sem.run_bind,run_underlying hu,Result.andThen_ok]
include hX hS in
theorem sliceD_sound (t:TypeId) (x:D α) (vx:Value) (l h m:Option (D α)) (vl vh vm:Option Value) (hx:RD X.C (cxOf g hs w) vx x)
    (hl:∀d v,l=some d→vl=some v→RD X.C (cxOf g hs w) v d) (hl':l.isSome=vl.isSome) (hh:∀d v,h=some d→vh=some v→RD X.C (cxOf g hs w) v d) (hh':h.isSome=vh.isSome)
    (hm:∀d v,m=some d→vm=some v→RD X.C (cxOf g hs w) v d) (hm':m.isSome=vm.isSome) (r:Res α) (hr:sliceD X hs tm t x l h m=r) (hok:r.ok=true) :
    ∃v,(Instr.sliceAt t vx vl vh vm).run X.P w=.ok v w∧OpOut X g tm hs a r v w:=by
  have hno:(Res.no:Res α).ok=true→False:=by simp [Res.no]
  unfold sliceD at hr
  split at hr
  · rename_i s hu
    have hvm:vm=none:=by cases vm<;>simp_all
    subst hvm
    split at hr
    · rename_i i j hi hj
      subst hr
      simp only [Res.if,Bool.and_eq_true,decide_eq_true_eq] at hok
      obtain ⟨⟨h0,h1⟩,h2⟩:=hok
      cases hx with | str s' _ hs' hbig =>
      have hlen:s'.size=s.length:=by rw [size_len,hs']
      have hb:=run_bounds2 (P:=X.P) w false (len:=s'.size) (cap:=s'.size) (optI_sound hl hl' hi) (by rw [hlen];exact optI_sound hh hh' hj) h0 h1 (by rw [hlen];exact h2) (Nat.le_refl _)
      refine ⟨.string (s'.extract i.toNat j.toNat),?_,OpOut.pure hX hS rfl (.str _ _ ?_ ?_)⟩
      · rw [sliceAt_slice w hu (by simp)]
        simp [Instr.slice,run_underlying hu,hb]
      · rw [extract_data,hs']
      · simp only [List.length_take,List.length_drop];omega
    · subst hr;exact (hno hok).elim
  · rename_i e hu
    have hvm:vm=none:=by cases vm<;>simp_all
    subst hvm
    split at hr
    · rename_i n i j hn hi hj
      subst hr
      simp only [Res.if,Bool.and_eq_true,beq_iff_eq] at hok
      obtain ⟨rfl,rfl⟩:=hok
      cases hx
      have hb:=run_bounds2 (P:=X.P) w true (len:=0) (cap:=0) (optI_sound hl hl' hi) (optI_sound hh hh' hj) (by omega) (by omega) (by omega) (Nat.le_refl _)
      refine ⟨.slice none 0 0,?_,OpOut.pure hX hS rfl .nilS⟩
      rw [sliceAt_slice w hu (by simp)]
      simp [Instr.slice,run_underlying hu,run_sizeOf' X.P w hn,hb]
    · subst hr;exact (hno hok).elim
  · rename_i e k c hu
    split at hr
    · rename_i n i kb j hn hi
      subst hr
      simp only [Res.if,Bool.and_eq_true,beq_iff_eq] at hok
      obtain ⟨⟨rfl,rfl⟩,rfl⟩:=hok
      cases hx
      obtain ⟨vh',rfl⟩:∃v,vh=some v:=by cases vh with | none=>simp at hh' | some v=>exact ⟨v,rfl⟩
      obtain ⟨vm',rfl⟩:∃v,vm=some v:=by cases vm with | none=>simp at hm' | some v=>exact ⟨v,rfl⟩
      have e1:=hh _ _ rfl rfl
      have e2:=hm _ _ rfl rfl
      cases e1
      cases e2
      have hb:=run_bounds3 (P:=X.P) w (len:=0) (cap:=0) (k:=kb) (k':=k) (x:=0) (y:=0) (optI_sound hl hl' hi) (by omega) (by omega) (by omega) (Nat.le_refl _)
      refine ⟨.slice none 0 0,?_,OpOut.pure hX hS rfl .nilS⟩
      rw [sliceAt_slice w hu (by simp)]
      simp [Instr.slice,run_underlying hu,run_sizeOf' X.P w hn,hb]
    · subst hr;exact (hno hok).elim
  · rename_i e p k hu
    have hvm:vm=none:=by cases vm<;>simp_all
    subst hvm
    split at hr
    · rename_i n i j hn hi hj
      split at hr
      · rename_i r0 hsp
        subst hr
        simp only [Res.if,Bool.and_eq_true,decide_eq_true_eq] at hok
        obtain ⟨⟨⟨hn1,h0⟩,h1⟩,h2⟩:=hok
        obtain rfl:=Nat.eq_of_beq_eq_true hn1
        unfold spareD at hsp
        split at hsp
        · split at hsp
          · rename_i x s q hq
            obtain ⟨ad,nn,c,rfl⟩:∃ad nn c,vx=.slice ad nn c:=by
              cases hx with
              | pl0 ad c _ _ hl hk=>exact ⟨ad,0,c,rfl⟩
              | pl b off nn c _ _ vs hn hc _ _ _ _ _ _=>exact ⟨_,nn,c,rfl⟩
            obtain ⟨hx1,hc,hnn⟩:=spare_pl hX.pay hx hq hsp
            have hesz:=(hX.pay.cat p q r0 hsp).2.1
            have hb:=run_bounds2c (P:=X.P) w (len:=nn) (cap:=c) (optI_sound hl hl' hi) (by rw [hnn];exact optI_sound hh hh' hj) h0 h1 (by omega)
            refine ⟨_,?_,OpOut.pure hX hS rfl (slice_pl hX.pay hx1 (x:=i.toNat) (y:=j.toNat) (m:=c) (by omega) (by omega) (by omega) (.inl rfl))⟩
            rw [sliceAt_slice w hu (by simp),hesz]
            simp [Instr.slice,run_underlying hu,run_sizeOf' X.P w hn,hb]
          · simp at hsp
        · simp at hsp
      subst hr
      simp only [Res.if,Bool.and_eq_true,decide_eq_true_eq] at hok
      obtain ⟨⟨⟨hn1,h0⟩,h1⟩,h2⟩:=hok
      obtain rfl:=Nat.eq_of_beq_eq_true hn1
      obtain ⟨ad,nn,c,rfl,hnn,hc⟩:∃ad nn c,vx=.slice ad nn c∧nn=X.C.len p∧nn≤c:=by
        cases hx with
        | pl0 ad c _ _ hl hk=>exact ⟨ad,0,c,rfl,hl.symm,Nat.zero_le _⟩
        | pl b off nn c _ _ vs hn hc _ _ _ _ _ _=>exact ⟨_,nn,c,rfl,hn,hc⟩
      have hb:=run_bounds2 (P:=X.P) w true (len:=nn) (cap:=c) (optI_sound hl hl' hi) (by rw [hnn];exact optI_sound hh hh' hj) h0 h1 (by omega) hc
      refine ⟨_,?_,OpOut.pure hX hS rfl (slice_pl hX.pay hx (x:=i.toNat) (y:=j.toNat) (m:=c) (by omega) (by omega) (by omega) (.inl rfl))⟩
      rw [sliceAt_slice w hu (by simp)]
      simp [Instr.slice,run_underlying hu,run_sizeOf' X.P w hn,hb]
    · subst hr;exact (hno hok).elim
  · rename_i e p k k' c0 hu
    split at hr
    · rename_i n i kb j hn hi
      subst hr
      simp only [Res.if,Bool.and_eq_true,decide_eq_true_eq,beq_iff_eq] at hok
      obtain ⟨⟨⟨⟨hn1,h0⟩,h1⟩,h2⟩,rfl⟩:=hok
      obtain rfl:=Nat.eq_of_beq_eq_true hn1
      obtain ⟨ad,nn,c,rfl,hnn,hc⟩:∃ad nn c,vx=.slice ad nn c∧nn=X.C.len p∧nn≤c:=by
        cases hx with
        | pl0 ad c _ _ hl hk=>exact ⟨ad,0,c,rfl,hl.symm,Nat.zero_le _⟩
        | pl b off nn c _ _ vs hn hc _ _ _ _ _ _=>exact ⟨_,nn,c,rfl,hn,hc⟩
      obtain ⟨vh',rfl⟩:∃v,vh=some v:=by cases vh with | none=>simp at hh' | some v=>exact ⟨v,rfl⟩
      obtain ⟨vm',rfl⟩:∃v,vm=some v:=by cases vm with | none=>simp at hm' | some v=>exact ⟨v,rfl⟩
      have e1:=hh _ _ rfl rfl
      have e2:=hm _ _ rfl rfl
      cases e1
      cases e2
      have hb:=run_bounds3 (P:=X.P) w (len:=nn) (cap:=c) (k:=kb) (k':=k') (optI_sound hl hl' hi) h0 h1 (by omega) hc
      refine ⟨_,?_,OpOut.pure hX hS rfl (slice_pl hX.pay hx (x:=i.toNat) (y:=c0.toNat) (m:=c0.toNat) (by omega) (by omega) (by omega) (.inr ⟨rfl,rfl⟩))⟩
      rw [sliceAt_slice w hu (by simp)]
      simp [Instr.slice,run_underlying hu,run_sizeOf' X.P w hn,hb]
    · subst hr;exact (hno hok).elim
  · rename_i e o hu
    have hvm:vm=none:=by cases vm<;>simp_all
    subst hvm
    split at hr
    · rename_i fz p n i hlo hn hi
      split at hr
      · rename_i j hj
        subst hr
        simp only [Bool.and_eq_true,decide_eq_true_eq] at hok
        obtain ⟨⟨⟨hn1,h0⟩,h1⟩,h2⟩:=hok
        obtain rfl:=Nat.eq_of_beq_eq_true hn1
        have hx0:=(lend_sound hX hS (avBut g hs w [o]) avBut_av 40).1 (.arr o) vx (.pl p .any) [o] hx (by simp [lend,hlo]) avBut_ns
        obtain ⟨ad,nn,c,rfl,hnn,hc⟩:∃ad nn c,vx=.slice ad nn c∧nn=X.C.len p∧nn≤c:=by
          cases hx0 with
          | pl0 ad c _ _ hl hk=>exact ⟨ad,0,c,rfl,hl.symm,Nat.zero_le _⟩
          | pl b off nn c _ _ vs hn hc _ _ _ _ _ _=>exact ⟨_,nn,c,rfl,hn,hc⟩
        have hb:=run_bounds2 (P:=X.P) w true (len:=nn) (cap:=c) (optI_sound hl hl' hi) (by rw [hnn];exact optI_sound hh hh' hj) h0 h1 (by omega) hc
        obtain ⟨hs1,hle⟩:=sim_freeze hX hS [o]
        unfold spk
        split
        · rename_i dh s hbs
          simp only [optI,Option.some.injEq] at hi
          subst hi
          refine ⟨_,?_,g.rho,hs1,RD.closedTo hX.pay (frozen_of_out hS) rfl (slice_sp hX.pay hx0 hbs (y:=j.toNat) (by omega) hc)⟩
          rw [sliceAt_slice w hu (by simp)]
          simp [Instr.slice,run_underlying hu,run_sizeOf' X.P w hn,hb]
        · refine ⟨_,?_,g.rho,hs1,RD.closedTo hX.pay (frozen_of_out hS) rfl (slice_pl hX.pay hx0 (x:=i.toNat) (y:=j.toNat) (m:=c) (by omega) (by omega) (by omega) (.inl rfl))⟩
          rw [sliceAt_slice w hu (by simp)]
          simp [Instr.slice,run_underlying hu,run_sizeOf' X.P w hn,hb]
      · subst hr;exact (hno hok).elim
    · subst hr;exact (hno hok).elim
  · subst hr;exact (hno hok).elim
def CallOk (P:Program) (f:FuncId) (vs:Array Value) (w:World) (Post:Value→World→Prop):Prop :=
  ((callFunc f vs).run P w=.ok (.enter f vs) w∧Calls P f vs w fun e w'=>∃v,e=.returned v∧Post v w') ∨
  ∃v w',(callFunc f vs).run P w=.ok (.value v) w'∧Post v w'
def cxN (w:World) (av:Nat→Prop) (o:Nat) (bn:Option Nat) (p:α):Cx α where
  w:=w
  av:=fun b=>av b∨bn=some b
  bx:=fun _=>none
  ar:=fun x=>if x=o then some (bn,p) else none
def OwnPost (C:Pay α) (n0:Nat) (av:Nat→Prop) (v:Value) (w':World):D α→Prop
  | .ow k e=>∀p kk,atP k e=some (.pl p kk)→∃bn,(∀b,bn=some b→n0≤b∧b < w'.heap.size)∧∀o,RD C (cxN w' av o bn p) v (putP k (.arr o) e)∧ObRel C (cxN w' av o bn p) bn (.arr false p)
  | _=>True
def GlobOk (C:Pay α) (glob:Nat→Option (List (D α))) (w:World) (av:Nat→Prop):Prop :=
  ∀i cs,glob i=some cs→RD C (cx0 w av) (.pointer (some ⟨i,0,none⟩)) (.ref cs)∧GSz w i cs.length
def SoundAt (P:Program) (C:Pay α) (glob:Nat→Option (List (D α))) (f:FuncId) (ds:List (D α)) (d:D α):Prop :=
  ∀(w:World) (av:Nat→Prop) (vs:Array Value),GlobOk C glob w av→(∀b,av b→b < w.heap.size)→vs.size=ds.length →
    (∀(i:Nat) v c,vs[i]?=some v→ds[i]?=some c→RD C (cx0 w av) v c) →
    CallOk P f vs w fun v w'=>RD C (cx0 w' av) v d∧BelowD C.dr w.heap.size w w'∧OwnPost C w.heap.size av v w' d
def act0:Act:={ tmps:=#[],defers:=[] }
def ctx0 (P:Program) (C:Pay α) (glob:Nat→Option (List (D α))):Ctx α:={ P:=P,C:=C,R:=fun _ _=>none,glob:=glob,plainT:=fun _=>false,N:=0 }
def sameKind:Ob α→Ob α→Prop
  | .box _ _,.box _ _=>True
  | .arr _ _,.arr _ _=>True
  | .map _ _,.map _ _=>True
  | _,_=>False
def SoundM (P:Program) (C:Pay α) (glob:Nat→Option (List (D α))) (f:FuncId) (H:Obs α) (ds:List (D α)) (d:D α) (H':Obs α):Prop :=
  ∀(g:Gh) (vs:Array Value),(∀c,g.top c=none)→Sim (ctx0 P C glob) g [] H act0 g.w0→vs.size=ds.length →
    (∀(i:Nat) v c,vs[i]?=some v→ds[i]?=some c→RD C (cxOf g H g.w0) v c) →
    CallOk P f vs g.w0 fun v w'=>∃rho',Sim (ctx0 P C glob) { g with rho:=rho' } [] H' act0 w'∧RD C (cxOf { g with rho:=rho' } H' w') v d ∧
      ∀c ob,Nat.blt c 100000=true→look H c=some ob→rho' c=g.rho c∧∃ob',look H' c=some ob'∧∀f p,ob'≠.arr f p
def SoundG (P:Program) (C:Pay α) (glob:Nat→Option (List (D α))) (f:FuncId) (ds:List (D α)) (d:D α):Prop :=
  (Nat.blt f 1000000=true→SoundAt P C glob f ds d) ∧
  (Nat.blt f 1000000=false→∀os e ds' os' d',ds=.env os e::ds'→d=.env os' d'→SoundM P C glob (f - 1000000) (decH os) ds' d' (decH os'))
def ROk (X:Ctx α):Prop:=∀f ds b d,X.R f ds=some (b,d)→b=true→SoundG X.P X.C X.glob f ds d
include hX hS in
theorem glob_av {av:Nat→Prop} (hav':∀b,av b→(cxOf g hs w).av b):GlobOk X.C X.glob w av:=by
  intro i cs h
  obtain ⟨h0,cells,T,fz,hh,hz⟩:=hS.glob i cs h
  obtain ⟨c1,T1,f1,k1,k2⟩:=hS.below.row i cells T fz (lt_of_heap hh) hh
  refine ⟨?_,c1,T1,f1,k1,k2.trans hz⟩
  refine RD.grow hX.pay (cx:=cx0 g.w0 (fun b=>g.av0 b∨g.lent b)) ⟨fun b ob hav hb=>?_,fun b ob hb hav hv=>?_,fun _ _ _ h=>by simp [cx0] at h,fun _ _ _ _ h=>by simp [cx0] at h,fun b cells T fz hb=>?_⟩ h0
  · show w.heap[b]?=_
    rw [hS.below.block b (lt_of_heap hb) (fun h=>hav (.inr h))];exact hb
  · rcases hav' b hv with h1 | ⟨o,ob',hl,_,hr⟩
    · exact hav (.inl h1)
    · have h3:=lt_of_heap hb
      simp only [cx0] at h3
      rcases (hS.own o ob' b hl hr).1 with h2 | h2
      · omega
      · exact hav (.inr h2)
  · obtain ⟨c2,T2,f2,q1,q2⟩:=hS.below.row b cells T fz (lt_of_heap hb) hb
    exact ⟨c2,T2,f2,q1,q2⟩
include hX hS in
theorem glob_out (ns:List Nat):GlobOk X.C X.glob w (avBut g hs w ns):=glob_av hX hS avBut_av
theorem kill_putP (ns:Nat→Bool) (o:Nat) (ho:ns o=false):∀(k:List Nat) (d:D α),closed d=true→kill ns (putP k (.arr o) d)=putP k (.arr o) d:=by
  have hset:∀(l:List (D α)) (i:Nat) (y:D α),closedL l=true→kill ns y=y→killL ns (setT l i y)=setT l i y:=by
    intro l
    induction l with
    | nil=>intro i y h _;simp [setT,killL]
    | cons c r ih =>
      intro i y h hy
      simp only [closedL,Bool.and_eq_true] at h
      cases i with
      | zero=>simp [setT,killL,hy,killL_closed ns r h.2]
      | succ i=>simp [setT,killL,kill_closed ns c h.1,ih i y h.2 hy]
  have hget:∀(l:List (D α)) (i:Nat) (c:D α),closedL l=true→l[i]?=some c→closed c=true:=by
    intro l
    induction l with
    | nil=>intro i c _ h;simp at h
    | cons c r ih =>
      intro i d h hd
      simp only [closedL,Bool.and_eq_true] at h
      cases i with
      | zero=>simp only [List.getElem?_cons_zero,Option.some.injEq] at hd;subst hd;exact h.1
      | succ i=>exact ih i d h.2 (by simpa using hd)
  intro k
  induction k with
  | nil=>intro d _;simp [putP,Eng.kill,ho]
  | cons i r ih =>
    intro d hd
    cases d
    case agg cs =>
      simp only [putP]
      split
      · rename_i c hc
        simp only [Eng.kill]
        rw [hset cs i _ hd (ih c (hget cs i c hd hc))]
      · exact kill_closed ns _ hd
    case tup cs =>
      simp only [putP]
      split
      · rename_i c hc
        simp only [Eng.kill]
        rw [hset cs i _ hd (ih c (hget cs i c hd hc))]
      · exact kill_closed ns _ hd
    all_goals exact kill_closed ns _ hd
theorem look_cons1 (n:Nat) (ob:Ob α) (hs:Obs α) (k:Nat):look ((n,ob)::hs) k=if k=n then some ob else look hs k:=by
  simp only [look]
  by_cases h:k=n
  · subst h;simp
  · rw [if_neg h]
    cases hb:Nat.beq n k with
    | true=>exact absurd (Nat.eq_of_beq_eq_true hb).symm h
    | false=>rfl
include hX hS in
theorem bind_new (n:Nat) (hn:look hs n=none) (hn5:Nat.blt n 50000=true) (p:α) (bn:Option Nat) (w':World) (hb:BelowD X.C.dr w.heap.size w w') (hbn:∀b,bn=some b→w.heap.size≤b∧b < w'.heap.size)
    (hob:ObRel X.C (cxOf { g with rho:=bind1 g.rho n bn } ((n,.arr false p)::hs) w') bn (.arr false p)) :
    Sim X { g with rho:=bind1 g.rho n bn } tm ((n,.arr false p)::hs) a w':=by
  have hlk:=look_cons1 n (.arr false p) hs
  have hne:∀k ob,look hs k=some ob→k≠n:=by rintro k ob h rfl;rw [hn] at h;simp at h
  have hrho:∀k,k≠n→bind1 g.rho n bn k=g.rho k:=by intro k h;simp [bind1,h]
  have hle:CxLe X.C (fun _=>false) (cxOf g hs w) (cxOf { g with rho:=bind1 g.rho n bn } ((n,.arr false p)::hs) w') :=
    { cell:=fun b ob _ h=>by show w'.heap[b]?=_;rw [hb.block b (lt_of_heap h)];exact h
      av := fun b ob hob' hav hav' => by
        rcases hav' with h0 | ⟨o,x,hl,hf,hr⟩
        · exact hav (.inl h0)
        · simp only [hlk] at hl hr
          by_cases ho:o=n
          · subst ho
            simp only [bind1,if_true] at hr
            have:=(hbn b hr).1
            have:=lt_of_heap hob'
            simp only [cxOf] at this
            omega
          · rw [if_neg ho] at hl
            rw [hrho o ho] at hr
            exact hav (.inr ⟨o,x,hl,hf,hr⟩)
      bx:=fun o b _ h=>by
        simp only [cxOf] at h ⊢
        cases hl:look hs o with
        | none=>rw [hl] at h;simp at h
        | some x =>
          have ho:=hne o x hl
          rw [hl] at h
          rw [hlk,if_neg ho,hl,hrho o ho]
          exact h
      ar:=fun o b q _ h=>by
        simp only [cxOf] at h ⊢
        cases hl:look hs o with
        | none=>rw [hl] at h;simp at h
        | some x =>
          have ho:=hne o x hl
          rw [hl] at h
          rw [hlk,if_neg ho,hl,hrho o ho]
          exact ⟨q,h,rfl,rfl⟩
      size:=fun b cells T fz h=>⟨cells,T,fz,by show w'.heap[b]?=_;rw [hb.block b (lt_of_heap h)];exact h,rfl⟩ }
  refine ⟨hS.size,fun t=>?_,hS.dfr,fun o ob ho=>?_,fun o o' ob ob' b ho ho' hr hr'=>?_,fun o ob b ho hr=>?_,hS.below.trans (toL (hb.mono hS.below.size)),hS.av0,hS.lav,fun c b hc=>⟨(hS.top c b hc).1,(hS.top c b hc).2.1,fun x hx=>?_⟩,hS.glob⟩
  · have:=RG.kill hX.pay hle (hS.tm t)
    rwa [kill_none] at this
  · rw [hlk] at ho
    by_cases h:o=n
    · subst h
      simp only [if_true,Option.some.injEq] at ho
      subst ho
      simpa [bind1] using hob
    · rw [if_neg h] at ho
      show ObRel X.C _ (bind1 g.rho n bn o) ob
      rw [hrho o h]
      have h0:=hS.obs o ob ho
      cases ob with
      | box fz cs =>
        obtain ⟨b',cells,T,h1,h2,h3,h4,h5⟩:=h0
        exact ⟨b',cells,T,h1,by show w'.heap[b']?=_;rw [hb.block b' (lt_of_heap h2)];exact h2,h3,h4,fun i v c hv hc=>RD.grow hX.pay hle (h5 i v c hv hc)⟩
      | arr fz q =>
        cases hr:g.rho o with
        | none=>rw [hr] at h0;exact h0
        | some b' =>
          rw [hr] at h0
          obtain ⟨cells,T,h1,h2,h3,h4,h5⟩:=h0
          exact ⟨cells,T,by show w'.heap[b']?=_;rw [hb.block b' (lt_of_heap h1)];exact h1,h2,h3,h4,fun i j v d hi hv hd=>RD.grow hX.pay hle (h5 i j v d hi hv hd)⟩
      | map fz q =>
        obtain ⟨b',es,clock,h1,h2,h3,h4,h5,h6⟩:=h0
        exact ⟨b',es,clock,h1,by show w'.heap[b']?=_;rw [hb.block b' (lt_of_heap h2)];exact h2,h3,h4,fun i e he=>RD.grow hX.pay hle (h5 i e he),fun i e he=>RD.grow hX.pay hle (h6 i e he)⟩
  · rw [hlk] at ho ho'
    have hr1:bind1 g.rho n bn o=some b:=hr
    have hr2:bind1 g.rho n bn o'=some b:=hr'
    by_cases h:o=n<;>by_cases h':o'=n
    · rw [h,h']
    · rw [if_neg h'] at ho'
      rw [hrho o' h'] at hr2
      subst h
      simp only [bind1,if_true] at hr1
      have h1:=(hS.own o' ob' b ho' hr2).2
      have h2:=(hbn b hr1).1
      omega
    · rw [if_neg h] at ho
      rw [hrho o h] at hr1
      subst h'
      simp only [bind1,if_true] at hr2
      have h1:=(hS.own o ob b ho hr1).2
      have h2:=(hbn b hr2).1
      omega
    · rw [if_neg h] at ho
      rw [if_neg h'] at ho'
      rw [hrho o h] at hr1
      rw [hrho o' h'] at hr2
      exact hS.inj o o' ob ob' b ho ho' hr1 hr2
  · rw [hlk] at ho
    have hr1:bind1 g.rho n bn o=some b:=hr
    by_cases h:o=n
    · subst h
      simp only [bind1,if_true] at hr1
      have h1:=hbn b hr1
      have h2:=hS.below.size
      exact ⟨.inl (Nat.le_trans h2 h1.1),h1.2⟩
    · rw [if_neg h] at ho
      rw [hrho o h] at hr1
      have h1:=hS.own o ob b ho hr1
      have:=hb.size
      exact ⟨h1.1,by omega⟩
  · rw [hlk] at hx
    by_cases h:c=n
    · subst h
      have:=(hS.top c b hc).1
      rw [hn5] at this;simp at this
    · rw [if_neg h] at hx
      obtain ⟨h1,h2⟩:=(hS.top c b hc).2.2 x hx
      exact ⟨(hrho c h).trans h1,h2⟩
theorem newN_spec {hs:Obs α} {n m:Nat} (h:newN hs n=some m):look hs m=none∧Nat.blt m 50000=true:=by
  unfold newN at h
  cases hb:Nat.blt n 40000 with
  | false=>rw [hb] at h;simp at h
  | true =>
  rw [hb] at h
  simp only [Bool.not_true,cond_false] at h
  have hle:=Nat.le_of_ble_eq_true hb
  split at h
  · simp only [Option.some.injEq] at h;subst h;exact ⟨by assumption,Nat.ble_eq_true_of_le (by omega)⟩
  · split at h
    · simp only [Option.some.injEq] at h;subst h;exact ⟨by assumption,Nat.ble_eq_true_of_le (by omega)⟩
    · simp at h
theorem look_freeze_none {hs:Obs α} {ns:List Nat} {m:Nat} (h:look hs m=none):look (freeze hs ns) m=none:=by
  rw [look_freeze,h];split<;>rfl
theorem bindD_spec {hs:Obs α} {dst:Option Nat} {d e:D α} {m:Nat} {p:α} (h:bindD hs dst d=some (m,p,e)):(look hs m=none∧Nat.blt m 50000=true)∧∃k e0 kk,d=.ow k e0∧atP k e0=some (.pl p kk)∧e=putP k (.arr m) e0:=by
  unfold bindD at h
  split at h
  · split at h
    · rename_i h1 h2
      simp only [Option.some.injEq,Prod.mk.injEq] at h
      obtain ⟨rfl,rfl,rfl⟩:=h
      exact ⟨newN_spec h2,_,_,_,rfl,h1,rfl⟩
    · simp at h
  · simp at h
include hX hS in
theorem own_sound (ns:List Nat) {dst:Option Nat} {d e:D α} {m:Nat} {p:α} (h:bindD hs dst d=some (m,p,e)) (hcl:closed d=true) {v:Value} {w':World}
    (hbel:BelowD X.C.dr w.heap.size w w') (hown:OwnPost X.C w.heap.size (avBut g hs w ns) v w' d) :
    ∃rho',Sim X { g with rho:=rho' } tm ((m,.arr false p)::freeze hs ns) a w'∧RD X.C (cxOf { g with rho:=rho' } ((m,.arr false p)::freeze hs ns) w') v e:=by
  obtain ⟨⟨hm,hm5⟩,k,e0,kk,rfl,hat,rfl⟩:=bindD_spec h
  obtain ⟨bn,hbn,hrd⟩:=hown p kk hat
  obtain ⟨h1,h2⟩:=hrd m
  obtain ⟨hS1,_⟩:=sim_freeze (hs:=hs) hX hS ns
  have hm1:=look_freeze_none (ns:=ns) hm
  have hfo:=frozen_of_out (C:=X.C) hS (ns:=ns) (w':=w')
  have hlk:=look_cons1 m (.arr false p) (freeze hs ns)
  have hle:CxLe X.C (fun x=>!(x==m)) (cxN w' (avBut g hs w ns) m bn p) (cxOf { g with rho:=bind1 g.rho m bn } ((m,.arr false p)::freeze hs ns) w') :=
    { cell:=fun _ _ _ h=>h
      av := fun b ob hob hav hav' => by
        rcases hav' with h0 | ⟨o,x,hl,hf,hr⟩
        · exact hfo.av b ob hob (fun h=>hav (.inl h)) (.inl h0)
        · simp only [hlk] at hl
          have hr1:bind1 g.rho m bn o=some b:=hr
          by_cases ho:o=m
          · subst ho
            simp only [bind1,if_true] at hr1
            exact hav (.inr hr1)
          · rw [if_neg ho] at hl
            simp only [bind1,if_neg ho] at hr1
            exact hfo.av b ob hob (fun h=>hav (.inl h)) (.inr ⟨o,x,hl,hf,hr1⟩)
      bx:=fun _ _ _ h=>by simp [cxN] at h
      ar:=fun o b q hno h=>by
        have ho:o=m:=by simpa using hno
        subst ho
        simp only [cxN,if_true,Option.some.injEq,Prod.mk.injEq] at h
        obtain ⟨rfl,rfl⟩:=h
        refine ⟨p,?_,rfl,rfl⟩
        simp only [cxOf,hlk,if_true,bind1]
      size:=fun _ cells T fz h=>⟨cells,T,fz,h,rfl⟩ }
  refine ⟨bind1 g.rho m bn,bind_new hX hS1 m hm1 hm5 p bn w' hbel hbn ?_,?_⟩
  · cases bn with
    | none=>exact h2
    | some b' =>
      obtain ⟨cells,T,q1,q2,q3,q4,q5⟩:=h2
      refine ⟨cells,T,q1,q2,q3,q4,fun i j v d hi hv hd=>?_⟩
      have:=RD.kill hX.pay hle (q5 i j v d hi hv hd)
      rwa [kill_closed _ d (hX.pay.clo p i d (List.mem_of_getElem? hd))] at this
  · have:=RD.kill hX.pay hle h1
    rwa [kill_putP _ m (by simp) k e0 (by simpa [closed] using hcl)] at this
include hX hS in
theorem callP_sound (hR:ROk X) (f:FuncId) (args:List (D α)) (vs:Array Value) (hsz:vs.size=args.length)
    (hr:∀(i:Nat) v c,vs[i]?=some v→args[i]?=some c→RD X.C (cxOf g hs w) v c) (dst:Option Nat) (r:Res α) (hm:mOf X f=false) (hc:callD X hs tm dst f args=r) (hok:r.ok=true) :
    CallOk X.P f vs w fun v w'=>OpOut X g tm hs a r v w':=by
  unfold callD at hc
  simp only [hm,cond_false] at hc
  split at hc
  · rename_i ds ns hl
    obtain ⟨hlt,hl⟩:Nat.blt f 1000000=true∧lendAll X.C hs args=some (ds,ns):=by
      cases hb:Nat.blt f 1000000 with
      | true=>rw [hb] at hl;exact ⟨rfl,hl⟩
      | false=>rw [hb] at hl;simp at hl
    split at hc
    · rename_i b d hRf
      obtain ⟨hlen,hget⟩:=lendAll_sound hX hS (avBut g hs w ns) avBut_av args ds ns hl avBut_ns
      have hb:(b&&closed d)=true:=by
        revert hok
        rw [←hc]
        cases bindD hs dst d with
        | none=>cases (isNil ns||flat d)<;>exact id
        | some x=>exact id
      simp only [Bool.and_eq_true] at hb
      have hs0:=(hR f ds b d hRf hb.1).1 hlt
      have h1:=hs0 w (avBut g hs w ns) vs (glob_out hX hS ns) (fun b hb'=>by
        rcases hb'.1 with h | ⟨o,ob,hl',_,hr'⟩
        · have:=hS.av0 b h;have:=hS.below.size;omega
        · exact (hS.own o ob b hl' hr').2) (by rw [hsz,hlen]) (fun i v c hv hc'=>by
          have hi:i < args.length:=by
            rw [←hlen];rcases Nat.lt_or_ge i ds.length with h | h
            · exact h
            · simp [List.getElem?_eq_none h] at hc'
          have hc0:args[i]?=some args[i]:=by simp [hi]
          exact hget i v _ c hc0 hc' (hr i v _ hv hc0))
      have key:∀v w',RD X.C (cx0 w' (avBut g hs w ns)) v d∧BelowD X.C.dr w.heap.size w w'∧OwnPost X.C w.heap.size (avBut g hs w ns) v w' d→OpOut X g tm hs a r v w':=by
        rintro v w' ⟨hv,hbel,hown⟩
        subst hc
        cases hbd:bindD hs dst d with
        | some x =>
          obtain ⟨m,p,e⟩:=x
          simp only
          obtain ⟨rho',h1,h2⟩:=own_sound (tm:=tm) (a:=a) hX hS ns hbd hb.2 hbel hown
          exact ⟨rho',h1,h2⟩
        | none =>
        simp only
        cases hn:isNil ns with
        | true =>
          obtain rfl:=isNil_eq hn
          simp only [Bool.true_or,cond_true]
          have hle:CxLe X.C (fun _=>true) (cx0 w' (avBut g hs w [])) (cxOf g hs w') :=
            { cell:=fun _ _ _ h=>h
              av:=fun b ob _ hav hav'=>hav ⟨hav',fun _ _ h=>by simp at h⟩
              bx:=fun _ _ h=>by simp at h
              ar:=fun _ _ _ h=>by simp at h
              size:=fun _ cells T fz h=>⟨cells,T,fz,h,rfl⟩ }
          exact OpOut.quiet hX hS hbel rfl (RD.closedTo hX.pay hle hb.2 hv)
        | false =>
          cases hf:flat d with
          | true =>
            simp only [Bool.or_true,cond_true]
            exact OpOut.quiet hX hS hbel rfl (RD_flat d v hf hv)
          | false =>
            simp only [Bool.or_false,cond_false]
            obtain ⟨h2,_⟩:=sim_freeze hX hS ns
            exact ⟨g.rho,h2.grow hX.pay hbel,RD.closedTo hX.pay (frozen_of_out hS) hb.2 hv⟩
      rcases h1 with ⟨h2,h3⟩ | ⟨v,w',h2,h3⟩
      · exact .inl ⟨h2,h3.mono fun e w' ⟨v,he,hv⟩=>⟨v,he,key v w' hv⟩⟩
      · exact .inr ⟨v,w',h2,key v w' h3⟩
    · subst hc;simp [Res.no] at hok
  · subst hc;simp [Res.no] at hok
end
end Go.Eng
