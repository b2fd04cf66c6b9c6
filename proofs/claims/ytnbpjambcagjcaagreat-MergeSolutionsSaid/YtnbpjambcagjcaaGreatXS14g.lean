/- The law MergeSolutions holds for every input: a part of its proof (what the code does, plain models, and what they return). No condition. -/
import Derived.Test.YtnbpjambcagjcaaGreatXS14f
import Derived.Test.YtnbpjambcagjcaaGreatXS14d
set_option linter.unusedVariables false
set_option linter.unusedSimpArgs false
namespace Go.Proofs.YtnbpjambcagjcaaGreat
open Go.IntKind (i8 i16 i32 i64 u8 u16 u32 u64)
open Go.Proofs.Tryz
open Go Go.EL Go.RowKit Go.Proofs
theorem fA'{c p e d n o k h s q r}(hr:(Zgm c p).Ret r):Ctr prog 83 #[.agg ((v31' c e d n o k h)).toArray,.agg ((v116' p s q)).toArray] (fun G=>sl Rp.str G e d c.vars/\sl e' G n o c.eqs/\sl e' G k h c.neqs/\sl r' G s q p.p) (w31' r):=by
 refine A' (args:=[_,_]) (N:=117) func83 z z z (fun w0 G0 bJ aZ=>?_)
 obtain⟨m,g,f,B⟩:=aZ
 refine sr<|Y' 2 z z z fun b1=>Y' 3 z z z fun b2=>O' 4 z z31 z fun b3=>nr<|yy (m' 2 ai' z z z) z<|O' 5 z z31 z fun b4=>x' 5 z aR' z z z z z (List.all_eq_true.1 z)<|nr<|yy (bD' z) z<|yy (g' 3 sc3 z z z) z<|yy (Y0.ZhE z) z<|yy (g' 3 sc44 z z z) z<|yy (at' (vs:=#[(0,i' p.id),(1,.slice s p.p.length q)]) (v:=.agg ((v57' p.id s p.p q)).toArray) z z (fun _=>by kernel_rfl)) z<|O' 6 z z57 z fun b5=>x' 6 z bK' z z z z z (List.all_eq_true.1 z)<|nx<|c'<|ad' [ff,ff,ff,ff,ff,ff,ff,ff,ff] mix (by kernel_rfl) fun hb=>cn (fun _ l=>aF' z)<|cn (fun _ l=>g' 2 bc' z z z)<|cn (fun _ l=>bD' z)<|cn (fun _ l=>g' 3 sc3 z z z) ?_
 obtain⟨bO,aJ,hr⟩:=hr
 refine cm' z (fun _=>u' E132 z) (dP' aJ) z (fun G' l=>(g.mono l))<|cn (fun _ l=>aG' z)<|cn (fun _ l=>g' 2 bc' z z z)<|cn (fun _ l=>bD' z)<|cn (fun _ l=>g' 3 sc3 z z z)<|af' hb ?_
 obtain⟨bK,aK,hr⟩:=hr
 refine B' z z (u' E132 z) (dP' aK) z (f)<|sg z z<|sg z z<|o'<|am'<|a'<|c'<|sr<|yy (cZ' z) z<|yy (g' 3 sc3 z z z) z<|nx<|s'<|sr<|yy (au' z z) z<|sx0 z z<|E' hr z (fun bn hr=>?_) (fun bn hr=>?_)
 .refine aP' (fun (⟨x,A,C,D⟩:Zc×Option Addr×Nat×Mem)=>[(2,pt0 b1),(3,pt0 b2),(4,pt0 b3),(5,pt0 b4),(6,pt0 b5)]) (fun ⟨x,A,C,D⟩=>Mem.le G0 D/\sl r' D A C x.p/\(Zap c p x).Ret r) (fun ⟨x,A,C,D⟩=>St w0 G0 D [(2,bk0 b1 (v31' c e d n o k h) 31),(3,bk0 b2 (v116' p s q) 116),(4,bk0 b3 ([.slice none 0 0,.slice none 0 0,.slice none 0 0,i' 0]) 31),(5,bk0 b4 (v31' c e d n o k h) 31),(6,bk0 b5 (v57' x.id A x.p C) 57)]) ?_ ?_
  .refine sr<|yy (bD' z) z<|yy (g' 3 sc3 z z z) z<|yy (au' z z) z<|nx<|E' hr z (fun bi hr=>?_) (fun bi hr=>?_)
   .refine n'<|yy (bt' z) z<|yy (g' 2 sc3 z z z) z<|yy (bl' z) z<|aB' 6 ([i' c.next,.slice s p.p.length q]).toArray z sz3 z z z (show 0<2 by decide) z z<|o'<|al' ⟨(Zc.mk c.next p.p),s,q,G0⟩ ⟨mr,B,hr⟩ (f5 z z z z z) (w5 z z z z z)
   refine l'<|al' ⟨(Zc.mk p.id p.p),s,q,G0⟩ ⟨mr,B,hr⟩ (f5 z z z z z) (w5 z z z z z)
  rintro⟨x,A,C,D⟩ ⟨y,S,hr⟩
  refine sr<|yy (bt' z) z<|yy (g' 2 sc3 z z z) z<|yy (bl' z) z<|yy (g' 6 sc3 z z z) z<|yy (I' z z) z<|yy (Y0.max2 z z) z<|yy (bt' z) z<|aB' 5 ([.slice e c.vars.length d,.slice n c.eqs.length o,.slice k c.neqs.length h,i' (if c.next<(i64.wrap (x.id+1)) then (i64.wrap (x.id+1)) else c.next)]).toArray z sz3 z z z (show 3<4 by decide) z z<|nr<|yy (Y0.ZhF z) z<|yy (g' 3 sc4 z z z) z<|nx<|ay' hr z (fun be hr=>?_) (fun be hr=>?_)
  .refine n'<|yy (aG' z) z<|yy (g' 2 bc' z z z) z<|yy (m' 6 ag57 z z z) z ?_
   obtain⟨bf,aV,hr⟩:=hr
   refine Q' z z (u' E133 z) (dJ' aV) z (⟨(f.mono y),S⟩) (fun bv bI P ab=>?_)
   obtain⟨aB,aW,rfl,aF⟩:=ab
   refine yy (aG' z) z<|aB' 5 ([.slice e c.vars.length d,.slice n c.eqs.length o,.slice aB bf.length aW,i' (if c.next<(i64.wrap (x.id+1)) then (i64.wrap (x.id+1)) else c.next)]).toArray z sz29 z z z (show 2<4 by decide) z z<|o'<|v'<|a'<|sr<|yy (m' 5 ai' z z z) z<|x' 4 z aR' z z z z z (List.all_eq_true.1 z)<|nx<|k' ?_
   obtain rfl:_=r:=hr
   exact j' z (ak' (i:=4) ai' z z z) ⟨_,_,_,_,_,_,z,(m.mono (mx y P)),(g.mono (mx y P)),aF⟩
  refine n'<|yy (aF' z) z<|yy (g' 2 bc' z z z) z<|yy (m' 6 ag57 z z z) z ?_
  obtain⟨a7,ay,hr⟩:=hr
  refine Q' z z (u' E133 z) (dJ' ay) z (⟨(g.mono y),S⟩) (fun bz bM U X=>?_)
  obtain⟨aT,aN,rfl,aL⟩:=X
  refine yy (aF' z) z<|aB' 5 ([.slice e c.vars.length d,.slice aT a7.length aN,.slice k c.neqs.length h,i' (if c.next<(i64.wrap (x.id+1)) then (i64.wrap (x.id+1)) else c.next)]).toArray z sz29 z z z (show 1<4 by decide) z z<|o'<|v'<|a'<|sr<|yy (m' 5 ai' z z z) z<|x' 4 z aR' z z z z z (List.all_eq_true.1 z)<|nx<|k' ?_
  obtain rfl:_=r:=hr
  exact j' z (ak' (i:=4) ai' z z z) ⟨_,_,_,_,_,_,z,(m.mono (mx y U)),aL,(f.mono (mx y U))⟩
 refine sr<|yy (au' z z) z<|sx0 z z<|E' hr z (fun bd hr=>?_) (fun bd hr=>?_)
 .refine sr<|yy (aF' z) z<|yy (g' 2 bc' z z z) z<|yy (bD' z) z<|yy (g' 3 sc3 z z z) z ?_
  obtain⟨aw,aU,hr⟩:=hr
  refine Q' z z (u' E134 z) (ep' aU) z (g) (fun bu bG T Z=>?_)
  obtain⟨ae,ah,rfl,aE⟩:=Z
  refine yy (aF' z) z<|aB' 5 ([.slice e c.vars.length d,.slice ae aw.length ah,.slice k c.neqs.length h,i' c.next]).toArray z sz29 z z z (show 1<4 by decide) z z<|nx<|n'<|yy (aG' z) z<|yy (g' 2 bc' z z z) z<|yy (bD' z) z<|yy (g' 3 sc3 z z z) z ?_
  obtain⟨a8,az,hr⟩:=hr
  refine Q' z z (u' E134 z) (ep' az) z ((f.mono T)) (fun bs bP M W=>?_)
  obtain⟨aS,aC,rfl,aY⟩:=W
  refine yy (aG' z) z<|aB' 5 ([.slice e c.vars.length d,.slice ae aw.length ah,.slice aS a8.length aC,i' c.next]).toArray z sz29 z z z (show 2<4 by decide) z z<|o'<|v'<|a'<|sr<|yy (m' 5 ai' z z z) z<|x' 4 z aR' z z z z z (List.all_eq_true.1 z)<|nx<|k' ?_
  obtain rfl:_=r:=hr
  exact j' z (ak' (i:=4) ai' z z z) ⟨_,_,_,_,_,_,z,(m.mono (mx T M)),(aE.mono M),aY⟩
 refine sr<|yy (au' z z) z<|sx0 z z<|E' hr z (fun bk hr=>?_) (fun bk hr=>?_)
 .refine sr<|mv z z<|yy (aV' z z) z<|nx<|E' hr z (fun bh hr=>?_) (fun bh hr=>?_)
  .refine n'<|yy (aF' z) z<|yy (g' 2 bc' z z z) z<|yy (m' 6 ag57 z z z) z ?_
   obtain⟨bj,aX,hr⟩:=hr
   refine Q' z z (u' E133 z) (dJ' aX) z (⟨g,B⟩) (fun bx bQ O ac=>?_)
   obtain⟨aR,aA,rfl,aM⟩:=ac
   refine yy (aF' z) z<|aB' 5 ([.slice e c.vars.length d,.slice aR bj.length aA,.slice k c.neqs.length h,i' c.next]).toArray z sz29 z z z (show 1<4 by decide) z z<|o'<|v'<|a'<|sr<|yy (m' 5 ai' z z z) z<|x' 4 z aR' z z z z z (List.all_eq_true.1 z)<|nx<|k' ?_
   obtain rfl:_=r:=hr
   exact j' z (ak' (i:=4) ai' z z z) ⟨_,_,_,_,_,_,z,(m.mono O),aM,(f.mono O)⟩
  refine n'<|yy (aG' z) z<|yy (g' 2 bc' z z z) z<|yy (m' 6 ag57 z z z) z ?_
  obtain⟨a6,a2,hr⟩:=hr
  refine Q' z z (u' E133 z) (dJ' a2) z (⟨f,B⟩) (fun br bH V Y=>?_)
  obtain⟨a3,aP,rfl,a1⟩:=Y
  refine yy (aG' z) z<|aB' 5 ([.slice e c.vars.length d,.slice n c.eqs.length o,.slice a3 a6.length aP,i' c.next]).toArray z sz29 z z z (show 2<4 by decide) z z<|o'<|v'<|a'<|sr<|yy (m' 5 ai' z z z) z<|x' 4 z aR' z z z z z (List.all_eq_true.1 z)<|nx<|k' ?_
  obtain rfl:_=r:=hr
  exact j' z (ak' (i:=4) ai' z z z) ⟨_,_,_,_,_,_,z,(m.mono V),(g.mono V),a1⟩
 refine sr<|yy (au' z z) z<|sx0 z z<|E' hr z (fun a9 hr=>?_) (fun a9 hr=>?_)
 .refine sr<|yy (aF' z) z<|yy (g' 2 bc' z z z) z<|yy (bD' z) z<|yy (g' 3 sc3 z z z) z ?_
  obtain⟨ag,aH,hr⟩:=hr
  refine Q' z z (u' E134 z) (ep' aH) z (g) (fun bC bL t aa=>?_)
  obtain⟨L,I,rfl,aI⟩:=aa
  refine yy (aF' z) z<|aB' 5 ([.slice e c.vars.length d,.slice L ag.length I,.slice k c.neqs.length h,i' c.next]).toArray z sz29 z z z (show 1<4 by decide) z z<|nr<|yy (aG' z) z<|yy (g' 2 bc' z z z) z<|yy (bD' z) z<|yy (g' 3 sc3 z z z) z ?_
  obtain⟨af,au,hr⟩:=hr
  refine Q' z z (u' E134 z) (ep' au) z ((f.mono t)) (fun bp bN u H=>?_)
  obtain⟨R,Q,rfl,ai⟩:=H
  refine yy (aG' z) z<|aB' 5 ([.slice e c.vars.length d,.slice L ag.length I,.slice R af.length Q,i' c.next]).toArray z sz29 z z z (show 2<4 by decide) z z<|nr<|mv z z<|yy (aV' z z) z<|nx<|E' hr z (fun bg hr=>?_) (fun bg hr=>?_)
  .refine ad' [ff,ff,ff,ff,ff,ff,ff] mix (by kernel_rfl) fun hb=>cn (fun _ l=>aG' z)<|cn (fun _ l=>g' 2 bc' z z z)<|cn (fun _ l=>aF' z)<|cn (fun _ l=>g' 2 bc' z z z)<|cn (fun _ l=>f' z) ?_
   obtain⟨x1,ax,hr⟩:=hr
   refine cn (fun _ l=>P' N' bK' ((g.mono (mx t u)).mono l) z z ax) ?_
   obtain⟨bB,bD,ba,a0⟩:=bN' (H' (X' g ax) (mx t u))
   refine cn (fun _ l=>as' _ ag57 z z (fun j v hv=>l _ _ _ (ba j v hv)))<|af' hb ?_
   obtain⟨aO,aq,hr⟩:=hr
   refine Q' z z (u' E133 z) (dJ' aq) z (⟨(f.mono (mx t u)),a0⟩) (fun bq bt E K=>?_)
   obtain⟨am,ar,rfl,ao⟩:=K
   refine yy (aG' z) z<|aB' 5 ([.slice e c.vars.length d,.slice L ag.length I,.slice am aO.length ar,i' c.next]).toArray z sz29 z z z (show 2<4 by decide) z z<|o'<|am'<|v'<|a'<|sr<|yy (m' 5 ai' z z z) z<|x' 4 z aR' z z z z z (List.all_eq_true.1 z)<|nx<|k' ?_
   obtain rfl:_=r:=hr
   exact j' z (ak' (i:=4) ai' z z z) ⟨_,_,_,_,_,_,z,(m.mono (mx (mx t u) E)),(aI.mono (mx u E)),ao⟩
  refine ad' [ff,ff,ff,ff,ff,ff,ff] mix (by kernel_rfl) fun hb=>cn (fun _ l=>aF' z)<|cn (fun _ l=>g' 2 bc' z z z)<|cn (fun _ l=>aG' z)<|cn (fun _ l=>g' 2 bc' z z z)<|cn (fun _ l=>f' z) ?_
  obtain⟨x2,av,hr⟩:=hr
  refine cn (fun _ l=>P' N' bK' ((f.mono (mx t u)).mono l) z z av) ?_
  obtain⟨bA,bw,a4,aG⟩:=bN' (H' (X' f av) (mx t u))
  refine cn (fun _ l=>as' _ ag57 z z (fun j v hv=>l _ _ _ (a4 j v hv)))<|af' hb ?_
  obtain⟨aD,al,hr⟩:=hr
  refine Q' z z (u' E133 z) (dJ' al) z (⟨(g.mono (mx t u)),aG⟩) (fun bo bE F J=>?_)
  obtain⟨aj,ak,rfl,an⟩:=J
  refine yy (aF' z) z<|aB' 5 ([.slice e c.vars.length d,.slice aj aD.length ak,.slice R af.length Q,i' c.next]).toArray z sz29 z z z (show 1<4 by decide) z z<|o'<|am'<|v'<|a'<|sr<|yy (m' 5 ai' z z z) z<|x' 4 z aR' z z z z z (List.all_eq_true.1 z)<|nx<|k' ?_
  obtain rfl:_=r:=hr
  exact j' z (ak' (i:=4) ai' z z z) ⟨_,_,_,_,_,_,z,(m.mono (mx (mx t u) F)),an,(ai.mono F)⟩
 refine l'<|v'<|a'<|sr<|yy (m' 5 ai' z z z) z<|x' 4 z aR' z z z z z (List.all_eq_true.1 z)<|nx<|k' ?_
 obtain rfl:_=r:=hr
 exact j' z (ak' (i:=4) ai' z z z) ⟨_,_,_,_,_,_,z,m,g,f⟩
theorem ez'{d f s q m n j h F E r}(hr:(Z1 d f).Ret r):Ctr prog 44 #[.agg ((v31' d s q m n j h)).toArray,.agg ((v116' f F E)).toArray] (fun G=>sl Rp.str G s q d.vars/\sl e' G m n d.eqs/\sl e' G j h d.neqs/\sl r' G F E f.p) (w31t' r):=by
 refine A' (args:=[_,_]) (N:=157) func44 z z z (fun w0 G0 U bw=>?_)
 obtain⟨g,l,k,C⟩:=bw
 refine sr<|Y' 2 z z z fun b1=>Y' 3 z z z fun b2=>O' 4 z z31 z fun b3=>sg z z<|nr<|yy (m' 2 ai' z z z) z<|yy (m' 3 ag116 z z z) z ?_
 obtain⟨c5,be,hr⟩:=hr
 refine B' z z (u' E80 z) (gl' be) z (⟨g,l,k,C⟩)<|sx0 z z<|c'<|sr<|mv z z<|yy (bj' z z) z<|nx<|E' hr z (fun cb hr=>?_) (fun cb hr=>?_)
 .refine sr<|yy (at' (vs:=#[]) (v:=.agg ([.slice none 0 0,.slice none 0 0,.slice none 0 0,i' 0]).toArray) z z (fun _=>by kernel_rfl)) z<|mv z z<|x' 4 z aR' z z z z z (List.all_eq_true.1 z)<|sx0 z z<|k'<|b' ?_
  obtain rfl:_=r:=hr
  exact bE' z (ak' (i:=4) ai' z z z) z ⟨_,_,_,_,_,_,z,(ah' Rp.str _),(ah' e' _),(ah' e' _)⟩
 refine l'<|a'<|sr<|yy (aH' z) z<|yy (g' 2 bF' z z z) z<|yy (K' J' g z) z<|sg z z<|nr<|yy (m' 2 ai' z z z) z<|O' 8 z z31 z fun b4=>x' 8 z aR' z z z z z (List.all_eq_true.1 z)<|nr<|WL.litT (e:=9) (r:=Rp.str) (vs:=#[]) (cs:=[]) ([]:List ByteArray) 4021 z z z z z (by decide) (fun _=>by kernel_rfl) (z) fun p1 cx bR=>yy (aH' z) z<|yy (g' 2 bF' z z z) z ?_
 obtain⟨a9,hr⟩:=hr
 refine WL.appendT (r:=Rp.str) (e:=9) 4021 z z J' el9 z (by decide) z z bR z g a9 fun p2 au cQ Y=>yy (aH' z) z<|aB' 8 ([.slice p2 ([]++d.vars).length au,.slice m d.eqs.length n,.slice j d.neqs.length h,i' d.next]).toArray z sz28 z z z (show 0<4 by decide) z z<|nx<|c'<|sr<|yy (cZ' z) z<|yy (g' 3 sc3 z z z) z<|nx<|s'<|sr<|yy (au' z z) z<|sx0 z z<|E' hr z (fun bQ hr=>?_) (fun bQ hr=>?_)
 .refine c'<|ad' [ff,ff,ff,ff,ff,ff,ff,ff,ff,ff,ff,ff,ff,ff,ff,ff] mix (by kernel_rfl) fun p=>Chain.litOwn (r:=Rp.str) (e:=9) ([]:List ByteArray) (fun _=>z) z (by decide) (fun u o c t=>?_) ?_
  .exact⟨#[],[],z,z,fun _=>by kernel_rfl,z⟩
  refine cu (fun _ _ c=>aH' z)<|cu (fun _ _ c=>g' 2 bF' z z z)<|cu (fun _ _ c=>by' z)<|cu (fun _ _ c=>g' 3 sc3 z z z) ?_
  obtain⟨bX,hr⟩:=hr
  obtain⟨p3,bO,bS,b6⟩:=SlR.cut (r:=Rp.str) none (some (i' f.at')) sz9 z J' g (.inl ⟨z,z⟩) (.inr ⟨_,z⟩) bX
  refine cu (fun _ _ c=>Y0.cutH J' b6 z z) ?_
  obtain⟨bh,hr⟩:=hr
  refine Chain.appendOwn (r:=Rp.str) (e:=9) (kk:=33) (xs:=([]:List ByteArray)) ((d.vars.take f.at'.toNat).drop (0:Int).toNat) (fun _=>z) z (by kernel_rfl) (by kernel_rfl) J' el9 z (by decide) bh (fun u o c t=>?_) ?_
  .obtain⟨aE,_⟩:=(show (RowX Rp.str 9 33 ([]:List ByteArray)) (u 33) o/\True from t)
   exact⟨u 33,.slice p3 ((d.vars.take f.at'.toNat).drop (0:Int).toNat).length bO,aE,z,z,(bS.mono c)⟩
  refine cu (fun _ _ c=>dQ' z)<|cu (fun _ _ c=>g' 3 sc9 z z z)<|ch' (r:=Rp.str) (e:=9) ([f.name]:List ByteArray) (fun _=>z) z (by decide) (fun u o c t=>?_) ?_
  .exact⟨#[(0,.string f.name)],[.string f.name]++([]),z,z,fun _=>by kernel_rfl,⟨[.string f.name],[],z,z,z⟩⟩
  obtain⟨bb,hr⟩:=hr
  refine Chain.appendOwn (r:=Rp.str) (e:=9) (kk:=39) (xs:=(([]:List ByteArray)++((d.vars.take f.at'.toNat).drop (0:Int).toNat))) [f.name] (fun _=>z) z (by kernel_rfl) (by kernel_rfl) J' el9 z (by decide) bb (fun u o c t=>?_) ?_
  .obtain⟨⟨p4,an,aD,aZ⟩,aG,_,_⟩:=(show (fun G v=>∃ p4 an,v = .slice p4 1 1/\SlRd Rp.str G (.slice p4 1 1) an [f.name]) o.m (u 42)/\(RowX Rp.str 9 39 (([]:List ByteArray)++((d.vars.take f.at'.toNat).drop (0:Int).toNat))) (u 39) o/\True/\True from t)
   exact⟨u 39,.slice p4 1 1,aG,z,(by simp only[undFr,eatO,List.map_cons,List.map_nil,aD] <;> rfl),aZ⟩
  refine cu (fun _ _ c=>aH' z)<|cu (fun _ _ c=>g' 2 bF' z z z)<|cu (fun _ _ c=>by' z)<|cu (fun _ _ c=>g' 3 sc3 z z z) ?_
  obtain⟨bI,hr⟩:=hr
  obtain⟨p5,cU,bZ,bV⟩:=SlR.cut (r:=Rp.str) (some (i' f.at')) none sz9 z J' g (.inr ⟨_,z⟩) (.inl ⟨z,z⟩) bI
  refine cu (fun _ _ c=>Y0.cutL J' bV z z)<|Chain.tailX4 (fun cw cG cy cK X1 S ah ag bB bC=>?_)
  obtain⟨p4,an,rfl,aZ⟩:=ag
  refine WL.adoptR ah (fun cH cR cj bo ba cN=>?_)
  subst bo
  refine cJ' (show WL _ _ _ _ _ _ (St w0 G0 X1.m _) from ?_)
  obtain⟨bv,hr⟩:=hr
  refine WL.appendT (r:=Rp.str) (e:=9) 43 z z J' el9 z (by decide) z z ba z (bZ.mono S) bv fun p6 al cE bG=>yy (aH' z) z<|aB' 8 ([.slice p6 (((([]:List ByteArray)++((d.vars.take f.at'.toNat).drop (0:Int).toNat))++[f.name])++((d.vars.take (d.vars.length:Int).toNat).drop f.at'.toNat)).length al,.slice m d.eqs.length n,.slice j d.neqs.length h,i' d.next]).toArray z sz28 z z z (show 0<4 by decide) z z<|o'<|am'<|a'<|c'<|ad' [ff,ff,ff,ff,ff,ff] mix (by kernel_rfl) fun p=>cn (fun _ c=>aF' z)<|cn (fun _ c=>g' 2 bc' z z z)<|cn (fun _ c=>f' z)<|cn (fun _ c=>by' z)<|cn (fun _ c=>g' 3 sc3 z z z) ?_
  obtain⟨cX,a6,hr⟩:=hr
  refine cm' z (fun _=>u' E82 z) (db' a6) z (fun o c=>trivial)<|af' p ?_
  obtain⟨a3,bu,hr⟩:=hr
  refine Q' z z (u' E81 z) (de' bu) z ((l.mono S)) (fun cF c0 X aj=>?_)
  obtain⟨av,ak,rfl,bj⟩:=aj
  refine yy (aF' z) z<|aB' 8 ([.slice p6 (((([]:List ByteArray)++((d.vars.take f.at'.toNat).drop (0:Int).toNat))++[f.name])++((d.vars.take (d.vars.length:Int).toNat).drop f.at'.toNat)).length al,.slice av a3.length ak,.slice j d.neqs.length h,i' d.next]).toArray z sz29 z z z (show 1<4 by decide) z z<|o'<|am'<|a'<|ad' [ff,ff,ff,ff,ff,ff] mix (by kernel_rfl) fun p=>cn (fun _ c=>aG' z)<|cn (fun _ c=>g' 2 bc' z z z)<|cn (fun _ c=>f' z)<|cn (fun _ c=>by' z)<|cn (fun _ c=>g' 3 sc3 z z z) ?_
  obtain⟨cT,bA,hr⟩:=hr
  refine cm' z (fun _=>u' E82 z) (db' bA) z (fun o c=>trivial)<|af' p ?_
  obtain⟨b0,bc,hr⟩:=hr
  refine Q' z z (u' E81 z) (de' bc) z ((k.mono (mx S X))) (fun cL c4 ac ai=>?_)
  obtain⟨bx,a8,rfl,bd⟩:=ai
  refine yy (aG' z) z<|aB' 8 ([.slice p6 (((([]:List ByteArray)++((d.vars.take f.at'.toNat).drop (0:Int).toNat))++[f.name])++((d.vars.take (d.vars.length:Int).toNat).drop f.at'.toNat)).length al,.slice av a3.length ak,.slice bx b0.length a8,i' d.next]).toArray z sz29 z z z (show 2<4 by decide) z z<|o'<|am'<|v'<|a'<|sr<|bQ' (r:=Rp.str) (e:=9) 43 (bG.mono (mx X ac)) z (by rw[U]; rfl) fun cS cW aa bp co=>yy (m' 8 ai' z z z) z<|x' 4 z aR' z z z z z (List.all_eq_true.1 z)<|sx0 z z<|k' ?_
  obtain rfl:_=r:=hr
  exact bE' z (ak' (i:=4) ai' z z z) z ⟨_,_,_,_,_,_,z,bp,(bj.mono (mx ac aa)),(bd.mono aa)⟩
 refine sr<|yy (au' z z) z<|sx0 z z<|E' hr z (fun bT hr=>?_) (fun bT hr=>?_)
 .refine c'<|ad' [ff,ff,ff,ff,ff,ff,ff,ff,ff,ff,ff,ff,ff] mix (by kernel_rfl) fun p=>Chain.litOwn (r:=Rp.str) (e:=9) ([]:List ByteArray) (fun _=>z) z (by decide) (fun u o c t=>?_) ?_
  .exact⟨#[],[],z,z,fun _=>by kernel_rfl,z⟩
  refine cu (fun _ _ c=>aH' z)<|cu (fun _ _ c=>g' 2 bF' z z z)<|cu (fun _ _ c=>by' z)<|cu (fun _ _ c=>g' 3 sc3 z z z) ?_
  obtain⟨bD,hr⟩:=hr
  obtain⟨p7,b8,bL,bU⟩:=SlR.cut (r:=Rp.str) none (some (i' f.at')) sz9 z J' g (.inl ⟨z,z⟩) (.inr ⟨_,z⟩) bD
  refine cu (fun _ _ c=>Y0.cutH J' bU z z) ?_
  obtain⟨bl,hr⟩:=hr
  refine Chain.appendOwn (r:=Rp.str) (e:=9) (kk:=69) (xs:=([]:List ByteArray)) ((d.vars.take f.at'.toNat).drop (0:Int).toNat) (fun _=>z) z (by kernel_rfl) (by kernel_rfl) J' el9 z (by decide) bl (fun u o c t=>?_) ?_
  .obtain⟨aq,_⟩:=(show (RowX Rp.str 9 69 ([]:List ByteArray)) (u 69) o/\True from t)
   exact⟨u 69,.slice p7 ((d.vars.take f.at'.toNat).drop (0:Int).toNat).length b8,aq,z,z,(bL.mono c)⟩
  refine cu (fun _ _ c=>aH' z)<|cu (fun _ _ c=>g' 2 bF' z z z)<|cu (fun _ _ c=>by' z)<|cu (fun _ _ c=>g' 3 sc3 z z z)<|cu (fun _ _ c=>I' z z) ?_
  obtain⟨bW,hr⟩:=hr
  obtain⟨p8,da,bE,ca⟩:=SlR.cut (r:=Rp.str) (some (i' (i64.wrap (f.at'+1)))) none sz9 z J' g (.inr ⟨_,z⟩) (.inl ⟨z,z⟩) bW
  refine cu (fun _ _ c=>Y0.cutL J' ca z z)<|Chain.tailX2 fun cm cf X2 Q M a7=>WL.adoptR M (fun ce cp bK aL aI cr=>?_)
  subst aL
  refine cJ' (show WL _ _ _ _ _ _ (St w0 G0 X2.m _) from ?_)
  obtain⟨br,hr⟩:=hr
  refine WL.appendT (r:=Rp.str) (e:=9) 75 z z J' el9 z (by decide) z z aI z (bE.mono Q) br fun p9 ar cD bH=>yy (aH' z) z<|aB' 8 ([.slice p9 ((([]:List ByteArray)++((d.vars.take f.at'.toNat).drop (0:Int).toNat))++((d.vars.take (d.vars.length:Int).toNat).drop (i64.wrap (f.at'+1)).toNat)).length ar,.slice m d.eqs.length n,.slice j d.neqs.length h,i' d.next]).toArray z sz28 z z z (show 0<4 by decide) z z<|o'<|am'<|a'<|c'<|ad' [ff,ff,ff,ff,ff,ff,ff] mix (by kernel_rfl) fun p=>cn (fun _ c=>aF' z)<|cn (fun _ c=>g' 2 bc' z z z)<|cn (fun _ c=>by' z)<|cn (fun _ c=>g' 3 sc3 z z z)<|cn (fun _ c=>f' z)<|cn (fun _ c=>be' z z) ?_
  obtain⟨cA,aC,hr⟩:=hr
  refine cm' z (fun _=>u' E82 z) (db' aC) z (fun o c=>trivial)<|af' p ?_
  obtain⟨ao,aM,hr⟩:=hr
  refine Q' z z (u' E81 z) (de' aM) z ((l.mono Q)) (fun ci c6 V P=>?_)
  obtain⟨ad,Z,rfl,aQ⟩:=P
  refine yy (aF' z) z<|aB' 8 ([.slice p9 ((([]:List ByteArray)++((d.vars.take f.at'.toNat).drop (0:Int).toNat))++((d.vars.take (d.vars.length:Int).toNat).drop (i64.wrap (f.at'+1)).toNat)).length ar,.slice ad ao.length Z,.slice j d.neqs.length h,i' d.next]).toArray z sz29 z z z (show 1<4 by decide) z z<|o'<|am'<|a'<|ad' [ff,ff,ff,ff,ff,ff,ff] mix (by kernel_rfl) fun p=>cn (fun _ c=>aG' z)<|cn (fun _ c=>g' 2 bc' z z z)<|cn (fun _ c=>by' z)<|cn (fun _ c=>g' 3 sc3 z z z)<|cn (fun _ c=>f' z)<|cn (fun _ c=>be' z z) ?_
  obtain⟨cJ,aR,hr⟩:=hr
  refine cm' z (fun _=>u' E82 z) (db' aR) z (fun o c=>trivial)<|af' p ?_
  obtain⟨bn,aT,hr⟩:=hr
  refine Q' z z (u' E81 z) (de' aT) z ((k.mono (mx Q V))) (fun ch c9 W R=>?_)
  obtain⟨aA,aO,rfl,aJ⟩:=R
  refine yy (aG' z) z<|aB' 8 ([.slice p9 ((([]:List ByteArray)++((d.vars.take f.at'.toNat).drop (0:Int).toNat))++((d.vars.take (d.vars.length:Int).toNat).drop (i64.wrap (f.at'+1)).toNat)).length ar,.slice ad ao.length Z,.slice aA bn.length aO,i' d.next]).toArray z sz29 z z z (show 2<4 by decide) z z<|o'<|am'<|v'<|a'<|sr<|bQ' (r:=Rp.str) (e:=9) 75 (bH.mono (mx V W)) z (by rw[U]; rfl) fun c8 cY af bf cq=>yy (m' 8 ai' z z z) z<|x' 4 z aR' z z z z z (List.all_eq_true.1 z)<|sx0 z z<|k' ?_
  obtain rfl:_=r:=hr
  exact bE' z (ak' (i:=4) ai' z z z) z ⟨_,_,_,_,_,_,z,bf,(aQ.mono (mx W af)),(aJ.mono af)⟩
 refine sr<|yy (au' z z) z<|sx0 z z<|E' hr z (fun bP hr=>?_) (fun bP hr=>?_)
 .refine n'<|yy (aH' z) z<|yy (g' 8 bF' z z z) z<|yy (by' z) z<|yy (g' 3 sc3 z z z) z<|yy (dQ' z) z<|yy (g' 3 sc9 z z z) z ?_
  obtain⟨x1,a4,hr⟩:=hr
  refine yy (aY' J' sz9 Y z z a4) z<|bO' (r:=Rp.str) (e:=9) (cs':=[.string f.name]) (i:=f.at') (z':=f.name) 4021 z sz9 z Y z z z z z a4 fun c7 bz=>o'<|v'<|a'<|sr<|bQ' (r:=Rp.str) (e:=9) 4021 bz z (by rw[U]; rfl) fun cZ c3 T ap ck=>yy (m' 8 ai' z z z) z<|x' 4 z aR' z z z z z (List.all_eq_true.1 z)<|sx0 z z<|k' ?_
  obtain rfl:_=r:=hr
  exact bE' z (ak' (i:=4) ai' z z z) z ⟨_,_,_,_,_,_,(by rw[dc' ap]),(dd' ap),(l.mono T),(k.mono T)⟩
 refine sr<|yy (au' z z) z<|sx0 z z<|E' hr z (fun b7 hr=>?_) (fun b7 hr=>?_)
 .refine sr ?_
  obtain⟨y,aS,hr⟩:=hr
  refine B' z z (u' E82 z) (db' aS) z (trivial)<|O' 9 z z109 z fun b5=>x' 9 z sz109 z z z (M' _ _ _) (M' _ _ _) (fun u t=>Rp.one (cy' .i64 8) (G:=G0) (x:=y) (cs:=vecG (Value.int .i64) 8 y) z u (by first|simpa using t|simpa [Value.cells] using t))<|nr<|yy (by' z) z<|yy (g' 3 sc3 z z z) z<|yy (eo' z) z<|yy (g' 3 sc3 z z z) z ?_
  obtain⟨bM,hr⟩:=hr
  refine yy (aQ' br' sz3 z z bM) z<|aB' 9 (vecG (Value.int .i64) 8 (setF y f.at'.toNat f.to')).toArray z sz3 z z z (by first|(rw[M']; omega)|(show _<(vecG _ _ _).toArray.size; rw[M']; omega)) z (co' _ _ _ _ _)<|nr<|yy (eo' z) z<|yy (g' 3 sc3 z z z) z<|yy (by' z) z<|yy (g' 3 sc3 z z z) z ?_
  obtain⟨bF,hr⟩:=hr
  refine yy (aQ' br' sz3 z z bF) z<|aB' 9 (vecG (Value.int .i64) 8 (setF (setF y f.at'.toNat f.to') f.to'.toNat f.at')).toArray z sz3 z z z (by first|(rw[M']; omega)|(show _<(vecG _ _ _).toArray.size; rw[M']; omega)) z (co' _ _ _ _ _)<|nx<|c'<|ad' [ff,ff,ff,ff,ff,ff,ff,ff,ff,ff] mix (by kernel_rfl) fun p=>cn (fun _ c=>aH' z)<|cn (fun _ c=>g' 8 bF' z z z)<|cn (fun _ c=>by' z)<|cn (fun _ c=>g' 3 sc3 z z z)<|cn (fun _ c=>aH' z)<|cn (fun _ c=>g' 2 bF' z z z)<|cn (fun _ c=>eo' z)<|cn (fun _ c=>g' 3 sc3 z z z) ?_
  obtain⟨x2,aU,hr⟩:=hr
  refine cn (fun _ c=>P' J' sz9 (g.mono c) z z aU)<|cn (fun _ c=>ae' sc9 z (bT' (H' (X' g aU) c)))<|af' p ?_
  obtain⟨x3,a0,hr⟩:=hr
  refine yy (aY' J' sz9 Y z z a0) z<|bO' (r:=Rp.str) (e:=9) (cs':=[.string x2]) (i:=f.at') (z':=x2) 4021 z sz9 z Y z z z z z a0 fun cV ay=>o'<|am'<|a'<|c'<|ad' [ff,ff,ff,ff,ff,ff,ff,ff,ff,ff] mix (by kernel_rfl) fun p=>cn (fun _ c=>aH' z)<|cn (fun _ c=>g' 8 bF' z z z)<|cn (fun _ c=>eo' z)<|cn (fun _ c=>g' 3 sc3 z z z)<|cn (fun _ c=>aH' z)<|cn (fun _ c=>g' 2 bF' z z z)<|cn (fun _ c=>by' z)<|cn (fun _ c=>g' 3 sc3 z z z) ?_
  obtain⟨x4,aW,hr⟩:=hr
  refine cn (fun _ c=>P' J' sz9 (g.mono c) z z aW)<|cn (fun _ c=>ae' sc9 z (bT' (H' (X' g aW) c)))<|af' p ?_
  obtain⟨x5,aX,hr⟩:=hr
  refine yy (aY' J' sz9 ay z z aX) z<|bO' (r:=Rp.str) (e:=9) (cs':=[.string x4]) (i:=f.to') (z':=x4) 4021 z sz9 z ay z z z z z aX fun c2 bt=>o'<|am'<|a'<|sr<|yy (aF' z) z<|yy (g' 2 bc' z z z) z<|yy (m' 9 ag109 z z (M' _ _ _)) z ?_
  obtain⟨aw,aF,hr⟩:=hr
  refine Q' z z (u' E81 z) (de' aF) z (l) (fun cl cv B J=>?_)
  obtain⟨ae,ab,rfl,aN⟩:=J
  refine yy (aF' z) z<|aB' 8 ([.slice p2 ([]++d.vars).length au,.slice ae aw.length ab,.slice j d.neqs.length h,i' d.next]).toArray z sz29 z z z (show 1<4 by decide) z z<|nx<|n'<|yy (aG' z) z<|yy (g' 2 bc' z z z) z<|yy (m' 9 ag109 z z (M' _ _ _)) z ?_
  obtain⟨bs,aK,hr⟩:=hr
  refine Q' z z (u' E81 z) (de' aK) z ((k.mono B)) (fun cc cP I K=>?_)
  obtain⟨aH,aB,rfl,az⟩:=K
  refine yy (aG' z) z<|aB' 8 ([.slice p2 ([]++d.vars).length au,.slice ae aw.length ab,.slice aH bs.length aB,i' d.next]).toArray z sz29 z z z (show 2<4 by decide) z z<|o'<|v'<|a'<|sr<|bQ' (r:=Rp.str) (e:=9) 4021 (bt.mono (mx B I)) z (by rw[U]; rfl) fun c1 cO D ax cd=>yy (m' 8 ai' z z z) z<|x' 4 z aR' z z z z z (List.all_eq_true.1 z)<|sx0 z z<|k' ?_
  obtain rfl:_=r:=hr
  exact bE' z (ak' (i:=4) ai' z z z) z ⟨_,_,_,_,_,_,(by rw[dc' ax]),(dd' ax),(aN.mono (mx I D)),(az.mono D)⟩
 refine sr<|yy (m' 2 ai' z z z) z<|yy (m' 3 ag116 z z z) z ?_
 obtain⟨cI,aP,hr⟩:=hr
 refine Q' z z (u' E83 z) (fA' aP) z (⟨g,l,k,C⟩) (fun cg cz bY O=>?_)
 obtain⟨a1,aV,bk,bg,aY,a2,rfl,A,L,H⟩:=O
 refine x' 4 z aR' z z z z z (List.all_eq_true.1 z)<|sx0 z z<|k'<|w'<|b' ?_
 obtain rfl:_=r:=hr
 exact bE' z (ak' (i:=4) ai' z z z) z ⟨_,_,_,_,_,_,z,A,L,H⟩
theorem gr'{l1 V aw ax r}(hr:(Zij l1 V).Ret r):Ctr prog 20 #[.slice aw l1.length ax,i' V] (fun G=>sl bv' G aw ax l1) (w31' r):=by
 refine A' (args:=[_,_]) (N:=36) func20 z z z (fun w0 G0 bg aV=>?_)
 have au:=aV
 refine sr<|O' 4 z z31 z fun b1=>nr<|yy (at' (vs:=#[(3,i' 1)]) (v:=.agg ([.slice none 0 0,.slice none 0 0,.slice none 0 0,i' 1]).toArray) z z (fun _=>by kernel_rfl)) z<|O' 5 z z31 z fun b2=>x' 5 z aR' z z z z z (List.all_eq_true.1 z)<|nx<|c'<|sr<|sx0 z z<|R' (fun (⟨Q,x,q,E,D,t,s,S⟩:Za×Option Addr×Nat×Option Addr×Nat×Option Addr×Nat×Mem)=>[(4,pt0 b1),(5,pt0 b2)]) (fun ⟨Q,x,q,E,D,t,s,S⟩=>Mem.le G0 S/\sl Rp.str S x q Q.vars/\sl e' S E D Q.eqs/\sl e' S t s Q.neqs/\(Zfa Q).Ret r) (fun ⟨Q,x,q,E,D,t,s,S⟩=>St w0 G0 S [(4,bk0 b1 ([.slice none 0 0,.slice none 0 0,.slice none 0 0,i' 0]) 31),(5,bk0 b2 (v31' Q x q E D t s) 31)]) ?_ ?_
 .refine s' ?_
  let av:Za->Prop:=fun oo=>((fun ov=>match ov with|Q=>Zfa Q:Za->Cq Za) oo).wp (fun a=>a=r)
  replace hr:(Cq.loop _ _).wp av:=hr
  refine T' (Φ:=av) (fun (⟨i1,L,l,e,n,m,g,k,O⟩:Int×Za×Option Addr×Nat×Option Addr×Nat×Option Addr×Nat×Mem)=>((i1,L):Int×Za)) (fun ⟨i1,L,l,e,n,m,g,k,O⟩=>[(0,.slice aw l1.length ax),(1,i' V),(4,pt0 b1),(5,pt0 b2),(6,i' i1)]) (fun ⟨i1,L,l,e,n,m,g,k,O⟩=>Mem.le G0 O/\y31' O l e n m g k L) (fun ⟨i1,L,l,e,n,m,g,k,O⟩=>St w0 G0 O [(4,bk0 b1 ([.slice none 0 0,.slice none 0 0,.slice none 0 0,i' 0]) 31),(5,bk0 b2 (v31' L l e n m g k) 31)]) ⟨0,(Za.mk [] [] [] 1),none,0,none,0,none,0,G0⟩ hr (f5 z z z z z) ⟨mr,(ah' _ _),(ah' _ _),(ah' _ _)⟩ (w2 z z) ?_
  .intro bf gx hx hr
   obtain⟨i1,L,l,e,n,m,g,k,O⟩:=gx
   obtain⟨F,A,C,y⟩:=hx
   refine c'<|sr<|mv z z<|mv z z<|yy (K' dw' (au.mono F) z) z<|ao' hr z (V' z z) z (fun a1 hr=>?_) (fun a1 hr=>?_)
   .refine mv z z<|gy z z (f' z) z<|gy z z (f' z) z<|gy z z (V' z z) z<|yy (t' z z) z<|nx<|E' hr z (fun a2 hr=>?_) (fun a2 hr=>?_)
    .refine l'<|a'<|c'<|s'<|c'<|ad' [ff,ff,ff,ff,ff,ff,ff,ff,ff,ff,tt,ff] mix (by kernel_rfl) fun hb=>cn (fun _ d=>m' 5 ai' z z z)<|cn (fun _ d=>m' 5 ai' z z z)<|cn (fun _ d=>f' z)<|cn (fun _ d=>f' z) ?_
     obtain⟨x1,aN,hr⟩:=hr
     refine cn (fun _ d=>P' dw' sz122 ((au.mono F).mono d) z z aN) ?_
     obtain⟨a5,a4,aW,aF⟩:=ZgV (H' (X' au aN) F)
     refine cn (fun _ d=>as' _ ag122 z z (fun j v hv=>d _ _ _ (aW j v hv))) ?_
     obtain⟨aM,aR,hr⟩:=hr
     refine aw' (post:=w116' aM) (fun _=>z) (fun _ _=>u' E45 z) (fx' aR) z (fun X d=>⟨(A.mono d),(C.mono d),(y.mono d),(aF.mono d)⟩) (fun v G1 G2 d h=>?_) ?_
     .obtain⟨ai,ag,rfl,T⟩:=h
      exact⟨_,_,z,T.mono d⟩
     obtain⟨R,aS,hr⟩:=hr
     refine bz' (f:=44) (φ:=w31t' R) (fun _=>z) (fun v G1 G2 d h=>?_) (fun u X d hu=>?_) ?_
     .obtain⟨K,J,M,P,H,I,rfl,p,B,o⟩:=h
      exact⟨_,_,_,_,_,_,z,p.mono d,B.mono d,o.mono d⟩
     .obtain⟨⟨ai,ag,aE,T⟩,_⟩:=(show (w116' aM) X.m (u 28)/\True from hu)
      exact⟨_,_,_,fun _=>u' E44 z,ez' aS,(by simp only[aE] <;> rfl),⟨(A.mono d),(C.mono d),(y.mono d),T⟩⟩
     refine bC' (φ:=w31t' R) (fun _=>z) (fun v G1 G2 d h=>?_) (fun u X d hu=>?_) ?_
     .obtain⟨p1,aj,p2,ah,p3,af,rfl,Y,aa,Z⟩:=h
      exact⟨_,_,_,_,_,_,z,Y.mono d,aa.mono d,Z.mono d⟩
     .obtain⟨⟨K,J,M,P,H,I,aD,p,B,o⟩,_,_⟩:=(show (w31t' R) X.m (u 29)/\True/\True from hu)
      simp only[undFr,aD]
      exact⟨_,f' z,K,J,M,P,H,I,z,p,B,o⟩
     refine bC' (φ:=w31' R.1) (fun _=>z) (fun v G1 G2 d h=>?_) (fun u X d hu=>?_) ?_
     .obtain⟨p4,aL,p5,aJ,p6,aK,rfl,ar,ay,aq⟩:=h
      exact⟨_,_,_,_,_,_,z,ar.mono d,ay.mono d,aq.mono d⟩
     .obtain⟨⟨p1,aj,p2,ah,p3,af,W,Y,aa,Z⟩,_,_,_⟩:=(show (w31t' R) X.m (u 21)/\True/\True/\True from hu)
      simp only[undFr,W]
      exact⟨_,L' z z,p1,aj,p2,ah,p3,af,z,Y,aa,Z⟩
     refine bZ' (c:=i' R.2) (fun _=>z) (fun u X d hu=>?_) ?_
     .obtain⟨_,⟨p1,aj,p2,ah,p3,af,W,Y,aa,Z⟩,_,_,_⟩:=(show True/\(w31t' R) X.m (u 21)/\True/\True/\True from hu)
      simp only[undFr,W]
      exact L' z z
     refine bJ' (fun _=>z) z31<|Chain.tailX5 (fun bh a9 a6 bb bc X1 U az al ao ap ak=>?_)
     obtain⟨b3,rfl,aQ⟩:=az
     obtain⟨p4,aL,p5,aJ,p6,aK,rfl,ar,ay,aq⟩:=al
     obtain⟨p1,aj,p2,ah,p3,af,rfl,Y,aa,Z⟩:=ao
     obtain⟨K,J,M,P,H,I,rfl,p,B,o⟩:=ap
     obtain⟨ai,ag,rfl,T⟩:=ak
     refine di' aQ (cJ' (show WL _ _ _ _ _ _ (St w0 G0 X1.m _) from ?_))
     refine x' 7 z aR' z z z z z (List.all_eq_true.1 z)<|sg z z<|o'<|am'<|a'<|sr<|mv z z<|yy (au' z z) z<|nx<|E' hr z (fun aZ hr=>?_) (fun aZ hr=>?_)
     .refine n'<|yy (m' 7 ai' z z z) z<|x' 5 z aR' z z z z z (List.all_eq_true.1 z)<|o'<|v'<|a'<|n'<|mv z z<|yy (I' z z) z<|sg z z<|o'<|C' ⟨i64.wrap (i1+1),R.1,p4,aL,p5,aJ,p6,aK,X1.m⟩ hr ⟨(mx F U),ar,ay,aq⟩ (f5 z z z z z) (w2 z z)
     refine l'<|v'<|a'<|n'<|mv z z<|yy (I' z z) z<|sg z z<|o'<|C' ⟨i64.wrap (i1+1),L,l,e,n,m,g,k,X1.m⟩ hr ⟨(mx F U),(A.mono U),(C.mono U),(y.mono U)⟩ (f5 z z z z z) (w2 z z)
    refine U'<|h'<|h'<|y'<|W' ⟨L,l,e,n,m,g,k,O⟩ ⟨F,A,C,y,hr⟩ (f2 z z) (w2 z z)
   refine mv z z<|sn3 z<|yy (p' z z) z<|nx<|aK' z<|U'<|h'<|h'<|y'<|W' ⟨L,l,e,n,m,g,k,O⟩ ⟨F,A,C,y,hr⟩ (f2 z z) (w2 z z)
 rintro⟨Q,x,q,E,D,t,s,S⟩ ⟨a3,ac,an,ad,hr⟩
 refine a'<|sr<|yy (m' 5 ai' z z z) z<|x' 4 z aR' z z z z z (List.all_eq_true.1 z)<|nx<|k' ?_
 obtain rfl:_=r:=hr
 exact j' z (ak' (i:=4) ai' z z z) ⟨_,_,_,_,_,_,z,ac,an,ad⟩
theorem fh'{s1 l1 T O P Y X S Q an ao r}(hr:(Zez s1 l1 T).Ret r):Ctr prog 22 #[.agg ((v31' s1 O P Y X S Q)).toArray,.slice an l1.length ao,i' T] (fun G=>sl Rp.str G O P s1.vars/\sl e' G Y X s1.eqs/\sl e' G S Q s1.neqs/\sl bv' G an ao l1) (wl' cg' r):=by
 refine A' (args:=[_,_,_]) (N:=44) func22 z z z (fun w0 G0 ay aO=>?_)
 obtain⟨au,ax,aq,az⟩:=aO
 refine sr<|Y' 3 z z z fun b1=>sg z z<|nr<|aD' (e:=116) (r:=cg') (vs:=#[]) (cs:=[]) ([]:List Zh) z z z z z (by decide) (fun _=>by kernel_rfl) (z) (key:=999) z (by rw[ay]; rfl) fun p1 aA I aW=>sx0 z z<|c'<|sr<|sx0 z z<|R' (fun (⟨A,H,F,E,aa⟩:(List Zh)×Option Addr×Nat×Option Ow×Mem)=>[(7,.slice H A.length F)]) (fun ⟨A,H,F,E,aa⟩=>Mem.le aA aa/\sl cg' aa H F A/\Tok 7 116 (.slice H A.length F) A.length E/\(Zeg A).Ret r) (fun ⟨A,H,F,E,aa⟩=>St w0 G0 aa [(1007,E)]) ?_ ?_
 .refine s' ?_
  let am:(List Zh)->Prop:=fun oo=>((fun ov=>match ov with|A=>Zeg A:(List Zh)->Cq (List Zh)) oo).wp (fun a=>a=r)
  replace hr:(Cq.loop _ _).wp am:=hr
  refine T' (Φ:=am) (fun (⟨m,q,p,l,Z,D,k,f,o,n,i,g,x⟩:(List Zh)×Option Addr×Nat×Option Ow×Int×Za×Option Addr×Nat×Option Addr×Nat×Option Addr×Nat×Mem)=>((m,Z,D):(List Zh)×Int×Za)) (fun ⟨m,q,p,l,Z,D,k,f,o,n,i,g,x⟩=>[(1,.slice an l1.length ao),(2,i' T),(3,pt0 b1),(7,.slice q m.length p),(8,i' Z)]) (fun ⟨m,q,p,l,Z,D,k,f,o,n,i,g,x⟩=>Mem.le aA x/\sl cg' x q p m/\Tok 7 116 (.slice q m.length p) m.length l/\y31' x k f o n i g D) (fun ⟨m,q,p,l,Z,D,k,f,o,n,i,g,x⟩=>St w0 G0 x [(3,bk0 b1 (v31' D k f o n i g) 31),(1007,l)]) ⟨[],p1,0,none,0,s1,O,P,Y,X,S,Q,aA⟩ hr (f5 z z z z z) ⟨mr,aW,cc',(au.mono I),(ax.mono I),(aq.mono I)⟩ (wk (lc z (lw ln))) ?_
  .intro aP gx hx hr
   obtain⟨m,q,p,l,Z,D,k,f,o,n,i,g,x⟩:=gx
   obtain⟨C,U,L,J,R,K⟩:=hx
   refine aP' (fun (gx:Mem)=>match gx with|ai=>[(1,.slice an l1.length ao),(2,i' T),(3,pt0 b1),(7,.slice q m.length p),(8,i' Z)]) (fun (gx:Mem)=>match gx with|ai=>Mem.le x ai/\(ZgP l1 m Z D).wp (Out aP am)) (fun (gx:Mem)=>match gx with|ai=>St w0 G0 ai [(3,bk0 b1 (v31' D k f o n i g) 31),(1007,l)]) ?_ ?_
   .refine sr<|mv z z<|mv z z<|yy (K' dw' (az.mono (mx I C)) z) z<|ao' hr z (V' z z) z (fun a0 hr=>?_) (fun a0 hr=>?_)
    .refine mv z z<|gy z z (f' z) z<|gy z z (f' z) z<|gy z z (V' z z) z<|yy (t' z z) z<|nx<|E' hr z (fun aV hr=>?_) (fun aV hr=>?_)
     .refine l'<|al' x ⟨mr,hr⟩ (f5 z z z z z) (w2 z z)
     refine U'<|h'<|h'<|y'<|W' ⟨m,q,p,l,x⟩ ⟨C,U,L,hr⟩ (f1 z) (w1 z)
    refine mv z z<|sn3 z<|yy (p' z z) z<|nx<|aK' z<|U'<|h'<|h'<|y'<|W' ⟨m,q,p,l,x⟩ ⟨C,U,L,hr⟩ (f1 z) (w1 z)
   rintro ai ⟨d,hr⟩
   refine c'<|s'<|c'<|ad' [ff,ff,ff,ff,ff,ff,ff] mix (by kernel_rfl) fun hb=>cn (fun _ B=>m' 3 ai' z z z)<|cn (fun _ B=>f' z)<|cn (fun _ B=>f' z) ?_
   obtain⟨x1,aH,hr⟩:=hr
   refine cn (fun _ B=>P' dw' sz122 ((az.mono (mx (mx I C) d)).mono B) z z aH) ?_
   obtain⟨a4,a3,aR,aE⟩:=ZgV (H' (X' az aH) (mx (mx I C) d))
   refine cn (fun _ B=>as' _ ag122 z z (fun j v hv=>B _ _ _ (aR j v hv))) ?_
   obtain⟨c,aM,hr⟩:=hr
   refine aw' (post:=w116' c) (fun _=>z) (fun _ _=>u' E45 z) (fx' aM) z (fun G' B=>⟨((J.mono d).mono B),((R.mono d).mono B),((K.mono d).mono B),(aE.mono B)⟩) (fun v G1 G2 B h=>?_) ?_
   .obtain⟨t,s,rfl,V⟩:=h
    exact⟨_,_,z,V.mono B⟩
   refine bJ' (fun _=>z) z116<|Chain.tailX2 (fun bf ba X1 y aB ap=>?_)
   obtain⟨b2,rfl,aK⟩:=aB
   obtain⟨t,s,rfl,V⟩:=ap
   refine di' aK (cJ' (show WL _ _ _ _ _ _ (St w0 G0 X1.m _) from ?_))
   refine x' 9 z sz116 z z z z z (List.all_eq_true.1 z)<|o'<|am'<|a'<|sr<|yy (m' 3 ai' z z z) z<|yy (m' 9 ag116 z z z) z ?_
   obtain⟨aU,aN,hr⟩:=hr
   refine Q' z z (u' E44 z) (ez' aN) z (⟨(J.mono (mx d y)),(R.mono (mx d y)),(K.mono (mx d y)),V⟩) (fun a9 aS u av=>?_)
   obtain⟨ag,ae,aj,ak,ab,ac,rfl,af,ah,ad⟩:=av
   refine mv z z<|yy (L' z z) z<|yy (L' z z) z<|O' 10 z z31 z fun b3=>x' 10 z aR' z z z z z (List.all_eq_true.1 z)<|sg z z<|nr<|mv z z<|yy (au' z z) z<|nx<|E' hr z (fun a1 hr=>?_) (fun a1 hr=>?_)
   .refine sr<|mv z z<|yy (m' 9 ag116 z z z) z<|aD' (e:=116) (r:=cg') (vs:=#[(0,.agg ((v116' c t s)).toArray)]) (cs:=(v116' c t s)++([])) ([c]:List Zh) z z z z z (by decide) (fun _=>by kernel_rfl) ⟨(v116' c t s),[],z,⟨[i' c.kind],[.string c.name,i' c.at',i' c.to',i' c.id,.slice t c.p.length s,.bool c.neq],z,z,⟨[.string c.name],[i' c.at',i' c.to',i' c.id,.slice t c.p.length s,.bool c.neq],z,z,⟨[i' c.at'],[i' c.to',i' c.id,.slice t c.p.length s,.bool c.neq],z,z,⟨[i' c.to'],[i' c.id,.slice t c.p.length s,.bool c.neq],z,z,⟨[i' c.id],[.slice t c.p.length s,.bool c.neq],z,z,⟨[.slice t c.p.length s],[.bool c.neq],z,⟨_,z,(V.mono u)⟩,z⟩⟩⟩⟩⟩⟩,z⟩ (key:=999) z (by rw[ay]; rfl) (fun p2 be M aZ=>?_)
    obtain⟨aJ,hr⟩:=hr
    refine aW' (r:=cg') 1007 z z dx' el116 z (by decide) z z (U.mono (mx (mx (mx d y) u) M)) z (by rw[ay]; rfl) L aZ aJ fun p3 aT aI aQ W aY aL=>sx0 z z<|n'<|yy (m' 10 ai' z z z) z<|x' 3 z aR' z z z z z (List.all_eq_true.1 z)<|o'<|v'<|a'<|n'<|mv z z<|yy (I' z z) z<|sg z z<|o'<|C' ⟨(m++[c]),p3,aT,aI,i64.wrap (Z+1),aU.1,ag,ae,aj,ak,ab,ac,aQ⟩ hr ⟨(mx (mx (mx (mx (mx C d) y) u) M) W),aY,aL,(af.mono (mx M W)),(ah.mono (mx M W)),(ad.mono (mx M W))⟩ (f5 z z z z z) (w2 z z)
   have N1:=mx (mx d y) u
   refine l'<|v'<|a'<|n'<|mv z z<|yy (I' z z) z<|sg z z<|o'<|C' ⟨m,q,p,l,i64.wrap (Z+1),D,k,f,o,n,i,g,aS⟩ hr ⟨(mx (mx (mx C d) y) u),(U.mono N1),L,(J.mono N1),(R.mono N1),(K.mono N1)⟩ (f5 z z z z z) (w2 z z)
 rintro⟨A,H,F,E,aa⟩ ⟨a2,aG,aX,hr⟩
 refine a'<|sr<|mv z z<|sx0 z z<|k' ?_
 obtain rfl:_=r:=hr
 exact j' z z ⟨_,_,z,aG⟩
theorem gG'{s1 l1 ac ad an ak af ae aC aE r}(hr:(Zlt s1 l1).Ret r):Ctr prog 46 #[.agg ((v31' s1 ac ad an ak af ae)).toArray,.slice aC l1.length aE] (fun G=>sl Rp.str G ac ad s1.vars/\sl e' G an ak s1.eqs/\sl e' G af ae s1.neqs/\sl cg' G aC aE l1) (w124' r):=by
 refine A' (args:=[_,_]) (N:=33) func46 z z z (fun w0 G0 bA bd=>?_)
 obtain⟨aM,aP,aI,aA⟩:=bd
 refine sr<|Y' 2 z z z fun b1=>O' 4 z z124 z fun b2=>nx<|c'<|sr<|sx0 z z<|R' (fun (⟨M,y,n,D,B,t,p,ah,H,E,O,L,F,I,Y⟩:Za×Option Addr×Nat×Option Addr×Nat×Option Addr×Nat×Zy×Option Addr×Nat×Option Addr×Nat×Option Addr×Nat×Mem)=>[(1,.slice aC l1.length aE),(2,pt0 b1),(4,pt0 b2)]) (fun ⟨M,y,n,D,B,t,p,ah,H,E,O,L,F,I,Y⟩=>Mem.le G0 Y/\sl Rp.str Y y n M.vars/\sl e' Y D B M.eqs/\sl e' Y t p M.neqs/\sl Rp.str Y H E ah.s.vars/\sl e' Y O L ah.s.eqs/\sl e' Y F I ah.s.neqs/\(ZgN l1 M).Ret r) (fun ⟨M,y,n,D,B,t,p,ah,H,E,O,L,F,I,Y⟩=>St w0 G0 Y [(2,bk0 b1 (v31' M y n D B t p) 31),(4,bk0 b2 (v124' ah H E O L F I) 124)]) ?_ ?_
 .refine s' ?_
  let aS:(Zy⊕(Za×Zy))->Prop:=fun oo=>((fun ov=>match ov with | .inl rv1=>Cq.ret rv1 | .inr (M,ah)=>ZgN l1 M:(Zy⊕(Za×Zy))->Cq Zy) oo).wp (fun a=>a=r)
  replace hr:(Cq.loop _ _).wp aS:=hr
  refine T' (Φ:=aS) (fun (⟨i1,aa,x,o,C,A,s,q,X,d,g,l,m,e,k,Q⟩:Int×Za×Option Addr×Nat×Option Addr×Nat×Option Addr×Nat×Zy×Option Addr×Nat×Option Addr×Nat×Option Addr×Nat×Mem)=>((i1,aa,X):Int×Za×Zy)) (fun ⟨i1,aa,x,o,C,A,s,q,X,d,g,l,m,e,k,Q⟩=>[(1,.slice aC l1.length aE),(2,pt0 b1),(4,pt0 b2),(5,i' i1)]) (fun ⟨i1,aa,x,o,C,A,s,q,X,d,g,l,m,e,k,Q⟩=>Mem.le G0 Q/\sl Rp.str Q x o aa.vars/\sl e' Q C A aa.eqs/\sl e' Q s q aa.neqs/\y31' Q d g l m e k X.s) (fun ⟨i1,aa,x,o,C,A,s,q,X,d,g,l,m,e,k,Q⟩=>St w0 G0 Q [(2,bk0 b1 (v31' aa x o C A s q) 31),(4,bk0 b2 (v124' X d g l m e k) 124)]) ⟨0,s1,ac,ad,an,ak,af,ae,(Zy.mk (Za.mk [] [] [] 0) 0 0),none,0,none,0,none,0,G0⟩ hr (f4 z z z z) ⟨mr,aM,aP,aI,(ah' _ _),(ah' _ _),(ah' _ _)⟩ (w2 z z) ?_
  .intro bz gx hx hr
   obtain⟨i1,aa,x,o,C,A,s,q,X,d,g,l,m,e,k,Q⟩:=gx
   obtain⟨ab,aj,ao,al,ai,am,ag⟩:=hx
   refine c'<|sr<|mv z z<|mv z z<|yy (K' dx' (aA.mono ab) z) z<|yy (V' z z) z<|nx<|E' hr z (fun bn hr=>?_) (fun bn hr=>?_)
   .refine l'<|a'<|c'<|s'<|c'<|ad' [ff,ff,ff,ff,ff,ff,ff,ff,tt,ff] mix (by kernel_rfl) fun hb=>cn (fun _ f=>m' 2 ai' z z z)<|cn (fun _ f=>f' z)<|cn (fun _ f=>f' z) ?_
    obtain⟨x1,a8,hr⟩:=hr
    refine cn (fun _ f=>P' dx' sz116 ((aA.mono ab).mono f) z z a8) ?_
    obtain⟨bt,bv,bf,be⟩:=ZmB (H' (X' aA a8) ab)
    refine cn (fun _ f=>as' _ ag116 z z (fun j v hv=>f _ _ _ (bf j v hv))) ?_
    obtain⟨Z,bb,hr⟩:=hr
    refine aw' (post:=w31t' Z) (fun _=>z) (fun _ _=>u' E44 z) (ez' bb) z (fun G' f=>⟨(aj.mono f),(ao.mono f),(al.mono f),(be.mono f)⟩) (fun v G1 G2 f h=>?_) ?_
    .obtain⟨S,U,V,W,T,R,rfl,J,P,K⟩:=h
     exact⟨_,_,_,_,_,_,z,J.mono f,P.mono f,K.mono f⟩
    refine bC' (φ:=w31t' Z) (fun _=>z) (fun v G1 G2 f h=>?_) (fun u G' f hu=>?_) ?_
    .obtain⟨p1,aF,p2,aD,p3,aB,rfl,av,ax,aw⟩:=h
     exact⟨_,_,_,_,_,_,z,av.mono f,ax.mono f,aw.mono f⟩
    .obtain⟨⟨S,U,V,W,T,R,a0,J,P,K⟩,_⟩:=(show (w31t' Z) G'.m (u 20)/\True from hu)
     simp only[undFr,a0]
     exact⟨_,f' z,S,U,V,W,T,R,z,J,P,K⟩
    refine bC' (φ:=w31' Z.1) (fun _=>z) (fun v G1 G2 f h=>?_) (fun u G' f hu=>?_) ?_
    .obtain⟨p4,a5,p5,a3,p6,a4,rfl,aR,aU,aQ⟩:=h
     exact⟨_,_,_,_,_,_,z,aR.mono f,aU.mono f,aQ.mono f⟩
    .obtain⟨⟨p1,aF,p2,aD,p3,aB,ap,av,ax,aw⟩,_,_⟩:=(show (w31t' Z) G'.m (u 14)/\True/\True from hu)
     simp only[undFr,ap]
     exact⟨_,L' z z,p1,aF,p2,aD,p3,aB,z,av,ax,aw⟩
    refine bZ' (c:=i' Z.2) (fun _=>z) (fun u G' f hu=>?_) ?_
    .obtain⟨_,⟨p1,aF,p2,aD,p3,aB,ap,av,ax,aw⟩,_,_⟩:=(show True/\(w31t' Z) G'.m (u 14)/\True/\True from hu)
     simp only[undFr,ap]
     exact L' z z
    refine bJ' (fun _=>z) z31<|Chain.tailX4 (fun bB bo bs bu X1 ar aV aN aO aH=>?_)
    obtain⟨b3,rfl,ba⟩:=aV
    obtain⟨p4,a5,p5,a3,p6,a4,rfl,aR,aU,aQ⟩:=aN
    obtain⟨p1,aF,p2,aD,p3,aB,rfl,av,ax,aw⟩:=aO
    obtain⟨S,U,V,W,T,R,rfl,J,P,K⟩:=aH
    refine di' ba (cJ' (show WL _ _ _ _ _ _ (St w0 G0 X1.m _) from ?_))
    refine x' 6 z aR' z z z z z (List.all_eq_true.1 z)<|sg z z<|o'<|am'<|a'<|c'<|sr<|mv z z<|yy (bj' z z) z<|nx<|E' hr z (fun bk hr=>?_) (fun bk hr=>?_)
    .refine sr<|mv z z<|mv z z<|yy (at' (vs:=#[(1,i' i1),(2,i' Z.2)]) (v:=.agg ([.slice none 0 0,.slice none 0 0,.slice none 0 0,i' 0,i' i1,i' Z.2]).toArray) z z (fun _=>by kernel_rfl)) z<|x' 4 z sz124 z z z z z (List.all_eq_true.1 z)<|nx<|k'<|b'<|w'<|b'<|b'<|w'<|ap'<|b' ?_
     obtain rfl:_=r:=hr
     exact j' z (ak' (i:=4) ag124 z z z) ⟨_,_,_,_,_,_,z,(ah' Rp.str _),(ah' e' _),(ah' e' _)⟩
    refine l'<|a'<|n'<|yy (m' 6 ai' z z z) z<|x' 2 z aR' z z z z z (List.all_eq_true.1 z)<|o'<|v'<|a'<|n'<|mv z z<|yy (I' z z) z<|sg z z<|o'<|C' ⟨i64.wrap (i1+1),Z.1,p4,a5,p5,a3,p6,a4,X,d,g,l,m,e,k,X1.m⟩ hr ⟨(mx ab ar),aR,aU,aQ,(ai.mono ar),(am.mono ar),(ag.mono ar)⟩ (f4 z z z z) (w2 z z)
   refine U'<|h'<|h'<|y'<|W' ⟨aa,x,o,C,A,s,q,X,d,g,l,m,e,k,Q⟩ ⟨ab,aj,ao,al,ai,am,ag,hr⟩ (f3 z z z) (w2 z z)
 rintro⟨M,y,n,D,B,t,p,ah,H,E,O,L,F,I,Y⟩ ⟨aZ,ay,aL,az,a7,a9,a6,hr⟩
 refine a'<|sr<|yy (m' 2 ai' z z z) z<|mv z z<|yy (K' dx' (aA.mono aZ) z) z<|yy (at' (vs:=#[(0,.agg ((v31' M y n D B t p)).toArray),(1,i' (l1.length:Int))]) (v:=.agg ([.slice y M.vars.length n,.slice D M.eqs.length B,.slice t M.neqs.length p,i' M.next,i' (l1.length:Int),i' 0]).toArray) z z (fun _=>by kernel_rfl)) z<|x' 4 z sz124 z z z z z (List.all_eq_true.1 z)<|nx<|k' ?_
 obtain rfl:_=r:=hr
 exact j' z (ak' (i:=4) ag124 z z z) ⟨_,_,_,_,_,_,z,ay,aL,az⟩
theorem fM'{B F j k s q l m D C r}(hr:(ZhB B F).Ret r):Ctr prog 21 #[.agg ((v31' B j k s q l m)).toArray,.slice D F.length C] (fun G=>sl Rp.str G j k B.vars/\sl e' G s q B.eqs/\sl e' G l m B.neqs/\sl cg' G D C F) (w31u' r):=by
 refine A' (args:=[_,_]) (N:=17) func21 z z z (fun T S Q E=>?_)
 obtain⟨y,A,v,I⟩:=E
 refine sr<|Y' 2 z z z fun R=>O' 4 z z31 z fun U=>sg z z<|sg z z<|nr<|yy (m' 2 ai' z z z) z<|mv z z ?_
 obtain⟨n,H,hr⟩:=hr
 refine Q' z z (u' E46 z) (gG' H) z (⟨y,A,v,I⟩) (fun O P K x=>?_)
 obtain⟨d,f,h,g,c,e,rfl,p,t,o⟩:=x
 refine O' 7 z z124 z fun M=>x' 7 z sz124 z z z z z (List.all_eq_true.1 z)<|nx<|c'<|WC.drawnB [(7,bk0 M (v124' n d f h g c e) 124)] (lc z ln) [ff,ff,tt,tt,tt,tt] mix (by kernel_rfl) fun L=>cn (fun _ J=>Y0.Zqk z)<|cn (fun _ J=>aj' ((v31' n.s d f h g c e)).toArray 7 ai' z z z (aq' ([]) ((v31' n.s d f h g c e)) ([i' n.n,i' n.e])))<|dm' z (Y0.Zql z)<|dm' z (g' 7 sc3 z z z)<|dm' z (Y0.Zqm z)<|dm' z (g' 7 sc37 z z z)<|Chain.tailB L<|WLT.one (fun w u=>u.weaken (lc z ln))<|x' 4 z aR' z z z z z (List.all_eq_true.1 z)<|WLT.back<|WLT.y0 (fun w u=>u.weaken (lc z ln)) z (Y0.assign z) z<|WLT.y0 (fun w u=>u.weaken (lc z ln)) z (Y0.assign z) z<|WLT.nil (fun w u=>u.weaken (lc z ln))<|am'<|a'<|k' ?_
 obtain rfl:_=r:=hr
 exact cv' z (ak' (i:=4) ai' z z z) z z ⟨_,_,_,_,_,_,z,p,t,o⟩
theorem eq'{x1 an am aV ba bb a3 r}(hr:(Zil x1).Ret r):Ctr prog 8 #[.agg ((v24' x1 an am aV ba bb a3)).toArray] (fun G=>sl bv' G an am x1.base/\sl bv' G aV ba x1.a/\sl bv' G bb a3 x1.b) (fun G v=>∃ Z ab ao ap T W X R al af aa S Y U ae aq V ac,v = .tuple #[.agg ((v31' r.1 Z ab ao ap T W)).toArray,.agg ((v31' r.2.1 X R al af aa S)).toArray,.agg ((v31' r.2.2 Y U ae aq V ac)).toArray]/\sl Rp.str G Z ab r.1.vars/\sl e' G ao ap r.1.eqs/\sl e' G T W r.1.neqs/\sl Rp.str G X R r.2.1.vars/\sl e' G al af r.2.1.eqs/\sl e' G aa S r.2.1.neqs/\y31' G Y U ae aq V ac r.2.2):=by
 refine A' (args:=[_]) (N:=38) func8 z z z (fun w0 G0 b8 bG=>?_)
 obtain⟨aO,bz,bw⟩:=bG
 refine sr<|Y' 1 z z z fun b1=>O' 2 z z31 z fun b2=>O' 3 z z31 z fun b3=>O' 4 z z31 z fun b4=>nr<|yy (Y0.ZqM z) z<|yy (g' 1 sc22 z z z) z ?_
 obtain⟨ca,bA,hr⟩:=hr
 refine Q' z z (u' E20 z) (gr' bA) z (aO) (fun bZ b9 aH aJ=>?_)
 obtain⟨bC,bt,bH,bI,bu,bD,rfl,m,s,l⟩:=aJ
 refine O' 5 z z31 z fun b5=>x' 5 z aR' z z z z z (List.all_eq_true.1 z)<|nx<|c'<|ad' [ff,ff,ff,ff,ff,ff,ff,ff,tt,tt,ff] mix (by kernel_rfl) fun hb=>cn (fun _ d=>m' 5 ai' z z z)<|cn (fun _ d=>m' 5 ai' z z z)<|cn (fun _ d=>Y0.ZqN z)<|cn (fun _ d=>g' 1 sc22 z z z) ?_
 obtain⟨bo,bB,hr⟩:=hr
 refine aw' (post:=wl' cg' bo) (fun _=>z) (fun _ _=>u' E22 z) (fh' bB) z (fun p d=>⟨(m.mono d),(s.mono d),(l.mono d),((bz.mono aH).mono d)⟩) (fun v G1 G2 d h=>?_) ?_
 .obtain⟨a2,aW,rfl,au⟩:=h
  exact⟨_,_,z,au.mono d⟩
 obtain⟨L,bE,hr⟩:=hr
 refine bz' (f:=21) (φ:=w31u' L) (fun _=>z) (fun v G1 G2 d h=>?_) (fun u p d E=>?_) ?_
 .obtain⟨D,t,H,I,y,A,rfl,g,n,e⟩:=h
  exact⟨_,_,_,_,_,_,z,g.mono d,n.mono d,e.mono d⟩
 .obtain⟨⟨a2,aW,bg,au⟩,_⟩:=(show (wl' cg' bo) p.m (u 20)/\True from E)
  exact⟨_,_,_,fun _=>u' E21 z,fM' bE,(by simp only[bg] <;> rfl),⟨(m.mono d),(s.mono d),(l.mono d),au⟩⟩
 refine bC' (φ:=w31u' L) (fun _=>z) (fun v G1 G2 d h=>?_) (fun u p d E=>?_) ?_
 .obtain⟨p1,az,p2,ax,p3,av,rfl,ai,ak,aj⟩:=h
  exact⟨_,_,_,_,_,_,z,ai.mono d,ak.mono d,aj.mono d⟩
 .obtain⟨⟨D,t,H,I,y,A,bh,g,n,e⟩,_,_⟩:=(show (w31u' L) p.m (u 21)/\True/\True from E)
  simp only[undFr,bh]
  exact⟨_,f' z,D,t,H,I,y,A,z,g,n,e⟩
 refine bC' (φ:=w31' L.1) (fun _=>z) (fun v G1 G2 d h=>?_) (fun u p d E=>?_) ?_
 .obtain⟨p4,bn,p5,bj,p6,bm,rfl,aZ,a6,aX⟩:=h
  exact⟨_,_,_,_,_,_,z,aZ.mono d,a6.mono d,aX.mono d⟩
 .obtain⟨⟨p1,az,p2,ax,p3,av,O,ai,ak,aj⟩,_,_,_⟩:=(show (w31u' L) p.m (u 15)/\True/\True/\True from E)
  simp only[undFr,O]
  exact⟨_,L' z z,p1,az,p2,ax,p3,av,z,ai,ak,aj⟩
 refine bZ' (c:=i' L.2.1) (fun _=>z) (fun u p d E=>?_) ?_
 .obtain⟨_,⟨p1,az,p2,ax,p3,av,O,ai,ak,aj⟩,_,_,_⟩:=(show True/\(w31u' L) p.m (u 15)/\True/\True/\True from E)
  simp only[undFr,O]
  exact L' z z
 refine bZ' (c:=i' L.2.2) (fun _=>z) (fun u p d E=>?_) ?_
 .obtain⟨_,⟨p1,az,p2,ax,p3,av,O,ai,ak,aj⟩,_,_,_⟩:=(show True/\(w31u' L) p.m (u 15)/\True/\True/\True from E)
  simp only[undFr,O]
  exact L' z z
 refine bJ' (fun _=>z) z31<|Chain.tailX5 (fun cb bQ bW bR bX X1 q a8 aM aK aP aQ=>?_)
 obtain⟨b6,rfl,bx⟩:=a8
 obtain⟨p4,bn,p5,bj,p6,bm,rfl,aZ,a6,aX⟩:=aM
 obtain⟨p1,az,p2,ax,p3,av,rfl,ai,ak,aj⟩:=aK
 obtain⟨D,t,H,I,y,A,rfl,g,n,e⟩:=aP
 obtain⟨a2,aW,rfl,au⟩:=aQ
 refine di' bx (cJ' (show WL _ _ _ _ _ _ (St w0 G0 X1.m _) from ?_))
 refine x' 6 z aR' z z z z z (List.all_eq_true.1 z)<|sg z z<|sg z z<|o'<|am'<|a'<|c'<|ad' [ff,ff,ff,ff,ff,ff,ff,ff,tt,tt,ff] mix (by kernel_rfl) fun hb=>cn (fun _ d=>m' 5 ai' z z z)<|cn (fun _ d=>m' 5 ai' z z z)<|cn (fun _ d=>Y0.ZqO z)<|cn (fun _ d=>g' 1 sc22 z z z) ?_
 obtain⟨bl,br,hr⟩:=hr
 refine aw' (post:=wl' cg' bl) (fun _=>z) (fun _ _=>u' E22 z) (fh' br) z (fun p d=>⟨((m.mono q).mono d),((s.mono q).mono d),((l.mono q).mono d),((bw.mono (mx aH q)).mono d)⟩) (fun v G1 G2 d h=>?_) ?_
 .obtain⟨a5,aY,rfl,ar⟩:=h
  exact⟨_,_,z,ar.mono d⟩
 obtain⟨M,bF,hr⟩:=hr
 refine bz' (f:=21) (φ:=w31u' M) (fun _=>z) (fun v G1 G2 d h=>?_) (fun u p d E=>?_) ?_
 .obtain⟨C,B,K,J,F,x,rfl,k,o,j⟩:=h
  exact⟨_,_,_,_,_,_,z,k.mono d,o.mono d,j.mono d⟩
 .obtain⟨⟨a5,aY,bi,ar⟩,_⟩:=(show (wl' cg' bl) p.m (u 30)/\True from E)
  exact⟨_,_,_,fun _=>u' E21 z,fM' bF,(by simp only[bi] <;> rfl),⟨((m.mono q).mono d),((s.mono q).mono d),((l.mono q).mono d),ar⟩⟩
 refine bC' (φ:=w31u' M) (fun _=>z) (fun v G1 G2 d h=>?_) (fun u p d E=>?_) ?_
 .obtain⟨p7,ay,p8,aA,p9,aw,rfl,ah,ad,ag⟩:=h
  exact⟨_,_,_,_,_,_,z,ah.mono d,ad.mono d,ag.mono d⟩
 .obtain⟨⟨C,B,K,J,F,x,bf,k,o,j⟩,_,_⟩:=(show (w31u' M) p.m (u 31)/\True/\True from E)
  simp only[undFr,bf]
  exact⟨_,f' z,C,B,K,J,F,x,z,k,o,j⟩
 refine bC' (φ:=w31' M.1) (fun _=>z) (fun v G1 G2 d h=>?_) (fun u p d E=>?_) ?_
 .obtain⟨bk,aT,bq,a9,bp,be,rfl,aE,aG,aC⟩:=h
  exact⟨_,_,_,_,_,_,z,aE.mono d,aG.mono d,aC.mono d⟩
 .obtain⟨⟨p7,ay,p8,aA,p9,aw,P,ah,ad,ag⟩,_,_,_⟩:=(show (w31u' M) p.m (u 25)/\True/\True/\True from E)
  simp only[undFr,P]
  exact⟨_,L' z z,p7,ay,p8,aA,p9,aw,z,ah,ad,ag⟩
 refine bZ' (c:=i' M.2.1) (fun _=>z) (fun u p d E=>?_) ?_
 .obtain⟨_,⟨p7,ay,p8,aA,p9,aw,P,ah,ad,ag⟩,_,_,_⟩:=(show True/\(w31u' M) p.m (u 25)/\True/\True/\True from E)
  simp only[undFr,P]
  exact L' z z
 refine bZ' (c:=i' M.2.2) (fun _=>z) (fun u p d E=>?_) ?_
 .obtain⟨_,⟨p7,ay,p8,aA,p9,aw,P,ah,ad,ag⟩,_,_,_⟩:=(show True/\(w31u' M) p.m (u 25)/\True/\True/\True from E)
  simp only[undFr,P]
  exact L' z z
 refine bJ' (fun _=>z) z31<|Chain.tailX5 (fun cc bY bO bV bP X2 Q bc aN aL aR aI=>?_)
 obtain⟨b7,rfl,bv⟩:=bc
 obtain⟨bk,aT,bq,a9,bp,be,rfl,aE,aG,aC⟩:=aN
 obtain⟨p7,ay,p8,aA,p9,aw,rfl,ah,ad,ag⟩:=aL
 obtain⟨C,B,K,J,F,x,rfl,k,o,j⟩:=aR
 obtain⟨a5,aY,rfl,ar⟩:=aI
 refine di' bv (cJ' (show WL _ _ _ _ _ _ (St w0 G0 X2.m _) from ?_))
 refine x' 9 z aR' z z z z z (List.all_eq_true.1 z)<|sg z z<|sg z z<|o'<|am'<|a'<|c'<|WC.drawnB [(6,bk0 b6 (v31' L.1 p4 bn p5 bj p6 bm) 31),(9,bk0 b7 (v31' M.1 bk aT bq a9 bp be) 31)] (lc z (lc z ln)) [ff,tt,tt] mix (by kernel_rfl) fun hb=>cn (fun _ d=>m' 5 ai' z z z)<|dm' z (m' 6 ai' z z z)<|dm' z (m' 9 ai' z z z)<|Chain.tailB hb<|WLT.one (fun w hs=>hs.weaken (lc z (lc z ln)))<|x' 2 z aR' z z z z z (List.all_eq_true.1 z)<|WLT.back<|WLT.one (fun w hs=>hs.weaken (lc z (lc z ln)))<|x' 3 z aR' z z z z z (List.all_eq_true.1 z)<|WLT.back<|WLT.one (fun w hs=>hs.weaken (lc z (lc z ln)))<|x' 4 z aR' z z z z z (List.all_eq_true.1 z)<|WLT.back<|WLT.nil (fun w hs=>hs.weaken (lc z (lc z ln)))<|am'<|a'<|k' ?_
 obtain rfl:_=r:=hr
 exact cv' z (ak' (i:=2) ai' z z z) (ak' (i:=3) ai' z z z) (ak' (i:=4) ai' z z z) ⟨_,_,_,_,_,_,_,_,_,_,_,_,_,_,_,_,_,_,z,(m.mono (mx q Q)),(s.mono (mx q Q)),(l.mono (mx q Q)),(aZ.mono Q),(a6.mono Q),(aX.mono Q),aE,aG,aC⟩
theorem eW'{x1 n1 y C A x r}(hr:(Zcs x1 n1).Ret r):Ctr prog 76 #[.agg ((v101' x1 y C A x)).toArray,i' n1] (fun G=>sl (Rp.int .u32) G y C x1.num.mag/\sl (Rp.int .u32) G A x x1.den.mag) (w101' r):=by
 refine A' (args:=[_,_]) (N:=23) func76 z z z (fun w0 G0 aW aD=>?_)
 obtain⟨af,ag⟩:=aD
 refine sr<|Y' 2 z z z fun b1=>O' 4 z z101 z fun b2=>nr ?_
 obtain⟨aH,aA,hr⟩:=hr
 refine Q' z z (u' E74 z) (dE' aA) z (trivial) (fun aS ao aj ak=>?_)
 obtain⟨X,Q,L,P,rfl,V,S⟩:=ak
 refine O' 5 z z101 z fun b3=>x' 5 z ce' z z z z z (List.all_eq_true.1 z)<|nx<|c'<|R' (fun (⟨E,t,s,o,m,H,p,l,q,n,J⟩:Ze×Option Addr×Nat×Option Addr×Nat×Ze×Option Addr×Nat×Option Addr×Nat×Mem)=>[(2,pt0 b1),(4,pt0 b2),(5,pt0 b3)]) (fun ⟨E,t,s,o,m,H,p,l,q,n,J⟩=>Mem.le ao J/\sl (Rp.int .u32) J t s E.num.mag/\sl (Rp.int .u32) J o m E.den.mag/\sl (Rp.int .u32) J p l H.num.mag/\sl (Rp.int .u32) J q n H.den.mag/\(Zbq E H).Ret r) (fun ⟨E,t,s,o,m,H,p,l,q,n,J⟩=>St w0 G0 J [(2,bk0 b1 (v101' E t s o m) 101),(4,bk0 b2 ([.bool false,.slice none 0 0,.bool false,.slice none 0 0]) 101),(5,bk0 b3 (v101' H p l q n) 101)]) ?_ ?_
 .refine s' ?_
  let an:(Ze×Ze)->Prop:=fun oo=>((fun ov=>match ov with|(E,H)=>Zbq E H:(Ze×Ze)->Cq Ze) oo).wp (fun a=>a=r)
  replace hr:(Cq.loop _ _).wp an:=hr
  refine T' (Φ:=an) (fun (⟨n2,I,k,g,h,j,D,d,e,f,c,B⟩:Int×Ze×Option Addr×Nat×Option Addr×Nat×Ze×Option Addr×Nat×Option Addr×Nat×Mem)=>((n2,I,D):Int×Ze×Ze)) (fun ⟨n2,I,k,g,h,j,D,d,e,f,c,B⟩=>[(1,i' n2),(2,pt0 b1),(4,pt0 b2),(5,pt0 b3)]) (fun ⟨n2,I,k,g,h,j,D,d,e,f,c,B⟩=>Mem.le ao B/\sl (Rp.int .u32) B k g I.num.mag/\sl (Rp.int .u32) B h j I.den.mag/\sl (Rp.int .u32) B d e D.num.mag/\sl (Rp.int .u32) B f c D.den.mag) (fun ⟨n2,I,k,g,h,j,D,d,e,f,c,B⟩=>St w0 G0 B [(2,bk0 b1 (v101' I k g h j) 101),(4,bk0 b2 ([.bool false,.slice none 0 0,.bool false,.slice none 0 0]) 101),(5,bk0 b3 (v101' D d e f c) 101)]) ⟨n1,x1,y,C,A,x,aH,X,Q,L,P,ao⟩ hr (f4 z z z z) ⟨mr,(af.mono aj),(ag.mono aj),V,S⟩ (w3 z z z) ?_
  .intro aU gx hx hr
   obtain⟨n2,I,k,g,h,j,D,d,e,f,c,B⟩:=gx
   obtain⟨ai,u,v,F,K⟩:=hx
   refine c'<|sr<|mv z z<|yy (aZ' z z) z<|nx<|E' hr z (fun aK hr=>?_) (fun aK hr=>?_)
   .refine l'<|a'<|c'<|s'<|c'<|sr<|mv z z<|yy (bL' z z (by decide)) z<|yy (au' z z) z<|nx<|E' hr z (fun aE hr=>?_) (fun aE hr=>?_)
    .exact (show False from hr).elim
    refine l'<|a'<|n'<|yy (m' 2 bg' z z z) z<|yy (m' 2 bg' z z z) z ?_
    obtain⟨aF,aC,hr⟩:=hr
    refine Q' z z (u' E75 z) (dp' aC) z (⟨u,v,u,v⟩) (fun aN aG ac al=>?_)
    obtain⟨ae,M,T,Z,rfl,Y,ad⟩:=al
    refine x' 2 z ce' z z z z z (List.all_eq_true.1 z)<|o'<|v'<|a'<|n'<|mv z z<|yy (dz' z z (by decide)) z<|sg z z<|o'<|C' ⟨i64.wrap (Int.tdiv n2 2),aF,ae,M,T,Z,D,d,e,f,c,aG⟩ hr ⟨(mx ai ac),Y,ad,(F.mono ac),(K.mono ac)⟩ (f4 z z z z) (w3 z z z)
   refine U'<|h'<|h'<|y'<|W' ⟨I,k,g,h,j,D,d,e,f,c,B⟩ ⟨ai,u,v,F,K,hr⟩ (f3 z z z) (w3 z z z)
 rintro⟨E,t,s,o,m,H,p,l,q,n,J⟩ ⟨aM,O,U,R,W,hr⟩
 refine a'<|sr<|yy (m' 5 bg' z z z) z<|yy (m' 2 bg' z z z) z ?_
 obtain⟨aX,aB,hr⟩:=hr
 refine Q' z z (u' E75 z) (dp' aB) z (⟨R,W,O,U⟩) (fun aR aV aL am=>?_)
 obtain⟨ar,aw,av,ax,rfl,ab,aa⟩:=am
 refine x' 4 z ce' z z z z z (List.all_eq_true.1 z)<|nx<|k' ?_
 obtain rfl:_=r:=hr
 exact j' z (ak' (i:=4) bg' z z z) ⟨_,_,_,_,z,ab,aa⟩
theorem ek'{p1 x1 aM aP aN bo r}(hr:(Zbu p1 x1).Ret r):Ctr prog 40 #[.slice aM p1.length aP,.agg (aN).toArray] (fun G=>sl r' G aM aP p1/\ArRd bd' 8 G aN bo x1) (w101' r):=by
 refine A' (args:=[_,_]) (N:=41) func40 z z z (fun w0 G0 bH bl=>?_)
 obtain⟨aW,bd⟩:=bl
 refine sr<|Y' 3 z z z fun b1=>O' 4 z z101 z fun b2=>nr ?_
 obtain⟨bw,bi,hr⟩:=hr
 refine Q' z z (u' E74 z) (dE' bi) z (trivial) (fun bF aX ab aS=>?_)
 obtain⟨az,al,af,ak,rfl,ax,aq⟩:=aS
 refine O' 5 z z101 z fun b3=>x' 5 z ce' z z z z z (List.all_eq_true.1 z)<|nx<|c'<|sr<|mv z z<|yy (K' F' (aW.mono ab) z) z<|mv z z<|nx<|R' (fun (⟨V,F,E,C,y,ad⟩:Ze×Option Addr×Nat×Option Addr×Nat×Mem)=>[(4,pt0 b2),(5,pt0 b3)]) (fun ⟨V,F,E,C,y,ad⟩=>Mem.le aX ad/\sl (Rp.int .u32) ad F E V.num.mag/\sl (Rp.int .u32) ad C y V.den.mag/\(ZbN V).Ret r) (fun ⟨V,F,E,C,y,ad⟩=>St w0 G0 ad [(4,bk0 b2 ([.bool false,.slice none 0 0,.bool false,.slice none 0 0]) 101),(5,bk0 b3 (v101' V F E C y) 101)]) ?_ ?_
 .refine s' ?_
  let ar:Ze->Prop:=fun oo=>((fun ov=>match ov with|V=>ZbN V:Ze->Cq Ze) oo).wp (fun a=>a=r)
  replace hr:(Cq.loop _ _).wp ar:=hr
  refine T' (Φ:=ar) (fun (⟨s,I,f,c,g,e,J⟩:Int×Ze×Option Addr×Nat×Option Addr×Nat×Mem)=>((s,I):Int×Ze)) (fun ⟨s,I,f,c,g,e,J⟩=>[(3,pt0 b1),(4,pt0 b2),(5,pt0 b3),(12,.slice aM p1.length aP),(13,i' (p1.length:Int)),(14,i' s)]) (fun ⟨s,I,f,c,g,e,J⟩=>Mem.le aX J/\sl (Rp.int .u32) J f c I.num.mag/\sl (Rp.int .u32) J g e I.den.mag) (fun ⟨s,I,f,c,g,e,J⟩=>St w0 G0 J [(3,bk0 b1 (aN) 102),(4,bk0 b2 ([.bool false,.slice none 0 0,.bool false,.slice none 0 0]) 101),(5,bk0 b3 (v101' I f c g e) 101)]) ⟨0,bw,az,al,af,ak,aX⟩ hr (f6 z z z z z z) ⟨mr,ax,aq⟩ (w3 z z z) ?_
  .intro a5 gx hx hr
   obtain⟨s,I,f,c,g,e,J⟩:=gx
   obtain⟨Q,U,W⟩:=hx
   refine sr<|yy (V' z z) z<|nx<|c'<|E' hr z (fun bA hr=>?_) (fun bA hr=>?_)
   .refine l'<|a'<|c'<|s'<|sr ?_
    obtain⟨K,a4,hr⟩:=hr
    refine yy (P' F' bh' (aW.mono (mx ab Q)) z z a4) z ?_
    obtain⟨j,m,o,k,br,X,Z⟩:=bI' (H' (X' aW a4) (mx ab Q))
    refine yy (as' _ cM' z z br) z<|O' 7 z z152 z fun b4=>x' 7 z bh' z z z z z (fun u hu=>Rp.one r' (G:=J) (x:=K) (cs:=((v101' K.c j m o k):List Value)++(vecG (Value.int .i64) 8 K.m)) ⟨(v101' K.c j m o k),vecG (Value.int .i64) 8 K.m,z,⟨(v99' K.c.num j m),(v99' K.c.den o k),z,⟨[.bool K.c.num.neg],[.slice j K.c.num.mag.length m],z,z,⟨_,z,X⟩⟩,⟨[.bool K.c.den.neg],[.slice o K.c.den.mag.length k],z,z,⟨_,z,Z⟩⟩⟩,z⟩ u (by first|simpa using hu|simpa [Value.cells] using hu))<|nr<|yy (bB' z) z<|yy (aj' ((v101' K.c j m o k)).toArray 7 bg' z z z (aq' ([]) ((v101' K.c j m o k)) ((vecG (Value.int .i64) 8 K.m)))) z<|O' 8 z z101 z fun b5=>x' 8 z ce' z z z z z (List.all_eq_true.1 z)<|nx<|c'<|sr<|yy (aL' z) z<|yy (aj' (vecG (Value.int .i64) 8 K.m).toArray 7 aT' z z (M' _ _ _) (aq' ((v101' K.c j m o k)) (vecG (Value.int .i64) 8 K.m) ([]))) z<|mv z z<|nx<|R' (fun (⟨Y,D,t,A,B,ac⟩:Ze×Option Addr×Nat×Option Addr×Nat×Mem)=>[(3,pt0 b1),(4,pt0 b2),(5,pt0 b3),(8,pt0 b5),(12,.slice aM p1.length aP),(13,i' (p1.length:Int)),(14,i' s)]) (fun ⟨Y,D,t,A,B,ac⟩=>Mem.le J ac/\sl (Rp.int .u32) ac D t Y.num.mag/\sl (Rp.int .u32) ac A B Y.den.mag/\(ZbO s I Y).wp (Out a5 ar)) (fun ⟨Y,D,t,A,B,ac⟩=>St w0 G0 ac [(3,bk0 b1 (aN) 102),(4,bk0 b2 ([.bool false,.slice none 0 0,.bool false,.slice none 0 0]) 101),(5,bk0 b3 (v101' I f c g e) 101),(8,bk0 b5 (v101' Y D t A B) 101)]) ?_ ?_
    .refine s' ?_
     let aY:Ze->Prop:=fun oo=>((fun ov=>match ov with|Y=>ZbO s I Y:Ze->Cq ((Int×Ze)⊕Ze)) oo).wp (Out a5 ar)
     replace hr:(Cq.loop _ _).wp aY:=hr
     refine T' (Φ:=aY) (fun (⟨H,T,n,p,q,l,R⟩:Int×Ze×Option Addr×Nat×Option Addr×Nat×Mem)=>((H,T):Int×Ze)) (fun ⟨H,T,n,p,q,l,R⟩=>[(3,pt0 b1),(4,pt0 b2),(5,pt0 b3),(8,pt0 b5),(12,.slice aM p1.length aP),(13,i' (p1.length:Int)),(14,i' s),(21,.agg (vecG (Value.int .i64) 8 K.m).toArray),(22,i' H)]) (fun ⟨H,T,n,p,q,l,R⟩=>Mem.le J R/\sl (Rp.int .u32) R n p T.num.mag/\sl (Rp.int .u32) R q l T.den.mag) (fun ⟨H,T,n,p,q,l,R⟩=>St w0 G0 R [(3,bk0 b1 (aN) 102),(4,bk0 b2 ([.bool false,.slice none 0 0,.bool false,.slice none 0 0]) 101),(5,bk0 b3 (v101' I f c g e) 101),(8,bk0 b5 (v101' T n p q l) 101)]) ⟨0,K.c,j,m,o,k,J⟩ hr (f9 z z z z z z z z z) ⟨mr,X,Z⟩ (w4 z z z z) ?_
     .intro bG gx hx hr
      obtain⟨H,T,n,p,q,l,R⟩:=gx
      obtain⟨aa,M,O⟩:=hx
      refine sr<|yy (V' z z) z<|nx<|c'<|E' hr z (fun bu hr=>?_) (fun bu hr=>?_)
      .refine l'<|a'<|c'<|s'<|sr<|mv z z ?_
       obtain⟨a6,hr⟩:=hr
       refine yy (dV' ag' sc3 sz3 z z a6 (bo' _ _ _ a6)) z<|sg z z<|sg z z<|nr<|mv z z<|yy (aZ' z z) z<|nx<|E' hr z (fun bv hr=>?_) (fun bv hr=>?_)
       .refine ad' [ff,ff,ff,ff,ff,ff] mix (by kernel_rfl) fun hb=>cn (fun _ S=>m' 8 bg' z z z)<|cn (fun _ S=>f' z) ?_
        obtain⟨x3,a7,hr⟩:=hr
        refine cn (fun _ S=>dh' ef' ce' z z (dI' (bd.mono (mx (mx ab Q) aa)) a7)) ?_
        obtain⟨a8,ba,bb,bc,bn,aL,aO⟩:=cN' (ArRd.at (bd.mono (mx (mx ab Q) aa)) a7)
        refine cn (fun _ S=>aj' _ 3 bg' z z z bn)<|cn (fun _ S=>f' z) ?_
        obtain⟨a9,bk,hr⟩:=hr
        refine aw' (post:=w101' a9) (fun _=>z) (fun _ _=>u' E76 z) (eW' bk) z (fun G' S=>⟨(aL.mono S),(aO.mono S)⟩) (fun v G1 G2 S h=>?_) ?_
        .obtain⟨aJ,ah,au,aB,rfl,L,P⟩:=h
         exact⟨_,_,_,_,z,L.mono S,P.mono S⟩
        refine bn' (d:=33) (post:=w101' a9) (fun bC bI aH aU=>?_)
        obtain⟨aJ,ah,au,aB,rfl,L,P⟩:=aU
        obtain⟨bp,be,hr⟩:=hr
        refine Q' z z (u' E75 z) (dp' be) z (⟨(M.mono aH),(O.mono aH),L,P⟩) (fun bD bq a2 aT=>?_)
        obtain⟨aF,aE,aA,ap,rfl,am,ay⟩:=aT
        refine x' 8 z ce' z z z z z (List.all_eq_true.1 z)<|o'<|am'<|v'<|a'<|n'<|yy (I' z z) z<|mv z z<|o'<|C' ⟨i64.wrap (H+1),bp,aF,aE,aA,ap,bq⟩ hr ⟨(mx (mx aa aH) a2),am,ay⟩ (f9 z z z z z z z z z) (w4 z z z z)
       refine l'<|v'<|a'<|n'<|yy (I' z z) z<|mv z z<|o'<|C' ⟨i64.wrap (H+1),T,n,p,q,l,R⟩ hr ⟨aa,M,O⟩ (f9 z z z z z z z z z) (w4 z z z z)
      refine U'<|h'<|h'<|y'<|W' ⟨T,n,p,q,l,R⟩ ⟨aa,M,O,hr⟩ (f7 z z z z z z z) (w4 z z z z)
    rintro⟨Y,D,t,A,B,ac⟩ ⟨aj,ae,aC,hr⟩
    refine a'<|n'<|yy (m' 5 bg' z z z) z<|yy (m' 8 bg' z z z) z ?_
    obtain⟨bt,bj,hr⟩:=hr
    refine Q' z z (u' E77 z) (fF' bj) z (⟨(U.mono aj),(W.mono aj),ae,aC⟩) (fun bE bs a0 aV=>?_)
    obtain⟨ag,ao,an,av,rfl,aG,aD⟩:=aV
    refine x' 5 z ce' z z z z z (List.all_eq_true.1 z)<|o'<|v'<|a'<|n'<|yy (I' z z) z<|mv z z<|o'<|C' ⟨i64.wrap (s+1),bt,ag,ao,an,av,bs⟩ hr ⟨(mx (mx Q aj) a0),aG,aD⟩ (f6 z z z z z z) (w3 z z z)
   refine U'<|h'<|h'<|y'<|W' ⟨I,f,c,g,e,J⟩ ⟨Q,U,W,hr⟩ (f2 z z) (w2 z z)
 rintro⟨V,F,E,C,y,ad⟩ ⟨bB,ai,aw,hr⟩
 refine a'<|sr<|yy (m' 5 bg' z z z) z<|x' 4 z ce' z z z z z (List.all_eq_true.1 z)<|nx<|k' ?_
 obtain rfl:_=r:=hr
 exact j' z (ak' (i:=4) bg' z z z) ⟨_,_,_,_,z,ai,aw⟩
theorem dX'{i q f e g h d c T V r}(hr:(ZbJ i q).Ret r):Ctr prog 16 #[.agg ((v31' i f e g h d c)).toArray,.slice T q.length V] (fun G=>sl Rp.str G f e i.vars/\sl e' G g h i.eqs/\sl e' G d c i.neqs/\sl (Rp.int .i8) G T V q) (fun G v=>v = .bool r):=by
 refine A' (args:=[_,_]) (N:=95) func16 z z z (fun w0 t bN bj=>?_)
 obtain⟨p,Z,M,am⟩:=bj
 refine sr<|Y' 2 z z z fun X=>sg z z<|nr<|yy (at' (vs:=#[]) (v:=.agg (([.bool false,.slice none 0 0,.bool false,.slice none 0 0,.bool false,.slice none 0 0,.bool false,.slice none 0 0,.bool false,.slice none 0 0,.bool false,.slice none 0 0,.bool false,.slice none 0 0,.bool false,.slice none 0 0,.bool false,.slice none 0 0,.bool false,.slice none 0 0,.bool false,.slice none 0 0,.bool false,.slice none 0 0,.bool false,.slice none 0 0,.bool false,.slice none 0 0,.bool false,.slice none 0 0,.bool false,.slice none 0 0]:List Value)).toArray) z z (fun _=>by kernel_rfl)) z<|O' 5 z z102 z fun Y=>x' 5 z sz102 z z z (cA' (show ArRd bd' 8 t ([.bool false,.slice none 0 0,.bool false,.slice none 0 0,.bool false,.slice none 0 0,.bool false,.slice none 0 0,.bool false,.slice none 0 0,.bool false,.slice none 0 0,.bool false,.slice none 0 0,.bool false,.slice none 0 0,.bool false,.slice none 0 0,.bool false,.slice none 0 0,.bool false,.slice none 0 0,.bool false,.slice none 0 0,.bool false,.slice none 0 0,.bool false,.slice none 0 0,.bool false,.slice none 0 0,.bool false,.slice none 0 0]:List Value) () _ from cU' (G:=t) (r:=bd') (n:=8) (zc:=[.bool false,.slice none 0 0,.bool false,.slice none 0 0]) (z:=(Ze.mk (Zj.mk false []) (Zj.mk false []))) ⟨[.bool false,.slice none 0 0],[.bool false,.slice none 0 0],z,⟨[.bool false],[.slice none 0 0],z,z,⟨_,z,(ah' _ _)⟩⟩,⟨[.bool false],[.slice none 0 0],z,z,⟨_,z,(ah' _ _)⟩⟩⟩)) (cA' (show ArRd bd' 8 t ([.bool false,.slice none 0 0,.bool false,.slice none 0 0,.bool false,.slice none 0 0,.bool false,.slice none 0 0,.bool false,.slice none 0 0,.bool false,.slice none 0 0,.bool false,.slice none 0 0,.bool false,.slice none 0 0,.bool false,.slice none 0 0,.bool false,.slice none 0 0,.bool false,.slice none 0 0,.bool false,.slice none 0 0,.bool false,.slice none 0 0,.bool false,.slice none 0 0,.bool false,.slice none 0 0,.bool false,.slice none 0 0]:List Value) () _ from cU' (G:=t) (r:=bd') (n:=8) (zc:=[.bool false,.slice none 0 0,.bool false,.slice none 0 0]) (z:=(Ze.mk (Zj.mk false []) (Zj.mk false []))) ⟨[.bool false,.slice none 0 0],[.bool false,.slice none 0 0],z,⟨[.bool false],[.slice none 0 0],z,z,⟨_,z,(ah' _ _)⟩⟩,⟨[.bool false],[.slice none 0 0],z,z,⟨_,z,(ah' _ _)⟩⟩⟩)) (ArRd.one (show ArRd bd' 8 t ([.bool false,.slice none 0 0,.bool false,.slice none 0 0,.bool false,.slice none 0 0,.bool false,.slice none 0 0,.bool false,.slice none 0 0,.bool false,.slice none 0 0,.bool false,.slice none 0 0,.bool false,.slice none 0 0,.bool false,.slice none 0 0,.bool false,.slice none 0 0,.bool false,.slice none 0 0,.bool false,.slice none 0 0,.bool false,.slice none 0 0,.bool false,.slice none 0 0,.bool false,.slice none 0 0,.bool false,.slice none 0 0]:List Value) () _ from cU' (G:=t) (r:=bd') (n:=8) (zc:=[.bool false,.slice none 0 0,.bool false,.slice none 0 0]) (z:=(Ze.mk (Zj.mk false []) (Zj.mk false []))) ⟨[.bool false,.slice none 0 0],[.bool false,.slice none 0 0],z,⟨[.bool false],[.slice none 0 0],z,z,⟨_,z,(ah' _ _)⟩⟩,⟨[.bool false],[.slice none 0 0],z,z,⟨_,z,(ah' _ _)⟩⟩⟩)) ?_
 refine nx<|c'<|sr<|sx0 z z<|R' (fun (⟨ag,R,aD,ai⟩:(List Ze)×List Value×Unit×Mem)=>[(2,pt0 X),(5,pt0 Y)]) (fun ⟨ag,R,aD,ai⟩=>Mem.le t ai/\ArRd bd' 8 ai R aD ag/\(ZcS i ag).Ret r) (fun ⟨ag,R,aD,ai⟩=>St w0 t ai [(2,bk0 X (v31' i f e g h d c) 31),(5,bk0 Y (R) 102)]) ?_ ?_
 .refine s' ?_
  let ap:(List Ze)->Prop:=fun oo=>((fun ov=>match ov with|ag=>ZcS i ag:(List Ze)->Cq Bool) oo).wp (fun a=>a=r)
  replace hr:(Cq.loop _ _).wp ap:=hr
  refine T' (Φ:=ap) (fun (⟨j,L,ac,P,al⟩:Int×(List Ze)×List Value×Unit×Mem)=>((j,L):Int×(List Ze))) (fun ⟨j,L,ac,P,al⟩=>[(1,.slice T q.length V),(2,pt0 X),(5,pt0 Y),(6,i' j)]) (fun ⟨j,L,ac,P,al⟩=>Mem.le t al/\ArRd bd' 8 al ac P L) (fun ⟨j,L,ac,P,al⟩=>St w0 t al [(2,bk0 X (v31' i f e g h d c) 31),(5,bk0 Y (ac) 102)]) ⟨0,(List.replicate 8 (Ze.mk (Zj.mk false []) (Zj.mk false []))),([.bool false,.slice none 0 0,.bool false,.slice none 0 0,.bool false,.slice none 0 0,.bool false,.slice none 0 0,.bool false,.slice none 0 0,.bool false,.slice none 0 0,.bool false,.slice none 0 0,.bool false,.slice none 0 0,.bool false,.slice none 0 0,.bool false,.slice none 0 0,.bool false,.slice none 0 0,.bool false,.slice none 0 0,.bool false,.slice none 0 0,.bool false,.slice none 0 0,.bool false,.slice none 0 0,.bool false,.slice none 0 0]:List Value),(),t⟩ hr (f4 z z z z) ⟨mr,(show ArRd bd' 8 t ([.bool false,.slice none 0 0,.bool false,.slice none 0 0,.bool false,.slice none 0 0,.bool false,.slice none 0 0,.bool false,.slice none 0 0,.bool false,.slice none 0 0,.bool false,.slice none 0 0,.bool false,.slice none 0 0,.bool false,.slice none 0 0,.bool false,.slice none 0 0,.bool false,.slice none 0 0,.bool false,.slice none 0 0,.bool false,.slice none 0 0,.bool false,.slice none 0 0,.bool false,.slice none 0 0,.bool false,.slice none 0 0]:List Value) () _ from cU' (G:=t) (r:=bd') (n:=8) (zc:=[.bool false,.slice none 0 0,.bool false,.slice none 0 0]) (z:=(Ze.mk (Zj.mk false []) (Zj.mk false []))) ⟨[.bool false,.slice none 0 0],[.bool false,.slice none 0 0],z,⟨[.bool false],[.slice none 0 0],z,z,⟨_,z,(ah' _ _)⟩⟩,⟨[.bool false],[.slice none 0 0],z,z,⟨_,z,(ah' _ _)⟩⟩⟩)⟩ (w2 z z) ?_
  .intro aR A hx hr
   obtain⟨j,L,ac,P,al⟩:=A
   obtain⟨l,aI⟩:=hx
   refine c'<|sr<|mv z z<|yy (V' z z) z<|nx<|E' hr z (fun bA hr=>?_) (fun bA hr=>?_)
   .refine l'<|a'<|c'<|s'<|sr<|mv z z ?_
    obtain⟨u,bh,hr⟩:=hr
    refine Q' z z (u' E38 z) (cP' bh) z (trivial) (fun bH aT k aM=>?_)
    obtain⟨F,y,B,C,rfl,aq,aw⟩:=aM
    obtain⟨x3,a8,hr⟩:=hr
    refine yy (dh' ef' ce' z z (dI' (aI.mono k) a8)) z<|WL.storeAy (cs':=(v101' u F y B C)) (z':=u) 5 z ce' z (by decide) (aI.mono k) z z z z ⟨(v99' u.num F y),(v99' u.den B C),z,⟨[.bool u.num.neg],[.slice F u.num.mag.length y],z,z,⟨_,z,aq⟩⟩,⟨[.bool u.den.neg],[.slice B u.den.mag.length C],z,z,⟨_,z,aw⟩⟩⟩ a8 fun d1 aP=>nx<|aP' (fun (⟨af,ah⟩:Bool×Mem)=>[(1,.slice T q.length V),(2,pt0 X),(5,pt0 Y),(6,i' j),(28,.bool af)]) (fun ⟨af,ah⟩=>Mem.le aT ah/\(Zbt i q j L u af).wp (Out aR ap)) (fun ⟨af,ah⟩=>St w0 t ah [(2,bk0 X (v31' i f e g h d c) 31),(5,bk0 Y (d1) 102)]) ?_ ?_
    .refine n'<|mv z z<|yy (aH' z) z<|yy (g' 2 bF' z z z) z<|yy (K' J' (p.mono (mx l k)) z) z<|ao' hr z (V' z z) z (fun bC hr=>?_) (fun bC hr=>?_)
     .refine mv z z<|gy z z (f' z) z<|gy z z (K' el' (am.mono (mx l k)) z) z<|gy z z (aZ' z z) z<|yy (t' z z) z<|o'<|al' ⟨decide (0<(q.length:Int)),aT⟩ ⟨mr,hr⟩ (f5 z z z z z) (w2 z z)
     refine mv z z<|sn3 z<|yy (p' z z) z<|o'<|al' ⟨false,aT⟩ ⟨mr,hr⟩ (f5 z z z z z) (w2 z z)
    rintro⟨af,ah⟩ ⟨m,hr⟩
    refine ay' hr z (fun bs hr=>?_) (fun bs hr=>?_)
    .refine sr<|sx0 z z<|c'<|sr<|sx0 z z<|R' (fun (⟨ab,aF⟩:Int×Mem)=>[(1,.slice T q.length V),(2,pt0 X),(5,pt0 Y),(6,i' j),(7,i' ab)]) (fun ⟨ab,aF⟩=>Mem.le ah aF/\(ZcT q j L u ab).wp (Out aR ap)) (fun ⟨ab,aF⟩=>St w0 t aF [(2,bk0 X (v31' i f e g h d c) 31),(5,bk0 Y (d1) 102)]) ?_ ?_
     .refine s' ?_
      let aO:Int->Prop:=fun oo=>((fun ov=>match ov with|ab=>ZcT q j L u ab:Int->Cq ((Int×(List Ze))⊕(List Ze))) oo).wp (Out aR ap)
      replace hr:(Cq.loop _ _).wp aO:=hr
      refine T' (Φ:=aO) (fun (⟨O,Q,ak⟩:Int×Int×Mem)=>((O,Q):Int×Int)) (fun ⟨O,Q,ak⟩=>[(1,.slice T q.length V),(2,pt0 X),(5,pt0 Y),(6,i' j),(7,i' O),(8,i' Q)]) (fun ⟨O,Q,ak⟩=>Mem.le ah ak) (fun ⟨O,Q,ak⟩=>St w0 t ak [(2,bk0 X (v31' i f e g h d c) 31),(5,bk0 Y (d1) 102)]) ⟨0,0,ah⟩ hr (f6 z z z z z z) mr (w2 z z) ?_
      .intro bS A hx hr
       obtain⟨O,Q,ak⟩:=A
       have U:=hx
       refine c'<|sr<|mv z z<|yy (aH' z) z<|yy (g' 2 bF' z z z) z<|mv z z ?_
       obtain⟨x6,a9,hr⟩:=hr
       refine yy (P' J' sz9 (p.mono (mx (mx (mx l k) m) U)) z z a9) z<|yy (ae' sc9 z (bT' (H' (X' p a9) (mx (mx (mx l k) m) U)))) z<|yy (Y0.lenS aI' z) z<|yy (V' z z) z<|nx<|E' hr z (fun bk hr=>?_) (fun bk hr=>?_)
       .refine l'<|a'<|c'<|s'<|n'<|mv z z<|yy (aH' z) z<|yy (g' 2 bF' z z z) z<|mv z z ?_
        obtain⟨x7,ba,hr⟩:=hr
        refine yy (P' J' sz9 (p.mono (mx (mx (mx l k) m) U)) z z ba) z<|yy (ae' sc9 z (bT' (H' (X' p ba) (mx (mx (mx l k) m) U)))) z<|mv z z ?_
        obtain⟨bl,hr⟩:=hr
        refine yy (cT' (s:=x7) aI' z z bl) z<|yy (az' bm' aO' z) z<|yy (I' z z) z<|sg z z<|o'<|v'<|a'<|n'<|mv z z<|yy (I' z z) z<|sg z z<|o'<|C' ⟨i64.wrap (O+(i64.wrap (byteAt x7 Q))),i64.wrap (Q+1),ak⟩ hr U (f6 z z z z z z) (w2 z z)
       refine U'<|h'<|h'<|y'<|W' ⟨O,ak⟩ ⟨U,hr⟩ (f5 z z z z z) (w2 z z)
     rintro⟨ab,aF⟩ ⟨S,hr⟩
     refine a'<|n'<|mv z z<|mv z z<|mv z z<|mv z z<|yy (K' el' (am.mono (mx (mx (mx l k) m) S)) z) z ?_
     obtain⟨bw,hr⟩:=hr
     refine yy (bL' z z bw) z ?_
     obtain⟨x4,a6,hr⟩:=hr
     refine yy (P' el' sz104 (am.mono (mx (mx (mx l k) m) S)) z z a6) z<|yy (ae' sc104 z (aA' (H' (X' am a6) (mx (mx (mx l k) m) S)))) z<|yy (bL' z z (by decide)) z<|yy (az' dl' cV' z) z ?_
     obtain⟨ad,bd,hr⟩:=hr
     refine Q' z z (u' E38 z) (cP' bd) z (trivial) (fun bG bB av aK=>?_)
     obtain⟨x,H,J,I,rfl,ay,aA⟩:=aK
     obtain⟨x5,a7,hr⟩:=hr
     refine yy (dh' ef' ce' z z (dI' (aP.mono (mx (mx m S) av)) a7)) z<|WL.storeAy (cs':=(v101' ad x H J I)) (z':=ad) 5 z ce' z (by decide) (aP.mono (mx (mx m S) av)) z z z z ⟨(v99' ad.num x H),(v99' ad.den J I),z,⟨[.bool ad.num.neg],[.slice x ad.num.mag.length H],z,z,⟨_,z,ay⟩⟩,⟨[.bool ad.den.neg],[.slice J ad.den.mag.length I],z,z,⟨_,z,aA⟩⟩⟩ a7 fun d2 bz=>o'<|v'<|a'<|n'<|mv z z<|yy (I' z z) z<|sg z z<|o'<|C' ⟨i64.wrap (j+1),(L.set j.toNat u).set j.toNat ad,d2,P,bB⟩ hr ⟨(mx (mx (mx (mx l k) m) S) av),bz⟩ (f4 z z z z) (w2 z z)
    refine l'<|v'<|a'<|n'<|mv z z<|yy (I' z z) z<|sg z z<|o'<|C' ⟨i64.wrap (j+1),L.set j.toNat u,d1,P,ah⟩ hr ⟨(mx (mx l k) m),(aP.mono m)⟩ (f4 z z z z) (w2 z z)
   refine U'<|h'<|h'<|y'<|W' ⟨L,ac,P,al⟩ ⟨l,aI,hr⟩ (f2 z z) (w2 z z)
 rintro⟨ag,R,aD,ai⟩ ⟨W,ar,hr⟩
 refine a'<|c'<|sr<|sx0 z z<|R' (fun (A:Mem)=>match A with|aj=>[(2,pt0 X),(5,pt0 Y)]) (fun (A:Mem)=>match A with|aj=>Mem.le ai aj/\(Zbs i ag).Ret r) (fun (A:Mem)=>match A with|aj=>St w0 t aj [(2,bk0 X (v31' i f e g h d c) 31),(5,bk0 Y (R) 102)]) ?_ ?_
 .refine s' ?_
  let aS:(Bool⊕Unit)->Prop:=fun oo=>((fun ov=>match ov with | .inl rv2=>Cq.ret rv2 | .inr ()=>Zbs i ag:(Bool⊕Unit)->Cq Bool) oo).wp (fun a=>a=r)
  replace hr:(Cq.loop _ _).wp aS:=hr
  refine T' (Φ:=aS) (fun (⟨aa,an⟩:Int×Mem)=>(aa:Int)) (fun ⟨aa,an⟩=>[(2,pt0 X),(5,pt0 Y),(9,i' aa)]) (fun ⟨aa,an⟩=>Mem.le ai an) (fun ⟨aa,an⟩=>St w0 t an [(2,bk0 X (v31' i f e g h d c) 31),(5,bk0 Y (R) 102)]) ⟨0,ai⟩ hr (f3 z z z) mr (w2 z z) ?_
  .intro bL A hx hr
   obtain⟨aa,an⟩:=A
   have D:=hx
   refine c'<|sr<|mv z z<|yy (aF' z) z<|yy (g' 2 bc' z z z) z<|yy (K' N' (Z.mono (mx W D)) z) z<|yy (V' z z) z<|nx<|E' hr z (fun bu hr=>?_) (fun bu hr=>?_)
   .refine l'<|a'<|c'<|s'<|c'<|ad' [ff,ff,ff,ff,ff,ff,ff] mix (by kernel_rfl) fun hb=>cn (fun _ o=>aF' z)<|cn (fun _ o=>g' 2 bc' z z z)<|cn (fun _ o=>f' z) ?_
    obtain⟨x2,a5,hr⟩:=hr
    refine cn (fun _ o=>P' N' bK' ((Z.mono (mx W D)).mono o) z z a5)<|cn (fun _ o=>ck' z) ?_
    obtain⟨p2,bQ,bx,bt⟩:=dg' (H' (bP' (aS' (X' Z a5))) (mx W D))
    refine cn (fun _ o=>ae' sc44 z (o _ _ _ bx))<|cn (fun _ o=>m' 5 ag102 z z (cA' (ar.mono D)))<|af' hb ?_
    obtain⟨bP,bi,hr⟩:=hr
    refine Q' z z (u' E40 z) (ek' bi) z (⟨bt,(ar.mono D)⟩) (fun bI br a2 aN=>?_)
    obtain⟨a4,aV,aZ,a1,rfl,az,aC⟩:=aN
    obtain⟨bK,bc,hr⟩:=hr
    refine B' z z (u' E39 z) (ds' bc) z (⟨az,aC⟩)<|yy (bj' z z) z<|o'<|am'<|a'<|E' hr z (fun bo hr=>?_) (fun bo hr=>?_)
    .refine sr<|sx0 z z<|k'<|w'<|b'<|b'<|w'<|ap'<|b' (k0' hr z z)
    refine l'<|v'<|a'<|n'<|mv z z<|yy (I' z z) z<|sg z z<|o'<|C' ⟨i64.wrap (aa+1),br⟩ hr (mx D a2) (f3 z z z) (w2 z z)
   refine U'<|h'<|h'<|y'<|W' an ⟨D,hr⟩ (f2 z z) (w2 z z)
 rintro aj ⟨ae,hr⟩
 refine a'<|c'<|sr<|sx0 z z<|R' (fun (A:Mem)=>match A with|aE=>[]) (fun (A:Mem)=>match A with|aE=>Mem.le aj aE/\(ZcR).Ret r) (fun (A:Mem)=>match A with|aE=>St w0 t aE []) ?_ ?_
 .refine s' ?_
  let aQ:(Bool⊕Unit)->Prop:=fun oo=>((fun ov=>match ov with | .inl rv1=>Cq.ret rv1 | .inr ()=>ZcR:(Bool⊕Unit)->Cq Bool) oo).wp (fun a=>a=r)
  replace hr:(Cq.loop _ _).wp aQ:=hr
  refine T' (Φ:=aQ) (fun (⟨E,ao⟩:Int×Mem)=>(E:Int)) (fun ⟨E,ao⟩=>[(2,pt0 X),(5,pt0 Y),(10,i' E)]) (fun ⟨E,ao⟩=>Mem.le aj ao) (fun ⟨E,ao⟩=>St w0 t ao [(2,bk0 X (v31' i f e g h d c) 31),(5,bk0 Y (R) 102)]) ⟨0,aj⟩ hr (f3 z z z) mr (w2 z z) ?_
  .intro bM A hx hr
   obtain⟨E,ao⟩:=A
   have K:=hx
   refine c'<|sr<|mv z z<|yy (aG' z) z<|yy (g' 2 bc' z z z) z<|yy (K' N' (M.mono (mx (mx W ae) K)) z) z<|yy (V' z z) z<|nx<|E' hr z (fun bD hr=>?_) (fun bD hr=>?_)
   .refine l'<|a'<|c'<|s'<|c'<|ad' [ff,ff,ff,ff,ff,ff,ff] mix (by kernel_rfl) fun hb=>cn (fun _ o=>aG' z)<|cn (fun _ o=>g' 2 bc' z z z)<|cn (fun _ o=>f' z) ?_
    obtain⟨x1,bb,hr⟩:=hr
    refine cn (fun _ o=>P' N' bK' ((M.mono (mx (mx W ae) K)).mono o) z z bb)<|cn (fun _ o=>ck' z) ?_
    obtain⟨p1,bT,bn,bq⟩:=dg' (H' (bP' (aS' (X' M bb))) (mx (mx W ae) K))
    refine cn (fun _ o=>ae' sc44 z (o _ _ _ bn))<|cn (fun _ o=>m' 5 ag102 z z (cA' (ar.mono (mx ae K))))<|af' hb ?_
    obtain⟨bR,bf,hr⟩:=hr
    refine Q' z z (u' E40 z) (ek' bf) z (⟨bq,(ar.mono (mx ae K))⟩) (fun bJ bv a3 aL=>?_)
    obtain⟨a0,aX,aU,aW,rfl,ax,au⟩:=aL
    obtain⟨bO,bg,hr⟩:=hr
    refine B' z z (u' E39 z) (ds' bg) z (⟨ax,au⟩)<|yy (au' z z) z<|o'<|am'<|a'<|E' hr z (fun bp hr=>?_) (fun bp hr=>?_)
    .refine sr<|sx0 z z<|k'<|w'<|b'<|b'<|w'<|ap'<|b' (k0' hr z z)
    refine l'<|v'<|a'<|n'<|mv z z<|yy (I' z z) z<|sg z z<|o'<|C' ⟨i64.wrap (E+1),bv⟩ hr (mx K a3) (f3 z z z) (w2 z z)
   refine U'<|h'<|h'<|y'<|W' ao ⟨K,hr⟩ fn (wk ln)
 rintro aE ⟨bE,hr⟩
 refine a'<|sr<|sx0 z z<|k' (k0' hr z z)
theorem ZeW(P:ZG)(J:(List Int))(l:Option Addr)(k:Nat)(I:Option Addr)(Q:Nat)(R:Option Addr)(M:Nat)(O:Option Addr)(K:Nat)(r:Bool)(hr:(ZcP P J).Ret r):Ctr prog 6 #[.agg ((v24' P l k I Q R M)).toArray,.slice O J.length K] (fun G=>sl bv' G l k P.base/\sl bv' G I Q P.a/\sl bv' G R M P.b/\sl (Rp.int .i8) G O K J) (fun G v=>v = .bool r):=by
 refine A' (args:=[_,_]) (N:=50) func6 z z z (fun w0 G0 aO ay=>?_)
 obtain⟨E,ar,aq,S⟩:=ay
 refine sr<|Y' 2 z z z fun b1=>sg z z<|nr ?_
 obtain⟨ak,au,hr⟩:=hr
 refine B' z z (u' E7 z) (cY' au) z (trivial)<|sx0 z z<|c'<|sr<|mv z z<|yy (an' z) z<|nx<|ay' hr z (fun aH hr=>?_) (fun aH hr=>?_)
 .refine sr<|sx0 z z<|k'<|b' (k0' hr z z)
 refine l'<|a'<|sr<|yy (m' 2 ag24 z z z) z ?_
 obtain⟨aP,av,hr⟩:=hr
 refine Q' z z (u' E8 z) (eq' av) z (⟨E,ar,aq⟩) (fun aJ aN s H=>?_)
 obtain⟨ac,aa,al,an,X,Z,Y,ab,ai,am,V,W,T,U,aj,af,ae,ad,rfl,x,A,t,f,i,d,e,h,g⟩:=H
 refine mv z z<|yy (L' z z) z<|yy (L' z z) z<|yy (L' z z) z<|O' 6 z z31 z fun b2=>O' 7 z z31 z fun b3=>O' 8 z z31 z fun b4=>x' 6 z aR' z z z z z (List.all_eq_true.1 z)<|x' 7 z aR' z z z z z (List.all_eq_true.1 z)<|x' 8 z aR' z z z z z (List.all_eq_true.1 z)<|nr<|yy (m' 6 ai' z z z) z<|yy (m' 7 ai' z z z) z<|yy (m' 8 ai' z z z) z ?_
 obtain⟨ag,ax,hr⟩:=hr
 refine Q' z z (u' E10 z) (bR' ax) z (⟨x,A,t,f,i,d,e,h,g⟩) (fun aI ah c F=>?_)
 obtain⟨u,n,y,B,o,q,aD,aE,rfl,p,C,m,aB⟩:=F
 refine mv z z<|yy (L' z z) z<|yy (L' z z) z<|yy (L' z z) z<|O' 9 z z31 z fun b5=>x' 9 z aR' z z z z z (List.all_eq_true.1 z)<|sg z z<|sx0 z z<|aP' (fun (L:Mem)=>match L with|D=>[(1,.slice O J.length K),(5,.bool ak),(9,pt0 b5)]) (fun (L:Mem)=>match L with|D=>Mem.le ah D/\(Zb4 J ak ag).Ret r) (fun (L:Mem)=>match L with|D=>St w0 G0 D [(9,bk0 b5 (v31' ag.1 u n y B o q) 31)]) ?_ ?_
 .refine sr<|mv z z<|ao' hr z (bj' z z) z (fun aG hr=>?_) (fun aG hr=>?_)
  .refine mv z z<|sn4 z<|yy (t' z z) z<|mv z z<|sn4 z<|yy (t' z z) z<|nx<|av' z<|sr<|mv z z<|sx0 z z<|k'<|b' (k0' hr z z)
  refine mv z z<|gy z z (m' 7 ai' z z z) z<|gy z z (f' z) z ?_
  obtain⟨aF,aw,hr⟩:=hr
  refine B' (D' z z) z (u' E16 z) (dX' aw) z (⟨(f.mono c),(i.mono c),(d.mono c),(S.mono (mx s c))⟩) ?_
  cases aF
  .refine gy z z (an' z) z<|yy (p' z z) z<|mv z z<|sn4 z<|yy (t' z z) z<|nx<|av' z<|sr<|mv z z<|sx0 z z<|k'<|b' (k0' hr z z)
  refine gy z z (an' z) z<|yy (p' z z) z<|mv z z<|gy z z (m' 8 ai' z z z) z<|gy z z (f' z) z ?_
  obtain⟨aM,ap,hr⟩:=hr
  refine B' (D' z z) z (u' E16 z) (dX' ap) z (⟨(e.mono c),(h.mono c),(g.mono c),(S.mono (mx s c))⟩)<|gy z z (an' z) z<|yy (p' z z) z<|nx<|ay' hr z (fun aC hr=>?_) (fun aC hr=>?_)
  .refine sr<|mv z z<|sx0 z z<|k'<|b' (k0' hr z z)
  refine l'<|al' ah ⟨mr,hr⟩ (f3 z z z) (w1 z)
 rintro D ⟨j,hr⟩
 refine sr<|yy (m' 9 ai' z z z) z<|mv z z ?_
 obtain⟨az,ao,hr⟩:=hr
 refine B' z z (u' E16 z) (dX' ao) z (⟨(p.mono j),(C.mono j),(m.mono j),(S.mono (mx (mx s c) j))⟩) ?_
 cases az
 .refine mv z z<|sk z z z<|yy (p' z z) z<|sx0 z z<|k' (k0' hr z z)
 refine mv z z<|gy z z (f' z) z<|yy (t' z z) z<|sx0 z z<|k' (k0' hr z z)
end Go.Proofs.YtnbpjambcagjcaaGreat

namespace Go.EL
open Go.IntKind (i8 i16 i32 i64 u8 u16 u32 u64)
open Go Go.RowKit
structure EqsX (n:Nat) (l:List Zc):Prop where
 len:l.length<=12
 ids:∀ q ∈ l,1<=q.id/\q.id<=1000000
 inc:l.Pairwise fun a b=>a.id<b.id
 pol:∀ q ∈ l,PolOk q.p/\fitB q.p (n:Int)=true
structure GoodX (s:Za):Prop where
 vars:s.vars.length<=4
 name:∀ v ∈ s.vars,nameB v=true
 diff:s.vars.Pairwise fun a b=>a≠b
 eqs:EqsX s.vars.length s.eqs
 neqs:EqsX s.vars.length s.neqs
 apart:∀ a ∈ s.eqs,∀ b ∈ s.neqs,a.id≠b.id
theorem EqsOk.x{n:Nat}{next:Int}{l:List Zc}(h:EqsOk n next l)(hn:next<=1000000):EqsX n l:=⟨h.len,fun q hq=>by have:=h.ids q hq; omega,h.inc,h.pol⟩
theorem Good.x{s:Za}(h:Good s)(n:Int):GoodX ⟨s.vars,s.eqs,s.neqs,n⟩:=⟨h.vars,h.name,h.diff,h.eqs.x h.next.2,h.neqs.x h.next.2,h.apart⟩
end Go.EL

namespace Go.EL
open Go.IntKind (i8 i16 i32 i64 u8 u16 u32 u64)
open Go Go.RowKit
abbrev Diff(l:List ByteArray):Prop:=l.Pairwise fun a b=>a≠b
theorem ZlO{l:List ByteArray}(hd:Diff l){i:Nat}(hi:i<l.length):idxI l l[i]=(i:Int):=by
 have h0:0<=idxI l l[i]:=ZlN.2 (List.getElem_mem hi)
 have h1:=Zji (l:=l) (v:=l[i]) (k:=(idxI l l[i]).toNat) (by omega)
 obtain⟨hj,e⟩:=List.getElem?_eq_some_iff.1 h1
 by_cases hij:(idxI l l[i]).toNat=i
 .omega
 exact absurd e (ZbW hd hj hi hij)
def nm(vars:List ByteArray)(m:M)(v:ByteArray):Int:=if h:0<=idxI vars v/\idxI vars v<8 then m ⟨(idxI vars v).toNat,by omega⟩ else 0
theorem ZhH{vars:List ByteArray}(hd:Diff vars)(m:M){i:Fin 8}(hi:i.val<vars.length):nm vars m vars[i.val]=m i:=by
 unfold nm
 have:=ZlO hd hi
 rw[dif_pos (by have:=i.isLt; omega)]
 congr 1
 exact Fin.ext (by show (idxI vars vars[i.val]).toNat=i.val; omega)
theorem Zjv{vars:List ByteArray}(m:M){v:ByteArray}(h:v ∉ vars):nm vars m v=0:=by
 unfold nm
 rw[dif_neg fun k=>h (ZlN.1 k.1)]
def named(vars:List ByteArray)(p:List Zb):List (Ze×(ByteArray->Int)):=p.map fun t=>(t.c,nm vars t.m)
def NamedEq(fr:List ByteArray)(p:List Zb)(to:List ByteArray)(q:List Zb):Prop:=∀ z,z ∈ named fr p↔z ∈ named to q
theorem NamedEq.refl(fr:List ByteArray)(p:List Zb):NamedEq fr p fr p:=fun _=>Iff.rfl
theorem NamedEq.symm{fr to:List ByteArray}{p q:List Zb}(h:NamedEq fr p to q):NamedEq to q fr p:=fun z=>(h z).symm
theorem NamedEq.trans{a b c:List ByteArray}{p q r:List Zb}(h:NamedEq a p b q)(k:NamedEq b q c r):NamedEq a p c r:=fun z=>(h z).trans (k z)
theorem Zop{fr to:List ByteArray}(hf:Diff fr)(ht:Diff to)(lf:fr.length<=8)(lt:to.length<=8){m:M}(h:MonOk (idxS fr to) m):nm to (sigM (idxS fr to) m)=nm fr m:=by
 have hσ:=Zdg hf lt
 funext v
 by_cases hv:v ∈ to
 .obtain⟨j,hj,rfl⟩:=List.mem_iff_getElem.1 hv
  rw[ZhH ht (i:=⟨j,by omega⟩) _ hj]
  by_cases hfv:to[j] ∈ fr
  .obtain⟨i,hi,e⟩:=List.mem_iff_getElem.1 hfv
   have hs:idxS fr to i=some j:=by
    have h0:=ZlO ht hj
    rw[Zj4 hi (by rw[e]; omega),e,h0,Int.toNat_natCast]
   rw[show sigM (idxS fr to) m ⟨j,by omega⟩=m ⟨i,by omega⟩ from Zkc hσ m (i:=⟨i,by omega⟩) hs,<- e,ZhH hf (i:=⟨i,by omega⟩) m hi]
  rw[Zjv _ hfv]
  refine ZkQ _ _ fun i _ hi=>hfv ?_
  obtain⟨u,h1,h2⟩:=ZbD hi
  rw[List.getElem?_eq_getElem hj] at h2
  cases h2
  exact List.mem_of_getElem? h1
 rw[Zjv _ hv]
 by_cases hfv:v ∈ fr
 .obtain⟨i,hi,rfl⟩:=List.mem_iff_getElem.1 hfv
  rw[ZhH hf (i:=⟨i,by omega⟩) m hi]
  have h0:¬ 0<m ⟨i,by omega⟩:=fun h0=>by
   obtain⟨j,hj⟩:=h.map _ h0
   obtain⟨u,h1,h2⟩:=ZbD hj
   rw[List.getElem?_eq_getElem hi] at h1
   cases h1
   exact hv (List.mem_of_getElem? h2)
  have:=h.nn ⟨i,by omega⟩
  omega
 rw[Zjv _ hfv]
theorem Zhw{fr to:List ByteArray}(hf:Diff fr)(ht:Diff to)(lf:fr.length<=8)(lt:to.length<=8){p:List Zb}(hp:PolFit fr.length p)(hm:missP fr to p=[]):NamedEq fr p to (trP fr to p):=by
 have hs:=Zcu lf hp hm
 have hσ:=Zdg hf lt
 intro z
 unfold named
 rw[List.mem_map,List.mem_map]
 constructor
 .rintro⟨t,h1,rfl⟩
  exact⟨⟨t.c,sigM _ t.m⟩,(Zem (hs.inj hσ) hs.pol.ord).2 ⟨t,h1,rfl⟩,by rw[Zop hf ht lf lt (hs.mon t h1)]⟩
 rintro⟨u,h1,rfl⟩
 obtain⟨t,h2,rfl⟩:=(Zem (hs.inj hσ) hs.pol.ord).1 h1
 exact⟨t,h2,by rw[Zop hf ht lf lt (hs.mon t h2)]⟩
theorem ZkH{fr to:List ByteArray}{p:List Zb}:∀ k,(∀ i,i<k->missB2 fr to p i=false)->missTo fr to p k=[]
 | 0,_=>rfl
 | k+1,h=>by
  simp only[missTo]
  rw[ZkH k fun i hi=>h i (by omega),h k (by omega)]
  rfl
theorem Zju{fr to:List ByteArray}(hf:Diff fr){p q:List Zb}(h:NamedEq fr p to q):missP fr to p=[]:=by
 refine ZkH _ fun i hi=>?_
 unfold missB2
 split
 .rename_i hb
  cases ho:Occurs ⟨i,hb.2⟩ p with
  | false=>rfl
  | true=>
   rw[Bool.true_and]
   refine decide_eq_false fun hn=>?_
   obtain⟨t,h1,h2⟩:=List.any_eq_true.1 ho
   have h2:=of_decide_eq_true h2
   obtain⟨u,h3,h4⟩:=List.mem_map.1 ((h (t.c,nm fr t.m)).1 (List.mem_map.2 ⟨t,h1,rfl⟩))
   have h5:=congrFun (congrArg Prod.snd h4) fr[i]
   simp only at h5
   rw[ZhH hf (i:=⟨i,hb.2⟩) t.m hi,Zjv _ (Zjj hn)] at h5
   omega
 rfl
theorem Zq0{vars:List ByteArray}(hd:Diff vars){a b:M}(ha:∀ i:Fin 8,vars.length<=i.val->a i=0)(hb:∀ i:Fin 8,vars.length<=i.val->b i=0)(e:nm vars a=nm vars b):a=b:=by
 funext i
 by_cases hi:i.val<vars.length
 .rw[<- ZhH hd a hi,<- ZhH hd b hi,e]
 rw[ha i (by omega),hb i (by omega)]
theorem ZlL{n:Nat}(hn:n<=8){p:List Zb}(hp:PolFit n p):∀ t ∈ p,∀ i:Fin 8,n<=i.val->t.m i=0:=fun t ht i hi=>by
 have h1:=((Zde hn).1 hp.2).1 t ht i hi
 have h2:=((hp.1.trm t ht).m i).1
 omega
theorem Zn6{p q:List Zb}(hp:Desc p)(hq:Desc q)(h:∀ t,t ∈ p↔t ∈ q):p=q:=by
 refine ZjB hq ((List.perm_ext_iff_of_nodup ?_ ?_).2 h) (Zkt hp)
 .exact (Za0 hp).imp fun h e=>h (by rw[e])
 exact (Za0 hq).imp fun h e=>h (by rw[e])
theorem Zoo{to:List ByteArray}(ht:Diff to)(lt:to.length<=8){p q:List Zb}(hp:PolFit to.length p)(hq:PolFit to.length q)(h:NamedEq to p to q):p=q:=by
 have key:∀ {p q:List Zb},PolFit to.length p->PolFit to.length q->NamedEq to p to q->∀ t ∈ p,t ∈ q:=fun {p q} hp hq h t hm=>by
  obtain⟨u,h1,h2⟩:=List.mem_map.1 ((h (t.c,nm to t.m)).1 (List.mem_map.2 ⟨t,hm,rfl⟩))
  have e1:u.c=t.c:=congrArg Prod.fst h2
  have e2:u.m=t.m:=Zq0 ht (ZlL lt hq u h1) (ZlL lt hp t hm) (congrArg Prod.snd h2)
  cases u; cases t
  simp only at e1 e2
  subst e1 e2
  exact h1
 exact Zn6 hp.1.ord hq.1.ord fun t=>⟨key hp hq h t,key hq hp h.symm t⟩
theorem Znk{fr to:List ByteArray}(hf:Diff fr)(ht:Diff to)(lf:fr.length<=8)(lt:to.length<=8){p q:List Zb}(hp:PolFit fr.length p)(hq:PolFit to.length q):((trF fr to p).2=true/\(trF fr to p).1=q)↔NamedEq fr p to q:=by
 constructor
 .intro h
  by_cases hm:missP fr to p=[]
  .have e:trF fr to p=(trP fr to p,true):=by unfold trF; rw[if_pos hm]
   rw[e] at h
   rw[<- h.2]
   exact Zhw hf ht lf lt hp hm
  have e:trF fr to p=([],false):=by unfold trF; rw[if_neg hm]
  rw[e] at h
  cases h.1
 intro h
 have hm:=Zju hf h
 have e:trF fr to p=(trP fr to p,true):=by unfold trF; rw[if_pos hm]
 rw[e]
 exact⟨rfl,Zoo ht lt (Zg0 hf lt (Zcu lf hp hm)) hq ((Zhw hf ht lf lt hp hm).symm.trans h)⟩
def Says(s:List ByteArray)(u:Option Zi)(t:List ByteArray)(v:Option Zi):Prop:=match u,v with
 | some u,some v=>u.neq=v.neq/\NamedEq s u.p t v.p
 | none,none=>True
 | _,_=>False
theorem Says.refl(s:List ByteArray)(u:Option Zi):Says s u s u:=by
 cases u with
 | none=>trivial
 | some u=>exact⟨rfl,NamedEq.refl _ _⟩
theorem Says.symm{s t:List ByteArray}{u v:Option Zi}(h:Says s u t v):Says t v s u:=by
 cases u with
 | none=>cases v with
  | none=>trivial
  | some v=>cases h
 | some u=>cases v with
  | none=>cases h
  | some v=>exact⟨h.1.symm,h.2.symm⟩
theorem Says.trans{r s t:List ByteArray}{u v w:Option Zi}(h:Says r u s v)(k:Says s v t w):Says r u t w:=by
 cases u with
 | none=>cases v with
  | none=>cases w with
   | none=>trivial
   | some w=>cases k
  | some v=>cases h
 | some u=>cases v with
  | none=>cases h
  | some v=>cases w with
   | none=>cases k
   | some w=>exact⟨h.1.trans k.1,h.2.trans k.2⟩
theorem ZiB{s t:Za}(hs:Good s)(ht:Good t)(x:Int):likeF s t x=true↔Says s.vars (entO s x) t.vars (entO t x):=by
 have l1:=hs.vars
 have l2:=ht.vars
 unfold likeF
 cases h1:entO s x with
 | none=>cases h2:entO t x with
  | none=>exact⟨fun _=>trivial,fun _=>rfl⟩
  | some v=>exact⟨fun h=>(nomatch h),fun h=>(nomatch h)⟩
 | some u=>cases h2:entO t x with
  | none=>exact⟨fun h=>(nomatch h),fun h=>(nomatch h)⟩
  | some v=>
   show (decide (u.neq=v.neq) && ((trF s.vars t.vars u.p).2 && decide ((trF s.vars t.vars u.p).1=v.p)))=true↔_
   rw[Bool.and_eq_true,Bool.and_eq_true,decide_eq_true_eq,decide_eq_true_eq,Znk hs.diff ht.diff (by omega) (by omega) (ZbB hs h1) (ZbB ht h2)]
   exact Iff.rfl
end Go.EL

namespace Go.EL
open Go.IntKind (i8 i16 i32 i64 u8 u16 u32 u64)
open Go Go.RowKit
abbrev idsP(P:List Zg):List Int:=P.map (·.id)
theorem ZiL{s:Za}{x:Int}:∀ y ∈ pickO s x,y.id=x:=fun y hy=>by
 unfold pickO at hy
 cases h1:entO s x with
 | none=>rw[h1] at hy; cases hy
 | some u=>rw[h1] at hy; rw[List.mem_singleton.1 hy]
theorem ZiT{a0 a1 a2:Za}{x:Int}:∀ y ∈ (stepO a0 a1 a2 x).1,y.id=x:=fun y hy=>by
 unfold stepO at hy
 split at hy
 .exact ZiL y hy
 split at hy
 .exact ZiL y hy
 split at hy
 .exact ZiL y hy
 cases hy
theorem ZoC{l:List Zg}(h:l.length<=1):(idsP l).Pairwise (· < ·):=by
 match l,h with
 | [],_=>exact List.Pairwise.nil
 | [_],_=>exact List.pairwise_singleton _ _
theorem ZcC{a0 a1 a2:Za}:∀ {l:List Int},l.Pairwise (· < ·)->(∀ y ∈ (oldTo a0 a1 a2 l).1,y.id ∈ l/\y.id<a0.next)/\(idsP (oldTo a0 a1 a2 l).1).Pairwise (· < ·)
 | [],_=>⟨fun y hy=>(nomatch hy),List.Pairwise.nil⟩
 | x::l,h=>by
  obtain⟨h1,h2⟩:=List.pairwise_cons.1 h
  obtain⟨k1,k2⟩:=ZcC (a0:=a0) (a1:=a1) (a2:=a2) h2
  unfold oldTo
  split
  .exact⟨fun y hy=>(nomatch hy),List.Pairwise.nil⟩
  rename_i hn
  refine⟨fun y hy=>?_,?_⟩
  .rcases List.mem_append.1 hy with hy|hy
   .rw[ZiT y hy]; exact⟨by simp,by omega⟩
   exact⟨List.mem_cons_of_mem _ (k1 y hy).1,(k1 y hy).2⟩
  show (idsP (_++_)).Pairwise _
  unfold idsP
  rw[List.map_append]
  refine List.pairwise_append.2 ⟨ZoC (ZkR a0 a1 a2 x).1,k2,fun i hi j hj=>?_⟩
  obtain⟨y,hy,rfl⟩:=List.mem_map.1 hi
  obtain⟨z,hz,rfl⟩:=List.mem_map.1 hj
  rw[ZiT y hy]
  exact h1 _ (k1 z hz).1
theorem ZiI{a0 a1 a2:Za}:∀ {l:List Int},l.Pairwise (· < ·)->∀ x ∈ l,x<a0.next->(∀ y ∈ (stepO a0 a1 a2 x).1,y ∈ (oldTo a0 a1 a2 l).1)/\(∀ y ∈ (oldTo a0 a1 a2 l).1,y.id=x->y ∈ (stepO a0 a1 a2 x).1)/\∀ c ∈ (stepO a0 a1 a2 x).2,c ∈ (oldTo a0 a1 a2 l).2
 | [],_,x,hx,_=>by cases hx
 | z::l,h,x,hx,hn=>by
  obtain⟨h1,h2⟩:=List.pairwise_cons.1 h
  have hzn:¬ a0.next<=z:=by
   rcases List.mem_cons.1 hx with rfl|hx
   .omega
   have:=h1 x hx; omega
  have e:oldTo a0 a1 a2 (z::l)=((stepO a0 a1 a2 z).1++(oldTo a0 a1 a2 l).1,(stepO a0 a1 a2 z).2++(oldTo a0 a1 a2 l).2):=if_neg hzn
  rw[e]
  rcases List.mem_cons.1 hx with rfl|hx
  .refine⟨fun y hy=>List.mem_append_left _ hy,fun y hy ey=>?_,fun c hc=>List.mem_append_left _ hc⟩
   rcases List.mem_append.1 hy with hy|hy
   .exact hy
   have:=h1 _ ((ZcC h2).1 y hy).1; omega
  obtain⟨k1,k2,k3⟩:=ZiI h2 x hx hn
  refine⟨fun y hy=>List.mem_append_right _ (k1 y hy),fun y hy ey=>?_,fun c hc=>List.mem_append_right _ (k3 c hc)⟩
  rcases List.mem_append.1 hy with hy|hy
  .have:=ZiT y hy
   have:=h1 x hx
   omega
  exact k2 y hy ey
theorem Zl0(s:Za):∀ (l:List Int) (n:Int),(idsP (numP s n l)).Pairwise (· < ·)
 | [],_=>List.Pairwise.nil
 | x::l,n=>List.pairwise_cons.2 ⟨fun j hj=>by
   obtain⟨y,hy,rfl⟩:=List.mem_map.1 hj
   obtain⟨m,_,_,h1,_,rfl⟩:=Zdp hy
   show n<m
   omega,Zl0 s l (n+1)⟩
theorem Zeq{a0 a:Za}{x:Int}:x ∈ newL a0 a↔x ∈ idsS a/\a0.next<=x:=by
 unfold newL
 rw[List.mem_filter,ZbR,decide_eq_true_eq]
theorem Zf5{a0 a1 a2:Za}(h1:Good a1):(idsP (newF a0 a1 a2).1).Pairwise (· < ·)/\∀ y ∈ (newF a0 a1 a2).1,a0.next<=y.id/\y.id<(newF a0 a1 a2).2:=by
 have hfr:a0.next<=freshN a0 a1/\a1.next<=freshN a0 a1:=by unfold freshN; split <;> omega
 have h2:∀ y ∈ (newL a0 a1).map (fun x=>pickD a1 x x),a0.next<=y.id/\y.id<a1.next:=fun y hy=>by
  obtain⟨x,hx,rfl⟩:=List.mem_map.1 hy
  have:=Zeq.1 hx
  exact⟨this.2,(Za8 h1 this.1).2⟩
 have h3:∀ y ∈ numP a2 (freshN a0 a1) (newL a0 a2),freshN a0 a1<=y.id/\y.id<freshN a0 a1+((newL a0 a2).length:Int):=fun y hy=>by
  obtain⟨m,_,_,k1,k2,rfl⟩:=Zdp hy
  exact⟨k1,k2⟩
 refine⟨?_,fun y hy=>?_⟩
 .show (idsP (_++_)).Pairwise _
  unfold idsP
  rw[List.map_append]
  refine List.pairwise_append.2 ⟨?_,Zl0 _ _ _,fun i hi j hj=>?_⟩
  .rw[List.map_map]
   have:((fun x:Zg=>x.id) ∘ fun x=>pickD a1 x x)=fun x:Int=>x:=rfl
   rw[this,List.map_id']
   exact (Zcx _).filter _
  obtain⟨y,hy,rfl⟩:=List.mem_map.1 hi
  obtain⟨z,hz,rfl⟩:=List.mem_map.1 hj
  have:=h2 y hy
  have:=h3 z hz
  omega
 show a0.next<=y.id/\y.id<freshN a0 a1+((newL a0 a2).length:Int)
 rcases List.mem_append.1 hy with hy|hy
 .have:=h2 y hy; omega
 have:=h3 y hy; omega
abbrev allP(a0 a1 a2:Za):List Zg:=(oldF a0 a1 a2).1++(newF a0 a1 a2).1
theorem ZlD{a0 a1 a2:Za}(h1:Good a1):(idsP (allP a0 a1 a2)).Pairwise (· < ·):=by
 have ho:=ZcC (a0:=a0) (a1:=a1) (a2:=a2) (Zcx (idsS a0++(idsS a1++idsS a2)))
 obtain⟨n1,n2⟩:=Zf5 (a0:=a0) (a2:=a2) h1
 unfold allP idsP
 rw[List.map_append]
 refine List.pairwise_append.2 ⟨ho.2,n1,fun i hi j hj=>?_⟩
 obtain⟨y,hy,rfl⟩:=List.mem_map.1 hi
 obtain⟨z,hz,rfl⟩:=List.mem_map.1 hj
 have:=(ho.1 y hy).2
 have:=(n2 z hz).1
 omega
theorem Zo1{a0 a1 a2:Za}(h1:Good a1){y z:Zg}(hy:y ∈ allP a0 a1 a2)(hz:z ∈ allP a0 a1 a2)(e:y.id=z.id):y=z:=by
 have hp:=List.pairwise_map.1 (ZlD (a0:=a0) (a2:=a2) h1)
 obtain⟨i,hi,rfl⟩:=List.mem_iff_getElem.1 hy
 obtain⟨j,hj,rfl⟩:=List.mem_iff_getElem.1 hz
 rcases Nat.lt_trichotomy i j with hij|hij|hij
 .have:=List.pairwise_iff_getElem.1 hp i j hi hj hij; omega
 .subst hij; rfl
 have:=List.pairwise_iff_getElem.1 hp j i hj hi hij; omega
structure WentWell (a0 a1 a2:Za):Prop where
 miss:∀ y ∈ allP a0 a1 a2,missP y.from'.vars (variablesF a0.vars a1.vars a2.vars) y.entry.p=[]
 conf:(oldF a0 a1 a2).2=[]
 vars:(variablesF a0.vars a1.vars a2.vars).length<=4
 eqs:(mergeSys a0 a1 a2).eqs.length<=12
 neqs:(mergeSys a0 a1 a2).neqs.length<=12
 next:(newF a0 a1 a2).2<=1000000
theorem Zk2{a0 a1 a2:Za}(h:(mergeG a0 a1 a2).2.2=0):(mergeG a0 a1 a2).1=mergeSys a0 a1 a2/\WentWell a0 a1 a2:=by
 unfold mergeG at h ⊢
 by_cases c:0<(confF a0 a1 a2).length
 .rw[if_pos c] at h; cases h
 rw[if_neg c] at h ⊢
 split at h
 .cases h
 rename_i d
 rw[if_neg d]
 have hnil:confF a0 a1 a2=[]:=List.length_eq_zero_iff.1 (by omega)
 unfold confF at hnil
 obtain⟨q1,q2⟩:=List.append_eq_nil_iff.1 hnil
 have q3:=ZpR.1 (List.map_eq_nil_iff.1 q1)
 refine⟨rfl,fun y hy=>?_,q2,?_,?_,?_,?_⟩
 .exact List.flatMap_eq_nil_iff.1 q3 y hy
 .exact Nat.le_of_not_lt fun k=>d (.inl k)
 .exact Nat.le_of_not_lt fun k=>d (.inr (.inl k))
 .exact Nat.le_of_not_lt fun k=>d (.inr (.inr (.inl k)))
 exact Int.not_lt.1 fun k=>d (.inr (.inr (.inr k)))
section
variable {a0 a1 a2:Za}
theorem ZlE(h1:Good a1)(h2:Good a2):∀ y ∈ allP a0 a1 a2,PickOk y:=fun y hy=>by
 rcases List.mem_append.1 hy with hy|hy
 .exact ZiJ h1 h2 _ y hy
 exact Znc h1 h2 y hy
theorem ZoV(w:WentWell a0 a1 a2)(h1:Good a1)(h2:Good a2){y:Zg}(hy:y ∈ allP a0 a1 a2):PolFit (variablesF a0.vars a1.vars a2.vars).length (putE (variablesF a0.vars a1.vars a2.vars) y).p/\NamedEq (variablesF a0.vars a1.vars a2.vars) (putE (variablesF a0.vars a1.vars a2.vars) y).p y.from'.vars y.entry.p:=by
 have hk:=ZlE h1 h2 y hy
 have hm:=w.miss y hy
 have lv:=hk.from'.vars
 have hd:=ZfB (base:=a0.vars) h1.diff h2.diff
 have hw:=w.vars
 have e:(putE (variablesF a0.vars a1.vars a2.vars) y).p=trP y.from'.vars (variablesF a0.vars a1.vars a2.vars) y.entry.p:=by
  show (trF _ _ _).1=_
  unfold trF
  rw[if_pos hm]
 rw[e]
 exact⟨Zg0 hk.from'.diff (by omega) (Zcu (by omega) hk.fit hm),(Zhw hk.from'.diff hd (by omega) (by omega) hk.fit hm).symm⟩
theorem Zld{v:ByteArray}(h:v ∈ variablesF a0.vars a1.vars a2.vars):v ∈ a1.vars\/v ∈ a2.vars:=by
 unfold variablesF at h
 split at h
 .exact .inr h
 rcases List.mem_append.1 h with h|h
 .exact .inl (List.mem_filter.1 h).1
 exact .inr (List.mem_filter.1 h).1
theorem Zk1(w:WentWell a0 a1 a2)(h0:Good a0)(h1:Good a1)(h2:Good a2):Good (mergeSys a0 a1 a2):=by
 have hinc:=List.pairwise_map.1 (ZlD (a0:=a0) (a2:=a2) h1)
 have hid:∀ y ∈ allP a0 a1 a2,1<=y.id/\y.id<(newF a0 a1 a2).2:=fun y hy=>by
  obtain⟨_,n2⟩:=Zf5 (a0:=a0) (a2:=a2) h1
  have hn:=h0.next
  have hf:a0.next<=(newF a0 a1 a2).2:=by
   show a0.next<=freshN a0 a1+_
   have:a0.next<=freshN a0 a1:=by unfold freshN; split <;> omega
   omega
  rcases List.mem_append.1 hy with hy|hy
  .have ho:=(ZcC (a0:=a0) (a1:=a1) (a2:=a2) (Zcx (idsS a0++(idsS a1++idsS a2)))).1 y hy
   have hm:=ZbR.1 ho.1
   have:1<=y.id:=by
    rcases List.mem_append.1 hm with hm|hm
    .exact (Za8 h0 hm).1
    rcases List.mem_append.1 hm with hm|hm
    .exact (Za8 h1 hm).1
    exact (Za8 h2 hm).1
   omega
  have:=n2 y hy; omega
 have half:∀ (f:Zg->Bool),(((allP a0 a1 a2).filter f).map (putE (variablesF a0.vars a1.vars a2.vars))).length<=12->EqsOk (variablesF a0.vars a1.vars a2.vars).length (newF a0 a1 a2).2 (((allP a0 a1 a2).filter f).map (putE (variablesF a0.vars a1.vars a2.vars))):=fun f hl=>{
  len:=hl
  ids:=fun q hq=>by
   obtain⟨y,hy,rfl⟩:=List.mem_map.1 hq
   exact hid y (List.mem_filter.1 hy).1
  inc:=List.pairwise_map.2 (hinc.filter f)
  pol:=fun q hq=>by
   obtain⟨y,hy,rfl⟩:=List.mem_map.1 hq
   exact (ZoV w h1 h2 (List.mem_filter.1 hy).1).1 }
 have hn:1<=(newF a0 a1 a2).2:=by
  show 1<=freshN a0 a1+_
  have:=h0.next
  have:a0.next<=freshN a0 a1:=by unfold freshN; split <;> omega
  omega
 exact {
  vars:=w.vars
  name:=fun v hv=>(Zld hv).elim (h1.name v) (h2.name v)
  diff:=ZfB h1.diff h2.diff
  next:=⟨hn,w.next⟩
  eqs:=half _ w.eqs
  neqs:=half _ w.neqs
  apart:=fun p hp q hq e=>by
   obtain⟨y,hy,rfl⟩:=List.mem_map.1 hp
   obtain⟨z,hz,rfl⟩:=List.mem_map.1 hq
   obtain⟨y1,y2⟩:=List.mem_filter.1 hy
   obtain⟨z1,z2⟩:=List.mem_filter.1 hz
   have:=Zo1 h1 y1 z1 e
   subst this
   rw[z2] at y2
   cases y2 }
theorem ZjY{s:Za}(h:Good s){x:Int}{u:Zi}(hm:(x,u) ∈ entF s):entO s x=some u:=by
 obtain⟨v,hv⟩:=Zkx (s:=s) (id:=x) (by rw[<- Z3]; exact List.mem_map.2 ⟨_,hm,rfl⟩)
 have h2:=ZfX hv
 have hnd:=Zkz h
 rw[<- Z3] at hnd
 obtain⟨i,hi,e1⟩:=List.mem_iff_getElem.1 hm
 obtain⟨j,hj,e2⟩:=List.mem_iff_getElem.1 h2
 have:i=j:=by
  have hp:=List.pairwise_map.1 hnd
  rcases Nat.lt_trichotomy i j with hij|hij|hij
  .exact absurd (by rw[e1,e2]) (List.pairwise_iff_getElem.1 hp i j hi hj hij)
  .exact hij
  exact absurd (by rw[e1,e2]) (List.pairwise_iff_getElem.1 hp j i hj hi hij)
 subst this
 rw[hv]
 rw[e1] at e2
 cases e2
 rfl
theorem ZqI(w:WentWell a0 a1 a2)(h0:Good a0)(h1:Good a1)(h2:Good a2){y:Zg}(hy:y ∈ allP a0 a1 a2):entO (mergeSys a0 a1 a2) y.id=some ⟨(putE (variablesF a0.vars a1.vars a2.vars) y).p,y.entry.neq⟩:=by
 refine ZjY (Zk1 w h0 h1 h2) ?_
 cases hn:y.entry.neq with
 | false=>exact List.mem_append_left _ (List.mem_map.2 ⟨_,List.mem_map.2 ⟨y,List.mem_filter.2 ⟨hy,by rw[hn]; rfl⟩,rfl⟩,rfl⟩)
 | true=>exact List.mem_append_right _ (List.mem_map.2 ⟨_,List.mem_map.2 ⟨y,List.mem_filter.2 ⟨hy,hn⟩,rfl⟩,rfl⟩)
theorem Zev{x:Int}:x ∈ idsS (mergeSys a0 a1 a2)↔∃ y ∈ allP a0 a1 a2,y.id=x:=by
 unfold idsS
 rw[List.mem_append]
 constructor
 .rintro (h|h)
  .obtain⟨q,hq,rfl⟩:=List.mem_map.1 h
   obtain⟨y,hy,rfl⟩:=List.mem_map.1 hq
   exact⟨y,(List.mem_filter.1 hy).1,rfl⟩
  obtain⟨q,hq,rfl⟩:=List.mem_map.1 h
  obtain⟨y,hy,rfl⟩:=List.mem_map.1 hq
  exact⟨y,(List.mem_filter.1 hy).1,rfl⟩
 rintro⟨y,hy,rfl⟩
 cases hn:y.entry.neq with
 | false=>exact .inl (List.mem_map.2 ⟨_,List.mem_map.2 ⟨y,List.mem_filter.2 ⟨hy,by rw[hn]; rfl⟩,rfl⟩,rfl⟩)
 | true=>exact .inr (List.mem_map.2 ⟨_,List.mem_map.2 ⟨y,List.mem_filter.2 ⟨hy,hn⟩,rfl⟩,rfl⟩)
theorem ZeU(w:WentWell a0 a1 a2)(h0:Good a0)(h1:Good a1)(h2:Good a2){y:Zg}(hy:y ∈ allP a0 a1 a2){x:Int}(hx:entO y.from' x=some y.entry):Says (mergeSys a0 a1 a2).vars (entO (mergeSys a0 a1 a2) y.id) y.from'.vars (entO y.from' x):=by
 rw[ZqI w h0 h1 h2 hy,hx]
 exact⟨rfl,(ZoV w h1 h2 hy).2⟩
theorem Zjx(w:WentWell a0 a1 a2)(h0:Good a0)(h1:Good a1)(h2:Good a2){s:Za}{x:Int}(hm:∀ y ∈ pickO s x,y ∈ allP a0 a1 a2)(ho:∀ y ∈ allP a0 a1 a2,y.id=x->y ∈ pickO s x):Says (mergeSys a0 a1 a2).vars (entO (mergeSys a0 a1 a2) x) s.vars (entO s x):=by
 cases he:entO s x with
 | none=>
  have e:pickO s x=[]:=by unfold pickO; rw[he]
  have hn:entO (mergeSys a0 a1 a2) x=none:=Zdx fun hi=>by
   obtain⟨y,hy,ey⟩:=Zev.1 hi
   have:=ho y hy ey
   rw[e] at this
   cases this
  rw[hn]
  trivial
 | some u=>
  have e:pickO s x=[⟨x,u,s⟩]:=by unfold pickO; rw[he]
  have:=ZeU w h0 h1 h2 (hm ⟨x,u,s⟩ (by rw[e]; simp)) (x:=x) he
  rw[<- he]
  exact this
end
structure MergeOk (s a b m:Za):Prop where
 good:Good m
 old1:∀ x,x<s.next->Says s.vars (entO s x) a.vars (entO a x)->Says m.vars (entO m x) b.vars (entO b x)
 old2:∀ x,x<s.next->Says s.vars (entO s x) b.vars (entO b x)->Says m.vars (entO m x) a.vars (entO a x)
 new1:∀ x ∈ idsS a,s.next<=x->∃ y ∈ idsS m,Says m.vars (entO m y) a.vars (entO a x)
 new2:∀ x ∈ idsS b,s.next<=x->∃ y ∈ idsS m,Says m.vars (entO m y) b.vars (entO b x)
 from':∀ x ∈ idsS m,(∃ y,Says m.vars (entO m x) a.vars (entO a y))\/∃ y,Says m.vars (entO m x) b.vars (entO b y)
theorem ZlZ(s:Za){x:Int}:∀ {l:List Int}{n:Int},x ∈ l->∃ m,pickD s m x ∈ numP s n l
 | z::l,n,h=>by
  rcases List.mem_cons.1 h with rfl|h
  .exact⟨n,List.mem_cons_self⟩
  obtain⟨m,hm⟩:=ZlZ s (n:=n+1) h
  exact⟨m,List.mem_cons_of_mem _ hm⟩
theorem ZeL{s:Za}{x:Int}(hx:x ∈ idsS s)(n:Int):entO s x=some (pickD s n x).entry:=by
 obtain⟨u,hu⟩:=Zkx hx
 show _=some ((entO s x).getD _)
 rw[hu]
 rfl
theorem Zoj{a0 a1 a2:Za}(h0:Good a0)(h1:Good a1)(h2:Good a2)(w:WentWell a0 a1 a2):MergeOk a0 a1 a2 (mergeSys a0 a1 a2):=by
 have hU:=Zcx (idsS a0++(idsS a1++idsS a2))
 have hin:∀ x,x ∈ uniI (idsS a0++(idsS a1++idsS a2))↔x ∈ idsS a0\/x ∈ idsS a1\/x ∈ idsS a2:=fun x=>by rw[ZbR,List.mem_append,List.mem_append]
 have key:∀ x,x<a0.next->x ∈ uniI (idsS a0++(idsS a1++idsS a2))->(∀ y ∈ (stepO a0 a1 a2 x).1,y ∈ allP a0 a1 a2)/\(∀ y ∈ allP a0 a1 a2,y.id=x->y ∈ (stepO a0 a1 a2 x).1):=fun x hx hm=>by
  obtain⟨k1,k2,_⟩:=ZiI (a0:=a0) (a1:=a1) (a2:=a2) hU x hm hx
  refine⟨fun y hy=>List.mem_append_left _ (k1 y hy),fun y hy e=>?_⟩
  rcases List.mem_append.1 hy with hy|hy
  .exact k2 y hy e
  have:=((Zf5 (a0:=a0) (a2:=a2) h1).2 y hy).1; omega
 have out:∀ x,x<a0.next->x ∉ uniI (idsS a0++(idsS a1++idsS a2))->entO (mergeSys a0 a1 a2) x=none:=fun x hx hm=>Zdx fun hi=>by
  obtain⟨y,hy,e⟩:=Zev.1 hi
  rcases List.mem_append.1 hy with hy|hy
  .have:=((ZcC (a0:=a0) (a1:=a1) (a2:=a2) hU).1 y hy).1
   rw[e] at this
   exact hm this
  have:=((Zf5 (a0:=a0) (a2:=a2) h1).2 y hy).1; omega
 have at1:∀ x,x<a0.next->Says a0.vars (entO a0 x) a1.vars (entO a1 x)->Says (mergeSys a0 a1 a2).vars (entO (mergeSys a0 a1 a2) x) a2.vars (entO a2 x):=fun x hx hs=>by
  by_cases hm:x ∈ uniI (idsS a0++(idsS a1++idsS a2))
  .obtain⟨k1,k2⟩:=key x hx hm
   have e:stepO a0 a1 a2 x=(pickO a2 x,[]):=if_pos ((ZiB h1 h0 x).2 hs.symm)
   rw[e] at k1 k2
   exact Zjx w h0 h1 h2 k1 k2
  rw[out x hx hm,Zdx (s:=a2) fun h=>hm ((hin x).2 (.inr (.inr h)))]
  trivial
 refine⟨Zk1 w h0 h1 h2,at1,fun x hx hs=>?_,fun x hx hn=>?_,fun x hx hn=>?_,fun x hx=>?_⟩
 .by_cases hm:x ∈ uniI (idsS a0++(idsS a1++idsS a2))
  .by_cases c:likeF a1 a0 x=true
   .have c':=(ZiB h1 h0 x).1 c
    exact (at1 x hx c'.symm).trans (hs.symm.trans c'.symm)
   obtain⟨k1,k2⟩:=key x hx hm
   have e:stepO a0 a1 a2 x=(pickO a1 x,[]):=by unfold stepO; rw[if_neg c,if_pos ((ZiB h2 h0 x).2 hs.symm)]
   rw[e] at k1 k2
   exact Zjx w h0 h1 h2 k1 k2
  rw[out x hx hm,Zdx (s:=a1) fun h=>hm ((hin x).2 (.inr (.inl h)))]
  trivial
 .have hy:pickD a1 x x ∈ allP a0 a1 a2:=List.mem_append_right _ (List.mem_append_left _ (List.mem_map.2 ⟨x,Zeq.2 ⟨hx,hn⟩,rfl⟩))
  exact⟨x,Zev.2 ⟨_,hy,rfl⟩,ZeU w h0 h1 h2 hy (ZeL hx x)⟩
 .obtain⟨m,hm⟩:=ZlZ a2 (n:=freshN a0 a1) (Zeq.2 ⟨hx,hn⟩:x ∈ newL a0 a2)
  have hy:pickD a2 m x ∈ allP a0 a1 a2:=List.mem_append_right _ (List.mem_append_right _ hm)
  exact⟨m,Zev.2 ⟨_,hy,rfl⟩,ZeU w h0 h1 h2 hy (ZeL hx m)⟩
 obtain⟨y,hy,rfl⟩:=Zev.1 hx
 have src:(y.from'=a1\/y.from'=a2)/\∃ z,entO y.from' z=some y.entry:=by
  have hpick:∀ {s:Za}{z:Int},y ∈ pickO s z->y.from'=s/\∃ z,entO y.from' z=some y.entry:=fun {s z} h=>by
   unfold pickO at h
   cases he:entO s z with
   | none=>rw[he] at h; cases h
   | some u=>rw[he] at h; rw[List.mem_singleton.1 h]; exact⟨rfl,z,he⟩
  rcases List.mem_append.1 hy with hy|hy
  .have ho:=(ZcC (a0:=a0) (a1:=a1) (a2:=a2) hU).1 y hy
   obtain⟨_,k2,_⟩:=ZiI (a0:=a0) (a1:=a1) (a2:=a2) hU y.id ho.1 ho.2
   have hs:=k2 y hy rfl
   unfold stepO at hs
   split at hs
   .have:=hpick hs; exact⟨.inr this.1,this.2⟩
   split at hs
   .have:=hpick hs; exact⟨.inl this.1,this.2⟩
   split at hs
   .have:=hpick hs; exact⟨.inl this.1,this.2⟩
   cases hs
  rcases List.mem_append.1 hy with hy|hy
  .obtain⟨x,hx2,rfl⟩:=List.mem_map.1 hy
   exact⟨.inl rfl,x,ZeL (Zeq.1 hx2).1 x⟩
  obtain⟨m,x,hx2,_,_,rfl⟩:=Zdp hy
  exact⟨.inr rfl,x,ZeL (Zeq.1 hx2).1 m⟩
 obtain⟨hs,z,hz⟩:=src
 have:=ZeU w h0 h1 h2 hy hz
 rcases hs with hs|hs
 .rw[hs] at this; exact .inl ⟨z,this⟩
 rw[hs] at this; exact .inr ⟨z,this⟩
theorem Zpp{s a b:Za}(hs:Good s)(ha:Good a)(hb:Good b)(h:(mergeF s a b).2.2=0):MergeOk s a b (mergeF s a b).1:=by
 unfold mergeF at h ⊢
 by_cases c1:a=s
 .rw[if_pos c1]
  subst c1
  exact⟨hb,fun x _ _=>Says.refl _ _,fun x _ k=>k.symm,fun x hx hn=>by have:=Za8 hs hx; omega,fun x hx _=>⟨x,hx,Says.refl _ _⟩,fun x _=>.inr ⟨x,Says.refl _ _⟩⟩
 rw[if_neg c1] at h ⊢
 by_cases c2:b=s
 .rw[if_pos c2]
  subst c2
  exact⟨ha,fun x _ k=>k.symm,fun x _ _=>Says.refl _ _,fun x hx _=>⟨x,hx,Says.refl _ _⟩,fun x hx hn=>by have:=Za8 hs hx; omega,fun x _=>.inl ⟨x,Says.refl _ _⟩⟩
 rw[if_neg c2] at h ⊢
 by_cases c3:b=a
 .rw[if_pos c3]
  subst c3
  exact⟨ha,fun x _ _=>Says.refl _ _,fun x _ _=>Says.refl _ _,fun x hx _=>⟨x,hx,Says.refl _ _⟩,fun x hx _=>⟨x,hx,Says.refl _ _⟩,fun x _=>.inl ⟨x,Says.refl _ _⟩⟩
 rw[if_neg c3] at h ⊢
 obtain⟨e,w⟩:=Zk2 h
 rw[e]
 exact Zoj hs ha hb w
end Go.EL

namespace Go.EL
open Go.IntKind (i8 i16 i32 i64 u8 u16 u32 u64)
open Go Go.RowKit
end Go.EL

namespace Go.EL
open Go.IntKind (i8 i16 i32 i64 u8 u16 u32 u64)
open Go Go.RowKit
end Go.EL

namespace Go.EL
open Go.IntKind (i8 i16 i32 i64 u8 u16 u32 u64)
open Go Go.RowKit
theorem fdiv32{z:Int}(h:0<=z/\z<4294967296):Int.fdiv z (2 ^ (min (32:Int).toNat u64.bits))=0:=by
 show Int.fdiv z 4294967296=0
 rw[Int.fdiv_eq_ediv_of_nonneg _ (by decide)]
 omega
theorem fdiv63{z:Int}(h:0<=z/\z<4294967296):Int.fdiv z (2 ^ (min (63:Int).toNat u64.bits))=0:=by
 show Int.fdiv z 9223372036854775808=0
 rw[Int.fdiv_eq_ediv_of_nonneg _ (by decide)]
 omega
theorem Zoa:(between 1 600 fun x=>runs 20 (ZW [x,0]) [x])=true:=by decide +kernel
theorem Zob:(between 0 600 fun x=>runs 20 (ZW [x]) (magI x))=true:=by decide +kernel
theorem Zn9:(between 1 600 fun x=>runs 20 (ZN true [x]) ⟨true,[x]⟩ && runs 20 (ZN false [x]) ⟨false,[x]⟩)=true:=by decide +kernel
theorem Zpd{x y:Int}(hx:1<=x/\x<=300)(hy:1<=y/\y<=300):(Zfh [x] [y]).Ret [x+y]:=by
 refine Cq.wp.no (show ¬ ((1:Nat):Int)<((1:Nat):Int) by decide) ?_
 have w2:i64.wrap (((([x]:List Int).length:Nat):Int)+1)=2:=by show i64.wrap (((1:Nat):Int)+1)=2; decide
 refine⟨by rw[w2]; decide,?_⟩
 rw[w2]
 show (Cq.next (Zfu [x] [y] ([0,0],0,0)) _).wp _
 refine Cq.Zm 1 (fun k (s:List Int×Int×Int)=>(k=0/\s=([0,0],0,0))\/(k=1/\s=([x+y,0],0,1))) (fun k s hk hs=>?_) (fun s hs=>?_) (.inl ⟨rfl,rfl⟩)
 .obtain⟨rfl,rfl⟩:=hs.resolve_right (by omega)
  refine Cq.wp.yes (show (0:Int)<((1:Nat):Int) by decide) ⟨x,⟨by decide,rfl⟩,?_⟩
  refine Cq.wp.yes (show (0:Int)<((1:Nat):Int) by decide) ⟨y,⟨by decide,rfl⟩,?_⟩
  show (ZbX [0,0] 0 (u64.wrap (u64.wrap (u64.wrap x+0)+u64.wrap y))).wp _
  rw[ZdH (x:=x) (by omega),ZdH (x:=y) (by omega),ZdH (x:=x+0) (by omega),ZdH (by omega)]
  refine⟨0,⟨by decide,rfl⟩,.inr ⟨rfl,?_⟩⟩
  rw[ZoN (by omega),fdiv32 (by omega),show x+0+y=x+y by omega]
  rfl
 obtain⟨_,rfl⟩:=hs.resolve_left (by omega)
 refine Cq.wp.no (show ¬ (1:Int)<((1:Nat):Int) by decide) ?_
 exact⟨0,⟨by show (0:Int)<=((1:Nat):Int); decide,rfl⟩,[x+y],ZA (Zr Zoa (x:=x+y) (by omega) (by omega)),rfl⟩
theorem Zkv{x y:Int}(hx:1<=x/\x<=300)(hy:1<=y/\y<=x):(ZaC [x] [y]).Ret (magI (x-y)):=by
 refine⟨by show (0:Int)<=((1:Nat):Int)/\((1:Nat):Int)<=1000000; decide,?_⟩
 show (Cq.next (ZcA [x] [y] ([0],0,0)) _).wp _
 refine Cq.Zm 1 (fun k (s:List Int×Int×Int)=>(k=0/\s=([0],0,0))\/(k=1/\s=([x-y],0,1))) (fun k s hk hs=>?_) (fun s hs=>?_) (.inl ⟨rfl,rfl⟩)
 .obtain⟨rfl,rfl⟩:=hs.resolve_right (by omega)
  refine Cq.wp.yes (show (0:Int)<((1:Nat):Int) by decide) ⟨x,⟨by decide,rfl⟩,?_⟩
  refine Cq.wp.yes (show (0:Int)<((1:Nat):Int) by decide) ⟨y,⟨by decide,rfl⟩,?_⟩
  show (Zag [0] 0 (u64.wrap (u64.wrap (u64.wrap x-0)-u64.wrap y))).wp _
  rw[ZdH (x:=x) (by omega),ZdH (x:=y) (by omega),ZdH (x:=x-0) (by omega),ZdH (by omega)]
  refine⟨0,⟨by decide,rfl⟩,.inr ⟨rfl,?_⟩⟩
  rw[ZoN (by omega),fdiv63 (by omega),show x-0-y=x-y by omega]
  rfl
 obtain⟨_,rfl⟩:=hs.resolve_left (by omega)
 refine Cq.wp.no (show ¬ (1:Int)<((1:Nat):Int) by decide) ?_
 exact⟨_,ZA (Zr Zob (x:=x-y) (by omega) (by omega)),rfl⟩
theorem Zo8(x y:Int):(ZaB [x] [y]).Ret (if x=y then 0 else if x<y then -1 else 1):=by
 refine Cq.wp.no (show ¬ ¬ ((1:Nat):Int)=((1:Nat):Int) by decide) ?_
 have w0:i64.wrap (((([x]:List Int).length:Nat):Int)-1)=0:=by show i64.wrap (((1:Nat):Int)-1)=0; decide
 rw[w0]
 show (Cq.next _ _).wp _
 refine Cq.Zad ?_
 refine Cq.wp.yes (by decide) ⟨x,⟨by decide,rfl⟩,y,⟨by decide,rfl⟩,?_⟩
 by_cases e:x=y
 .refine Cq.wp.no (fun k=>k e) ?_
  show (Cq.loop _ (i64.wrap (0-1))).wp _
  refine Cq.Zad ?_
  refine Cq.wp.no (by decide) ?_
  rw[if_pos e]
  rfl
 rw[if_neg e]
 refine Cq.wp.yes e ⟨x,⟨by decide,rfl⟩,y,⟨by decide,rfl⟩,?_⟩
 by_cases c:x<y
 .exact Cq.wp.yes c (by rw[if_pos c]; rfl)
 exact Cq.wp.no c (by rw[if_neg c]; rfl)
theorem Zfg(neg:Bool){x:Int}(hx:0<=x/\x<=600):(ZN neg (magI x)).Ret (intI (if neg=true then -x else x)):=by
 by_cases h0:x=0
 .subst h0
  cases neg
  .exact Cq.Ret.Zdt 10 (by decide +kernel)
  exact Cq.Ret.Zdt 10 (by decide +kernel)
 have:=Zr Zn9 (x:=x) (by omega) (by omega)
 rw[Bool.and_eq_true] at this
 rw[mag1 h0]
 cases neg with
 | true=>
  have e:intI (if true=true then -x else x)=⟨true,[x]⟩:=by
   rw[if_pos rfl]; unfold intI
   rw[decide_eq_true (by omega),mag1 (by omega)]
   congr 2; omega
  rw[e]; exact ZA this.1
 | false=>
  have e:intI (if false=true then -x else x)=⟨false,[x]⟩:=by
   rw[if_neg (by decide)]; unfold intI
   rw[decide_eq_false (by omega),mag1 (by omega)]
   congr 2; omega
  rw[e]; exact ZA this.2
theorem Zku:(between (-300) 300 fun b=>runs 40 (Zbc (intI 0) (intI b)) (intI b) && runs 40 (Zbc (intI b) (intI 0)) (intI b))=true:=by decide +kernel
theorem Zo7{a b:Int}(ha:-300<=a/\a<=300)(hb:-300<=b/\b<=300):(Zbc (intI a) (intI b)).Ret (intI (a+b)):=by
 by_cases a0:a=0
 .subst a0
  have:=Zr Zku (x:=b) hb.1 hb.2
  rw[Bool.and_eq_true] at this
  rw[Int.zero_add]
  exact ZA this.1
 by_cases b0:b=0
 .subst b0
  have:=Zr Zku (x:=a) ha.1 ha.2
  rw[Bool.and_eq_true] at this
  rw[Int.add_zero]
  exact ZA this.2
 have ma:(intI a).mag=[(a.natAbs:Int)]:=by rw[ZlR,mag1 (by omega)]
 have mb:(intI b).mag=[(b.natAbs:Int)]:=by rw[ZlR,mag1 (by omega)]
 unfold Zbc
 rw[ma,mb]
 by_cases hs:(a<0↔b<0)
 .refine Cq.wp.yes (by rw[Zcl,Zcl]; exact decide_eq_decide.2 hs) ⟨_,Zpd (by omega) (by omega),_,?_,rfl⟩
  rw[<- mag1 (x:=(a.natAbs:Int)+(b.natAbs:Int)) (by omega),Zcl]
  have e:a+b=if decide (a<0)=true then -((a.natAbs:Int)+(b.natAbs:Int)) else (a.natAbs:Int)+(b.natAbs:Int):=by
   by_cases c:a<0
   .rw[decide_eq_true c,if_pos rfl]; omega
   rw[decide_eq_false c,if_neg (by decide)]; omega
  rw[e]
  exact Zfg _ (by omega)
 refine Cq.wp.no (by rw[Zcl,Zcl]; exact fun k=>hs (decide_eq_decide.1 k)) ⟨_,Zo8 _ _,?_⟩
 by_cases c:(b.natAbs:Int)<=(a.natAbs:Int)
 .refine Cq.wp.yes (by split <;> first|decide|(rw[if_neg (by omega)]; decide)) ⟨_,Zkv (by omega) (by omega),_,?_,rfl⟩
  rw[Zcl]
  have e:a+b=if decide (a<0)=true then -((a.natAbs:Int)-(b.natAbs:Int)) else (a.natAbs:Int)-(b.natAbs:Int):=by
   by_cases c:a<0
   .rw[decide_eq_true c,if_pos rfl]; omega
   rw[decide_eq_false c,if_neg (by decide)]; omega
  rw[e]
  exact Zfg _ (by omega)
 refine Cq.wp.no (by rw[if_neg (by omega),if_pos (by omega)]; decide) ⟨_,Zkv (by omega) (by omega),_,?_,rfl⟩
 rw[Zcl]
 have e:a+b=if decide (b<0)=true then -((b.natAbs:Int)-(a.natAbs:Int)) else (b.natAbs:Int)-(a.natAbs:Int):=by
  by_cases c:b<0
  .rw[decide_eq_true c,if_pos rfl]; omega
  rw[decide_eq_false c,if_neg (by decide)]; omega
 rw[e]
 exact Zfg _ (by omega)
abbrev oneI:Zj:=⟨false,[1]⟩
theorem ZlG:(between (-300) 300 fun a=>runs 40 (ZH [intI a,oneI]) (intI a))=true:=by decide +kernel
theorem Zpb:(ZH [oneI,oneI]).Ret oneI:=Cq.Ret.Zdt 40 (by decide +kernel)
theorem Zpa(n:Zj):(ZaK n oneI).Ret ⟨n,oneI⟩:=⟨true,Cq.Ret.Zdt 10 (by decide +kernel),rfl⟩
theorem ZmH{a b:Int}(ha:-300<=a/\a<=300)(hb:-300<=b/\b<=300):(Zer (ratI a) (ratI b)).Ret (ratI (a+b)):=by
 rw[ZiP,ZiP,ZiP]
 exact⟨_,ZA (Zr ZlG ha.1 ha.2),_,ZA (Zr ZlG hb.1 hb.2),_,Zo7 ha hb,_,Zpb,_,Zpa _,rfl⟩
theorem ZmI:(between (-27) 27 fun a=>between (-3) 9 fun b=>runs 40 (Zae (ratI a) (ratI b)) (ratI (a*b)))=true:=by decide +kernel
theorem Zpc:(between (-3) 3 fun x=>between 1 2 fun n=>runs 60 (Zcs (ratI x) n) (ratI (x ^ n.toNat)))=true:=by decide +kernel
theorem ewhole0:(ZaV 0).Ret (ratI 0):=Cq.Ret.Zdt 20 (by decide +kernel)
def TinyX(X:Nat->Int):Prop:=∀ i,-3<=X i/\X i<=3
theorem TinyX.pow{X:Nat->Int}(h:TinyX X)(i n:Nat):(X i ^ n).natAbs<=3 ^ n:=by
 rw[Int.natAbs_pow]
 exact Nat.pow_le_pow_left (by have:=h i; omega) n
theorem Zmi{X:Nat->Int}(hX:TinyX X){m:M}(hm:Ok m):∀ k,(prodE X m k).natAbs<=3 ^ (degTo m k).toNat
 | 0=>by simp[prodE,degTo]
 | k+1=>by
  have ih:=Zmi hX hm k
  have hd:=ZfU hm k
  simp only[prodE,degTo]
  by_cases h:k<8
  .have hk:=hm ⟨k,h⟩
   rw[dif_pos h,dif_pos h,Int.natAbs_mul,Int.toNat_add hd.1 hk.1,Nat.pow_add]
   exact Nat.mul_le_mul ih (hX.pow k _)
  rw[dif_neg h,dif_neg h,Int.mul_one,Int.add_zero]; exact ih
theorem Zid{X:Nat->Int}(hX:TinyX X){m:M}(hm:Ok m){d:Nat}{k:Nat}(hd:degTo m k<=d):(prodE X m k).natAbs<=3 ^ d:=
 Nat.le_trans (Zmi hX hm k) (Nat.pow_le_pow_right (by decide) (by omega))
theorem Zhx{p:List Zb}(hp:PolOk p)(hs:SmallP p){X:Nat->Int}(hX:TinyX X):∀ t ∈ p,(evalT X t).natAbs<=81:=fun t ht=>by
 obtain⟨⟨c,e,h1,h2⟩,hd⟩:=hs.2 t ht
 have hb:=Zid hX (hp.trm t ht).m (d:=2) (k:=8) (by unfold degM at hd; omega)
 unfold evalT
 rw[e,ZbS,Int.natAbs_mul]
 exact Nat.le_trans (Nat.mul_le_mul (show c.natAbs<=9 by omega) hb) (by decide)
theorem Zke:∀ {l:List Int},(∀ x ∈ l,x.natAbs<=81)->(sumI l).natAbs<=81*l.length
 | [],_=>by simp[sumI]
 | x::l,h=>by
  have h1:=h x List.mem_cons_self
  have ih:=Zke (fun y hy=>h y (List.mem_cons_of_mem _ hy))
  simp only[sumI,List.length_cons]
  omega
theorem ZpQ{x:Int}(h:-3<=x/\x<=3){n:Nat}(hn:n=1\/n=2):-3<=x ^ n/\x ^ n<=9:=by
 have:(between (-3) 3 fun x=>decide (-3<=x ^ 1/\x ^ 1<=9) && decide (-3<=x ^ 2/\x ^ 2<=9))=true:=by decide +kernel
 have:=Zr this (x:=x) h.1 h.2
 rw[Bool.and_eq_true,decide_eq_true_eq,decide_eq_true_eq] at this
 rcases hn with rfl|rfl
 .exact this.1
 exact this.2
theorem ZkT{p:List Zb}(hp:PolOk p)(hs:SmallP p){X:Nat->Int}(hX:TinyX X):(Zbu p (ptL X)).Ret (ratI (evalP X p)):=by
 have hl:=hs.1
 refine⟨_,ewhole0,?_⟩
 show (Cq.next _ _).wp _
 refine Cq.Zm p.length (fun k s=>s=((k:Int),ratI (evalP X (p.take k)))) (fun k s hk hst=>?_) (fun s hst=>?_) (by simp[evalP,sumI])
 .subst hst
  have ht:=List.getElem_mem hk
  obtain⟨⟨c,e,c1,c2⟩,hd⟩:=hs.2 p[k] ht
  have hm:=(hp.trm p[k] ht).m
  have hin:(ZdE (ptL X) p[k] (0,p[k].c)).Ret (ratI (evalT X p[k])):=by
   refine Cq.Zm 8 (fun j s=>s=((j:Int),ratI (c*prodE X p[k].m j))) (fun j s hj hsj=>?_) (fun s hsj=>?_) (by rw[e]; show _=_; rw[show c*prodE X p[k].m 0=c by simp[prodE]]; rfl)
   .subst hsj
    have hmj:=ZnK hm hd ⟨j,hj⟩
    refine Cq.wp.yes (by show (j:Int)<8; omega) ⟨by omega,?_⟩
    rw[getFN hj]
    by_cases h0:0<p[k].m ⟨j,hj⟩
    .obtain⟨n,hn⟩:∃ n:Nat,p[k].m ⟨j,hj⟩=(n:Int):=⟨(p[k].m ⟨j,hj⟩).toNat,by omega⟩
     have hdj:degTo p[k].m j<=((1:Nat):Int):=by
      have h1:=Zja hm (k:=j+1) (j:=8) (by omega)
      have h2:degTo p[k].m (j+1)=degTo p[k].m j+p[k].m ⟨j,hj⟩:=by simp only[degTo,dif_pos hj]
      unfold degM at hd
      omega
     have hb:=Zid hX hm hdj
     have hcb:(c*prodE X p[k].m j).natAbs<=27:=by
      rw[Int.natAbs_mul]
      exact Nat.le_trans (Nat.mul_le_mul (show c.natAbs<=9 by omega) hb) (by decide)
     have hx:=hX j
     have hnn:n=1\/n=2:=by omega
     have hpr:=ZpQ hx hnn
     have hpw:=ZA (Zr (Zr Zpc (x:=X j) hx.1 hx.2) (x:=(n:Int)) (by omega) (by omega))
     rw[Int.toNat_natCast] at hpw
     refine Cq.wp.yes h0 ⟨_,Zq3 X hj,_,by rw[hn]; exact hpw,_,ZA (Zr (Zr ZmI (x:=c*prodE X p[k].m j) (by omega) (by omega)) (x:=X j ^ n) hpr.1 hpr.2),?_⟩
     show _=_
     rw[wrapN (by omega),Int.mul_assoc]
     simp only[prodE,dif_pos hj,hn,Int.toNat_natCast]
    have e0:p[k].m ⟨j,hj⟩=0:=by omega
    refine Cq.wp.no h0 ?_
    show _=_
    rw[wrapN (by omega)]
    simp only[prodE,dif_pos hj,e0,Int.toNat_zero,Int.pow_zero,Int.mul_one]
   subst hsj
   refine Cq.wp.no (by show ¬ ((8:Nat):Int)<8; omega) ?_
   show _=_
   unfold evalT
   rw[e,ZbS]
  have hsum:(evalP X (p.take k)).natAbs<=243:=by
   have:=Zke (l:=(p.take k).map (evalT X)) (fun x hx=>by
    obtain⟨t,h1,rfl⟩:=List.mem_map.1 hx
    exact Zhx hp hs hX t (List.mem_of_mem_take h1))
   rw[List.length_map,List.length_take] at this
   unfold evalP
   omega
  have hte:=Zhx hp hs hX p[k] ht
  refine Cq.wp.yes (by show (k:Int)<(p.length:Int); omega) ⟨p[k],idxN hk,hin.then ⟨_,ZmH (by omega) (by omega),?_⟩⟩
  show _=_
  rw[wrapN (by omega)]
  unfold evalP
  rw[<- List.take_append_getElem hk,List.map_append,Zic]
  simp[sumI]
 subst hst
 refine Cq.wp.no (by show ¬ (p.length:Int)<(p.length:Int); omega) ?_
 show _=_
 rw[List.take_length]
theorem ZkU(Y:Nat->Int){a b:M}(ha:∀ i,0<=a i)(hb:∀ i,0<=b i):∀ k,prodE Y (mulM a b) k=prodE Y a k*prodE Y b k
 | 0=>by simp[prodE]
 | k+1=>by
  simp only[prodE]
  rw[ZkU Y ha hb k]
  by_cases h:k<8
  .rw[dif_pos h,dif_pos h,dif_pos h]
   show _*_*Y k ^ (a ⟨k,h⟩+b ⟨k,h⟩).toNat=_
   rw[Int.toNat_add (ha _) (hb _),Int.pow_add]
   simp only[Int.mul_assoc,Int.mul_left_comm,Int.mul_comm]
  rw[dif_neg h,dif_neg h,dif_neg h]; simp
theorem ZkW(Y:Nat->Int)(j:Nat)(e:Int):∀ k,k<=8->prodE Y (varM j e) k=if j<k then Y j ^ e.toNat else 1
 | 0,_=>by simp[prodE]
 | k+1,hk=>by
  have h:k<8:=by omega
  simp only[prodE]
  rw[ZkW Y j e k (by omega),dif_pos h]
  unfold varM
  by_cases h1:j<k
  .rw[if_pos h1,if_neg (by show ¬ k=j; omega),if_pos (by omega)]; simp
  by_cases h2:k=j
  .rw[if_neg h1,if_pos h2,if_pos (by omega),h2]; simp
  rw[if_neg h1,if_neg h2,if_neg (by omega)]; simp
theorem ZqH(j:Nat){e:Int}(h:0<=e)(i:Fin 8):0<=varM j e i:=by unfold varM; split <;> omega
theorem ZkV{σ:Nat->Option Nat}(hσ:SigOk σ){X Y:Nat->Int}{m:M}(h:MonOk σ m)(hxy:∀ i j,i<8->σ i=some j->Y j=X i):∀ k,k<=8->prodE Y (sigTo σ m k) 8=prodE X m k
 | 0,_=>ZkO Y 8
 | k+1,hk=>by
  have hk':k<8:=by omega
  have ih:=ZkV hσ h hxy k (by omega)
  have e1:prodE X m (k+1)=prodE X m k*X k ^ (m ⟨k,hk'⟩).toNat:=by simp only[prodE,dif_pos hk']
  rw[e1]
  cases hs:σ k with
  | none=>
   rw[show sigTo σ m (k+1)=sigTo σ m k by simp only[sigTo,dif_pos hk',hs]]
   have h0:¬ 0<m ⟨k,hk'⟩:=fun h0=>by obtain⟨j,hj⟩:=h.map _ h0; rw[hs] at hj; cases hj
   have:=h.nn ⟨k,hk'⟩
   rw[show m ⟨k,hk'⟩=0 by omega]
   simp only[Int.toNat_zero,Int.pow_zero,Int.mul_one]
   exact ih
  | some j=>
   rw[show sigTo σ m (k+1)=mulM (sigTo σ m k) (varM j (m ⟨k,hk'⟩)) by simp only[sigTo,dif_pos hk',hs]]
   rw[ZkU Y (ZeP hσ h.nn k (by omega)).1 (ZqH j (h.nn ⟨k,hk'⟩)),ih,ZkW Y j _ 8 (by omega),if_pos (hσ.rng _ _ hs),hxy k j hk' hs]
theorem Zpe{σ:Nat->Option Nat}(hσ:SigOk σ){X Y:Nat->Int}{p:List Zb}(h:SubOk σ p)(hxy:∀ i j,i<8->σ i=some j->Y j=X i):evalP Y (genP (sigM σ) p)=evalP X p:=by
 unfold evalP
 rw[ZoI ((Zdy (h.inj hσ) h.pol.ord).1.map _),List.map_map]
 congr 1
 apply List.map_congr_left
 intro t ht
 show valR t.c*prodE Y (sigM σ t.m) 8=valR t.c*prodE X t.m 8
 rw[show prodE Y (sigM σ t.m) 8=prodE X t.m 8 from ZkV hσ (h.mon t ht) hxy 8 (by omega)]
end Go.EL

namespace Go.EL
open Go.IntKind (i8 i16 i32 i64 u8 u16 u32 u64)
open Go Go.RowKit
def sumB(n:ByteArray):Nat->Int
 | 0=>0
 | k+1=>sumB n k+byteAt n (k:Int)
theorem ZhI(n:ByteArray):∀ k,0<=sumB n k/\sumB n k<=255*k
 | 0=>by simp[sumB]
 | k+1=>by
  have:=ZhI n k
  have:=ZmZ n k
  simp only[sumB]
  omega
def valV(v:List Int)(n:ByteArray):Int:=if 0<v.length then Int.tmod (v.getD (Int.tmod (sumB n n.size) (v.length:Int)).toNat 0) 4 else 0
def ptV(v:List Int)(vars:List ByteArray)(i:Nat):Int:=match vars[i]? with|some n=>valV v n|none=>0
def ValsOk(v:List Int):Prop:=∀ y ∈ v,-128<=y/\y<=127
theorem Znl{v:List Int}(hv:ValsOk v)(n:ByteArray):-3<=valV v n/\valV v n<=3:=by
 unfold valV
 split
 .rename_i h
  have ht:=Zbf (a:=sumB n n.size) (b:=(v.length:Int)) (ZhI n n.size).1 (by omega)
  have hi:(Int.tmod (sumB n n.size) (v.length:Int)).toNat<v.length:=by omega
  have:=hv _ (List.getElem_mem hi)
  rw[List.getD_eq_getElem?_getD,List.getElem?_eq_getElem hi]
  exact tmod4 this.1 this.2
 decide
theorem ZpD{v:List Int}(hv:ValsOk v)(vars:List ByteArray):TinyX (ptV v vars):=fun i=>by
 unfold ptV
 split
 .exact Znl hv _
 decide
def zz:Ze:=Ze.mk (Zj.mk false []) (Zj.mk false [])
def mixV(X:Nat->Int)(k:Nat):List Ze:=(List.range 8).map fun i=>if i<k then ratI (X i) else zz
theorem Zqt(X:Nat->Int)(k:Nat){i:Nat}(h:i<8):(mixV X k)[i]? = some (if i<k then ratI (X i) else zz):=by simp[mixV,h]
theorem ZlU(X:Nat->Int){k:Nat}:(mixV X k).set k (ratI (X k))=mixV X (k+1):=by
 unfold mixV
 rw[Zow]
 apply List.map_congr_left
 intro i _
 by_cases e:i=k
 .subst e; rw[if_pos rfl,if_pos (by omega)]
 rw[if_neg e]
 by_cases h:i<k
 .rw[if_pos h,if_pos (by omega)]
 rw[if_neg h,if_neg (by omega)]
theorem Zpt(X:Nat->Int):mixV X 8=ptL X:=by
 unfold mixV ptL
 apply List.map_congr_left
 intro i hi
 rw[if_pos (List.mem_range.1 hi)]
theorem Zom(X:Nat->Int):mixV X 0=List.replicate 8 zz:=by
 unfold mixV
 simp
 rfl
theorem ZnE{s:Za}{k:Nat}(hk:k<s.vars.length)(hn:(s.vars[k]).size<=12):(ZeH s (k:Int) (0,0)).Ret (sumB s.vars[k] (s.vars[k]).size):=by
 refine Cq.Zm (s.vars[k]).size (fun j st=>st=(sumB s.vars[k] j,(j:Int))) (fun j st hj hs=>?_) (fun st hs=>?_) rfl
 .subst hs
  have hb:=ZhI s.vars[k] j
  have hy:=ZmZ s.vars[k] j
  refine⟨s.vars[k],idxN hk,Cq.wp.yes (by omega) ⟨s.vars[k],idxN hk,⟨by omega,by omega⟩,?_⟩⟩
  show _=_
  rw[wrapN (by omega),wrap64 (x:=byteAt s.vars[k] (j:Int)) (by omega),wrap64 (by omega)]
  rfl
 subst hs
 exact⟨s.vars[k],idxN hk,Cq.wp.no (by omega) rfl⟩
theorem ZnP{s:Za}(hg:Good s){v:List Int}(hv:ValsOk v):(ZcQ s v (0,List.replicate 8 zz)).Ret (ptL (ptV v s.vars)):=by
 have w0:(Zak 0).Ret (ratI 0):=ZeV (by decide) (by decide)
 rw[<- Zom (ptV v s.vars)]
 refine Cq.Zm 8 (fun k st=>st=((k:Int),mixV (ptV v s.vars) k)) (fun k st hk hs=>?_) (fun st hs=>?_) rfl
 .subst hs
  have hat:=Zqt (ptV v s.vars) k hk
  have idx:(0:Int)<=(k:Int)/\(mixV (ptV v s.vars) k)[((k:Nat):Int).toNat]? = some (if k<k then ratI (ptV v s.vars k) else zz):=⟨by omega,by rw[Int.toNat_natCast]; exact hat⟩
  have lenM:(mixV (ptV v s.vars) k).length=8:=by simp[mixV]
  have zero:ptV v s.vars k=0->(Zbt s v (k:Int) (mixV (ptV v s.vars) k) (ratI 0) false).wp (Out (fun st=>st=(((k+1:Nat):Int),mixV (ptV v s.vars) (k+1))) fun a=>a=ptL (ptV v s.vars)):=fun e=>by
   refine Cq.wp.no (by decide) ?_
   show _=_
   rw[wrapN (by omega),Int.toNat_natCast,<- ZlU,e]
  refine Cq.wp.yes (by omega) ⟨_,w0,_,idx,?_⟩
  by_cases c:k<s.vars.length
  .refine Cq.wp.yes (by omega) ?_
   have hp:ptV v s.vars k=valV v s.vars[k]:=by unfold ptV; rw[List.getElem?_eq_getElem c]
   by_cases hl:0<v.length
   .rw[decide_eq_true (show 0<(v.length:Int) by omega)]
    refine Cq.wp.yes rfl ?_
    refine (ZnE c (Zhh (hg.name _ (List.getElem_mem c)))).then ?_
    have ht:=Zbf (a:=sumB s.vars[k] (s.vars[k]).size) (b:=(v.length:Int)) (ZhI _ _).1 (by omega)
    have hi:(Int.tmod (sumB s.vars[k] (s.vars[k]).size) (v.length:Int)).toNat<v.length:=by omega
    have hx:=hv _ (List.getElem_mem hi)
    have ev:valV v s.vars[k]=Int.tmod (v[(Int.tmod (sumB s.vars[k] (s.vars[k]).size) (v.length:Int)).toNat]) 4:=by
     unfold valV
     rw[if_pos hl,List.getD_eq_getElem?_getD,List.getElem?_eq_getElem hi]
     rfl
    have hb:=Znl hv s.vars[k]
    refine⟨by omega,_,⟨ht.1,List.getElem?_eq_getElem hi⟩,ratI (valV v s.vars[k]),?_,?_⟩
    .rw[<- ev,wrap64 (by omega)]
     exact ZeV (by omega) (by omega)
    refine⟨ratI 0,⟨by omega,by rw[Int.toNat_natCast,List.getElem?_set,if_pos rfl,if_pos (by rw[lenM]; omega)]⟩,?_⟩
    show _=_
    rw[wrapN (by omega),Int.toNat_natCast,List.set_set,<- ZlU,hp]
   rw[decide_eq_false (show ¬ 0<(v.length:Int) by omega)]
   exact zero (by rw[hp]; unfold valV; rw[if_neg hl])
  refine Cq.wp.no (by omega) (zero ?_)
  unfold ptV
  rw[List.getElem?_eq_none (by omega)]
 subst hs
 refine Cq.wp.no (by show ¬ ((8:Nat):Int)<8; omega) ?_
 show _=_
 rw[Zpt]
theorem Zox:(between (-300) 300 fun a=>runs 30 (Zah (ratI a)) (if a<0 then -1 else if a=0 then 0 else 1))=true:=by decide +kernel
theorem Zl7{a:Int}(h:a.natAbs<=300):∃ s,(Zah (ratI a)).Ret s/\(s=0↔a=0):=by
 refine⟨_,ZA (Zr Zox (x:=a) (by omega) (by omega)),?_⟩
 split
 .omega
 split <;> omega
theorem Zm4{p:List Zb}(hp:PolOk p)(hs:SmallP p){X:Nat->Int}(hX:TinyX X):(evalP X p).natAbs<=300:=by
 have:=Zke (l:=p.map (evalT X)) (fun x hx=>by
  obtain⟨t,h1,rfl⟩:=List.mem_map.1 hx
  exact Zhx hp hs hX t h1)
 rw[List.length_map] at this
 have:=hs.1
 unfold evalP
 omega
def solvesF(s:Za)(v:List Int):Bool:=(s.eqs.all fun q=>decide (evalP (ptV v s.vars) q.p=0)) && s.neqs.all fun q=>!decide (evalP (ptV v s.vars) q.p=0)
theorem Zn4{l:List Zc}{f:Zc->Bool}{k:Nat}(hk:k<l.length)(h:f l[k]=false):l.all f=false:=by
 cases ha:l.all f with
 | false=>rfl
 | true=>rw[List.all_eq_true.1 ha _ (List.getElem_mem hk)] at h; cases h
theorem ZmX{l:List Zc}{f:Zc->Bool}(h:∀ i (hi:i<l.length),f l[i]=true):l.all f=true:=List.all_eq_true.2 fun q hq=>by
 obtain⟨i,hi,rfl⟩:=List.mem_iff_getElem.1 hq
 exact h i hi
theorem Zge{s:Za}(hg:Good s)(hs:SmallS s){v:List Int}(hv:ValsOk v):(ZbJ s v).Ret (solvesF s v):=by
 have hX:=ZpD hv s.vars
 have l1:=hg.eqs.len
 have l2:=hg.neqs.len
 show (Cq.next (ZcQ s v (0,List.replicate 8 zz)) _).wp _
 refine (ZnP hg hv).then ?_
 show (Cq.next _ _).wp _
 refine Cq.Zm s.eqs.length (fun k st=>st=(k:Int)/\∀ i (hi:i<s.eqs.length),i<k->evalP (ptV v s.vars) (s.eqs[i]).p=0) (fun k st hk h2=>?_) (fun st h2=>?_) ⟨rfl,fun i _ hi=>absurd hi (Nat.not_lt_zero i)⟩
 .obtain⟨rfl,h2⟩:=h2
  have hp:=(hg.eqs.pol _ (List.getElem_mem hk)).1
  have hsm:=hs.1 _ (List.getElem_mem hk)
  obtain⟨z,z1,z2⟩:=Zl7 (Zm4 hp hsm hX)
  refine Cq.wp.yes (by omega) ⟨s.eqs[k],idxN hk,_,ZkT hp hsm hX,z,z1,?_⟩
  by_cases h0:z=0
  .refine Cq.wp.no (fun k=>k h0) ⟨wrapN (by omega),fun i hi hik=>?_⟩
   by_cases e:i=k
   .subst e; exact z2.1 h0
   exact h2 i hi (by omega)
  refine Cq.wp.yes h0 ?_
  show false=solvesF s v
  unfold solvesF
  rw[Zn4 hk (decide_eq_false fun k=>h0 (z2.2 k)),Bool.false_and]
 obtain⟨rfl,h2⟩:=h2
 refine Cq.wp.no (by omega) ?_
 have ea:(s.eqs.all fun q=>decide (evalP (ptV v s.vars) q.p=0))=true:=ZmX fun i hi=>decide_eq_true (h2 i hi hi)
 show (Zbs s (ptL (ptV v s.vars))).wp _
 show (Cq.next _ _).wp _
 refine Cq.Zm s.neqs.length (fun k st=>st=(k:Int)/\∀ i (hi:i<s.neqs.length),i<k->¬ evalP (ptV v s.vars) (s.neqs[i]).p=0) (fun k st hk h3=>?_) (fun st h3=>?_) ⟨rfl,fun i _ hi=>absurd hi (Nat.not_lt_zero i)⟩
 .obtain⟨rfl,h3⟩:=h3
  have hp:=(hg.neqs.pol _ (List.getElem_mem hk)).1
  have hsm:=hs.2 _ (List.getElem_mem hk)
  obtain⟨z,z1,z2⟩:=Zl7 (Zm4 hp hsm hX)
  refine Cq.wp.yes (by omega) ⟨s.neqs[k],idxN hk,_,ZkT hp hsm hX,z,z1,?_⟩
  by_cases h0:z=0
  .refine Cq.wp.yes h0 ?_
   show false=solvesF s v
   unfold solvesF
   rw[Zn4 (l:=s.neqs) hk (by rw[decide_eq_true (z2.1 h0)]; rfl),Bool.and_false]
  refine Cq.wp.no h0 ⟨wrapN (by omega),fun i hi hik=>?_⟩
  by_cases e:i=k
  .subst e; exact fun k=>h0 (z2.2 k)
  exact h3 i hi (by omega)
 obtain⟨rfl,h3⟩:=h3
 refine Cq.wp.no (by omega) ?_
 show true=solvesF s v
 unfold solvesF
 rw[ea,ZmX (l:=s.neqs) fun i hi=>by rw[decide_eq_false (h3 i hi hi)]; rfl]
 rfl
theorem ZkI:SmallP []:=⟨by decide,fun t ht=>absurd ht List.not_mem_nil⟩
theorem ZfE{l:List Zv}(hx:∀ x ∈ l,DescOk x){m:Nat}(hm:m<=12):∀ (d k:Nat) (s:Za),k+d=min l.length m->Good s->SmallS s->∃ r,(ZhV l (m:Int) ((k:Int),s)).Ret r/\Good r/\SmallS r
 | 0,k,s,hk,hg,hs=>by
  refine⟨s,Cq.Zad ?_,hg,hs⟩
  show (if (k:Int)<(l.length:Int) then _ else _:Cq _).wp _
  rw[Cq.Zd]
  by_cases c:(k:Int)<(l.length:Int)
  .rw[if_pos c,Cq.Zd,if_neg (by omega)]; rfl
  rw[if_neg c]; rfl
 | d+1,k,s,hk,hg,hs=>by
  have hkl:k<l.length:=by omega
  obtain⟨e,h1,h2⟩:=ZmS hg.fit (hx l[k] (List.getElem_mem hkl))
  by_cases hc:checkF s e=0
  .obtain⟨r,h3,h4⟩:=ZfE hx hm d (k+1) (doF s e) (by omega) (hg.edit h2.p hc) (ZjA hg hs h2.small hc)
   refine⟨r,Cq.Zad ?_,h4⟩
   show (if (k:Int)<(l.length:Int) then _ else _:Cq _).wp _
   rw[Cq.Zd,if_pos (by omega),Cq.Zd,if_pos (by omega)]
   refine⟨l[k],idxN hkl,e,h1,_,Za7 hg h2.p,?_⟩
   unfold applyF
   rw[Cq.Zd,if_pos hc,if_pos rfl]
   show (Cq.loop _ _).wp _
   rw[wrapN (by omega)]
   exact h3
  obtain⟨r,h3,h4⟩:=ZfE hx hm d (k+1) s (by omega) hg hs
  refine⟨r,Cq.Zad ?_,h4⟩
  show (if (k:Int)<(l.length:Int) then _ else _:Cq _).wp _
  rw[Cq.Zd,if_pos (by omega),Cq.Zd,if_pos (by omega)]
  refine⟨l[k],idxN hkl,e,h1,_,Za7 hg h2.p,?_⟩
  unfold applyF
  rw[Cq.Zd,if_neg hc,if_neg hc]
  show (Cq.loop _ _).wp _
  rw[wrapN (by omega)]
  exact h3
theorem Zhr:∀ {l:List Zh}{s:Za},Good s->SmallS s->RunOk s l->SmallS (runF s l)
 | [],_,_,hs,_=>hs
 | e::l,s,h,hs,⟨h1,h2,h3⟩=>Zhr (l:=l) (s:=doF s e) (h.edit h1.p h2) (ZjA h hs h1.small h2) h3
theorem Zli{x:ZG}(h:ThreeOk x):∃ s a b,(Zil x).Ret (s,a,b)/\(Good s/\Good a/\Good b)/\SmallS s/\SmallS a/\SmallS b:=by
 obtain⟨s,h1,hg,hs⟩:=ZfE h.base.ok (m:=8) (by decide) (min x.base.length 8) 0 oneS (by omega) Zpy ⟨fun q hq=>absurd hq List.not_mem_nil,fun q hq=>absurd hq List.not_mem_nil⟩
 obtain⟨r,k1,k2,k3⟩:=Zlh h.a.ok (m:=4) (by decide) hg
 obtain⟨t,q1,q2,q3⟩:=Zlh h.b.ok (m:=4) (by decide) hg
 have hm:(Zij x.base 8).Ret s:=by
  show (Cq.next _ _).wp _
  exact h1
 exact⟨s,runF s r,runF s t,⟨s,hm,r,k1,_,Zlw hg (by omega) k3,t,q1,_,Zlw hg (by omega) q3,rfl⟩,⟨hg,ZiR hg k3,ZiR hg q3⟩,hs,Zhr hg hs k3,Zhr hg hs q3⟩
theorem Zjd{s:Za}(hs:SmallS s){id:Int}{u:Zi}(h:entO s id=some u):SmallP u.p:=by
 rcases List.mem_append.1 (ZfX h) with h|h
 .obtain⟨q,hq,e⟩:=List.mem_map.1 h
  cases e
  exact hs.1 q hq
 obtain⟨q,hq,e⟩:=List.mem_map.1 h
 cases e
 exact hs.2 q hq
theorem Zfk{s:Za}(hs:SmallS s){x:Int}:∀ y ∈ pickO s x,SmallP y.entry.p:=fun y hy=>by
 unfold pickO at hy
 cases h1:entO s x with
 | none=>rw[h1] at hy; cases hy
 | some u=>rw[h1] at hy; rw[List.mem_singleton.1 hy]; exact Zjd hs h1
theorem Zia{s:Za}(hs:SmallS s)(n x:Int):SmallP (pickD s n x).entry.p:=by
 show SmallP ((entO s x).getD ⟨[],false⟩).p
 cases h1:entO s x with
 | none=>exact ZkI
 | some u=>exact Zjd hs h1
theorem Zh8{a0 a1 a2:Za}(h1:SmallS a1)(h2:SmallS a2):∀ l,∀ y ∈ (oldTo a0 a1 a2 l).1,SmallP y.entry.p
 | [],y,hy=>by cases hy
 | x::l,y,hy=>by
  unfold oldTo at hy
  split at hy
  .cases hy
  rcases List.mem_append.1 hy with hy|hy
  .unfold stepO at hy
   split at hy
   .exact Zfk h2 y hy
   split at hy
   .exact Zfk h1 y hy
   split at hy
   .exact Zfk h1 y hy
   cases hy
  exact Zh8 h1 h2 l y hy
theorem Zn5{a0 a1 a2:Za}(h1:SmallS a1)(h2:SmallS a2):∀ y ∈ allP a0 a1 a2,SmallP y.entry.p:=fun y hy=>by
 rcases List.mem_append.1 hy with hy|hy
 .exact Zh8 h1 h2 _ y hy
 rcases List.mem_append.1 hy with hy|hy
 .obtain⟨x,_,rfl⟩:=List.mem_map.1 hy
  exact Zia h1 _ _
 obtain⟨m,x,_,_,_,rfl⟩:=Zdp hy
 exact Zia h2 _ _
theorem ZoM{fr to:List ByteArray}(hf:Diff fr)(lf:fr.length<=8)(lt:to.length<=8){p:List Zb}(hp:PolFit fr.length p)(hs:SmallP p):SmallP (trF fr to p).1:=by
 unfold trF
 split
 .rename_i hm
  have hk:=Zcu lf hp hm
  have hσ:=Zdg hf lt
  have hperm:=(Zdy (hk.inj hσ) hk.pol.ord).1
  refine⟨by show (genP _ p).length<=3; rw[hperm.length_eq,List.length_map]; exact hs.1,fun t ht=>?_⟩
  obtain⟨y,hy,rfl⟩:=(Zem (hk.inj hσ) hk.pol.ord).1 ht
  obtain⟨q1,q2⟩:=hs.2 y hy
  refine⟨q1,?_⟩
  have:=(Zmb hσ (hk.mon y hy).nn).2
  show degM (sigM _ y.m)<=2
  omega
 exact ZkI
theorem ZmJ{s a b:Za}(ha:Good a)(hb:Good b)(h1:SmallS a)(h2:SmallS b)(h:(mergeF s a b).2.2=0):SmallS (mergeF s a b).1:=by
 unfold mergeF at h ⊢
 by_cases c1:a=s
 .rw[if_pos c1]; exact h2
 rw[if_neg c1] at h ⊢
 by_cases c2:b=s
 .rw[if_pos c2]; exact h1
 rw[if_neg c2] at h ⊢
 by_cases c3:b=a
 .rw[if_pos c3]; exact h1
 rw[if_neg c3] at h ⊢
 obtain⟨e,w⟩:=Zk2 h
 rw[e]
 have lv:=Zgt (base:=s.vars) ha.vars hb.vars
 have key:∀ y ∈ allP s a b,SmallP (putE (variablesF s.vars a.vars b.vars) y).p:=fun y hy=>by
  have hk:=ZlE ha hb y hy
  have:=hk.from'.vars
  exact ZoM hk.from'.diff (by omega) lv hk.fit (Zn5 h1 h2 y hy)
 refine⟨fun q hq=>?_,fun q hq=>?_⟩
 .obtain⟨y,hy,rfl⟩:=List.mem_map.1 hq
  exact key y (List.mem_filter.1 hy).1
 obtain⟨y,hy,rfl⟩:=List.mem_map.1 hq
 exact key y (List.mem_filter.1 hy).1
theorem Zoz{s t:Za}(hs:Good s)(ht:Good t){u w:Zi}(hu:PolFit s.vars.length u.p)(hw:PolFit t.vars.length w.p)(h:NamedEq s.vars u.p t.vars w.p)(v:List Int):evalP (ptV v t.vars) w.p=evalP (ptV v s.vars) u.p:=by
 have l1:=hs.vars
 have l2:=ht.vars
 have hm:=Zju hs.diff h
 have e:=(Znk hs.diff ht.diff (by omega) (by omega) hu hw).2 h
 have e1:trF s.vars t.vars u.p=(trP s.vars t.vars u.p,true):=by unfold trF; rw[if_pos hm]
 rw[e1] at e
 rw[<- e.2]
 refine Zpe (Zdg hs.diff (by omega)) (Zcu (by omega) hu hm) fun i j _ hij=>?_
 obtain⟨n,k1,k2⟩:=ZbD hij
 unfold ptV
 rw[k1,k2]
theorem ZoD{t:Za}{v:List Int}(h:solvesF t v=true){y:Int}{w:Zi}(hw:entO t y=some w):(evalP (ptV v t.vars) w.p=0)↔w.neq=false:=by
 unfold solvesF at h
 rw[Bool.and_eq_true] at h
 rcases List.mem_append.1 (ZfX hw) with hm|hm
 .obtain⟨q,hq,e⟩:=List.mem_map.1 hm
  cases e
  exact⟨fun _=>rfl,fun _=>of_decide_eq_true (List.all_eq_true.1 h.1 q hq)⟩
 obtain⟨q,hq,e⟩:=List.mem_map.1 hm
 cases e
 have:=List.all_eq_true.1 h.2 q hq
 simp only[Bool.not_eq_true',decide_eq_false_iff_not] at this
 exact⟨fun k=>absurd k this,fun k=>(nomatch k)⟩
theorem ZlT{s a b m:Za}(ha:Good a)(hb:Good b)(h:MergeOk s a b m){v:List Int}(h1:solvesF a v=true)(h2:solvesF b v=true):solvesF m v=true:=by
 have key:∀ x u,entO m x=some u->((evalP (ptV v m.vars) u.p=0)↔u.neq=false):=fun x u hx=>by
  have hin:x ∈ idsS m:=by
   by_cases c:x ∈ idsS m
   .exact c
   rw[Zdx c] at hx; cases hx
  have side:∀ {t:Za},Good t->solvesF t v=true->(∃ y,Says m.vars (entO m x) t.vars (entO t y))->((evalP (ptV v m.vars) u.p=0)↔u.neq=false):=fun {t} ht hst hy=>by
   obtain⟨y,hy⟩:=hy
   rw[hx] at hy
   cases hw:entO t y with
   | none=>rw[hw] at hy; cases hy
   | some w=>
    rw[hw] at hy
    have e:=Zoz h.good ht (ZbB h.good hx) (ZbB ht hw) hy.2 v
    rw[<- e,hy.1]
    exact ZoD hst hw
  rcases h.from' x hin with k|k
  .exact side ha h1 k
  exact side hb h2 k
 unfold solvesF
 rw[Bool.and_eq_true]
 refine⟨List.all_eq_true.2 fun q hq=>decide_eq_true ?_,List.all_eq_true.2 fun q hq=>?_⟩
 .exact (key q.id ⟨q.p,false⟩ (ZjY h.good (List.mem_append_left _ (List.mem_map.2 ⟨q,hq,rfl⟩)))).2 rfl
 have:=key q.id ⟨q.p,true⟩ (ZjY h.good (List.mem_append_right _ (List.mem_map.2 ⟨q,hq,rfl⟩)))
 simp only[Bool.not_eq_true',decide_eq_false_iff_not]
 exact fun k=>(nomatch this.1 k)
theorem ZgE{x:ZG}{v:List Int}(h:ThreeOk x)(hv:ValsOk v):(ZcP x v).Ret true:=by
 obtain⟨s,a,b,h1,⟨hs,ha,hb⟩,_,sa,sb⟩:=Zli h
 refine⟨true,ZlI,Cq.wp.no (by decide) ⟨_,h1,_,Zdv hs ha hb,?_⟩⟩
 have hok:=Zpp hs ha hb
 have hsm:=ZmJ (s:=s) ha hb sa sb
 generalize mergeF s a b=o at hok hsm ⊢
 obtain⟨m,c,e⟩:=o
 by_cases he:e=0
 .subst he
  have hk:=hok rfl
  refine Cq.wp.no (fun k=>k rfl) ⟨_,Zge ha sa hv,?_⟩
  cases q1:solvesF a v with
  | false=>rfl
  | true=>
   refine⟨_,Zge hb sb hv,?_⟩
   cases q2:solvesF b v with
   | false=>exact Cq.wp.yes rfl rfl
   | true=>
    refine Cq.wp.no (by decide) ⟨true,?_,rfl⟩
    have:=Zge hk.good (hsm rfl) hv
    rw[ZlT ha hb hk q1 q2] at this
    exact this
 exact Cq.wp.yes he rfl
end Go.EL

