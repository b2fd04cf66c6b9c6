/- The law MergeOneSide holds for every input: a part of its proof (what the code does, plain models, and what they return). No condition. -/
import Derived.Test.YtnbpjambcagjcaaGreatXOS12f
set_option linter.unusedVariables false
set_option linter.unusedSimpArgs false
namespace Go.Proofs.YtnbpjambcagjcaaGreat
open Go.IntKind (i8 i16 i32 i64 u8 u16 u32 u64)
open Go.Proofs.Tryz
open Go Go.EL Go.RowKit Go.Proofs
theorem fA'{c p e d n o k h s q r}(hr:(Zfr c p).Ret r):Ctr prog 83 #[.agg ((v31' c e d n o k h)).toArray,.agg ((v116' p s q)).toArray] (fun G=>sl Rp.str G e d c.vars/\sl e' G n o c.eqs/\sl e' G k h c.neqs/\sl r' G s q p.p) (w31' r):=by
 refine A' (args:=[_,_]) (N:=117) func83 z z z (fun w0 G0 bJ aZ=>?_)
 obtain⟨m,g,f,B⟩:=aZ
 refine sr<|Y' 2 z z z fun b1=>Y' 3 z z z fun b2=>O' 4 z z31 z fun b3=>nr<|yy (m' 2 ai' z z z) z<|O' 5 z z31 z fun b4=>x' 5 z aR' z z z z z (List.all_eq_true.1 z)<|nr<|yy (bD' z) z<|yy (g' 3 sc3 z z z) z<|yy (Y0.ZgB z) z<|yy (g' 3 sc44 z z z) z<|yy (at' (vs:=#[(0,i' p.id),(1,.slice s p.p.length q)]) (v:=.agg ((v57' p.id s p.p q)).toArray) z z (fun _=>by kernel_rfl)) z<|O' 6 z z57 z fun b5=>x' 6 z bK' z z z z z (List.all_eq_true.1 z)<|nx<|c'<|ad' [ff,ff,ff,ff,ff,ff,ff,ff,ff] mix (by kernel_rfl) fun hb=>cn (fun _ l=>aF' z)<|cn (fun _ l=>g' 2 bc' z z z)<|cn (fun _ l=>bD' z)<|cn (fun _ l=>g' 3 sc3 z z z) ?_
 obtain⟨bO,aJ,hr⟩:=hr
 refine cm' z (fun _=>u' E132 z) (dP' aJ) z (fun G' l=>(g.mono l))<|cn (fun _ l=>aG' z)<|cn (fun _ l=>g' 2 bc' z z z)<|cn (fun _ l=>bD' z)<|cn (fun _ l=>g' 3 sc3 z z z)<|af' hb ?_
 obtain⟨bK,aK,hr⟩:=hr
 refine B' z z (u' E132 z) (dP' aK) z (f)<|sg z z<|sg z z<|o'<|am'<|a'<|c'<|sr<|yy (cZ' z) z<|yy (g' 3 sc3 z z z) z<|nx<|s'<|sr<|yy (au' z z) z<|sx0 z z<|E' hr z (fun bn hr=>?_) (fun bn hr=>?_)
 .refine aP' (fun (⟨x,A,C,D⟩:Zc×Option Addr×Nat×Mem)=>[(2,pt0 b1),(3,pt0 b2),(4,pt0 b3),(5,pt0 b4),(6,pt0 b5)]) (fun ⟨x,A,C,D⟩=>Mem.le G0 D/\sl r' D A C x.p/\(Zag c p x).Ret r) (fun ⟨x,A,C,D⟩=>St w0 G0 D [(2,bk0 b1 (v31' c e d n o k h) 31),(3,bk0 b2 (v116' p s q) 116),(4,bk0 b3 ([.slice none 0 0,.slice none 0 0,.slice none 0 0,i' 0]) 31),(5,bk0 b4 (v31' c e d n o k h) 31),(6,bk0 b5 (v57' x.id A x.p C) 57)]) ?_ ?_
  .refine sr<|yy (bD' z) z<|yy (g' 3 sc3 z z z) z<|yy (au' z z) z<|nx<|E' hr z (fun bi hr=>?_) (fun bi hr=>?_)
   .refine n'<|yy (bt' z) z<|yy (g' 2 sc3 z z z) z<|yy (bl' z) z<|aB' 6 ([i' c.next,.slice s p.p.length q]).toArray z sz3 z z z (show 0<2 by decide) z z<|o'<|al' ⟨(Zc.mk c.next p.p),s,q,G0⟩ ⟨mr,B,hr⟩ (f5 z z z z z) (w5 z z z z z)
   refine l'<|al' ⟨(Zc.mk p.id p.p),s,q,G0⟩ ⟨mr,B,hr⟩ (f5 z z z z z) (w5 z z z z z)
  rintro⟨x,A,C,D⟩ ⟨y,S,hr⟩
  refine sr<|yy (bt' z) z<|yy (g' 2 sc3 z z z) z<|yy (bl' z) z<|yy (g' 6 sc3 z z z) z<|yy (I' z z) z<|yy (Y0.max2 z z) z<|yy (bt' z) z<|aB' 5 ([.slice e c.vars.length d,.slice n c.eqs.length o,.slice k c.neqs.length h,i' (if c.next<(i64.wrap (x.id+1)) then (i64.wrap (x.id+1)) else c.next)]).toArray z sz3 z z z (show 3<4 by decide) z z<|nr<|yy (Y0.ZgC z) z<|yy (g' 3 sc4 z z z) z<|nx<|ay' hr z (fun be hr=>?_) (fun be hr=>?_)
  .refine n'<|yy (aG' z) z<|yy (g' 2 bc' z z z) z<|yy (m' 6 ag57 z z z) z ?_
   obtain⟨bf,aV,hr⟩:=hr
   refine Q' z z (u' E133 z) (dJ' aV) z (⟨(f.mono y),S⟩) (fun bv bI P ab=>?_)
   obtain⟨aB,aW,rfl,aF⟩:=ab
   refine yy (aG' z) z<|aB' 5 ([.slice e c.vars.length d,.slice n c.eqs.length o,.slice aB bf.length aW,i' (if c.next<(i64.wrap (x.id+1)) then (i64.wrap (x.id+1)) else c.next)]).toArray z sz29 z z z (show 2<4 by decide) z z<|o'<|v'<|a'<|sr<|yy (m' 5 ai' z z z) z<|x' 4 z aR' z z z z z (List.all_eq_true.1 z)<|nx<|k' ?_
   obtain rfl:_=r:=hr
   exact j' z (ak' (i:=4) ai' z z z) ⟨_,_,_,_,_,_,z,(m.mono (mx y P)),(g.mono (mx y P)),aF⟩
  refine n'<|yy (aF' z) z<|yy (g' 2 bc' z z z) z<|yy (m' 6 ag57 z z z) z ?_
  obtain⟨a7,ay,hr⟩:=hr
  refine Q' z z (u' E133 z) (dJ' ay) z (⟨(g.mono y),S⟩) (fun bz bM U X=>?_)
  obtain⟨aT,aN,rfl,aL⟩:=X
  refine yy (aF' z) z<|aB' 5 ([.slice e c.vars.length d,.slice aT a7.length aN,.slice k c.neqs.length h,i' (if c.next<(i64.wrap (x.id+1)) then (i64.wrap (x.id+1)) else c.next)]).toArray z sz29 z z z (show 1<4 by decide) z z<|o'<|v'<|a'<|sr<|yy (m' 5 ai' z z z) z<|x' 4 z aR' z z z z z (List.all_eq_true.1 z)<|nx<|k' ?_
  obtain rfl:_=r:=hr
  exact j' z (ak' (i:=4) ai' z z z) ⟨_,_,_,_,_,_,z,(m.mono (mx y U)),aL,(f.mono (mx y U))⟩
 refine sr<|yy (au' z z) z<|sx0 z z<|E' hr z (fun bd hr=>?_) (fun bd hr=>?_)
 .refine sr<|yy (aF' z) z<|yy (g' 2 bc' z z z) z<|yy (bD' z) z<|yy (g' 3 sc3 z z z) z ?_
  obtain⟨aw,aU,hr⟩:=hr
  refine Q' z z (u' E134 z) (ep' aU) z (g) (fun bu bG T Z=>?_)
  obtain⟨ae,ah,rfl,aE⟩:=Z
  refine yy (aF' z) z<|aB' 5 ([.slice e c.vars.length d,.slice ae aw.length ah,.slice k c.neqs.length h,i' c.next]).toArray z sz29 z z z (show 1<4 by decide) z z<|nx<|n'<|yy (aG' z) z<|yy (g' 2 bc' z z z) z<|yy (bD' z) z<|yy (g' 3 sc3 z z z) z ?_
  obtain⟨a8,az,hr⟩:=hr
  refine Q' z z (u' E134 z) (ep' az) z ((f.mono T)) (fun bs bP M W=>?_)
  obtain⟨aS,aC,rfl,aY⟩:=W
  refine yy (aG' z) z<|aB' 5 ([.slice e c.vars.length d,.slice ae aw.length ah,.slice aS a8.length aC,i' c.next]).toArray z sz29 z z z (show 2<4 by decide) z z<|o'<|v'<|a'<|sr<|yy (m' 5 ai' z z z) z<|x' 4 z aR' z z z z z (List.all_eq_true.1 z)<|nx<|k' ?_
  obtain rfl:_=r:=hr
  exact j' z (ak' (i:=4) ai' z z z) ⟨_,_,_,_,_,_,z,(m.mono (mx T M)),(aE.mono M),aY⟩
 refine sr<|yy (au' z z) z<|sx0 z z<|E' hr z (fun bk hr=>?_) (fun bk hr=>?_)
 .refine sr<|mv z z<|yy (aV' z z) z<|nx<|E' hr z (fun bh hr=>?_) (fun bh hr=>?_)
  .refine n'<|yy (aF' z) z<|yy (g' 2 bc' z z z) z<|yy (m' 6 ag57 z z z) z ?_
   obtain⟨bj,aX,hr⟩:=hr
   refine Q' z z (u' E133 z) (dJ' aX) z (⟨g,B⟩) (fun bx bQ O ac=>?_)
   obtain⟨aR,aA,rfl,aM⟩:=ac
   refine yy (aF' z) z<|aB' 5 ([.slice e c.vars.length d,.slice aR bj.length aA,.slice k c.neqs.length h,i' c.next]).toArray z sz29 z z z (show 1<4 by decide) z z<|o'<|v'<|a'<|sr<|yy (m' 5 ai' z z z) z<|x' 4 z aR' z z z z z (List.all_eq_true.1 z)<|nx<|k' ?_
   obtain rfl:_=r:=hr
   exact j' z (ak' (i:=4) ai' z z z) ⟨_,_,_,_,_,_,z,(m.mono O),aM,(f.mono O)⟩
  refine n'<|yy (aG' z) z<|yy (g' 2 bc' z z z) z<|yy (m' 6 ag57 z z z) z ?_
  obtain⟨a6,a2,hr⟩:=hr
  refine Q' z z (u' E133 z) (dJ' a2) z (⟨f,B⟩) (fun br bH V Y=>?_)
  obtain⟨a3,aP,rfl,a1⟩:=Y
  refine yy (aG' z) z<|aB' 5 ([.slice e c.vars.length d,.slice n c.eqs.length o,.slice a3 a6.length aP,i' c.next]).toArray z sz29 z z z (show 2<4 by decide) z z<|o'<|v'<|a'<|sr<|yy (m' 5 ai' z z z) z<|x' 4 z aR' z z z z z (List.all_eq_true.1 z)<|nx<|k' ?_
  obtain rfl:_=r:=hr
  exact j' z (ak' (i:=4) ai' z z z) ⟨_,_,_,_,_,_,z,(m.mono V),(g.mono V),a1⟩
 refine sr<|yy (au' z z) z<|sx0 z z<|E' hr z (fun a9 hr=>?_) (fun a9 hr=>?_)
 .refine sr<|yy (aF' z) z<|yy (g' 2 bc' z z z) z<|yy (bD' z) z<|yy (g' 3 sc3 z z z) z ?_
  obtain⟨ag,aH,hr⟩:=hr
  refine Q' z z (u' E134 z) (ep' aH) z (g) (fun bC bL t aa=>?_)
  obtain⟨L,I,rfl,aI⟩:=aa
  refine yy (aF' z) z<|aB' 5 ([.slice e c.vars.length d,.slice L ag.length I,.slice k c.neqs.length h,i' c.next]).toArray z sz29 z z z (show 1<4 by decide) z z<|nr<|yy (aG' z) z<|yy (g' 2 bc' z z z) z<|yy (bD' z) z<|yy (g' 3 sc3 z z z) z ?_
  obtain⟨af,au,hr⟩:=hr
  refine Q' z z (u' E134 z) (ep' au) z ((f.mono t)) (fun bp bN u H=>?_)
  obtain⟨R,Q,rfl,ai⟩:=H
  refine yy (aG' z) z<|aB' 5 ([.slice e c.vars.length d,.slice L ag.length I,.slice R af.length Q,i' c.next]).toArray z sz29 z z z (show 2<4 by decide) z z<|nr<|mv z z<|yy (aV' z z) z<|nx<|E' hr z (fun bg hr=>?_) (fun bg hr=>?_)
  .refine ad' [ff,ff,ff,ff,ff,ff,ff] mix (by kernel_rfl) fun hb=>cn (fun _ l=>aG' z)<|cn (fun _ l=>g' 2 bc' z z z)<|cn (fun _ l=>aF' z)<|cn (fun _ l=>g' 2 bc' z z z)<|cn (fun _ l=>f' z) ?_
   obtain⟨x1,ax,hr⟩:=hr
   refine cn (fun _ l=>P' N' bK' ((g.mono (mx t u)).mono l) z z ax) ?_
   obtain⟨bB,bD,ba,a0⟩:=bN' (H' (X' g ax) (mx t u))
   refine cn (fun _ l=>as' _ ag57 z z (fun j v hv=>l _ _ _ (ba j v hv)))<|af' hb ?_
   obtain⟨aO,aq,hr⟩:=hr
   refine Q' z z (u' E133 z) (dJ' aq) z (⟨(f.mono (mx t u)),a0⟩) (fun bq bt E K=>?_)
   obtain⟨am,ar,rfl,ao⟩:=K
   refine yy (aG' z) z<|aB' 5 ([.slice e c.vars.length d,.slice L ag.length I,.slice am aO.length ar,i' c.next]).toArray z sz29 z z z (show 2<4 by decide) z z<|o'<|am'<|v'<|a'<|sr<|yy (m' 5 ai' z z z) z<|x' 4 z aR' z z z z z (List.all_eq_true.1 z)<|nx<|k' ?_
   obtain rfl:_=r:=hr
   exact j' z (ak' (i:=4) ai' z z z) ⟨_,_,_,_,_,_,z,(m.mono (mx (mx t u) E)),(aI.mono (mx u E)),ao⟩
  refine ad' [ff,ff,ff,ff,ff,ff,ff] mix (by kernel_rfl) fun hb=>cn (fun _ l=>aF' z)<|cn (fun _ l=>g' 2 bc' z z z)<|cn (fun _ l=>aG' z)<|cn (fun _ l=>g' 2 bc' z z z)<|cn (fun _ l=>f' z) ?_
  obtain⟨x2,av,hr⟩:=hr
  refine cn (fun _ l=>P' N' bK' ((f.mono (mx t u)).mono l) z z av) ?_
  obtain⟨bA,bw,a4,aG⟩:=bN' (H' (X' f av) (mx t u))
  refine cn (fun _ l=>as' _ ag57 z z (fun j v hv=>l _ _ _ (a4 j v hv)))<|af' hb ?_
  obtain⟨aD,al,hr⟩:=hr
  refine Q' z z (u' E133 z) (dJ' al) z (⟨(g.mono (mx t u)),aG⟩) (fun bo bE F J=>?_)
  obtain⟨aj,ak,rfl,an⟩:=J
  refine yy (aF' z) z<|aB' 5 ([.slice e c.vars.length d,.slice aj aD.length ak,.slice R af.length Q,i' c.next]).toArray z sz29 z z z (show 1<4 by decide) z z<|o'<|am'<|v'<|a'<|sr<|yy (m' 5 ai' z z z) z<|x' 4 z aR' z z z z z (List.all_eq_true.1 z)<|nx<|k' ?_
  obtain rfl:_=r:=hr
  exact j' z (ak' (i:=4) ai' z z z) ⟨_,_,_,_,_,_,z,(m.mono (mx (mx t u) F)),an,(ai.mono F)⟩
 refine l'<|v'<|a'<|sr<|yy (m' 5 ai' z z z) z<|x' 4 z aR' z z z z z (List.all_eq_true.1 z)<|nx<|k' ?_
 obtain rfl:_=r:=hr
 exact j' z (ak' (i:=4) ai' z z z) ⟨_,_,_,_,_,_,z,m,g,f⟩
theorem ez'{d f s q m n j h F E r}(hr:(ZZ d f).Ret r):Ctr prog 44 #[.agg ((v31' d s q m n j h)).toArray,.agg ((v116' f F E)).toArray] (fun G=>sl Rp.str G s q d.vars/\sl e' G m n d.eqs/\sl e' G j h d.neqs/\sl r' G F E f.p) (w31t' r):=by
 refine A' (args:=[_,_]) (N:=157) func44 z z z (fun w0 G0 U bw=>?_)
 obtain⟨g,l,k,C⟩:=bw
 refine sr<|Y' 2 z z z fun b1=>Y' 3 z z z fun b2=>O' 4 z z31 z fun b3=>sg z z<|nr<|yy (m' 2 ai' z z z) z<|yy (m' 3 ag116 z z z) z ?_
 obtain⟨c5,be,hr⟩:=hr
 refine B' z z (u' E80 z) (gl' be) z (⟨g,l,k,C⟩)<|sx0 z z<|c'<|sr<|mv z z<|yy (bj' z z) z<|nx<|E' hr z (fun cb hr=>?_) (fun cb hr=>?_)
 .refine sr<|yy (at' (vs:=#[]) (v:=.agg ([.slice none 0 0,.slice none 0 0,.slice none 0 0,i' 0]).toArray) z z (fun _=>by kernel_rfl)) z<|mv z z<|x' 4 z aR' z z z z z (List.all_eq_true.1 z)<|sx0 z z<|k'<|b' ?_
  obtain rfl:_=r:=hr
  exact bE' z (ak' (i:=4) ai' z z z) z ⟨_,_,_,_,_,_,z,(ah' Rp.str _),(ah' e' _),(ah' e' _)⟩
 refine l'<|a'<|sr<|yy (aH' z) z<|yy (g' 2 bF' z z z) z<|yy (K' J' g z) z<|sg z z<|nr<|yy (m' 2 ai' z z z) z<|O' 8 z z31 z fun b4=>x' 8 z aR' z z z z z (List.all_eq_true.1 z)<|nr<|WL.litT (e:=9) (r:=Rp.str) (vs:=#[]) (cs:=[]) ([]:List ByteArray) 4021 z z z z z (by decide) (fun _=>by kernel_rfl) (z) fun p1 cx bR=>yy (aH' z) z<|yy (g' 2 bF' z z z) z ?_
 obtain⟨a9,hr⟩:=hr
 refine WL.appendT (r:=Rp.str) (e:=9) 4021 z z J' el9 z (by decide) z z bR z g a9 fun p2 au cQ Y=>yy (aH' z) z<|aB' 8 ([.slice p2 ([]++d.vars).length au,.slice m d.eqs.length n,.slice j d.neqs.length h,i' d.next]).toArray z sz28 z z z (show 0<4 by decide) z z<|nx<|c'<|sr<|yy (cZ' z) z<|yy (g' 3 sc3 z z z) z<|nx<|s'<|sr<|yy (au' z z) z<|sx0 z z<|E' hr z (fun bQ hr=>?_) (fun bQ hr=>?_)
 .refine c'<|ad' [ff,ff,ff,ff,ff,ff,ff,ff,ff,ff,ff,ff,ff,ff,ff,ff] mix (by kernel_rfl) fun p=>Chain.litOwn (r:=Rp.str) (e:=9) ([]:List ByteArray) (fun _=>z) z (by decide) (fun u o c t=>?_) ?_
  .exact⟨#[],[],z,z,fun _=>by kernel_rfl,z⟩
  refine cu (fun _ _ c=>aH' z)<|cu (fun _ _ c=>g' 2 bF' z z z)<|cu (fun _ _ c=>by' z)<|cu (fun _ _ c=>g' 3 sc3 z z z) ?_
  obtain⟨bX,hr⟩:=hr
  obtain⟨p3,bO,bS,b6⟩:=SlR.cut (r:=Rp.str) none (some (i' f.at')) sz9 z J' g (.inl ⟨z,z⟩) (.inr ⟨_,z⟩) bX
  refine cu (fun _ _ c=>Y0.cutH J' b6 z z) ?_
  obtain⟨bh,hr⟩:=hr
  refine Chain.appendOwn (r:=Rp.str) (e:=9) (kk:=33) (xs:=([]:List ByteArray)) ((d.vars.take f.at'.toNat).drop (0:Int).toNat) (fun _=>z) z (by kernel_rfl) (by kernel_rfl) J' el9 z (by decide) bh (fun u o c t=>?_) ?_
  .obtain⟨aE,_⟩:=(show (RowX Rp.str 9 33 ([]:List ByteArray)) (u 33) o/\True from t)
   exact⟨u 33,.slice p3 ((d.vars.take f.at'.toNat).drop (0:Int).toNat).length bO,aE,z,z,(bS.mono c)⟩
  refine cu (fun _ _ c=>dQ' z)<|cu (fun _ _ c=>g' 3 sc9 z z z)<|ch' (r:=Rp.str) (e:=9) ([f.name]:List ByteArray) (fun _=>z) z (by decide) (fun u o c t=>?_) ?_
  .exact⟨#[(0,.string f.name)],[.string f.name]++([]),z,z,fun _=>by kernel_rfl,⟨[.string f.name],[],z,z,z⟩⟩
  obtain⟨bb,hr⟩:=hr
  refine Chain.appendOwn (r:=Rp.str) (e:=9) (kk:=39) (xs:=(([]:List ByteArray)++((d.vars.take f.at'.toNat).drop (0:Int).toNat))) [f.name] (fun _=>z) z (by kernel_rfl) (by kernel_rfl) J' el9 z (by decide) bb (fun u o c t=>?_) ?_
  .obtain⟨⟨p4,an,aD,aZ⟩,aG,_,_⟩:=(show (fun G v=>∃ p4 an,v = .slice p4 1 1/\SlRd Rp.str G (.slice p4 1 1) an [f.name]) o.m (u 42)/\(RowX Rp.str 9 39 (([]:List ByteArray)++((d.vars.take f.at'.toNat).drop (0:Int).toNat))) (u 39) o/\True/\True from t)
   exact⟨u 39,.slice p4 1 1,aG,z,(by simp only[undFr,eatO,List.map_cons,List.map_nil,aD] <;> rfl),aZ⟩
  refine cu (fun _ _ c=>aH' z)<|cu (fun _ _ c=>g' 2 bF' z z z)<|cu (fun _ _ c=>by' z)<|cu (fun _ _ c=>g' 3 sc3 z z z) ?_
  obtain⟨bI,hr⟩:=hr
  obtain⟨p5,cU,bZ,bV⟩:=SlR.cut (r:=Rp.str) (some (i' f.at')) none sz9 z J' g (.inr ⟨_,z⟩) (.inl ⟨z,z⟩) bI
  refine cu (fun _ _ c=>Y0.cutL J' bV z z)<|Chain.tailX4 (fun cw cG cy cK X1 S ah ag bB bC=>?_)
  obtain⟨p4,an,rfl,aZ⟩:=ag
  refine WL.adoptR ah (fun cH cR cj bo ba cN=>?_)
  subst bo
  refine cJ' (show WL _ _ _ _ _ _ (St w0 G0 X1.m _) from ?_)
  obtain⟨bv,hr⟩:=hr
  refine WL.appendT (r:=Rp.str) (e:=9) 43 z z J' el9 z (by decide) z z ba z (bZ.mono S) bv fun p6 al cE bG=>yy (aH' z) z<|aB' 8 ([.slice p6 (((([]:List ByteArray)++((d.vars.take f.at'.toNat).drop (0:Int).toNat))++[f.name])++((d.vars.take (d.vars.length:Int).toNat).drop f.at'.toNat)).length al,.slice m d.eqs.length n,.slice j d.neqs.length h,i' d.next]).toArray z sz28 z z z (show 0<4 by decide) z z<|o'<|am'<|a'<|c'<|ad' [ff,ff,ff,ff,ff,ff] mix (by kernel_rfl) fun p=>cn (fun _ c=>aF' z)<|cn (fun _ c=>g' 2 bc' z z z)<|cn (fun _ c=>f' z)<|cn (fun _ c=>by' z)<|cn (fun _ c=>g' 3 sc3 z z z) ?_
  obtain⟨cX,a6,hr⟩:=hr
  refine cm' z (fun _=>u' E82 z) (db' a6) z (fun o c=>trivial)<|af' p ?_
  obtain⟨a3,bu,hr⟩:=hr
  refine Q' z z (u' E81 z) (de' bu) z ((l.mono S)) (fun cF c0 X aj=>?_)
  obtain⟨av,ak,rfl,bj⟩:=aj
  refine yy (aF' z) z<|aB' 8 ([.slice p6 (((([]:List ByteArray)++((d.vars.take f.at'.toNat).drop (0:Int).toNat))++[f.name])++((d.vars.take (d.vars.length:Int).toNat).drop f.at'.toNat)).length al,.slice av a3.length ak,.slice j d.neqs.length h,i' d.next]).toArray z sz29 z z z (show 1<4 by decide) z z<|o'<|am'<|a'<|ad' [ff,ff,ff,ff,ff,ff] mix (by kernel_rfl) fun p=>cn (fun _ c=>aG' z)<|cn (fun _ c=>g' 2 bc' z z z)<|cn (fun _ c=>f' z)<|cn (fun _ c=>by' z)<|cn (fun _ c=>g' 3 sc3 z z z) ?_
  obtain⟨cT,bA,hr⟩:=hr
  refine cm' z (fun _=>u' E82 z) (db' bA) z (fun o c=>trivial)<|af' p ?_
  obtain⟨b0,bc,hr⟩:=hr
  refine Q' z z (u' E81 z) (de' bc) z ((k.mono (mx S X))) (fun cL c4 ac ai=>?_)
  obtain⟨bx,a8,rfl,bd⟩:=ai
  refine yy (aG' z) z<|aB' 8 ([.slice p6 (((([]:List ByteArray)++((d.vars.take f.at'.toNat).drop (0:Int).toNat))++[f.name])++((d.vars.take (d.vars.length:Int).toNat).drop f.at'.toNat)).length al,.slice av a3.length ak,.slice bx b0.length a8,i' d.next]).toArray z sz29 z z z (show 2<4 by decide) z z<|o'<|am'<|v'<|a'<|sr<|bQ' (r:=Rp.str) (e:=9) 43 (bG.mono (mx X ac)) z (by rw[U]; rfl) fun cS cW aa bp co=>yy (m' 8 ai' z z z) z<|x' 4 z aR' z z z z z (List.all_eq_true.1 z)<|sx0 z z<|k' ?_
  obtain rfl:_=r:=hr
  exact bE' z (ak' (i:=4) ai' z z z) z ⟨_,_,_,_,_,_,z,bp,(bj.mono (mx ac aa)),(bd.mono aa)⟩
 refine sr<|yy (au' z z) z<|sx0 z z<|E' hr z (fun bT hr=>?_) (fun bT hr=>?_)
 .refine c'<|ad' [ff,ff,ff,ff,ff,ff,ff,ff,ff,ff,ff,ff,ff] mix (by kernel_rfl) fun p=>Chain.litOwn (r:=Rp.str) (e:=9) ([]:List ByteArray) (fun _=>z) z (by decide) (fun u o c t=>?_) ?_
  .exact⟨#[],[],z,z,fun _=>by kernel_rfl,z⟩
  refine cu (fun _ _ c=>aH' z)<|cu (fun _ _ c=>g' 2 bF' z z z)<|cu (fun _ _ c=>by' z)<|cu (fun _ _ c=>g' 3 sc3 z z z) ?_
  obtain⟨bD,hr⟩:=hr
  obtain⟨p7,b8,bL,bU⟩:=SlR.cut (r:=Rp.str) none (some (i' f.at')) sz9 z J' g (.inl ⟨z,z⟩) (.inr ⟨_,z⟩) bD
  refine cu (fun _ _ c=>Y0.cutH J' bU z z) ?_
  obtain⟨bl,hr⟩:=hr
  refine Chain.appendOwn (r:=Rp.str) (e:=9) (kk:=69) (xs:=([]:List ByteArray)) ((d.vars.take f.at'.toNat).drop (0:Int).toNat) (fun _=>z) z (by kernel_rfl) (by kernel_rfl) J' el9 z (by decide) bl (fun u o c t=>?_) ?_
  .obtain⟨aq,_⟩:=(show (RowX Rp.str 9 69 ([]:List ByteArray)) (u 69) o/\True from t)
   exact⟨u 69,.slice p7 ((d.vars.take f.at'.toNat).drop (0:Int).toNat).length b8,aq,z,z,(bL.mono c)⟩
  refine cu (fun _ _ c=>aH' z)<|cu (fun _ _ c=>g' 2 bF' z z z)<|cu (fun _ _ c=>by' z)<|cu (fun _ _ c=>g' 3 sc3 z z z)<|cu (fun _ _ c=>I' z z) ?_
  obtain⟨bW,hr⟩:=hr
  obtain⟨p8,da,bE,ca⟩:=SlR.cut (r:=Rp.str) (some (i' (i64.wrap (f.at'+1)))) none sz9 z J' g (.inr ⟨_,z⟩) (.inl ⟨z,z⟩) bW
  refine cu (fun _ _ c=>Y0.cutL J' ca z z)<|Chain.tailX2 fun cm cf X2 Q M a7=>WL.adoptR M (fun ce cp bK aL aI cr=>?_)
  subst aL
  refine cJ' (show WL _ _ _ _ _ _ (St w0 G0 X2.m _) from ?_)
  obtain⟨br,hr⟩:=hr
  refine WL.appendT (r:=Rp.str) (e:=9) 75 z z J' el9 z (by decide) z z aI z (bE.mono Q) br fun p9 ar cD bH=>yy (aH' z) z<|aB' 8 ([.slice p9 ((([]:List ByteArray)++((d.vars.take f.at'.toNat).drop (0:Int).toNat))++((d.vars.take (d.vars.length:Int).toNat).drop (i64.wrap (f.at'+1)).toNat)).length ar,.slice m d.eqs.length n,.slice j d.neqs.length h,i' d.next]).toArray z sz28 z z z (show 0<4 by decide) z z<|o'<|am'<|a'<|c'<|ad' [ff,ff,ff,ff,ff,ff,ff] mix (by kernel_rfl) fun p=>cn (fun _ c=>aF' z)<|cn (fun _ c=>g' 2 bc' z z z)<|cn (fun _ c=>by' z)<|cn (fun _ c=>g' 3 sc3 z z z)<|cn (fun _ c=>f' z)<|cn (fun _ c=>be' z z) ?_
  obtain⟨cA,aC,hr⟩:=hr
  refine cm' z (fun _=>u' E82 z) (db' aC) z (fun o c=>trivial)<|af' p ?_
  obtain⟨ao,aM,hr⟩:=hr
  refine Q' z z (u' E81 z) (de' aM) z ((l.mono Q)) (fun ci c6 V P=>?_)
  obtain⟨ad,Z,rfl,aQ⟩:=P
  refine yy (aF' z) z<|aB' 8 ([.slice p9 ((([]:List ByteArray)++((d.vars.take f.at'.toNat).drop (0:Int).toNat))++((d.vars.take (d.vars.length:Int).toNat).drop (i64.wrap (f.at'+1)).toNat)).length ar,.slice ad ao.length Z,.slice j d.neqs.length h,i' d.next]).toArray z sz29 z z z (show 1<4 by decide) z z<|o'<|am'<|a'<|ad' [ff,ff,ff,ff,ff,ff,ff] mix (by kernel_rfl) fun p=>cn (fun _ c=>aG' z)<|cn (fun _ c=>g' 2 bc' z z z)<|cn (fun _ c=>by' z)<|cn (fun _ c=>g' 3 sc3 z z z)<|cn (fun _ c=>f' z)<|cn (fun _ c=>be' z z) ?_
  obtain⟨cJ,aR,hr⟩:=hr
  refine cm' z (fun _=>u' E82 z) (db' aR) z (fun o c=>trivial)<|af' p ?_
  obtain⟨bn,aT,hr⟩:=hr
  refine Q' z z (u' E81 z) (de' aT) z ((k.mono (mx Q V))) (fun ch c9 W R=>?_)
  obtain⟨aA,aO,rfl,aJ⟩:=R
  refine yy (aG' z) z<|aB' 8 ([.slice p9 ((([]:List ByteArray)++((d.vars.take f.at'.toNat).drop (0:Int).toNat))++((d.vars.take (d.vars.length:Int).toNat).drop (i64.wrap (f.at'+1)).toNat)).length ar,.slice ad ao.length Z,.slice aA bn.length aO,i' d.next]).toArray z sz29 z z z (show 2<4 by decide) z z<|o'<|am'<|v'<|a'<|sr<|bQ' (r:=Rp.str) (e:=9) 75 (bH.mono (mx V W)) z (by rw[U]; rfl) fun c8 cY af bf cq=>yy (m' 8 ai' z z z) z<|x' 4 z aR' z z z z z (List.all_eq_true.1 z)<|sx0 z z<|k' ?_
  obtain rfl:_=r:=hr
  exact bE' z (ak' (i:=4) ai' z z z) z ⟨_,_,_,_,_,_,z,bf,(aQ.mono (mx W af)),(aJ.mono af)⟩
 refine sr<|yy (au' z z) z<|sx0 z z<|E' hr z (fun bP hr=>?_) (fun bP hr=>?_)
 .refine n'<|yy (aH' z) z<|yy (g' 8 bF' z z z) z<|yy (by' z) z<|yy (g' 3 sc3 z z z) z<|yy (dQ' z) z<|yy (g' 3 sc9 z z z) z ?_
  obtain⟨x1,a4,hr⟩:=hr
  refine yy (aY' J' sz9 Y z z a4) z<|bO' (r:=Rp.str) (e:=9) (cs':=[.string f.name]) (i:=f.at') (z':=f.name) 4021 z sz9 z Y z z z z z a4 fun c7 bz=>o'<|v'<|a'<|sr<|bQ' (r:=Rp.str) (e:=9) 4021 bz z (by rw[U]; rfl) fun cZ c3 T ap ck=>yy (m' 8 ai' z z z) z<|x' 4 z aR' z z z z z (List.all_eq_true.1 z)<|sx0 z z<|k' ?_
  obtain rfl:_=r:=hr
  exact bE' z (ak' (i:=4) ai' z z z) z ⟨_,_,_,_,_,_,(by rw[dc' ap]),(dd' ap),(l.mono T),(k.mono T)⟩
 refine sr<|yy (au' z z) z<|sx0 z z<|E' hr z (fun b7 hr=>?_) (fun b7 hr=>?_)
 .refine sr ?_
  obtain⟨y,aS,hr⟩:=hr
  refine B' z z (u' E82 z) (db' aS) z (trivial)<|O' 9 z z109 z fun b5=>x' 9 z sz109 z z z (M' _ _ _) (M' _ _ _) (fun u t=>Rp.one (cy' .i64 8) (G:=G0) (x:=y) (cs:=vecG (Value.int .i64) 8 y) z u (by first|simpa using t|simpa [Value.cells] using t))<|nr<|yy (by' z) z<|yy (g' 3 sc3 z z z) z<|yy (eo' z) z<|yy (g' 3 sc3 z z z) z ?_
  obtain⟨bM,hr⟩:=hr
  refine yy (aQ' br' sz3 z z bM) z<|aB' 9 (vecG (Value.int .i64) 8 (setF y f.at'.toNat f.to')).toArray z sz3 z z z (by first|(rw[M']; omega)|(show _<(vecG _ _ _).toArray.size; rw[M']; omega)) z (co' _ _ _ _ _)<|nr<|yy (eo' z) z<|yy (g' 3 sc3 z z z) z<|yy (by' z) z<|yy (g' 3 sc3 z z z) z ?_
  obtain⟨bF,hr⟩:=hr
  refine yy (aQ' br' sz3 z z bF) z<|aB' 9 (vecG (Value.int .i64) 8 (setF (setF y f.at'.toNat f.to') f.to'.toNat f.at')).toArray z sz3 z z z (by first|(rw[M']; omega)|(show _<(vecG _ _ _).toArray.size; rw[M']; omega)) z (co' _ _ _ _ _)<|nx<|c'<|ad' [ff,ff,ff,ff,ff,ff,ff,ff,ff,ff] mix (by kernel_rfl) fun p=>cn (fun _ c=>aH' z)<|cn (fun _ c=>g' 8 bF' z z z)<|cn (fun _ c=>by' z)<|cn (fun _ c=>g' 3 sc3 z z z)<|cn (fun _ c=>aH' z)<|cn (fun _ c=>g' 2 bF' z z z)<|cn (fun _ c=>eo' z)<|cn (fun _ c=>g' 3 sc3 z z z) ?_
  obtain⟨x2,aU,hr⟩:=hr
  refine cn (fun _ c=>P' J' sz9 (g.mono c) z z aU)<|cn (fun _ c=>ae' sc9 z (bT' (H' (X' g aU) c)))<|af' p ?_
  obtain⟨x3,a0,hr⟩:=hr
  refine yy (aY' J' sz9 Y z z a0) z<|bO' (r:=Rp.str) (e:=9) (cs':=[.string x2]) (i:=f.at') (z':=x2) 4021 z sz9 z Y z z z z z a0 fun cV ay=>o'<|am'<|a'<|c'<|ad' [ff,ff,ff,ff,ff,ff,ff,ff,ff,ff] mix (by kernel_rfl) fun p=>cn (fun _ c=>aH' z)<|cn (fun _ c=>g' 8 bF' z z z)<|cn (fun _ c=>eo' z)<|cn (fun _ c=>g' 3 sc3 z z z)<|cn (fun _ c=>aH' z)<|cn (fun _ c=>g' 2 bF' z z z)<|cn (fun _ c=>by' z)<|cn (fun _ c=>g' 3 sc3 z z z) ?_
  obtain⟨x4,aW,hr⟩:=hr
  refine cn (fun _ c=>P' J' sz9 (g.mono c) z z aW)<|cn (fun _ c=>ae' sc9 z (bT' (H' (X' g aW) c)))<|af' p ?_
  obtain⟨x5,aX,hr⟩:=hr
  refine yy (aY' J' sz9 ay z z aX) z<|bO' (r:=Rp.str) (e:=9) (cs':=[.string x4]) (i:=f.to') (z':=x4) 4021 z sz9 z ay z z z z z aX fun c2 bt=>o'<|am'<|a'<|sr<|yy (aF' z) z<|yy (g' 2 bc' z z z) z<|yy (m' 9 ag109 z z (M' _ _ _)) z ?_
  obtain⟨aw,aF,hr⟩:=hr
  refine Q' z z (u' E81 z) (de' aF) z (l) (fun cl cv B J=>?_)
  obtain⟨ae,ab,rfl,aN⟩:=J
  refine yy (aF' z) z<|aB' 8 ([.slice p2 ([]++d.vars).length au,.slice ae aw.length ab,.slice j d.neqs.length h,i' d.next]).toArray z sz29 z z z (show 1<4 by decide) z z<|nx<|n'<|yy (aG' z) z<|yy (g' 2 bc' z z z) z<|yy (m' 9 ag109 z z (M' _ _ _)) z ?_
  obtain⟨bs,aK,hr⟩:=hr
  refine Q' z z (u' E81 z) (de' aK) z ((k.mono B)) (fun cc cP I K=>?_)
  obtain⟨aH,aB,rfl,az⟩:=K
  refine yy (aG' z) z<|aB' 8 ([.slice p2 ([]++d.vars).length au,.slice ae aw.length ab,.slice aH bs.length aB,i' d.next]).toArray z sz29 z z z (show 2<4 by decide) z z<|o'<|v'<|a'<|sr<|bQ' (r:=Rp.str) (e:=9) 4021 (bt.mono (mx B I)) z (by rw[U]; rfl) fun c1 cO D ax cd=>yy (m' 8 ai' z z z) z<|x' 4 z aR' z z z z z (List.all_eq_true.1 z)<|sx0 z z<|k' ?_
  obtain rfl:_=r:=hr
  exact bE' z (ak' (i:=4) ai' z z z) z ⟨_,_,_,_,_,_,(by rw[dc' ax]),(dd' ax),(aN.mono (mx I D)),(az.mono D)⟩
 refine sr<|yy (m' 2 ai' z z z) z<|yy (m' 3 ag116 z z z) z ?_
 obtain⟨cI,aP,hr⟩:=hr
 refine Q' z z (u' E83 z) (fA' aP) z (⟨g,l,k,C⟩) (fun cg cz bY O=>?_)
 obtain⟨a1,aV,bk,bg,aY,a2,rfl,A,L,H⟩:=O
 refine x' 4 z aR' z z z z z (List.all_eq_true.1 z)<|sx0 z z<|k'<|w'<|b' ?_
 obtain rfl:_=r:=hr
 exact bE' z (ak' (i:=4) ai' z z z) z ⟨_,_,_,_,_,_,z,A,L,H⟩
theorem gr'{l1 V aw ax r}(hr:(Zhc l1 V).Ret r):Ctr prog 20 #[.slice aw l1.length ax,i' V] (fun G=>sl bv' G aw ax l1) (w31' r):=by
 refine A' (args:=[_,_]) (N:=36) func20 z z z (fun w0 G0 bg aV=>?_)
 have au:=aV
 refine sr<|O' 4 z z31 z fun b1=>nr<|yy (at' (vs:=#[(3,i' 1)]) (v:=.agg ([.slice none 0 0,.slice none 0 0,.slice none 0 0,i' 1]).toArray) z z (fun _=>by kernel_rfl)) z<|O' 5 z z31 z fun b2=>x' 5 z aR' z z z z z (List.all_eq_true.1 z)<|nx<|c'<|sr<|sx0 z z<|R' (fun (⟨Q,x,q,E,D,t,s,S⟩:Zb×Option Addr×Nat×Option Addr×Nat×Option Addr×Nat×Mem)=>[(4,pt0 b1),(5,pt0 b2)]) (fun ⟨Q,x,q,E,D,t,s,S⟩=>Mem.le G0 S/\sl Rp.str S x q Q.vars/\sl e' S E D Q.eqs/\sl e' S t s Q.neqs/\(Zej Q).Ret r) (fun ⟨Q,x,q,E,D,t,s,S⟩=>St w0 G0 S [(4,bk0 b1 ([.slice none 0 0,.slice none 0 0,.slice none 0 0,i' 0]) 31),(5,bk0 b2 (v31' Q x q E D t s) 31)]) ?_ ?_
 .refine s' ?_
  let av:Zb->Prop:=fun oo=>((fun ov=>match ov with|Q=>Zej Q:Zb->Cq Zb) oo).wp (fun a=>a=r)
  replace hr:(Cq.loop _ _).wp av:=hr
  refine T' (Φ:=av) (fun (⟨i1,L,l,e,n,m,g,k,O⟩:Int×Zb×Option Addr×Nat×Option Addr×Nat×Option Addr×Nat×Mem)=>((i1,L):Int×Zb)) (fun ⟨i1,L,l,e,n,m,g,k,O⟩=>[(0,.slice aw l1.length ax),(1,i' V),(4,pt0 b1),(5,pt0 b2),(6,i' i1)]) (fun ⟨i1,L,l,e,n,m,g,k,O⟩=>Mem.le G0 O/\y31' O l e n m g k L) (fun ⟨i1,L,l,e,n,m,g,k,O⟩=>St w0 G0 O [(4,bk0 b1 ([.slice none 0 0,.slice none 0 0,.slice none 0 0,i' 0]) 31),(5,bk0 b2 (v31' L l e n m g k) 31)]) ⟨0,(Zb.mk [] [] [] 1),none,0,none,0,none,0,G0⟩ hr (f5 z z z z z) ⟨mr,(ah' _ _),(ah' _ _),(ah' _ _)⟩ (w2 z z) ?_
  .intro bf gx hx hr
   obtain⟨i1,L,l,e,n,m,g,k,O⟩:=gx
   obtain⟨F,A,C,y⟩:=hx
   refine c'<|sr<|mv z z<|mv z z<|yy (K' dw' (au.mono F) z) z<|ao' hr z (V' z z) z (fun a1 hr=>?_) (fun a1 hr=>?_)
   .refine mv z z<|gy z z (f' z) z<|gy z z (f' z) z<|gy z z (V' z z) z<|yy (t' z z) z<|nx<|E' hr z (fun a2 hr=>?_) (fun a2 hr=>?_)
    .refine l'<|a'<|c'<|s'<|c'<|ad' [ff,ff,ff,ff,ff,ff,ff,ff,ff,ff,tt,ff] mix (by kernel_rfl) fun hb=>cn (fun _ d=>m' 5 ai' z z z)<|cn (fun _ d=>m' 5 ai' z z z)<|cn (fun _ d=>f' z)<|cn (fun _ d=>f' z) ?_
     obtain⟨x1,aN,hr⟩:=hr
     refine cn (fun _ d=>P' dw' sz122 ((au.mono F).mono d) z z aN) ?_
     obtain⟨a5,a4,aW,aF⟩:=ZfY (H' (X' au aN) F)
     refine cn (fun _ d=>as' _ ag122 z z (fun j v hv=>d _ _ _ (aW j v hv))) ?_
     obtain⟨aM,aR,hr⟩:=hr
     refine aw' (post:=w116' aM) (fun _=>z) (fun _ _=>u' E45 z) (fx' aR) z (fun X d=>⟨(A.mono d),(C.mono d),(y.mono d),(aF.mono d)⟩) (fun v G1 G2 d h=>?_) ?_
     .obtain⟨ai,ag,rfl,T⟩:=h
      exact⟨_,_,z,T.mono d⟩
     obtain⟨R,aS,hr⟩:=hr
     refine bz' (f:=44) (φ:=w31t' R) (fun _=>z) (fun v G1 G2 d h=>?_) (fun u X d hu=>?_) ?_
     .obtain⟨K,J,M,P,H,I,rfl,p,B,o⟩:=h
      exact⟨_,_,_,_,_,_,z,p.mono d,B.mono d,o.mono d⟩
     .obtain⟨⟨ai,ag,aE,T⟩,_⟩:=(show (w116' aM) X.m (u 28)/\True from hu)
      exact⟨_,_,_,fun _=>u' E44 z,ez' aS,(by simp only[aE] <;> rfl),⟨(A.mono d),(C.mono d),(y.mono d),T⟩⟩
     refine bC' (φ:=w31t' R) (fun _=>z) (fun v G1 G2 d h=>?_) (fun u X d hu=>?_) ?_
     .obtain⟨p1,aj,p2,ah,p3,af,rfl,Y,aa,Z⟩:=h
      exact⟨_,_,_,_,_,_,z,Y.mono d,aa.mono d,Z.mono d⟩
     .obtain⟨⟨K,J,M,P,H,I,aD,p,B,o⟩,_,_⟩:=(show (w31t' R) X.m (u 29)/\True/\True from hu)
      simp only[undFr,aD]
      exact⟨_,f' z,K,J,M,P,H,I,z,p,B,o⟩
     refine bC' (φ:=w31' R.1) (fun _=>z) (fun v G1 G2 d h=>?_) (fun u X d hu=>?_) ?_
     .obtain⟨p4,aL,p5,aJ,p6,aK,rfl,ar,ay,aq⟩:=h
      exact⟨_,_,_,_,_,_,z,ar.mono d,ay.mono d,aq.mono d⟩
     .obtain⟨⟨p1,aj,p2,ah,p3,af,W,Y,aa,Z⟩,_,_,_⟩:=(show (w31t' R) X.m (u 21)/\True/\True/\True from hu)
      simp only[undFr,W]
      exact⟨_,L' z z,p1,aj,p2,ah,p3,af,z,Y,aa,Z⟩
     refine bZ' (c:=i' R.2) (fun _=>z) (fun u X d hu=>?_) ?_
     .obtain⟨_,⟨p1,aj,p2,ah,p3,af,W,Y,aa,Z⟩,_,_,_⟩:=(show True/\(w31t' R) X.m (u 21)/\True/\True/\True from hu)
      simp only[undFr,W]
      exact L' z z
     refine bJ' (fun _=>z) z31<|Chain.tailX5 (fun bh a9 a6 bb bc X1 U az al ao ap ak=>?_)
     obtain⟨b3,rfl,aQ⟩:=az
     obtain⟨p4,aL,p5,aJ,p6,aK,rfl,ar,ay,aq⟩:=al
     obtain⟨p1,aj,p2,ah,p3,af,rfl,Y,aa,Z⟩:=ao
     obtain⟨K,J,M,P,H,I,rfl,p,B,o⟩:=ap
     obtain⟨ai,ag,rfl,T⟩:=ak
     refine di' aQ (cJ' (show WL _ _ _ _ _ _ (St w0 G0 X1.m _) from ?_))
     refine x' 7 z aR' z z z z z (List.all_eq_true.1 z)<|sg z z<|o'<|am'<|a'<|sr<|mv z z<|yy (au' z z) z<|nx<|E' hr z (fun aZ hr=>?_) (fun aZ hr=>?_)
     .refine n'<|yy (m' 7 ai' z z z) z<|x' 5 z aR' z z z z z (List.all_eq_true.1 z)<|o'<|v'<|a'<|n'<|mv z z<|yy (I' z z) z<|sg z z<|o'<|C' ⟨i64.wrap (i1+1),R.1,p4,aL,p5,aJ,p6,aK,X1.m⟩ hr ⟨(mx F U),ar,ay,aq⟩ (f5 z z z z z) (w2 z z)
     refine l'<|v'<|a'<|n'<|mv z z<|yy (I' z z) z<|sg z z<|o'<|C' ⟨i64.wrap (i1+1),L,l,e,n,m,g,k,X1.m⟩ hr ⟨(mx F U),(A.mono U),(C.mono U),(y.mono U)⟩ (f5 z z z z z) (w2 z z)
    refine U'<|h'<|h'<|y'<|W' ⟨L,l,e,n,m,g,k,O⟩ ⟨F,A,C,y,hr⟩ (f2 z z) (w2 z z)
   refine mv z z<|sn3 z<|yy (p' z z) z<|nx<|aK' z<|U'<|h'<|h'<|y'<|W' ⟨L,l,e,n,m,g,k,O⟩ ⟨F,A,C,y,hr⟩ (f2 z z) (w2 z z)
 rintro⟨Q,x,q,E,D,t,s,S⟩ ⟨a3,ac,an,ad,hr⟩
 refine a'<|sr<|yy (m' 5 ai' z z z) z<|x' 4 z aR' z z z z z (List.all_eq_true.1 z)<|nx<|k' ?_
 obtain rfl:_=r:=hr
 exact j' z (ak' (i:=4) ai' z z z) ⟨_,_,_,_,_,_,z,ac,an,ad⟩
theorem fh'{s1 l1 T O P Y X S Q an ao r}(hr:(ZdQ s1 l1 T).Ret r):Ctr prog 22 #[.agg ((v31' s1 O P Y X S Q)).toArray,.slice an l1.length ao,i' T] (fun G=>sl Rp.str G O P s1.vars/\sl e' G Y X s1.eqs/\sl e' G S Q s1.neqs/\sl bv' G an ao l1) (wl' cg' r):=by
 refine A' (args:=[_,_,_]) (N:=44) func22 z z z (fun w0 G0 ay aO=>?_)
 obtain⟨au,ax,aq,az⟩:=aO
 refine sr<|Y' 3 z z z fun b1=>sg z z<|nr<|aD' (e:=116) (r:=cg') (vs:=#[]) (cs:=[]) ([]:List Zf) z z z z z (by decide) (fun _=>by kernel_rfl) (z) (key:=999) z (by rw[ay]; rfl) fun p1 aA I aW=>sx0 z z<|c'<|sr<|sx0 z z<|R' (fun (⟨A,H,F,E,aa⟩:(List Zf)×Option Addr×Nat×Option Ow×Mem)=>[(7,.slice H A.length F)]) (fun ⟨A,H,F,E,aa⟩=>Mem.le aA aa/\sl cg' aa H F A/\Tok 7 116 (.slice H A.length F) A.length E/\(Zdz A).Ret r) (fun ⟨A,H,F,E,aa⟩=>St w0 G0 aa [(1007,E)]) ?_ ?_
 .refine s' ?_
  let am:(List Zf)->Prop:=fun oo=>((fun ov=>match ov with|A=>Zdz A:(List Zf)->Cq (List Zf)) oo).wp (fun a=>a=r)
  replace hr:(Cq.loop _ _).wp am:=hr
  refine T' (Φ:=am) (fun (⟨m,q,p,l,Z,D,k,f,o,n,i,g,x⟩:(List Zf)×Option Addr×Nat×Option Ow×Int×Zb×Option Addr×Nat×Option Addr×Nat×Option Addr×Nat×Mem)=>((m,Z,D):(List Zf)×Int×Zb)) (fun ⟨m,q,p,l,Z,D,k,f,o,n,i,g,x⟩=>[(1,.slice an l1.length ao),(2,i' T),(3,pt0 b1),(7,.slice q m.length p),(8,i' Z)]) (fun ⟨m,q,p,l,Z,D,k,f,o,n,i,g,x⟩=>Mem.le aA x/\sl cg' x q p m/\Tok 7 116 (.slice q m.length p) m.length l/\y31' x k f o n i g D) (fun ⟨m,q,p,l,Z,D,k,f,o,n,i,g,x⟩=>St w0 G0 x [(3,bk0 b1 (v31' D k f o n i g) 31),(1007,l)]) ⟨[],p1,0,none,0,s1,O,P,Y,X,S,Q,aA⟩ hr (f5 z z z z z) ⟨mr,aW,cc',(au.mono I),(ax.mono I),(aq.mono I)⟩ (wk (lc z (lw ln))) ?_
  .intro aP gx hx hr
   obtain⟨m,q,p,l,Z,D,k,f,o,n,i,g,x⟩:=gx
   obtain⟨C,U,L,J,R,K⟩:=hx
   refine aP' (fun (gx:Mem)=>match gx with|ai=>[(1,.slice an l1.length ao),(2,i' T),(3,pt0 b1),(7,.slice q m.length p),(8,i' Z)]) (fun (gx:Mem)=>match gx with|ai=>Mem.le x ai/\(ZfS l1 m Z D).wp (Out aP am)) (fun (gx:Mem)=>match gx with|ai=>St w0 G0 ai [(3,bk0 b1 (v31' D k f o n i g) 31),(1007,l)]) ?_ ?_
   .refine sr<|mv z z<|mv z z<|yy (K' dw' (az.mono (mx I C)) z) z<|ao' hr z (V' z z) z (fun a0 hr=>?_) (fun a0 hr=>?_)
    .refine mv z z<|gy z z (f' z) z<|gy z z (f' z) z<|gy z z (V' z z) z<|yy (t' z z) z<|nx<|E' hr z (fun aV hr=>?_) (fun aV hr=>?_)
     .refine l'<|al' x ⟨mr,hr⟩ (f5 z z z z z) (w2 z z)
     refine U'<|h'<|h'<|y'<|W' ⟨m,q,p,l,x⟩ ⟨C,U,L,hr⟩ (f1 z) (w1 z)
    refine mv z z<|sn3 z<|yy (p' z z) z<|nx<|aK' z<|U'<|h'<|h'<|y'<|W' ⟨m,q,p,l,x⟩ ⟨C,U,L,hr⟩ (f1 z) (w1 z)
   rintro ai ⟨d,hr⟩
   refine c'<|s'<|c'<|ad' [ff,ff,ff,ff,ff,ff,ff] mix (by kernel_rfl) fun hb=>cn (fun _ B=>m' 3 ai' z z z)<|cn (fun _ B=>f' z)<|cn (fun _ B=>f' z) ?_
   obtain⟨x1,aH,hr⟩:=hr
   refine cn (fun _ B=>P' dw' sz122 ((az.mono (mx (mx I C) d)).mono B) z z aH) ?_
   obtain⟨a4,a3,aR,aE⟩:=ZfY (H' (X' az aH) (mx (mx I C) d))
   refine cn (fun _ B=>as' _ ag122 z z (fun j v hv=>B _ _ _ (aR j v hv))) ?_
   obtain⟨c,aM,hr⟩:=hr
   refine aw' (post:=w116' c) (fun _=>z) (fun _ _=>u' E45 z) (fx' aM) z (fun G' B=>⟨((J.mono d).mono B),((R.mono d).mono B),((K.mono d).mono B),(aE.mono B)⟩) (fun v G1 G2 B h=>?_) ?_
   .obtain⟨t,s,rfl,V⟩:=h
    exact⟨_,_,z,V.mono B⟩
   refine bJ' (fun _=>z) z116<|Chain.tailX2 (fun bf ba X1 y aB ap=>?_)
   obtain⟨b2,rfl,aK⟩:=aB
   obtain⟨t,s,rfl,V⟩:=ap
   refine di' aK (cJ' (show WL _ _ _ _ _ _ (St w0 G0 X1.m _) from ?_))
   refine x' 9 z sz116 z z z z z (List.all_eq_true.1 z)<|o'<|am'<|a'<|sr<|yy (m' 3 ai' z z z) z<|yy (m' 9 ag116 z z z) z ?_
   obtain⟨aU,aN,hr⟩:=hr
   refine Q' z z (u' E44 z) (ez' aN) z (⟨(J.mono (mx d y)),(R.mono (mx d y)),(K.mono (mx d y)),V⟩) (fun a9 aS u av=>?_)
   obtain⟨ag,ae,aj,ak,ab,ac,rfl,af,ah,ad⟩:=av
   refine mv z z<|yy (L' z z) z<|yy (L' z z) z<|O' 10 z z31 z fun b3=>x' 10 z aR' z z z z z (List.all_eq_true.1 z)<|sg z z<|nr<|mv z z<|yy (au' z z) z<|nx<|E' hr z (fun a1 hr=>?_) (fun a1 hr=>?_)
   .refine sr<|mv z z<|yy (m' 9 ag116 z z z) z<|aD' (e:=116) (r:=cg') (vs:=#[(0,.agg ((v116' c t s)).toArray)]) (cs:=(v116' c t s)++([])) ([c]:List Zf) z z z z z (by decide) (fun _=>by kernel_rfl) ⟨(v116' c t s),[],z,⟨[i' c.kind],[.string c.name,i' c.at',i' c.to',i' c.id,.slice t c.p.length s,.bool c.neq],z,z,⟨[.string c.name],[i' c.at',i' c.to',i' c.id,.slice t c.p.length s,.bool c.neq],z,z,⟨[i' c.at'],[i' c.to',i' c.id,.slice t c.p.length s,.bool c.neq],z,z,⟨[i' c.to'],[i' c.id,.slice t c.p.length s,.bool c.neq],z,z,⟨[i' c.id],[.slice t c.p.length s,.bool c.neq],z,z,⟨[.slice t c.p.length s],[.bool c.neq],z,⟨_,z,(V.mono u)⟩,z⟩⟩⟩⟩⟩⟩,z⟩ (key:=999) z (by rw[ay]; rfl) (fun p2 be M aZ=>?_)
    obtain⟨aJ,hr⟩:=hr
    refine aW' (r:=cg') 1007 z z dx' el116 z (by decide) z z (U.mono (mx (mx (mx d y) u) M)) z (by rw[ay]; rfl) L aZ aJ fun p3 aT aI aQ W aY aL=>sx0 z z<|n'<|yy (m' 10 ai' z z z) z<|x' 3 z aR' z z z z z (List.all_eq_true.1 z)<|o'<|v'<|a'<|n'<|mv z z<|yy (I' z z) z<|sg z z<|o'<|C' ⟨(m++[c]),p3,aT,aI,i64.wrap (Z+1),aU.1,ag,ae,aj,ak,ab,ac,aQ⟩ hr ⟨(mx (mx (mx (mx (mx C d) y) u) M) W),aY,aL,(af.mono (mx M W)),(ah.mono (mx M W)),(ad.mono (mx M W))⟩ (f5 z z z z z) (w2 z z)
   have N1:=mx (mx d y) u
   refine l'<|v'<|a'<|n'<|mv z z<|yy (I' z z) z<|sg z z<|o'<|C' ⟨m,q,p,l,i64.wrap (Z+1),D,k,f,o,n,i,g,aS⟩ hr ⟨(mx (mx (mx C d) y) u),(U.mono N1),L,(J.mono N1),(R.mono N1),(K.mono N1)⟩ (f5 z z z z z) (w2 z z)
 rintro⟨A,H,F,E,aa⟩ ⟨a2,aG,aX,hr⟩
 refine a'<|sr<|mv z z<|sx0 z z<|k' ?_
 obtain rfl:_=r:=hr
 exact j' z z ⟨_,_,z,aG⟩
theorem gG'{s1 l1 ac ad an ak af ae aC aE r}(hr:(ZjR s1 l1).Ret r):Ctr prog 46 #[.agg ((v31' s1 ac ad an ak af ae)).toArray,.slice aC l1.length aE] (fun G=>sl Rp.str G ac ad s1.vars/\sl e' G an ak s1.eqs/\sl e' G af ae s1.neqs/\sl cg' G aC aE l1) (w124' r):=by
 refine A' (args:=[_,_]) (N:=33) func46 z z z (fun w0 G0 bA bd=>?_)
 obtain⟨aM,aP,aI,aA⟩:=bd
 refine sr<|Y' 2 z z z fun b1=>O' 4 z z124 z fun b2=>nx<|c'<|sr<|sx0 z z<|R' (fun (⟨M,y,n,D,B,t,p,ah,H,E,O,L,F,I,Y⟩:Zb×Option Addr×Nat×Option Addr×Nat×Option Addr×Nat×Zx×Option Addr×Nat×Option Addr×Nat×Option Addr×Nat×Mem)=>[(1,.slice aC l1.length aE),(2,pt0 b1),(4,pt0 b2)]) (fun ⟨M,y,n,D,B,t,p,ah,H,E,O,L,F,I,Y⟩=>Mem.le G0 Y/\sl Rp.str Y y n M.vars/\sl e' Y D B M.eqs/\sl e' Y t p M.neqs/\sl Rp.str Y H E ah.s.vars/\sl e' Y O L ah.s.eqs/\sl e' Y F I ah.s.neqs/\(ZfQ l1 M).Ret r) (fun ⟨M,y,n,D,B,t,p,ah,H,E,O,L,F,I,Y⟩=>St w0 G0 Y [(2,bk0 b1 (v31' M y n D B t p) 31),(4,bk0 b2 (v124' ah H E O L F I) 124)]) ?_ ?_
 .refine s' ?_
  let aS:(Zx⊕(Zb×Zx))->Prop:=fun oo=>((fun ov=>match ov with | .inl rv1=>Cq.ret rv1 | .inr (M,ah)=>ZfQ l1 M:(Zx⊕(Zb×Zx))->Cq Zx) oo).wp (fun a=>a=r)
  replace hr:(Cq.loop _ _).wp aS:=hr
  refine T' (Φ:=aS) (fun (⟨i1,aa,x,o,C,A,s,q,X,d,g,l,m,e,k,Q⟩:Int×Zb×Option Addr×Nat×Option Addr×Nat×Option Addr×Nat×Zx×Option Addr×Nat×Option Addr×Nat×Option Addr×Nat×Mem)=>((i1,aa,X):Int×Zb×Zx)) (fun ⟨i1,aa,x,o,C,A,s,q,X,d,g,l,m,e,k,Q⟩=>[(1,.slice aC l1.length aE),(2,pt0 b1),(4,pt0 b2),(5,i' i1)]) (fun ⟨i1,aa,x,o,C,A,s,q,X,d,g,l,m,e,k,Q⟩=>Mem.le G0 Q/\sl Rp.str Q x o aa.vars/\sl e' Q C A aa.eqs/\sl e' Q s q aa.neqs/\y31' Q d g l m e k X.s) (fun ⟨i1,aa,x,o,C,A,s,q,X,d,g,l,m,e,k,Q⟩=>St w0 G0 Q [(2,bk0 b1 (v31' aa x o C A s q) 31),(4,bk0 b2 (v124' X d g l m e k) 124)]) ⟨0,s1,ac,ad,an,ak,af,ae,(Zx.mk (Zb.mk [] [] [] 0) 0 0),none,0,none,0,none,0,G0⟩ hr (f4 z z z z) ⟨mr,aM,aP,aI,(ah' _ _),(ah' _ _),(ah' _ _)⟩ (w2 z z) ?_
  .intro bz gx hx hr
   obtain⟨i1,aa,x,o,C,A,s,q,X,d,g,l,m,e,k,Q⟩:=gx
   obtain⟨ab,aj,ao,al,ai,am,ag⟩:=hx
   refine c'<|sr<|mv z z<|mv z z<|yy (K' dx' (aA.mono ab) z) z<|yy (V' z z) z<|nx<|E' hr z (fun bn hr=>?_) (fun bn hr=>?_)
   .refine l'<|a'<|c'<|s'<|c'<|ad' [ff,ff,ff,ff,ff,ff,ff,ff,tt,ff] mix (by kernel_rfl) fun hb=>cn (fun _ f=>m' 2 ai' z z z)<|cn (fun _ f=>f' z)<|cn (fun _ f=>f' z) ?_
    obtain⟨x1,a8,hr⟩:=hr
    refine cn (fun _ f=>P' dx' sz116 ((aA.mono ab).mono f) z z a8) ?_
    obtain⟨bt,bv,bf,be⟩:=ZkN (H' (X' aA a8) ab)
    refine cn (fun _ f=>as' _ ag116 z z (fun j v hv=>f _ _ _ (bf j v hv))) ?_
    obtain⟨Z,bb,hr⟩:=hr
    refine aw' (post:=w31t' Z) (fun _=>z) (fun _ _=>u' E44 z) (ez' bb) z (fun G' f=>⟨(aj.mono f),(ao.mono f),(al.mono f),(be.mono f)⟩) (fun v G1 G2 f h=>?_) ?_
    .obtain⟨S,U,V,W,T,R,rfl,J,P,K⟩:=h
     exact⟨_,_,_,_,_,_,z,J.mono f,P.mono f,K.mono f⟩
    refine bC' (φ:=w31t' Z) (fun _=>z) (fun v G1 G2 f h=>?_) (fun u G' f hu=>?_) ?_
    .obtain⟨p1,aF,p2,aD,p3,aB,rfl,av,ax,aw⟩:=h
     exact⟨_,_,_,_,_,_,z,av.mono f,ax.mono f,aw.mono f⟩
    .obtain⟨⟨S,U,V,W,T,R,a0,J,P,K⟩,_⟩:=(show (w31t' Z) G'.m (u 20)/\True from hu)
     simp only[undFr,a0]
     exact⟨_,f' z,S,U,V,W,T,R,z,J,P,K⟩
    refine bC' (φ:=w31' Z.1) (fun _=>z) (fun v G1 G2 f h=>?_) (fun u G' f hu=>?_) ?_
    .obtain⟨p4,a5,p5,a3,p6,a4,rfl,aR,aU,aQ⟩:=h
     exact⟨_,_,_,_,_,_,z,aR.mono f,aU.mono f,aQ.mono f⟩
    .obtain⟨⟨p1,aF,p2,aD,p3,aB,ap,av,ax,aw⟩,_,_⟩:=(show (w31t' Z) G'.m (u 14)/\True/\True from hu)
     simp only[undFr,ap]
     exact⟨_,L' z z,p1,aF,p2,aD,p3,aB,z,av,ax,aw⟩
    refine bZ' (c:=i' Z.2) (fun _=>z) (fun u G' f hu=>?_) ?_
    .obtain⟨_,⟨p1,aF,p2,aD,p3,aB,ap,av,ax,aw⟩,_,_⟩:=(show True/\(w31t' Z) G'.m (u 14)/\True/\True from hu)
     simp only[undFr,ap]
     exact L' z z
    refine bJ' (fun _=>z) z31<|Chain.tailX4 (fun bB bo bs bu X1 ar aV aN aO aH=>?_)
    obtain⟨b3,rfl,ba⟩:=aV
    obtain⟨p4,a5,p5,a3,p6,a4,rfl,aR,aU,aQ⟩:=aN
    obtain⟨p1,aF,p2,aD,p3,aB,rfl,av,ax,aw⟩:=aO
    obtain⟨S,U,V,W,T,R,rfl,J,P,K⟩:=aH
    refine di' ba (cJ' (show WL _ _ _ _ _ _ (St w0 G0 X1.m _) from ?_))
    refine x' 6 z aR' z z z z z (List.all_eq_true.1 z)<|sg z z<|o'<|am'<|a'<|c'<|sr<|mv z z<|yy (bj' z z) z<|nx<|E' hr z (fun bk hr=>?_) (fun bk hr=>?_)
    .refine sr<|mv z z<|mv z z<|yy (at' (vs:=#[(1,i' i1),(2,i' Z.2)]) (v:=.agg ([.slice none 0 0,.slice none 0 0,.slice none 0 0,i' 0,i' i1,i' Z.2]).toArray) z z (fun _=>by kernel_rfl)) z<|x' 4 z sz124 z z z z z (List.all_eq_true.1 z)<|nx<|k'<|b'<|w'<|b'<|b'<|w'<|ap'<|b' ?_
     obtain rfl:_=r:=hr
     exact j' z (ak' (i:=4) ag124 z z z) ⟨_,_,_,_,_,_,z,(ah' Rp.str _),(ah' e' _),(ah' e' _)⟩
    refine l'<|a'<|n'<|yy (m' 6 ai' z z z) z<|x' 2 z aR' z z z z z (List.all_eq_true.1 z)<|o'<|v'<|a'<|n'<|mv z z<|yy (I' z z) z<|sg z z<|o'<|C' ⟨i64.wrap (i1+1),Z.1,p4,a5,p5,a3,p6,a4,X,d,g,l,m,e,k,X1.m⟩ hr ⟨(mx ab ar),aR,aU,aQ,(ai.mono ar),(am.mono ar),(ag.mono ar)⟩ (f4 z z z z) (w2 z z)
   refine U'<|h'<|h'<|y'<|W' ⟨aa,x,o,C,A,s,q,X,d,g,l,m,e,k,Q⟩ ⟨ab,aj,ao,al,ai,am,ag,hr⟩ (f3 z z z) (w2 z z)
 rintro⟨M,y,n,D,B,t,p,ah,H,E,O,L,F,I,Y⟩ ⟨aZ,ay,aL,az,a7,a9,a6,hr⟩
 refine a'<|sr<|yy (m' 2 ai' z z z) z<|mv z z<|yy (K' dx' (aA.mono aZ) z) z<|yy (at' (vs:=#[(0,.agg ((v31' M y n D B t p)).toArray),(1,i' (l1.length:Int))]) (v:=.agg ([.slice y M.vars.length n,.slice D M.eqs.length B,.slice t M.neqs.length p,i' M.next,i' (l1.length:Int),i' 0]).toArray) z z (fun _=>by kernel_rfl)) z<|x' 4 z sz124 z z z z z (List.all_eq_true.1 z)<|nx<|k' ?_
 obtain rfl:_=r:=hr
 exact j' z (ak' (i:=4) ag124 z z z) ⟨_,_,_,_,_,_,z,ay,aL,az⟩
theorem fM'{B F j k s q l m D C r}(hr:(Zgy B F).Ret r):Ctr prog 21 #[.agg ((v31' B j k s q l m)).toArray,.slice D F.length C] (fun G=>sl Rp.str G j k B.vars/\sl e' G s q B.eqs/\sl e' G l m B.neqs/\sl cg' G D C F) (w31u' r):=by
 refine A' (args:=[_,_]) (N:=17) func21 z z z (fun T S Q E=>?_)
 obtain⟨y,A,v,I⟩:=E
 refine sr<|Y' 2 z z z fun R=>O' 4 z z31 z fun U=>sg z z<|sg z z<|nr<|yy (m' 2 ai' z z z) z<|mv z z ?_
 obtain⟨n,H,hr⟩:=hr
 refine Q' z z (u' E46 z) (gG' H) z (⟨y,A,v,I⟩) (fun O P K x=>?_)
 obtain⟨d,f,h,g,c,e,rfl,p,t,o⟩:=x
 refine O' 7 z z124 z fun M=>x' 7 z sz124 z z z z z (List.all_eq_true.1 z)<|nx<|c'<|WC.drawnB [(7,bk0 M (v124' n d f h g c e) 124)] (lc z ln) [ff,ff,tt,tt,tt,tt] mix (by kernel_rfl) fun L=>cn (fun _ J=>Y0.Zn2 z)<|cn (fun _ J=>aj' ((v31' n.s d f h g c e)).toArray 7 ai' z z z (aq' ([]) ((v31' n.s d f h g c e)) ([i' n.n,i' n.e])))<|dm' z (Y0.Zn3 z)<|dm' z (g' 7 sc3 z z z)<|dm' z (Y0.Zn4 z)<|dm' z (g' 7 sc37 z z z)<|Chain.tailB L<|WLT.one (fun w u=>u.weaken (lc z ln))<|x' 4 z aR' z z z z z (List.all_eq_true.1 z)<|WLT.back<|WLT.y0 (fun w u=>u.weaken (lc z ln)) z (Y0.assign z) z<|WLT.y0 (fun w u=>u.weaken (lc z ln)) z (Y0.assign z) z<|WLT.nil (fun w u=>u.weaken (lc z ln))<|am'<|a'<|k' ?_
 obtain rfl:_=r:=hr
 exact cv' z (ak' (i:=4) ai' z z z) z z ⟨_,_,_,_,_,_,z,p,t,o⟩
theorem eq'{x1 an am aV ba bb a3 r}(hr:(Zhe x1).Ret r):Ctr prog 8 #[.agg ((v24' x1 an am aV ba bb a3)).toArray] (fun G=>sl bv' G an am x1.base/\sl bv' G aV ba x1.a/\sl bv' G bb a3 x1.b) (fun G v=>∃ Z ab ao ap T W X R al af aa S Y U ae aq V ac,v = .tuple #[.agg ((v31' r.1 Z ab ao ap T W)).toArray,.agg ((v31' r.2.1 X R al af aa S)).toArray,.agg ((v31' r.2.2 Y U ae aq V ac)).toArray]/\sl Rp.str G Z ab r.1.vars/\sl e' G ao ap r.1.eqs/\sl e' G T W r.1.neqs/\sl Rp.str G X R r.2.1.vars/\sl e' G al af r.2.1.eqs/\sl e' G aa S r.2.1.neqs/\y31' G Y U ae aq V ac r.2.2):=by
 refine A' (args:=[_]) (N:=38) func8 z z z (fun w0 G0 b8 bG=>?_)
 obtain⟨aO,bz,bw⟩:=bG
 refine sr<|Y' 1 z z z fun b1=>O' 2 z z31 z fun b2=>O' 3 z z31 z fun b3=>O' 4 z z31 z fun b4=>nr<|yy (Y0.Zos z) z<|yy (g' 1 sc22 z z z) z ?_
 obtain⟨ca,bA,hr⟩:=hr
 refine Q' z z (u' E20 z) (gr' bA) z (aO) (fun bZ b9 aH aJ=>?_)
 obtain⟨bC,bt,bH,bI,bu,bD,rfl,m,s,l⟩:=aJ
 refine O' 5 z z31 z fun b5=>x' 5 z aR' z z z z z (List.all_eq_true.1 z)<|nx<|c'<|ad' [ff,ff,ff,ff,ff,ff,ff,ff,tt,tt,ff] mix (by kernel_rfl) fun hb=>cn (fun _ d=>m' 5 ai' z z z)<|cn (fun _ d=>m' 5 ai' z z z)<|cn (fun _ d=>Y0.Zot z)<|cn (fun _ d=>g' 1 sc22 z z z) ?_
 obtain⟨bo,bB,hr⟩:=hr
 refine aw' (post:=wl' cg' bo) (fun _=>z) (fun _ _=>u' E22 z) (fh' bB) z (fun p d=>⟨(m.mono d),(s.mono d),(l.mono d),((bz.mono aH).mono d)⟩) (fun v G1 G2 d h=>?_) ?_
 .obtain⟨a2,aW,rfl,au⟩:=h
  exact⟨_,_,z,au.mono d⟩
 obtain⟨L,bE,hr⟩:=hr
 refine bz' (f:=21) (φ:=w31u' L) (fun _=>z) (fun v G1 G2 d h=>?_) (fun u p d E=>?_) ?_
 .obtain⟨D,t,H,I,y,A,rfl,g,n,e⟩:=h
  exact⟨_,_,_,_,_,_,z,g.mono d,n.mono d,e.mono d⟩
 .obtain⟨⟨a2,aW,bg,au⟩,_⟩:=(show (wl' cg' bo) p.m (u 20)/\True from E)
  exact⟨_,_,_,fun _=>u' E21 z,fM' bE,(by simp only[bg] <;> rfl),⟨(m.mono d),(s.mono d),(l.mono d),au⟩⟩
 refine bC' (φ:=w31u' L) (fun _=>z) (fun v G1 G2 d h=>?_) (fun u p d E=>?_) ?_
 .obtain⟨p1,az,p2,ax,p3,av,rfl,ai,ak,aj⟩:=h
  exact⟨_,_,_,_,_,_,z,ai.mono d,ak.mono d,aj.mono d⟩
 .obtain⟨⟨D,t,H,I,y,A,bh,g,n,e⟩,_,_⟩:=(show (w31u' L) p.m (u 21)/\True/\True from E)
  simp only[undFr,bh]
  exact⟨_,f' z,D,t,H,I,y,A,z,g,n,e⟩
 refine bC' (φ:=w31' L.1) (fun _=>z) (fun v G1 G2 d h=>?_) (fun u p d E=>?_) ?_
 .obtain⟨p4,bn,p5,bj,p6,bm,rfl,aZ,a6,aX⟩:=h
  exact⟨_,_,_,_,_,_,z,aZ.mono d,a6.mono d,aX.mono d⟩
 .obtain⟨⟨p1,az,p2,ax,p3,av,O,ai,ak,aj⟩,_,_,_⟩:=(show (w31u' L) p.m (u 15)/\True/\True/\True from E)
  simp only[undFr,O]
  exact⟨_,L' z z,p1,az,p2,ax,p3,av,z,ai,ak,aj⟩
 refine bZ' (c:=i' L.2.1) (fun _=>z) (fun u p d E=>?_) ?_
 .obtain⟨_,⟨p1,az,p2,ax,p3,av,O,ai,ak,aj⟩,_,_,_⟩:=(show True/\(w31u' L) p.m (u 15)/\True/\True/\True from E)
  simp only[undFr,O]
  exact L' z z
 refine bZ' (c:=i' L.2.2) (fun _=>z) (fun u p d E=>?_) ?_
 .obtain⟨_,⟨p1,az,p2,ax,p3,av,O,ai,ak,aj⟩,_,_,_⟩:=(show True/\(w31u' L) p.m (u 15)/\True/\True/\True from E)
  simp only[undFr,O]
  exact L' z z
 refine bJ' (fun _=>z) z31<|Chain.tailX5 (fun cb bQ bW bR bX X1 q a8 aM aK aP aQ=>?_)
 obtain⟨b6,rfl,bx⟩:=a8
 obtain⟨p4,bn,p5,bj,p6,bm,rfl,aZ,a6,aX⟩:=aM
 obtain⟨p1,az,p2,ax,p3,av,rfl,ai,ak,aj⟩:=aK
 obtain⟨D,t,H,I,y,A,rfl,g,n,e⟩:=aP
 obtain⟨a2,aW,rfl,au⟩:=aQ
 refine di' bx (cJ' (show WL _ _ _ _ _ _ (St w0 G0 X1.m _) from ?_))
 refine x' 6 z aR' z z z z z (List.all_eq_true.1 z)<|sg z z<|sg z z<|o'<|am'<|a'<|c'<|ad' [ff,ff,ff,ff,ff,ff,ff,ff,tt,tt,ff] mix (by kernel_rfl) fun hb=>cn (fun _ d=>m' 5 ai' z z z)<|cn (fun _ d=>m' 5 ai' z z z)<|cn (fun _ d=>Y0.Zou z)<|cn (fun _ d=>g' 1 sc22 z z z) ?_
 obtain⟨bl,br,hr⟩:=hr
 refine aw' (post:=wl' cg' bl) (fun _=>z) (fun _ _=>u' E22 z) (fh' br) z (fun p d=>⟨((m.mono q).mono d),((s.mono q).mono d),((l.mono q).mono d),((bw.mono (mx aH q)).mono d)⟩) (fun v G1 G2 d h=>?_) ?_
 .obtain⟨a5,aY,rfl,ar⟩:=h
  exact⟨_,_,z,ar.mono d⟩
 obtain⟨M,bF,hr⟩:=hr
 refine bz' (f:=21) (φ:=w31u' M) (fun _=>z) (fun v G1 G2 d h=>?_) (fun u p d E=>?_) ?_
 .obtain⟨C,B,K,J,F,x,rfl,k,o,j⟩:=h
  exact⟨_,_,_,_,_,_,z,k.mono d,o.mono d,j.mono d⟩
 .obtain⟨⟨a5,aY,bi,ar⟩,_⟩:=(show (wl' cg' bl) p.m (u 30)/\True from E)
  exact⟨_,_,_,fun _=>u' E21 z,fM' bF,(by simp only[bi] <;> rfl),⟨((m.mono q).mono d),((s.mono q).mono d),((l.mono q).mono d),ar⟩⟩
 refine bC' (φ:=w31u' M) (fun _=>z) (fun v G1 G2 d h=>?_) (fun u p d E=>?_) ?_
 .obtain⟨p7,ay,p8,aA,p9,aw,rfl,ah,ad,ag⟩:=h
  exact⟨_,_,_,_,_,_,z,ah.mono d,ad.mono d,ag.mono d⟩
 .obtain⟨⟨C,B,K,J,F,x,bf,k,o,j⟩,_,_⟩:=(show (w31u' M) p.m (u 31)/\True/\True from E)
  simp only[undFr,bf]
  exact⟨_,f' z,C,B,K,J,F,x,z,k,o,j⟩
 refine bC' (φ:=w31' M.1) (fun _=>z) (fun v G1 G2 d h=>?_) (fun u p d E=>?_) ?_
 .obtain⟨bk,aT,bq,a9,bp,be,rfl,aE,aG,aC⟩:=h
  exact⟨_,_,_,_,_,_,z,aE.mono d,aG.mono d,aC.mono d⟩
 .obtain⟨⟨p7,ay,p8,aA,p9,aw,P,ah,ad,ag⟩,_,_,_⟩:=(show (w31u' M) p.m (u 25)/\True/\True/\True from E)
  simp only[undFr,P]
  exact⟨_,L' z z,p7,ay,p8,aA,p9,aw,z,ah,ad,ag⟩
 refine bZ' (c:=i' M.2.1) (fun _=>z) (fun u p d E=>?_) ?_
 .obtain⟨_,⟨p7,ay,p8,aA,p9,aw,P,ah,ad,ag⟩,_,_,_⟩:=(show True/\(w31u' M) p.m (u 25)/\True/\True/\True from E)
  simp only[undFr,P]
  exact L' z z
 refine bZ' (c:=i' M.2.2) (fun _=>z) (fun u p d E=>?_) ?_
 .obtain⟨_,⟨p7,ay,p8,aA,p9,aw,P,ah,ad,ag⟩,_,_,_⟩:=(show True/\(w31u' M) p.m (u 25)/\True/\True/\True from E)
  simp only[undFr,P]
  exact L' z z
 refine bJ' (fun _=>z) z31<|Chain.tailX5 (fun cc bY bO bV bP X2 Q bc aN aL aR aI=>?_)
 obtain⟨b7,rfl,bv⟩:=bc
 obtain⟨bk,aT,bq,a9,bp,be,rfl,aE,aG,aC⟩:=aN
 obtain⟨p7,ay,p8,aA,p9,aw,rfl,ah,ad,ag⟩:=aL
 obtain⟨C,B,K,J,F,x,rfl,k,o,j⟩:=aR
 obtain⟨a5,aY,rfl,ar⟩:=aI
 refine di' bv (cJ' (show WL _ _ _ _ _ _ (St w0 G0 X2.m _) from ?_))
 refine x' 9 z aR' z z z z z (List.all_eq_true.1 z)<|sg z z<|sg z z<|o'<|am'<|a'<|c'<|WC.drawnB [(6,bk0 b6 (v31' L.1 p4 bn p5 bj p6 bm) 31),(9,bk0 b7 (v31' M.1 bk aT bq a9 bp be) 31)] (lc z (lc z ln)) [ff,tt,tt] mix (by kernel_rfl) fun hb=>cn (fun _ d=>m' 5 ai' z z z)<|dm' z (m' 6 ai' z z z)<|dm' z (m' 9 ai' z z z)<|Chain.tailB hb<|WLT.one (fun w hs=>hs.weaken (lc z (lc z ln)))<|x' 2 z aR' z z z z z (List.all_eq_true.1 z)<|WLT.back<|WLT.one (fun w hs=>hs.weaken (lc z (lc z ln)))<|x' 3 z aR' z z z z z (List.all_eq_true.1 z)<|WLT.back<|WLT.one (fun w hs=>hs.weaken (lc z (lc z ln)))<|x' 4 z aR' z z z z z (List.all_eq_true.1 z)<|WLT.back<|WLT.nil (fun w hs=>hs.weaken (lc z (lc z ln)))<|am'<|a'<|k' ?_
 obtain rfl:_=r:=hr
 exact cv' z (ak' (i:=2) ai' z z z) (ak' (i:=3) ai' z z z) (ak' (i:=4) ai' z z z) ⟨_,_,_,_,_,_,_,_,_,_,_,_,_,_,_,_,_,_,z,(m.mono (mx q Q)),(s.mono (mx q Q)),(l.mono (mx q Q)),(aZ.mono Q),(a6.mono Q),(aX.mono Q),aE,aG,aC⟩
theorem ZeK(q:ZF)(n:Option Addr)(p:Nat)(C:Option Addr)(H:Nat)(I:Option Addr)(J:Nat)(r:Bool)(hr:(ZcV q).Ret r):Ctr prog 4 #[.agg ((v24' q n p C H I J)).toArray] (fun G=>sl bv' G n p q.base/\sl bv' G C H q.a/\sl bv' G I J q.b) (fun G v=>v = .bool r):=by
 refine A' (args:=[_]) (N:=88) func4 z z z (fun w0 G0 bb aN=>?_)
 obtain⟨E,Q,R⟩:=aN
 refine sr<|Y' 1 z z z fun b1=>sg z z<|nr ?_
 obtain⟨bf,aI,hr⟩:=hr
 refine B' z z (u' E7 z) (cY' aI) z (trivial)<|sx0 z z<|c'<|sr<|mv z z<|yy (an' z) z<|nx<|ay' hr z (fun a2 hr=>?_) (fun a2 hr=>?_)
 .refine sr<|sx0 z z<|k'<|b' (k0' hr z z)
 refine l'<|a'<|sr<|yy (m' 1 ag24 z z z) z ?_
 obtain⟨bc,aJ,hr⟩:=hr
 refine Q' z z (u' E8 z) (eq' aJ) z (⟨E,Q,R⟩) (fun a7 ba a3 O=>?_)
 obtain⟨ap,an,aA,aE,af,aj,ah,ao,ax,aD,ad,ae,Y,Z,ay,aw,ar,aq,rfl,i,j,h,g,k,f,l,o,m⟩:=O
 refine mv z z<|yy (L' z z) z<|yy (L' z z) z<|yy (L' z z) z<|O' 4 z z31 z fun b2=>O' 5 z z31 z fun b3=>O' 6 z z31 z fun b4=>x' 4 z aR' z z z z z (List.all_eq_true.1 z)<|x' 5 z aR' z z z z z (List.all_eq_true.1 z)<|x' 6 z aR' z z z z z (List.all_eq_true.1 z)<|nr<|yy (m' 4 ai' z z z) z<|yy (m' 4 ai' z z z) z<|yy (m' 6 ai' z z z) z ?_
 obtain⟨bd,aL,hr⟩:=hr
 refine Q' z z (u' E10 z) (bR' aL) z (⟨i,j,h,i,j,h,l,o,m⟩) (fun a5 be c M=>?_)
 obtain⟨al,W,au,av,aa,ai,aV,aX,rfl,u,D,s,P⟩:=M
 refine mv z z<|yy (L' z z) z<|yy (L' z z) z<|yy (L' z z) z<|O' 7 z z31 z fun b5=>x' 7 z aR' z z z z z (List.all_eq_true.1 z)<|sg z z<|sg z z<|nr<|yy (m' 4 ai' z z z) z<|yy (m' 5 ai' z z z) z<|yy (m' 4 ai' z z z) z ?_
 obtain⟨a8,aG,hr⟩:=hr
 refine Q' z z (u' E10 z) (bR' aG) z (⟨(i.mono c),(j.mono c),(h.mono c),(g.mono c),(k.mono c),(f.mono c),(i.mono c),(j.mono c),(h.mono c)⟩) (fun a6 a9 d K=>?_)
 obtain⟨ak,V,aC,aB,ac,am,aR,aZ,rfl,y,B,t,T⟩:=K
 refine mv z z<|yy (L' z z) z<|yy (L' z z) z<|yy (L' z z) z<|O' 10 z z31 z fun b6=>x' 10 z aR' z z z z z (List.all_eq_true.1 z)<|sg z z<|sg z z<|nr<|yy (m' 4 ai' z z z) z<|yy (m' 5 ai' z z z) z<|yy (m' 5 ai' z z z) z ?_
 obtain⟨bh,aK,hr⟩:=hr
 have N1:=mx c d
 refine Q' z z (u' E10 z) (bR' aK) z (⟨(i.mono N1),(j.mono N1),(h.mono N1),(g.mono N1),(k.mono N1),(f.mono N1),(g.mono N1),(k.mono N1),(f.mono N1)⟩) (fun a4 bg e L=>?_)
 obtain⟨ab,X,aF,az,U,ag,aY,aS,rfl,x,F,A,S⟩:=L
 refine mv z z<|yy (L' z z) z<|yy (L' z z) z<|yy (L' z z) z<|O' 13 z z31 z fun b7=>x' 13 z aR' z z z z z (List.all_eq_true.1 z)<|sg z z<|sg z z<|nr<|mv z z<|ao' hr z (au' z z) z (fun a1 hr=>?_) (fun a1 hr=>?_)
 .refine mv z z<|gy z z (f' z) z<|ao' hr (D' z z) (au' z z) z (fun aT hr=>?_) (fun aT hr=>?_)
  .refine yy (t' z z) z<|mv z z<|gy z z (f' z) z<|ao' hr (D' z z) (au' z z) z (fun aU hr=>?_) (fun aU hr=>?_)
   .refine yy (t' z z) z<|mv z z<|gy z z (f' z) z<|gy z z (K' aU' (P.mono (mx d e)) z) z<|gy z z (f' z) z<|gy z z (K' aU' (T.mono e) z) z<|gy z z (I' z z) z<|gy z z (f' z) z<|gy z z (K' aU' S z) z<|gy z z (I' z z) z<|ao' hr (D' z z) (au' z z) z (fun a0 hr=>?_) (fun a0 hr=>?_)
    .refine yy (t' z z) z<|mv z z<|gy z z (m' 7 ai' z z z) z<|gy z z (m' 6 ai' z z z) z ?_
     obtain⟨aQ,aH,hr⟩:=hr
     refine B' (D' z z) z (u' E11 z) (cD' aH) z (⟨(u.mono (mx d e)),(D.mono (mx d e)),(s.mono (mx d e)),(l.mono (mx N1 e)),(o.mono (mx N1 e)),(m.mono (mx N1 e))⟩) ?_
     cases aQ
     .refine yy (t' z z) z<|mv z z<|sn3 z<|yy (p' z z) z<|mv z z<|sn3 z<|yy (p' z z) z<|mv z z<|sk z z z<|yy (p' z z) z<|sx0 z z<|k' (k0' hr z z)
     refine yy (t' z z) z<|mv z z<|gy z z (m' 10 ai' z z z) z<|gy z z (m' 5 ai' z z z) z ?_
     obtain⟨aW,aM,hr⟩:=hr
     refine B' (D' z z) z (u' E11 z) (cD' aM) z (⟨(y.mono e),(B.mono e),(t.mono e),(g.mono (mx N1 e)),(k.mono (mx N1 e)),(f.mono (mx N1 e))⟩) ?_
     cases aW
     .refine yy (t' z z) z<|mv z z<|sn3 z<|yy (p' z z) z<|mv z z<|sk z z z<|yy (p' z z) z<|sx0 z z<|k' (k0' hr z z)
     refine yy (t' z z) z<|mv z z<|gy z z (m' 13 ai' z z z) z<|gy z z (m' 5 ai' z z z) z ?_
     obtain⟨aP,aO,hr⟩:=hr
     refine B' (D' z z) z (u' E11 z) (cD' aO) z (⟨x,F,A,(g.mono (mx N1 e)),(k.mono (mx N1 e)),(f.mono (mx N1 e))⟩) ?_
     cases aP
     .refine yy (t' z z) z<|mv z z<|sk z z z<|yy (p' z z) z<|sx0 z z<|k' (k0' hr z z)
     refine yy (t' z z) z<|mv z z<|gy z z (f' z) z<|yy (t' z z) z<|sx0 z z<|k' (k0' hr z z)
    refine yy (t' z z) z<|mv z z<|sn3 z<|yy (p' z z) z<|mv z z<|sn3 z<|yy (p' z z) z<|mv z z<|sn3 z<|yy (p' z z) z<|mv z z<|sk z z z<|yy (p' z z) z<|sx0 z z<|k' (k0' hr z z)
   refine yy (t' z z) z<|mv z z<|sn9 z<|yy (p' z z) z<|mv z z<|sn3 z<|yy (p' z z) z<|mv z z<|sn3 z<|yy (p' z z) z<|mv z z<|sn3 z<|yy (p' z z) z<|mv z z<|sk z z z<|yy (p' z z) z<|sx0 z z<|k' (k0' hr z z)
  refine yy (t' z z) z<|mv z z<|sn2 z<|yy (p' z z) z<|mv z z<|sn9 z<|yy (p' z z) z<|mv z z<|sn3 z<|yy (p' z z) z<|mv z z<|sn3 z<|yy (p' z z) z<|mv z z<|sn3 z<|yy (p' z z) z<|mv z z<|sk z z z<|yy (p' z z) z<|sx0 z z<|k' (k0' hr z z)
 refine mv z z<|sn2 z<|yy (p' z z) z<|mv z z<|sn2 z<|yy (p' z z) z<|mv z z<|sn9 z<|yy (p' z z) z<|mv z z<|sn3 z<|yy (p' z z) z<|mv z z<|sn3 z<|yy (p' z z) z<|mv z z<|sn3 z<|yy (p' z z) z<|mv z z<|sk z z z<|yy (p' z z) z<|sx0 z z<|k' (k0' hr z z)
end Go.Proofs.YtnbpjambcagjcaaGreat

