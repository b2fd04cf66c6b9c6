/- The law VersionMatchesReference holds for every input: a part of its proof (what the code does, plain models, and what they return). No condition. -/
import Derived.Test.YtnjiloaolgjedaaGreatXMR23f
import Derived.Test.YtnjiloaolgjedaaGreatXMR23d
set_option linter.unusedVariables false
set_option linter.unusedSimpArgs false
namespace Go.Proofs.YtnjiloaolgjedaaGreat
open Go.IntKind (i8 i16 i32 i64 u8 u16 u32 u64)
open Go.Proofs.Tryz
open Go Go.EL Go.RowKit Go.Proofs
theorem er'{d f s q n m j h F A r}(hr:(Z7 d f).Ret r):Ctr prog 55 #[.agg ((v31' d s q n m j h)).toArray,.agg ((v48' f F A)).toArray] (fun G=>sl Rp.str G s q d.vars/\sl b' G n m d.eqs/\sl b' G j h d.neqs/\sl K' G F A f.p) (w31t' r):=by
 refine E' (args:=[_,_]) (N:=157) func55 z z z (fun w0 G0 aa a7=>?_)
 obtain⟨g,l,k,I⟩:=a7
 refine sr<|af' 2 z z z fun b1=>af' 3 z z z fun b2=>V' 4 z z31 z fun b3=>sg z z<|nr<|yy (o' 2 at' z z z) z<|yy (o' 3 bO' z z z) z ?_
 obtain⟨c2,bi,hr⟩:=hr
 refine F' z z (t' E71 z) (fO' bi) z (⟨g,l,k,I⟩)<|sx0 z z<|n'<|sr<|mv z z<|yy (aw' z z) z<|nx<|L' hr z (fun bY hr=>?_) (fun bY hr=>?_)
 .refine sr<|yy (av' (vs:=#[]) (v:=.agg ([.slice none 0 0,.slice none 0 0,.slice none 0 0,i' 0]).toArray) z z (fun _=>by kernel_rfl)) z<|mv z z<|s' 4 z aV' z z z z z (List.all_eq_true.1 z)<|sx0 z z<|j'<|a' ?_
  obtain rfl:_=r:=hr
  exact aE' z (aa' (i:=4) at' z z z) z ⟨_,_,_,_,_,_,z,(W' Rp.str _),(W' b' _),(W' b' _)⟩
 refine q'<|g'<|sr<|yy (aH' z) z<|yy (f' 2 bC' z z z) z<|yy (M' H' g z) z<|sg z z<|nr<|yy (o' 2 at' z z z) z<|V' 8 z z31 z fun b4=>s' 8 z aV' z z z z z (List.all_eq_true.1 z)<|nr<|WL.litT (e:=9) (r:=Rp.str) (vs:=#[]) (cs:=[]) ([]:List ByteArray) 4021 z z z z z (by decide) (fun _=>by kernel_rfl) (z) fun p1 cP bD=>yy (aH' z) z<|yy (f' 2 bC' z z z) z ?_
 obtain⟨bc,hr⟩:=hr
 refine ct' (r:=Rp.str) (e:=9) 4021 z z H' el9 z (by decide) z z bD z g bc fun p2 ax cy af=>yy (aH' z) z<|aC' 8 ([.slice p2 ([]++d.vars).length ax,.slice n d.eqs.length m,.slice j d.neqs.length h,i' d.next]).toArray z sz28 z z z (show 0<4 by decide) z z<|nx<|n'<|sr<|yy (cA' z) z<|yy (f' 3 sc3 z z z) z<|nx<|B'<|sr<|yy (au' z z) z<|sx0 z z<|L' hr z (fun bR hr=>?_) (fun bR hr=>?_)
 .refine n'<|ah' [ff,ff,ff,ff,ff,ff,ff,ff,ff,ff,ff,ff,ff,ff,ff,ff] mix (by kernel_rfl) fun p=>dz' (r:=Rp.str) (e:=9) ([]:List ByteArray) (fun _=>z) z (by decide) (fun u o c t=>?_) ?_
  .exact⟨#[],[],z,z,fun _=>by kernel_rfl,z⟩
  refine cu (fun _ _ c=>aH' z)<|cu (fun _ _ c=>f' 2 bC' z z z)<|cu (fun _ _ c=>aJ' z)<|cu (fun _ _ c=>f' 3 sc3 z z z) ?_
  obtain⟨bM,hr⟩:=hr
  obtain⟨p3,b7,bZ,bS⟩:=SlR.cut (r:=Rp.str) none (some (i' f.at')) sz9 z H' g (.inl ⟨z,z⟩) (.inr ⟨_,z⟩) bM
  refine cu (fun _ _ c=>Y0.cutH H' bS z z) ?_
  obtain⟨bf,hr⟩:=hr
  refine bY' (r:=Rp.str) (e:=9) (kk:=33) (xs:=([]:List ByteArray)) ((d.vars.take f.at'.toNat).drop (0:Int).toNat) (fun _=>z) z (by kernel_rfl) (by kernel_rfl) H' el9 z (by decide) bf (fun u o c t=>?_) ?_
  .obtain⟨aP,_⟩:=(show (RowX Rp.str 9 33 ([]:List ByteArray)) (u 33) o/\True from t)
   exact⟨u 33,.slice p3 ((d.vars.take f.at'.toNat).drop (0:Int).toNat).length b7,aP,z,z,(bZ.mono c)⟩
  refine cu (fun _ _ c=>ca' z)<|cu (fun _ _ c=>f' 3 sc9 z z z)<|eE' (r:=Rp.str) (e:=9) ([f.name]:List ByteArray) (fun _=>z) z (by decide) (fun u o c t=>?_) ?_
  .exact⟨#[(0,.string f.name)],[.string f.name]++([]),z,z,fun _=>by kernel_rfl,⟨[.string f.name],[],z,z,z⟩⟩
  obtain⟨bo,hr⟩:=hr
  refine bY' (r:=Rp.str) (e:=9) (kk:=39) (xs:=(([]:List ByteArray)++((d.vars.take f.at'.toNat).drop (0:Int).toNat))) [f.name] (fun _=>z) z (by kernel_rfl) (by kernel_rfl) H' el9 z (by decide) bo (fun u o c t=>?_) ?_
  .obtain⟨⟨p4,ap,aQ,a4⟩,aK,_,_⟩:=(show (fun G v=>∃ p4 ap,v = .slice p4 1 1/\SlRd Rp.str G (.slice p4 1 1) ap [f.name]) o.m (u 42)/\(RowX Rp.str 9 39 (([]:List ByteArray)++((d.vars.take f.at'.toNat).drop (0:Int).toNat))) (u 39) o/\True/\True from t)
   exact⟨u 39,.slice p4 1 1,aK,z,(by simp only[undFr,eatO,List.map_cons,List.map_nil,aQ] <;> rfl),a4⟩
  refine cu (fun _ _ c=>aH' z)<|cu (fun _ _ c=>f' 2 bC' z z z)<|cu (fun _ _ c=>aJ' z)<|cu (fun _ _ c=>f' 3 sc3 z z z) ?_
  obtain⟨bF,hr⟩:=hr
  obtain⟨p5,c7,bH,b0⟩:=SlR.cut (r:=Rp.str) (some (i' f.at')) none sz9 z H' g (.inr ⟨_,z⟩) (.inl ⟨z,z⟩) bF
  refine cu (fun _ _ c=>Y0.cutL H' b0 z z)<|cn' (fun cA cN cz cv X1 L ai ag bC bB=>?_)
  obtain⟨p4,ap,rfl,a4⟩:=ag
  refine WL.adoptR ai (fun cR cO co bl bj cI=>?_)
  subst bl
  refine cf' (show WL _ _ _ _ _ _ (St w0 G0 X1.m _) from ?_)
  obtain⟨a9,hr⟩:=hr
  refine ct' (r:=Rp.str) (e:=9) 43 z z H' el9 z (by decide) z z bj z (bH.mono L) a9 fun p6 aq cL bP=>yy (aH' z) z<|aC' 8 ([.slice p6 (((([]:List ByteArray)++((d.vars.take f.at'.toNat).drop (0:Int).toNat))++[f.name])++((d.vars.take (d.vars.length:Int).toNat).drop f.at'.toNat)).length aq,.slice n d.eqs.length m,.slice j d.neqs.length h,i' d.next]).toArray z sz28 z z z (show 0<4 by decide) z z<|u'<|aq'<|g'<|n'<|ah' [ff,ff,ff,ff,ff,ff] mix (by kernel_rfl) fun p=>cn (fun _ c=>aY' z)<|cn (fun _ c=>f' 2 br' z z z)<|cn (fun _ c=>e' z)<|cn (fun _ c=>aJ' z)<|cn (fun _ c=>f' 3 sc3 z z z) ?_
  obtain⟨cV,bv,hr⟩:=hr
  refine bD' z (fun _=>t' E73 z) (dI' bv) z (fun o c=>trivial)<|R' p ?_
  obtain⟨aV,br,hr⟩:=hr
  refine P' z z (t' E72 z) (dK' br) z ((l.mono L)) (fun cH c3 Z aj=>?_)
  obtain⟨ak,ay,rfl,bn⟩:=aj
  refine yy (aY' z) z<|aC' 8 ([.slice p6 (((([]:List ByteArray)++((d.vars.take f.at'.toNat).drop (0:Int).toNat))++[f.name])++((d.vars.take (d.vars.length:Int).toNat).drop f.at'.toNat)).length aq,.slice ak aV.length ay,.slice j d.neqs.length h,i' d.next]).toArray z sz29 z z z (show 1<4 by decide) z z<|u'<|aq'<|g'<|ah' [ff,ff,ff,ff,ff,ff] mix (by kernel_rfl) fun p=>cn (fun _ c=>ba' z)<|cn (fun _ c=>f' 2 br' z z z)<|cn (fun _ c=>e' z)<|cn (fun _ c=>aJ' z)<|cn (fun _ c=>f' 3 sc3 z z z) ?_
  obtain⟨c1,bg,hr⟩:=hr
  refine bD' z (fun _=>t' E73 z) (dI' bg) z (fun o c=>trivial)<|R' p ?_
  obtain⟨b9,a6,hr⟩:=hr
  refine P' z z (t' E72 z) (dK' a6) z ((k.mono (mt L Z))) (fun cJ c6 ab ah=>?_)
  obtain⟨bx,bA,rfl,bk⟩:=ah
  refine yy (ba' z) z<|aC' 8 ([.slice p6 (((([]:List ByteArray)++((d.vars.take f.at'.toNat).drop (0:Int).toNat))++[f.name])++((d.vars.take (d.vars.length:Int).toNat).drop f.at'.toNat)).length aq,.slice ak aV.length ay,.slice bx b9.length bA,i' d.next]).toArray z sz29 z z z (show 2<4 by decide) z z<|u'<|aq'<|J'<|g'<|sr<|bn' (r:=Rp.str) (e:=9) 43 (bP.mono (mt Z ab)) z (by rw[aa]; rfl) fun c4 cW ad bm cd=>yy (o' 8 at' z z z) z<|s' 4 z aV' z z z z z (List.all_eq_true.1 z)<|sx0 z z<|j' ?_
  obtain rfl:_=r:=hr
  exact aE' z (aa' (i:=4) at' z z z) z ⟨_,_,_,_,_,_,z,bm,(bn.mono (mt ab ad)),(bk.mono ad)⟩
 refine sr<|yy (au' z z) z<|sx0 z z<|L' hr z (fun bG hr=>?_) (fun bG hr=>?_)
 .refine n'<|ah' [ff,ff,ff,ff,ff,ff,ff,ff,ff,ff,ff,ff,ff] mix (by kernel_rfl) fun p=>dz' (r:=Rp.str) (e:=9) ([]:List ByteArray) (fun _=>z) z (by decide) (fun u o c t=>?_) ?_
  .exact⟨#[],[],z,z,fun _=>by kernel_rfl,z⟩
  refine cu (fun _ _ c=>aH' z)<|cu (fun _ _ c=>f' 2 bC' z z z)<|cu (fun _ _ c=>aJ' z)<|cu (fun _ _ c=>f' 3 sc3 z z z) ?_
  obtain⟨bQ,hr⟩:=hr
  obtain⟨p7,bL,bW,bX⟩:=SlR.cut (r:=Rp.str) none (some (i' f.at')) sz9 z H' g (.inl ⟨z,z⟩) (.inr ⟨_,z⟩) bQ
  refine cu (fun _ _ c=>Y0.cutH H' bX z z) ?_
  obtain⟨bs,hr⟩:=hr
  refine bY' (r:=Rp.str) (e:=9) (kk:=69) (xs:=([]:List ByteArray)) ((d.vars.take f.at'.toNat).drop (0:Int).toNat) (fun _=>z) z (by kernel_rfl) (by kernel_rfl) H' el9 z (by decide) bs (fun u o c t=>?_) ?_
  .obtain⟨ar,_⟩:=(show (RowX Rp.str 9 69 ([]:List ByteArray)) (u 69) o/\True from t)
   exact⟨u 69,.slice p7 ((d.vars.take f.at'.toNat).drop (0:Int).toNat).length bL,ar,z,z,(bW.mono c)⟩
  refine cu (fun _ _ c=>aH' z)<|cu (fun _ _ c=>f' 2 bC' z z z)<|cu (fun _ _ c=>aJ' z)<|cu (fun _ _ c=>f' 3 sc3 z z z)<|cu (fun _ _ c=>X' z z) ?_
  obtain⟨b8,hr⟩:=hr
  obtain⟨p8,cS,cb,bE⟩:=SlR.cut (r:=Rp.str) (some (i' (i64.wrap (f.at'+1)))) none sz9 z H' g (.inr ⟨_,z⟩) (.inl ⟨z,z⟩) b8
  refine cu (fun _ _ c=>Y0.cutL H' bE z z)<|eg' fun cj cp X2 Q R a8=>WL.adoptR R (fun ch cl bK aL aF cr=>?_)
  subst aL
  refine cf' (show WL _ _ _ _ _ _ (St w0 G0 X2.m _) from ?_)
  obtain⟨bz,hr⟩:=hr
  refine ct' (r:=Rp.str) (e:=9) 75 z z H' el9 z (by decide) z z aF z (cb.mono Q) bz fun p9 aw cK ca=>yy (aH' z) z<|aC' 8 ([.slice p9 ((([]:List ByteArray)++((d.vars.take f.at'.toNat).drop (0:Int).toNat))++((d.vars.take (d.vars.length:Int).toNat).drop (i64.wrap (f.at'+1)).toNat)).length aw,.slice n d.eqs.length m,.slice j d.neqs.length h,i' d.next]).toArray z sz28 z z z (show 0<4 by decide) z z<|u'<|aq'<|g'<|n'<|ah' [ff,ff,ff,ff,ff,ff,ff] mix (by kernel_rfl) fun p=>cn (fun _ c=>aY' z)<|cn (fun _ c=>f' 2 br' z z z)<|cn (fun _ c=>aJ' z)<|cn (fun _ c=>f' 3 sc3 z z z)<|cn (fun _ c=>e' z)<|cn (fun _ c=>bj' z z) ?_
  obtain⟨cM,aO,hr⟩:=hr
  refine bD' z (fun _=>t' E73 z) (dI' aO) z (fun o c=>trivial)<|R' p ?_
  obtain⟨ao,aS,hr⟩:=hr
  refine P' z z (t' E72 z) (dK' aS) z ((l.mono Q)) (fun ck cZ T M=>?_)
  obtain⟨ae,ac,rfl,aD⟩:=M
  refine yy (aY' z) z<|aC' 8 ([.slice p9 ((([]:List ByteArray)++((d.vars.take f.at'.toNat).drop (0:Int).toNat))++((d.vars.take (d.vars.length:Int).toNat).drop (i64.wrap (f.at'+1)).toNat)).length aw,.slice ae ao.length ac,.slice j d.neqs.length h,i' d.next]).toArray z sz29 z z z (show 1<4 by decide) z z<|u'<|aq'<|g'<|ah' [ff,ff,ff,ff,ff,ff,ff] mix (by kernel_rfl) fun p=>cn (fun _ c=>ba' z)<|cn (fun _ c=>f' 2 br' z z z)<|cn (fun _ c=>aJ' z)<|cn (fun _ c=>f' 3 sc3 z z z)<|cn (fun _ c=>e' z)<|cn (fun _ c=>bj' z z) ?_
  obtain⟨cx,aA,hr⟩:=hr
  refine bD' z (fun _=>t' E73 z) (dI' aA) z (fun o c=>trivial)<|R' p ?_
  obtain⟨bq,az,hr⟩:=hr
  refine P' z z (t' E72 z) (dK' az) z ((k.mono (mt Q T))) (fun cm c0 Y K=>?_)
  obtain⟨aJ,aT,rfl,aB⟩:=K
  refine yy (ba' z) z<|aC' 8 ([.slice p9 ((([]:List ByteArray)++((d.vars.take f.at'.toNat).drop (0:Int).toNat))++((d.vars.take (d.vars.length:Int).toNat).drop (i64.wrap (f.at'+1)).toNat)).length aw,.slice ae ao.length ac,.slice aJ bq.length aT,i' d.next]).toArray z sz29 z z z (show 2<4 by decide) z z<|u'<|aq'<|J'<|g'<|sr<|bn' (r:=Rp.str) (e:=9) 75 (ca.mono (mt T Y)) z (by rw[aa]; rfl) fun cU c9 V bb cg=>yy (o' 8 at' z z z) z<|s' 4 z aV' z z z z z (List.all_eq_true.1 z)<|sx0 z z<|j' ?_
  obtain rfl:_=r:=hr
  exact aE' z (aa' (i:=4) at' z z z) z ⟨_,_,_,_,_,_,z,bb,(aD.mono (mt Y V)),(aB.mono V)⟩
 refine sr<|yy (au' z z) z<|sx0 z z<|L' hr z (fun bN hr=>?_) (fun bN hr=>?_)
 .refine A'<|yy (aH' z) z<|yy (f' 8 bC' z z z) z<|yy (aJ' z) z<|yy (f' 3 sc3 z z z) z<|yy (ca' z) z<|yy (f' 3 sc9 z z z) z ?_
  obtain⟨x1,a2,hr⟩:=hr
  refine yy (aP' H' sz9 af z z a2) z<|bx' (r:=Rp.str) (e:=9) (cs':=[.string f.name]) (i:=f.at') (z':=f.name) 4021 z sz9 z af z z z z z a2 fun da bw=>u'<|J'<|g'<|sr<|bn' (r:=Rp.str) (e:=9) 4021 bw z (by rw[aa]; rfl) fun c5 cT X al ce=>yy (o' 8 at' z z z) z<|s' 4 z aV' z z z z z (List.all_eq_true.1 z)<|sx0 z z<|j' ?_
  obtain rfl:_=r:=hr
  exact aE' z (aa' (i:=4) at' z z z) z ⟨_,_,_,_,_,_,(by rw[cH' al]),(cw' al),(l.mono X),(k.mono X)⟩
 refine sr<|yy (au' z z) z<|sx0 z z<|L' hr z (fun bT hr=>?_) (fun bT hr=>?_)
 .refine sr ?_
  obtain⟨y,aR,hr⟩:=hr
  refine F' z z (t' E73 z) (dI' aR) z (trivial)<|V' 9 z z119 z fun b5=>s' 9 z sz119 z z z (ac' _ _ _) (ac' _ _ _) (fun u t=>Rp.one (dw' .i64 8) (G:=G0) (x:=y) (cs:=vecG (Value.int .i64) 8 y) z u (by first|simpa using t|simpa [Value.cells] using t))<|nr<|yy (aJ' z) z<|yy (f' 3 sc3 z z z) z<|yy (cy' z) z<|yy (f' 3 sc3 z z z) z ?_
  obtain⟨bI,hr⟩:=hr
  refine yy (bi' be' sz3 z z bI) z<|aC' 9 (vecG (Value.int .i64) 8 (setF y f.at'.toNat f.to')).toArray z sz3 z z z (by first|(rw[ac']; omega)|(show _<(vecG _ _ _).toArray.size; rw[ac']; omega)) z (ci' _ _ _ _ _)<|nr<|yy (cy' z) z<|yy (f' 3 sc3 z z z) z<|yy (aJ' z) z<|yy (f' 3 sc3 z z z) z ?_
  obtain⟨b6,hr⟩:=hr
  refine yy (bi' be' sz3 z z b6) z<|aC' 9 (vecG (Value.int .i64) 8 (setF (setF y f.at'.toNat f.to') f.to'.toNat f.at')).toArray z sz3 z z z (by first|(rw[ac']; omega)|(show _<(vecG _ _ _).toArray.size; rw[ac']; omega)) z (ci' _ _ _ _ _)<|nx<|n'<|ah' [ff,ff,ff,ff,ff,ff,ff,ff,ff,ff] mix (by kernel_rfl) fun p=>cn (fun _ c=>aH' z)<|cn (fun _ c=>f' 8 bC' z z z)<|cn (fun _ c=>aJ' z)<|cn (fun _ c=>f' 3 sc3 z z z)<|cn (fun _ c=>aH' z)<|cn (fun _ c=>f' 2 bC' z z z)<|cn (fun _ c=>cy' z)<|cn (fun _ c=>f' 3 sc3 z z z) ?_
  obtain⟨x2,a1,hr⟩:=hr
  refine cn (fun _ c=>T' H' sz9 (g.mono c) z z a1)<|cn (fun _ c=>Z' sc9 z (cb' (I' (ae' g a1) c)))<|R' p ?_
  obtain⟨x3,a0,hr⟩:=hr
  refine yy (aP' H' sz9 af z z a0) z<|bx' (r:=Rp.str) (e:=9) (cs':=[.string x2]) (i:=f.at') (z':=x2) 4021 z sz9 z af z z z z z a0 fun c8 au=>u'<|aq'<|g'<|n'<|ah' [ff,ff,ff,ff,ff,ff,ff,ff,ff,ff] mix (by kernel_rfl) fun p=>cn (fun _ c=>aH' z)<|cn (fun _ c=>f' 8 bC' z z z)<|cn (fun _ c=>cy' z)<|cn (fun _ c=>f' 3 sc3 z z z)<|cn (fun _ c=>aH' z)<|cn (fun _ c=>f' 2 bC' z z z)<|cn (fun _ c=>aJ' z)<|cn (fun _ c=>f' 3 sc3 z z z) ?_
  obtain⟨x4,aY,hr⟩:=hr
  refine cn (fun _ c=>T' H' sz9 (g.mono c) z z aY)<|cn (fun _ c=>Z' sc9 z (cb' (I' (ae' g aY) c)))<|R' p ?_
  obtain⟨x5,aW,hr⟩:=hr
  refine yy (aP' H' sz9 au z z aW) z<|bx' (r:=Rp.str) (e:=9) (cs':=[.string x4]) (i:=f.to') (z':=x4) 4021 z sz9 z au z z z z z aW fun cX bu=>u'<|aq'<|g'<|sr<|yy (aY' z) z<|yy (f' 2 br' z z z) z<|yy (o' 9 ag119 z z (ac' _ _ _)) z ?_
  obtain⟨an,aM,hr⟩:=hr
  refine P' z z (t' E72 z) (dK' aM) z (l) (fun cf cQ H S=>?_)
  obtain⟨W,U,rfl,aG⟩:=S
  refine yy (aY' z) z<|aC' 8 ([.slice p2 ([]++d.vars).length ax,.slice W an.length U,.slice j d.neqs.length h,i' d.next]).toArray z sz29 z z z (show 1<4 by decide) z z<|nx<|A'<|yy (ba' z) z<|yy (f' 2 br' z z z) z<|yy (o' 9 ag119 z z (ac' _ _ _)) z ?_
  obtain⟨a5,aH,hr⟩:=hr
  refine P' z z (t' E72 z) (dK' aH) z ((k.mono H)) (fun cc cB C O=>?_)
  obtain⟨aE,aN,rfl,aC⟩:=O
  refine yy (ba' z) z<|aC' 8 ([.slice p2 ([]++d.vars).length ax,.slice W an.length U,.slice aE a5.length aN,i' d.next]).toArray z sz29 z z z (show 2<4 by decide) z z<|u'<|J'<|g'<|sr<|bn' (r:=Rp.str) (e:=9) 4021 (bu.mono (mt H C)) z (by rw[aa]; rfl) fun cY cF D am ci=>yy (o' 8 at' z z z) z<|s' 4 z aV' z z z z z (List.all_eq_true.1 z)<|sx0 z z<|j' ?_
  obtain rfl:_=r:=hr
  exact aE' z (aa' (i:=4) at' z z z) z ⟨_,_,_,_,_,_,(by rw[cH' am]),(cw' am),(aG.mono (mt C D)),(aC.mono D)⟩
 refine sr<|yy (o' 2 at' z z z) z<|yy (o' 3 bO' z z z) z ?_
 obtain⟨cE,aI,hr⟩:=hr
 refine P' z z (t' E74 z) (ge' aI) z (⟨g,l,k,I⟩) (fun cq cD bO J=>?_)
 obtain⟨aU,aX,be,bh,a3,aZ,rfl,E,P,B⟩:=J
 refine s' 4 z aV' z z z z z (List.all_eq_true.1 z)<|sx0 z z<|j'<|m'<|a' ?_
 obtain rfl:_=r:=hr
 exact aE' z (aa' (i:=4) at' z z z) z ⟨_,_,_,_,_,_,z,E,P,B⟩
theorem gV'{l1 V av ax r}(hr:(ZiM l1 V).Ret r):Ctr prog 35 #[.slice av l1.length ax,i' V] (fun G=>sl cr' G av ax l1) (w31' r):=by
 refine E' (args:=[_,_]) (N:=36) func35 z z z (fun w0 G0 bh aO=>?_)
 have ar:=aO
 refine sr<|V' 4 z z31 z fun b1=>nr<|yy (av' (vs:=#[(3,i' 1)]) (v:=.agg ([.slice none 0 0,.slice none 0 0,.slice none 0 0,i' 1]).toArray) z z (fun _=>by kernel_rfl)) z<|V' 5 z z31 z fun b2=>s' 5 z aV' z z z z z (List.all_eq_true.1 z)<|nx<|n'<|sr<|sx0 z z<|am' (fun (⟨Q,A,t,D,C,y,s,S⟩:Za×Option Addr×Nat×Option Addr×Nat×Option Addr×Nat×Mem)=>[(4,pt0 b1),(5,pt0 b2)]) (fun ⟨Q,A,t,D,C,y,s,S⟩=>Mem.le G0 S/\sl Rp.str S A t Q.vars/\sl b' S D C Q.eqs/\sl b' S y s Q.neqs/\(ZfN Q).Ret r) (fun ⟨Q,A,t,D,C,y,s,S⟩=>St w0 G0 S [(4,bk0 b1 ([.slice none 0 0,.slice none 0 0,.slice none 0 0,i' 0]) 31),(5,bk0 b2 (v31' Q A t D C y s) 31)]) ?_ ?_
 .refine B' ?_
  let aq:Za->Prop:=fun oo=>((fun ov=>match ov with|Q=>ZfN Q:Za->Cq Za) oo).wp (fun a=>a=r)
  replace hr:(Cq.loop _ _).wp aq:=hr
  refine an' (Φ:=aq) (fun (⟨Y,L,l,e,n,m,g,k,P⟩:Int×Za×Option Addr×Nat×Option Addr×Nat×Option Addr×Nat×Mem)=>((Y,L):Int×Za)) (fun ⟨Y,L,l,e,n,m,g,k,P⟩=>[(0,.slice av l1.length ax),(1,i' V),(4,pt0 b1),(5,pt0 b2),(6,i' Y)]) (fun ⟨Y,L,l,e,n,m,g,k,P⟩=>Mem.le G0 P/\y31' P l e n m g k L) (fun ⟨Y,L,l,e,n,m,g,k,P⟩=>St w0 G0 P [(4,bk0 b1 ([.slice none 0 0,.slice none 0 0,.slice none 0 0,i' 0]) 31),(5,bk0 b2 (v31' L l e n m g k) 31)]) ⟨0,(Za.mk [] [] [] 1),none,0,none,0,none,0,G0⟩ hr (f5 z z z z z) ⟨mr,(W' _ _),(W' _ _),(W' _ _)⟩ (w2 z z) ?_
  .intro bg gx hx hr
   obtain⟨Y,L,l,e,n,m,g,k,P⟩:=gx
   obtain⟨I,q,E,x⟩:=hx
   refine n'<|sr<|mv z z<|mv z z<|yy (M' da' (ar.mono I) z) z<|ad' hr z (ai' z z) z (fun aW hr=>?_) (fun aW hr=>?_)
   .refine mv z z<|gy z z (e' z) z<|gy z z (e' z) z<|gy z z (ai' z z) z<|yy (h' z z) z<|nx<|L' hr z (fun a0 hr=>?_) (fun a0 hr=>?_)
    .refine q'<|g'<|n'<|B'<|n'<|ah' [ff,ff,ff,ff,ff,ff,ff,ff,ff,ff,tt,ff] mix (by kernel_rfl) fun hb=>cn (fun _ d=>o' 5 at' z z z)<|cn (fun _ d=>o' 5 at' z z z)<|cn (fun _ d=>e' z)<|cn (fun _ d=>e' z) ?_
     obtain⟨x1,aN,hr⟩:=hr
     refine cn (fun _ d=>T' da' sz54 ((ar.mono I).mono d) z z aN) ?_
     obtain⟨a3,a4,aX,aF⟩:=ZeN (I' (ae' ar aN) I)
     refine cn (fun _ d=>aA' _ ag54 z z (fun j v hv=>d _ _ _ (aX j v hv))) ?_
     obtain⟨aJ,aR,hr⟩:=hr
     refine aX' (post:=w48' aJ) (fun _=>z) (fun _ _=>t' E19 z) (eY' aR) z (fun G' d=>⟨(q.mono d),(E.mono d),(x.mono d),(aF.mono d)⟩) (fun v G1 G2 d h=>?_) ?_
     .obtain⟨ag,aj,rfl,T⟩:=h
      exact⟨_,_,z,T.mono d⟩
     obtain⟨R,aU,hr⟩:=hr
     refine cD' (f:=55) (φ:=w31t' R) (fun _=>z) (fun v G1 G2 d h=>?_) (fun u G' d hu=>?_) ?_
     .obtain⟨K,J,M,O,H,F,rfl,p,B,o⟩:=h
      exact⟨_,_,_,_,_,_,z,p.mono d,B.mono d,o.mono d⟩
     .obtain⟨⟨ag,aj,aA,T⟩,_⟩:=(show (w48' aJ) G'.m (u 28)/\True from hu)
      exact⟨_,_,_,fun _=>t' E55 z,er' aU,(by simp only[aA] <;> rfl),⟨(q.mono d),(E.mono d),(x.mono d),T⟩⟩
     refine bm' (φ:=w31t' R) (fun _=>z) (fun v G1 G2 d h=>?_) (fun u G' d hu=>?_) ?_
     .obtain⟨p1,af,p2,ai,p3,ah,rfl,X,ab,Z⟩:=h
      exact⟨_,_,_,_,_,_,z,X.mono d,ab.mono d,Z.mono d⟩
     .obtain⟨⟨K,J,M,O,H,F,aH,p,B,o⟩,_,_⟩:=(show (w31t' R) G'.m (u 29)/\True/\True from hu)
      simp only[undFr,aH]
      exact⟨_,e' z,K,J,M,O,H,F,z,p,B,o⟩
     refine bm' (φ:=w31' R.1) (fun _=>z) (fun v G1 G2 d h=>?_) (fun u G' d hu=>?_) ?_
     .obtain⟨p4,aK,p5,aM,p6,aL,rfl,az,au,ay⟩:=h
      exact⟨_,_,_,_,_,_,z,az.mono d,au.mono d,ay.mono d⟩
     .obtain⟨⟨p1,af,p2,ai,p3,ah,W,X,ab,Z⟩,_,_,_⟩:=(show (w31t' R) G'.m (u 21)/\True/\True/\True from hu)
      simp only[undFr,W]
      exact⟨_,y' z z,p1,af,p2,ai,p3,ah,z,X,ab,Z⟩
     refine bv' (c:=i' R.2) (fun _=>z) (fun u G' d hu=>?_) ?_
     .obtain⟨_,⟨p1,af,p2,ai,p3,ah,W,X,ab,Z⟩,_,_,_⟩:=(show True/\(w31t' R) G'.m (u 21)/\True/\True/\True from hu)
      simp only[undFr,W]
      exact y' z z
     refine bE' (fun _=>z) z31<|ei' (fun bf bd a7 a6 a8 X1 U aw al ap ak ao=>?_)
     obtain⟨b3,rfl,aQ⟩:=aw
     obtain⟨p4,aK,p5,aM,p6,aL,rfl,az,au,ay⟩:=al
     obtain⟨p1,af,p2,ai,p3,ah,rfl,X,ab,Z⟩:=ap
     obtain⟨K,J,M,O,H,F,rfl,p,B,o⟩:=ak
     obtain⟨ag,aj,rfl,T⟩:=ao
     refine cu' aQ (cf' (show WL _ _ _ _ _ _ (St w0 G0 X1.m _) from ?_))
     refine s' 7 z aV' z z z z z (List.all_eq_true.1 z)<|sg z z<|u'<|aq'<|g'<|sr<|mv z z<|yy (au' z z) z<|nx<|L' hr z (fun aY hr=>?_) (fun aY hr=>?_)
     .refine A'<|yy (o' 7 at' z z z) z<|s' 5 z aV' z z z z z (List.all_eq_true.1 z)<|u'<|J'<|g'<|A'<|mv z z<|yy (X' z z) z<|sg z z<|u'<|Y' ⟨i64.wrap (Y+1),R.1,p4,aK,p5,aM,p6,aL,X1.m⟩ hr ⟨(mt I U),az,au,ay⟩ (f5 z z z z z) (w2 z z)
     refine q'<|J'<|g'<|A'<|mv z z<|yy (X' z z) z<|sg z z<|u'<|Y' ⟨i64.wrap (Y+1),L,l,e,n,m,g,k,X1.m⟩ hr ⟨(mt I U),(q.mono U),(E.mono U),(x.mono U)⟩ (f5 z z z z z) (w2 z z)
    refine ao'<|r'<|r'<|O'<|ap' ⟨L,l,e,n,m,g,k,P⟩ ⟨I,q,E,x,hr⟩ (f2 z z) (w2 z z)
   refine mv z z<|sn3 z<|yy (l' z z) z<|nx<|bb' z<|ao'<|r'<|r'<|O'<|ap' ⟨L,l,e,n,m,g,k,P⟩ ⟨I,q,E,x,hr⟩ (f2 z z) (w2 z z)
 rintro⟨Q,A,t,D,C,y,s,S⟩ ⟨a5,ad,am,ac,hr⟩
 refine g'<|sr<|yy (o' 5 at' z z z) z<|s' 4 z aV' z z z z z (List.all_eq_true.1 z)<|nx<|j' ?_
 obtain rfl:_=r:=hr
 exact k' z (aa' (i:=4) at' z z z) ⟨_,_,_,_,_,_,z,ad,am,ac⟩
theorem fw'{g l e d r}(hr:(Zef g l).Ret r):Ctr prog 69 #[.slice e g.length d,i' l] (fun G=>sl K' G e d g) (fun G v=>v = .bool r):=by
 refine E' (args:=[_,_]) (N:=21) func69 z z z (fun s t p h=>?_)
 have c:=h
 refine sr<|sg z z<|nr<|mv z z ?_
 obtain⟨k,i,hr⟩:=hr
 refine F' z z (t' E94 z) (fN' i) z (c) ?_
 cases k
 .refine mv z z<|sn3 z<|yy (l' z z) z<|mv z z<|sn7 z<|yy (l' z z) z<|sx0 z z<|j' (k0' hr z z)
 refine mv z z<|gy z z (e' z) z ?_
 obtain⟨q,j,hr⟩:=hr
 refine F' (v' z z) z (t' E95 z) (fv' j) z (c)<|ad' hr (v' z z) (bN' z z) z (fun m hr=>?_) (fun m hr=>?_)
 .refine yy (h' z z) z<|mv z z<|gy z z (e' z) z ?_
  obtain⟨o,f,hr⟩:=hr
  refine F' (v' z z) z (t' E96 z) (eF' f) z (c)<|gy z z (aN' aQ' aB' z) z<|gy z z (e' z) z<|gy z z (aN' aB' dQ' z) z ?_
  obtain⟨n,hr⟩:=hr
  refine gy z z (Y0.shl z z n) z<|gy z z (ai' z z) z<|yy (h' z z) z<|sx0 z z<|j' (k0' hr z z)
 refine yy (h' z z) z<|mv z z<|sn7 z<|yy (l' z z) z<|sx0 z z<|j' (k0' hr z z)
theorem gf'{p A g m o r}(hr:(ZeG p A g).Ret r):Ctr prog 53 #[.slice m p.length o,i' A,i' g] (fun G=>sl b' G m o p) (fun G v=>v = .bool r):=by
 refine E' (args:=[_,_,_]) (N:=60) func53 z z z (fun J n aa B=>?_)
 have e:=B
 refine sr<|sx0 z z<|n'<|sr<|mv z z<|yy (M' w' e z) z<|yy (bh' z z) z<|nx<|L' hr z (fun P hr=>?_) (fun P hr=>?_)
 .exact (show False from hr).elim
 refine q'<|g'<|n'<|sr<|sx0 z z<|am' (fun (j:Mem)=>match j with|i=>[]) (fun (j:Mem)=>match j with|i=>Mem.le n i/\(ZfL).Ret r) (fun (j:Mem)=>match j with|i=>St J n i []) ?_ ?_
 .refine B' ?_
  let k:(Bool⊕Unit)->Prop:=fun V=>((fun U=>match U with | .inl rv1=>Cq.ret rv1 | .inr ()=>ZfL:(Bool⊕Unit)->Cq Bool) V).wp (fun a=>a=r)
  replace hr:(Cq.loop _ _).wp k:=hr
  refine an' (Φ:=k) (fun (⟨h,f⟩:Int×Mem)=>(h:Int)) (fun ⟨h,f⟩=>[(0,.slice m p.length o),(1,i' A),(2,i' g),(7,i' h)]) (fun ⟨h,f⟩=>Mem.le n f) (fun ⟨h,f⟩=>St J n f []) ⟨0,n⟩ hr (f4 z z z z) mr (wk ln) ?_
  .intro Y j W hr
   obtain⟨h,f⟩:=j
   have d:=W
   refine n'<|sr<|mv z z<|mv z z<|yy (M' w' (e.mono d) z) z<|yy (ai' z z) z<|nx<|L' hr z (fun F hr=>?_) (fun F hr=>?_)
   .refine q'<|g'<|n'<|B'<|n'<|ah' [ff,ff,ff,ff,ff,ff,ff,ff,ff,ff,ff,ff,ff,ff,ff,ff,ff,ff,ff,ff,ff,ff,ff,ff,ff,ff,ff,ff,ff,ff,ff,ff,ff,ff,ff,ff,ff,ff,ff,ff] mix (by kernel_rfl) fun l=>cn (fun _ c=>e' z)<|cn (fun _ c=>e' z) ?_
    obtain⟨x1,q,hr⟩:=hr
    refine cn (fun _ c=>T' w' aT' ((e.mono d).mono c) z z q)<|cn (fun _ c=>bo' z)<|cn (fun _ c=>Z' sc3 z (aF' (I' (I' (aW' (ay' (ae' e q))) d) c)))<|bz' hr z (fun _ c=>ai' z z) (fun L hr=>?_) (fun L hr=>?_)
    .refine cn (fun _ c=>e' z)<|cf z z<|cf z z<|cf z z<|cf z z<|cf z z<|cf z z<|cf z z<|cn (fun _ c=>h' z z)<|cn (fun _ c=>e' z)<|cf z z<|cf z z<|cf z z<|cs z z<|cs z z<|cs z z<|cs z z<|cs z z<|cs z z<|cs z z<|cs z z<|cs z z<|cs z z<|cs z z<|cs z z<|cf z z<|cn (fun _ c=>h' z z)<|cn (fun _ c=>e' z)<|cf z z<|cf z z<|cf z z<|cf z z<|cf z z<|cf z z<|R' l<|sn2 z<|yy (h' z z) z<|u'<|aq'<|g'<|U' z<|sr<|sx0 z z<|j'<|m'<|a'<|a'<|m'<|ag'<|a' (k0' hr z z)
    refine cn (fun _ c=>e' z)<|cy z z (fun _ c=>e' z)<|cy z z (fun _ c=>e' z) ?_
    obtain⟨x2,t,hr⟩:=hr
    refine cy z z (fun _ c=>T' w' aT' ((e.mono d).mono c) z z t)<|cy z z (fun _ c=>bo' z)<|cy z z (fun _ c=>Z' sc3 z (aF' (I' (I' (aW' (ay' (ae' e t))) d) c)))<|cy z z (fun _ c=>e' z)<|bz' hr (v' z z) (fun _ c=>bf' z z) (fun I hr=>?_) (fun I hr=>?_)
    .refine cn (fun _ c=>l' z z)<|cn (fun _ c=>e' z)<|cf z z<|cf z z<|cf z z<|cs z z<|cs z z<|cs z z<|cs z z<|cs z z<|cs z z<|cs z z<|cs z z<|cs z z<|cs z z<|cs z z<|cs z z<|cf z z<|cn (fun _ c=>h' z z)<|cn (fun _ c=>e' z)<|cf z z<|cf z z<|cf z z<|cf z z<|cf z z<|cf z z<|R' l<|sn2 z<|yy (h' z z) z<|u'<|aq'<|g'<|U' z<|sr<|sx0 z z<|j'<|m'<|a'<|a'<|m'<|ag'<|a' (k0' hr z z)
    refine cn (fun _ c=>l' z z)<|cn (fun _ c=>e' z)<|cy z z (fun _ c=>e' z)<|bz' hr (v' z z) (fun _ c=>bh' z z) (fun K hr=>?_) (fun K hr=>?_)
    .refine cy z z (fun _ c=>e' z)<|cy z z (fun _ c=>e' z)<|cy z z (fun _ c=>e' z)<|cy z z (fun _ c=>bj' z z) ?_
     obtain⟨x3,s,hr⟩:=hr
     refine cy z z (fun _ c=>T' w' aT' ((e.mono d).mono c) z z s)<|cy z z (fun _ c=>bo' z)<|cy z z (fun _ c=>Z' sc3 z (aF' (I' (I' (aW' (ay' (ae' e s))) d) c)))<|cy z z (fun _ c=>e' z)<|cy z z (fun _ c=>e' z) ?_
     obtain⟨x4,u,hr⟩:=hr
     refine cy z z (fun _ c=>T' w' aT' ((e.mono d).mono c) z z u)<|cy z z (fun _ c=>bo' z)<|cy z z (fun _ c=>Z' sc3 z (aF' (I' (I' (aW' (ay' (ae' e u))) d) c)))<|bz' hr (v' z z) (fun _ c=>bf' z z) (fun Q hr=>?_) (fun Q hr=>?_)
     .refine cy z z (fun _ c=>h' z z)<|cn (fun _ c=>l' z z)<|cn (fun _ c=>e' z)<|cf z z<|cf z z<|cf z z<|cf z z<|cf z z<|cf z z<|R' l<|sn2 z<|yy (h' z z) z<|u'<|aq'<|g'<|U' z<|sr<|sx0 z z<|j'<|m'<|a'<|a'<|m'<|ag'<|a' (k0' hr z z)
     refine cy z z (fun _ c=>h' z z)<|cn (fun _ c=>l' z z)<|cn (fun _ c=>e' z)<|cy z z (fun _ c=>e' z)<|cy z z (fun _ c=>e' z) ?_
     obtain⟨x5,x,hr⟩:=hr
     refine cy z z (fun _ c=>T' w' aT' ((e.mono d).mono c) z z x)<|cy z z (fun _ c=>bX' z) ?_
     obtain⟨p1,ab,O,E⟩:=bF' (I' (ax' (ay' (ae' e x))) d)
     refine cy z z (fun _ c=>Z' cF' z (c _ _ _ O))<|cy z z (fun _ c=>e' z)<|R' l ?_
     obtain⟨X,C,hr⟩:=hr
     refine F' (v' z z) z (t' E69 z) (fw' C) z (E)<|gy z z (al' z) z<|yy (l' z z) z<|u'<|aq'<|g'<|aL' hr z (fun H hr=>?_) (fun H hr=>?_)
     .exact (show False from hr).elim
     refine q'<|J'<|g'<|A'<|mv z z<|yy (X' z z) z<|sg z z<|u'<|Y' ⟨i64.wrap (h+1),f⟩ hr d (f4 z z z z) (wk ln)
    refine cy z z (fun _ c=>e' z)<|ct z z<|ct z z<|ct z z<|ct z z<|ct z z<|ct z z<|ct z z<|ct z z<|ct z z<|ct z z<|ct z z<|ct z z<|cy z z (fun _ c=>l' z z)<|cn (fun _ c=>l' z z)<|cn (fun _ c=>e' z)<|cy z z (fun _ c=>e' z)<|cy z z (fun _ c=>e' z) ?_
    obtain⟨x6,y,hr⟩:=hr
    refine cy z z (fun _ c=>T' w' aT' ((e.mono d).mono c) z z y)<|cy z z (fun _ c=>bX' z) ?_
    obtain⟨p2,Z,S,R⟩:=bF' (I' (ax' (ay' (ae' e y))) d)
    refine cy z z (fun _ c=>Z' cF' z (c _ _ _ S))<|cy z z (fun _ c=>e' z)<|R' l ?_
    obtain⟨ac,D,hr⟩:=hr
    refine F' (v' z z) z (t' E69 z) (fw' D) z (R)<|gy z z (al' z) z<|yy (l' z z) z<|u'<|aq'<|g'<|aL' hr z (fun M hr=>?_) (fun M hr=>?_)
    .exact (show False from hr).elim
    refine q'<|J'<|g'<|A'<|mv z z<|yy (X' z z) z<|sg z z<|u'<|Y' ⟨i64.wrap (h+1),f⟩ hr d (f4 z z z z) (wk ln)
   refine ao'<|r'<|r'<|O'<|ap' f ⟨d,hr⟩ fn (wk ln)
 rintro i ⟨T,hr⟩
 refine g'<|sr<|sx0 z z<|j' (k0' hr z z)
theorem es'{g f c j i e d r}(hr:(Zfg g).Ret r):Ctr prog 27 #[.agg ((v31' g f c j i e d)).toArray] (fun G=>y31' G f c j i e d g) (fun G v=>v = .bool r):=by
 refine E' (args:=[_]) (N:=96) func27 z z z (fun Q K aD ag=>?_)
 obtain⟨l,t,p⟩:=ag
 refine sr<|af' 1 z z z fun A=>sg z z<|nr<|yy (aH' z) z<|yy (f' 1 bC' z z z) z<|yy (M' H' l z) z<|sx0 z z<|aM' (fun (k:Mem)=>match k with|J=>[(1,pt0 A),(3,i' (g.vars.length:Int))]) (fun (k:Mem)=>match k with|J=>Mem.le K J/\(Zhj g).Ret r) (fun (k:Mem)=>match k with|J=>St Q K J [(1,bk0 A (v31' g f c j i e d) 31)]) ?_ ?_
 .refine sr<|mv z z<|ad' hr z (bh' z z) z (fun am hr=>?_) (fun am hr=>?_)
  .refine mv z z<|sn3 z<|yy (h' z z) z<|mv z z<|sn3 z<|yy (h' z z) z<|mv z z<|sn7 z<|yy (h' z z) z<|mv z z<|sn7 z<|yy (h' z z) z<|nx<|U' z<|sr<|sx0 z z<|j'<|a' (k0' hr z z)
  refine mv z z<|gy z z (bw' z) z<|gy z z (f' 1 sc3 z z z) z<|ad' hr (v' z z) (ai' z z) z (fun ax hr=>?_) (fun ax hr=>?_)
  .refine yy (l' z z) z<|mv z z<|sn3 z<|yy (h' z z) z<|mv z z<|sn7 z<|yy (h' z z) z<|mv z z<|sn7 z<|yy (h' z z) z<|nx<|U' z<|sr<|sx0 z z<|j'<|a' (k0' hr z z)
  refine yy (l' z z) z<|mv z z<|gy z z (bw' z) z<|gy z z (f' 1 sc3 z z z) z<|ad' hr (v' z z) (bh' z z) z (fun au hr=>?_) (fun au hr=>?_)
  .refine yy (l' z z) z<|mv z z<|sn7 z<|yy (h' z z) z<|mv z z<|sn7 z<|yy (h' z z) z<|nx<|U' z<|sr<|sx0 z z<|j'<|a' (k0' hr z z)
  refine yy (l' z z) z<|mv z z<|gy z z (aY' z) z<|gy z z (f' 1 br' z z z) z<|gy z z (e' z) z<|gy z z (bw' z) z<|gy z z (f' 1 sc3 z z z) z ?_
  obtain⟨ap,ai,hr⟩:=hr
  refine F' (v' z z) z (t' E53 z) (gf' ai) z (t) ?_
  cases ap
  .refine gy z z (al' z) z<|yy (l' z z) z<|mv z z<|sn7 z<|yy (h' z z) z<|nx<|U' z<|sr<|sx0 z z<|j'<|a' (k0' hr z z)
  refine gy z z (al' z) z<|yy (l' z z) z<|mv z z<|gy z z (ba' z) z<|gy z z (f' 1 br' z z z) z<|gy z z (e' z) z<|gy z z (bw' z) z<|gy z z (f' 1 sc3 z z z) z ?_
  obtain⟨aC,ak,hr⟩:=hr
  refine F' (v' z z) z (t' E53 z) (gf' ak) z (p)<|gy z z (al' z) z<|yy (l' z z) z<|nx<|aL' hr z (fun ay hr=>?_) (fun ay hr=>?_)
  .exact (show False from hr).elim
  refine q'<|ar' K ⟨mr,hr⟩ (f2 z z) (w1 z)
 rintro J ⟨m,hr⟩
 refine n'<|sr<|sx0 z z<|am' (fun (k:Mem)=>match k with|I=>[(1,pt0 A)]) (fun (k:Mem)=>match k with|I=>Mem.le J I/\(ZcQ g).Ret r) (fun (k:Mem)=>match k with|I=>St Q K I [(1,bk0 A (v31' g f c j i e d) 31)]) ?_ ?_
 .refine B' ?_
  let R:(Bool⊕Unit)->Prop:=fun V=>((fun T=>match T with | .inl rv3=>Cq.ret rv3 | .inr ()=>ZcQ g:(Bool⊕Unit)->Cq Bool) V).wp (fun a=>a=r)
  replace hr:(Cq.loop _ _).wp R:=hr
  refine an' (Φ:=R) (fun (⟨n,C⟩:Int×Mem)=>(n:Int)) (fun ⟨n,C⟩=>[(1,pt0 A),(3,i' (g.vars.length:Int)),(4,i' n)]) (fun ⟨n,C⟩=>Mem.le J C) (fun ⟨n,C⟩=>St Q K C [(1,bk0 A (v31' g f c j i e d) 31)]) ⟨0,J⟩ hr (f3 z z z) mr (w1 z) ?_
  .intro aa k U hr
   obtain⟨n,C⟩:=k
   have s:=U
   refine n'<|sr<|mv z z<|mv z z<|yy (ai' z z) z<|nx<|L' hr z (fun ao hr=>?_) (fun ao hr=>?_)
   .refine q'<|g'<|n'<|B'<|n'<|sr<|sx0 z z<|am' (fun (k:Mem)=>match k with|M=>[(1,pt0 A),(3,i' (g.vars.length:Int)),(4,i' n)]) (fun (k:Mem)=>match k with|M=>Mem.le C M/\(ZcR g n).wp (Out aa R)) (fun (k:Mem)=>match k with|M=>St Q K M [(1,bk0 A (v31' g f c j i e d) 31)]) ?_ ?_
    .refine B' ?_
     let X:(Bool⊕Unit)->Prop:=fun V=>((fun T=>match T with | .inl rv4=>Cq.ret (.inr (.inl rv4)) | .inr ()=>ZcR g n:(Bool⊕Unit)->Cq (Int⊕(Bool⊕Unit))) V).wp (Out aa R)
     replace hr:(Cq.loop _ _).wp X:=hr
     refine an' (Φ:=X) (fun (⟨E,H⟩:Int×Mem)=>(E:Int)) (fun ⟨E,H⟩=>[(1,pt0 A),(3,i' (g.vars.length:Int)),(4,i' n),(5,i' E)]) (fun ⟨E,H⟩=>Mem.le C H) (fun ⟨E,H⟩=>St Q K H [(1,bk0 A (v31' g f c j i e d) 31)]) ⟨0,C⟩ hr (f4 z z z z) mr (w1 z) ?_
     .intro aA k U hr
      obtain⟨E,H⟩:=k
      have y:=U
      refine n'<|sr<|mv z z<|mv z z<|yy (ai' z z) z<|nx<|L' hr z (fun aw hr=>?_) (fun aw hr=>?_)
      .refine q'<|g'<|n'<|B'<|n'<|ah' [ff,ff,ff,ff,ff,ff,ff,ff,ff,ff] mix (by kernel_rfl) fun hb=>cn (fun _ h=>aH' z)<|cn (fun _ h=>f' 1 bC' z z z)<|cn (fun _ h=>e' z) ?_
       obtain⟨x4,ab,hr⟩:=hr
       refine cn (fun _ h=>T' H' sz9 ((l.mono (mt (mt m s) y)).mono h) z z ab)<|cn (fun _ h=>Z' sc9 z (cb' (I' (I' (ae' l ab) (mt (mt m s) y)) h)))<|cn (fun _ h=>aH' z)<|cn (fun _ h=>f' 1 bC' z z z)<|cn (fun _ h=>e' z) ?_
       obtain⟨x5,Z,hr⟩:=hr
       refine cn (fun _ h=>T' H' sz9 ((l.mono (mt (mt m s) y)).mono h) z z Z)<|cn (fun _ h=>Z' sc9 z (cb' (I' (I' (ae' l Z) (mt (mt m s) y)) h)))<|R' hb<|yy (Y0.eqlS bl' z z) z<|u'<|aq'<|g'<|L' hr z (fun an hr=>?_) (fun an hr=>?_)
       .exact (show False from hr).elim
       refine q'<|J'<|g'<|A'<|mv z z<|yy (X' z z) z<|sg z z<|u'<|Y' ⟨i64.wrap (E+1),H⟩ hr y (f4 z z z z) (w1 z)
      refine ao'<|r'<|r'<|O'<|ap' H ⟨y,hr⟩ (f3 z z z) (w1 z)
    rintro M ⟨P,hr⟩
    refine g'<|sr<|yy (aH' z) z<|yy (f' 1 bC' z z z) z<|mv z z ?_
    obtain⟨x3,ac,hr⟩:=hr
    refine yy (T' H' sz9 (l.mono (mt (mt m s) P)) z z ac) z<|yy (Z' sc9 z (cb' (I' (ae' l ac) (mt (mt m s) P)))) z ?_
    obtain⟨aB,ah,hr⟩:=hr
    refine F' z z (t' E54 z) (eZ' ah) z (trivial)<|yy (al' z) z<|nx<|aL' hr z (fun ar hr=>?_) (fun ar hr=>?_)
    .exact (show False from hr).elim
    refine q'<|J'<|g'<|A'<|mv z z<|yy (X' z z) z<|sg z z<|u'<|Y' ⟨i64.wrap (n+1),M⟩ hr (mt s P) (f3 z z z) (w1 z)
   refine ao'<|r'<|r'<|O'<|ap' C ⟨s,hr⟩ (f1 z) (w1 z)
 rintro I ⟨x,hr⟩
 refine g'<|n'<|sr<|sx0 z z<|am' (fun (k:Mem)=>match k with|S=>[]) (fun (k:Mem)=>match k with|S=>Mem.le I S/\(ZeE).Ret r) (fun (k:Mem)=>match k with|S=>St Q K S []) ?_ ?_
 .refine B' ?_
  let O:(Bool⊕Unit)->Prop:=fun V=>((fun T=>match T with | .inl rv1=>Cq.ret rv1 | .inr ()=>ZeE:(Bool⊕Unit)->Cq Bool) V).wp (fun a=>a=r)
  replace hr:(Cq.loop _ _).wp O:=hr
  refine an' (Φ:=O) (fun (⟨o,B⟩:Int×Mem)=>(o:Int)) (fun ⟨o,B⟩=>[(1,pt0 A),(6,i' o)]) (fun ⟨o,B⟩=>Mem.le I B) (fun ⟨o,B⟩=>St Q K B [(1,bk0 A (v31' g f c j i e d) 31)]) ⟨0,I⟩ hr (f2 z z) mr (w1 z) ?_
  .intro ae k U hr
   obtain⟨o,B⟩:=k
   have q:=U
   refine n'<|sr<|mv z z<|yy (aY' z) z<|yy (f' 1 br' z z z) z<|yy (M' w' (t.mono (mt (mt m x) q)) z) z<|yy (ai' z z) z<|nx<|L' hr z (fun av hr=>?_) (fun av hr=>?_)
   .refine q'<|g'<|n'<|B'<|sr<|sx0 z z<|am' (fun (k:Mem)=>match k with|L=>[(1,pt0 A),(6,i' o)]) (fun (k:Mem)=>match k with|L=>Mem.le B L/\(ZeF o).wp (Out ae O)) (fun (k:Mem)=>match k with|L=>St Q K L [(1,bk0 A (v31' g f c j i e d) 31)]) ?_ ?_
    .refine B' ?_
     let W:(Bool⊕Unit)->Prop:=fun V=>((fun T=>match T with | .inl rv2=>Cq.ret (.inr (.inl rv2)) | .inr ()=>ZeF o:(Bool⊕Unit)->Cq (Int⊕(Bool⊕Unit))) V).wp (Out ae O)
     replace hr:(Cq.loop _ _).wp W:=hr
     refine an' (Φ:=W) (fun (⟨D,F⟩:Int×Mem)=>(D:Int)) (fun ⟨D,F⟩=>[(1,pt0 A),(6,i' o),(7,i' D)]) (fun ⟨D,F⟩=>Mem.le B F) (fun ⟨D,F⟩=>St Q K F [(1,bk0 A (v31' g f c j i e d) 31)]) ⟨0,B⟩ hr (f3 z z z) mr (w1 z) ?_
     .intro aE k U hr
      obtain⟨D,F⟩:=k
      have u:=U
      refine n'<|sr<|mv z z<|yy (ba' z) z<|yy (f' 1 br' z z z) z<|yy (M' w' (p.mono (mt (mt (mt m x) q) u)) z) z<|yy (ai' z z) z<|nx<|L' hr z (fun aq hr=>?_) (fun aq hr=>?_)
      .refine q'<|g'<|n'<|B'<|n'<|ah' [ff,ff,ff,ff,ff,ff,ff,ff,ff,ff,ff,ff] mix (by kernel_rfl) fun hb=>cn (fun _ h=>aY' z)<|cn (fun _ h=>f' 1 br' z z z)<|cn (fun _ h=>e' z) ?_
       obtain⟨x1,af,hr⟩:=hr
       refine cn (fun _ h=>T' w' aT' ((t.mono (mt (mt (mt m x) q) u)).mono h) z z af)<|cn (fun _ h=>bo' z)<|cn (fun _ h=>Z' sc3 z (aF' (I' (I' (aW' (ay' (ae' t af))) (mt (mt (mt m x) q) u)) h)))<|cn (fun _ h=>ba' z)<|cn (fun _ h=>f' 1 br' z z z)<|cn (fun _ h=>e' z) ?_
       obtain⟨x2,ad,hr⟩:=hr
       refine cn (fun _ h=>T' w' aT' ((p.mono (mt (mt (mt m x) q) u)).mono h) z z ad)<|cn (fun _ h=>bo' z)<|cn (fun _ h=>Z' sc3 z (aF' (I' (I' (aW' (ay' (ae' p ad))) (mt (mt (mt m x) q) u)) h)))<|R' hb<|yy (au' z z) z<|u'<|aq'<|g'<|L' hr z (fun al hr=>?_) (fun al hr=>?_)
       .exact (show False from hr).elim
       refine q'<|J'<|g'<|A'<|mv z z<|yy (X' z z) z<|sg z z<|u'<|Y' ⟨i64.wrap (D+1),F⟩ hr u (f3 z z z) (w1 z)
      refine ao'<|r'<|r'<|O'<|ap' F ⟨u,hr⟩ (f2 z z) (w1 z)
    rintro L ⟨Y,hr⟩
    refine J'<|g'<|A'<|mv z z<|yy (X' z z) z<|sg z z<|u'<|Y' ⟨i64.wrap (o+1),L⟩ hr (mt q Y) (f2 z z) (w1 z)
   refine ao'<|r'<|r'<|O'<|ap' B ⟨q,hr⟩ fn (wk ln)
 rintro S ⟨az,hr⟩
 refine g'<|sr<|sx0 z z<|j' (k0' hr z z)
theorem hg'{k d c h j f g r}(hr:(Zj7 k).Ret r):Ctr prog 34 #[.agg ((v31' k d c h j f g)).toArray] (fun G=>y31' G d c h j f g k) (w34t' r):=by
 refine E' (args:=[_]) (N:=12) func34 z z z (fun C E u p=>?_)
 obtain⟨l,o,m⟩:=p
 refine sr<|af' 1 z z z fun B=>V' 2 z z34 z fun D=>sx0 z z<|n'<|sr<|yy (o' 1 at' z z z) z ?_
 obtain⟨y,q,hr⟩:=hr
 refine F' z z (t' E27 z) (es' q) z (⟨l,o,m⟩)<|yy (al' z) z<|nx<|aL' hr z (fun x hr=>?_) (fun x hr=>?_)
 .refine sr<|yy (av' (vs:=#[]) (v:=.agg ([.slice none 0 0,.slice none 0 0,.slice none 0 0,i' 0,.slice none 0 0]).toArray) z z (fun _=>by kernel_rfl)) z<|s' 2 z bH' z z z z z (List.all_eq_true.1 z)<|sx0 z z<|j'<|a' ?_
  obtain rfl:_=r:=hr
  exact aE' z (aa' (i:=2) aG' z z z) z ⟨_,_,_,_,_,_,_,_,z,(W' Rp.str _),(W' b' _),(W' b' _),(W' Q' _)⟩
 refine q'<|g'<|sr<|yy (o' 1 at' z z z) z<|yy (av' (vs:=#[(0,i' (-1)),(1,i' (-1))]) (v:=.agg ([i' (-1),i' (-1),.slice none 0 0]).toArray) z z (fun _=>by kernel_rfl)) z<|bd' (e:=63) (r:=Q') (vs:=#[(0,.agg ([i' (-1),i' (-1),.slice none 0 0]).toArray)]) (cs:=[i' (-1),i' (-1),.slice none 0 0]++([])) ([(Zh.mk (-1) (-1) [])]:List Zh) z z z z z (by decide) (fun _=>by kernel_rfl) ⟨[i' (-1),i' (-1),.slice none 0 0],[],z,⟨[i' (-1)],[i' (-1),.slice none 0 0],z,z,⟨[i' (-1)],[.slice none 0 0],z,z,⟨_,z,(W' _ _)⟩⟩⟩,z⟩ (key:=999) z (by rw[u]; rfl) fun t A n s=>yy (av' (vs:=#[(0,.agg ((v31' k d c h j f g)).toArray),(1,.slice t 1 1)]) (v:=.agg ([.slice d k.vars.length c,.slice h k.eqs.length j,.slice f k.neqs.length g,i' k.next,.slice t 1 1]).toArray) z z (fun _=>by kernel_rfl)) z<|s' 2 z bH' z z z z z (List.all_eq_true.1 z)<|sx0 z z<|j' ?_
 obtain rfl:_=r:=hr
 exact aE' z (aa' (i:=2) aG' z z z) z ⟨_,_,_,_,_,_,_,_,z,(l.mono n),(o.mono n),(m.mono n),s⟩
theorem ed'{i s e f g h c d j k r}(hr:(Zcy i s).Ret r):Ctr prog 40 #[.agg ((v34' i e f g h c d j k)).toArray,i' s] (fun G=>y34' G e f g h c d j k i) (fun G v=>v = .bool r):=by
 refine E' (args:=[_,_]) (N:=14) func40 z z z (fun x y t p=>?_)
 obtain⟨m,n,l,o⟩:=p
 refine sr<|af' 2 z z z fun u=>sg z z<|nr<|mv z z<|ad' hr z (bf' z z) z (fun q hr=>?_) (fun q hr=>?_)
 .refine mv z z<|gy z z (e' z) z<|gy z z (aj' z) z<|gy z z (f' 2 bc' z z z) z<|gy z z (M' D' o z) z<|gy z z (ai' z z) z<|yy (h' z z) z<|sx0 z z<|j' (k0' hr z z)
 refine mv z z<|sn5 z<|yy (l' z z) z<|sx0 z z<|j' (k0' hr z z)
theorem fb'{s1 l1 ac ae ak am ad af aC aD r}(hr:(Zjm s1 l1).Ret r):Ctr prog 30 #[.agg ((v31' s1 ac ae ak am ad af)).toArray,.slice aC l1.length aD] (fun G=>sl Rp.str G ac ae s1.vars/\sl b' G ak am s1.eqs/\sl b' G ad af s1.neqs/\sl ab' G aC aD l1) (w72' r):=by
 refine E' (args:=[_,_]) (N:=33) func30 z z z (fun w0 G0 bB a9=>?_)
 obtain⟨aG,aR,aO,aA⟩:=a9
 refine sr<|af' 2 z z z fun b1=>V' 4 z z72 z fun b2=>nx<|n'<|sr<|sx0 z z<|am' (fun (⟨L,x,q,D,B,t,n,ag,I,F,M,O,E,H,Y⟩:Za×Option Addr×Nat×Option Addr×Nat×Option Addr×Nat×Zw×Option Addr×Nat×Option Addr×Nat×Option Addr×Nat×Mem)=>[(1,.slice aC l1.length aD),(2,pt0 b1),(4,pt0 b2)]) (fun ⟨L,x,q,D,B,t,n,ag,I,F,M,O,E,H,Y⟩=>Mem.le G0 Y/\sl Rp.str Y x q L.vars/\sl b' Y D B L.eqs/\sl b' Y t n L.neqs/\sl Rp.str Y I F ag.s.vars/\sl b' Y M O ag.s.eqs/\sl b' Y E H ag.s.neqs/\(Zhk l1 L).Ret r) (fun ⟨L,x,q,D,B,t,n,ag,I,F,M,O,E,H,Y⟩=>St w0 G0 Y [(2,bk0 b1 (v31' L x q D B t n) 31),(4,bk0 b2 (v72' ag I F M O E H) 72)]) ?_ ?_
 .refine B' ?_
  let aP:(Zw⊕(Za×Zw))->Prop:=fun oo=>((fun ov=>match ov with | .inl rv1=>Cq.ret rv1 | .inr (L,ag)=>Zhk l1 L:(Zw⊕(Za×Zw))->Cq Zw) oo).wp (fun a=>a=r)
  replace hr:(Cq.loop _ _).wp aP:=hr
  refine an' (Φ:=aP) (fun (⟨i1,Z,y,s,A,C,o,p,W,f,g,m,l,k,d,Q⟩:Int×Za×Option Addr×Nat×Option Addr×Nat×Option Addr×Nat×Zw×Option Addr×Nat×Option Addr×Nat×Option Addr×Nat×Mem)=>((i1,Z,W):Int×Za×Zw)) (fun ⟨i1,Z,y,s,A,C,o,p,W,f,g,m,l,k,d,Q⟩=>[(1,.slice aC l1.length aD),(2,pt0 b1),(4,pt0 b2),(5,i' i1)]) (fun ⟨i1,Z,y,s,A,C,o,p,W,f,g,m,l,k,d,Q⟩=>Mem.le G0 Q/\sl Rp.str Q y s Z.vars/\sl b' Q A C Z.eqs/\sl b' Q o p Z.neqs/\y31' Q f g m l k d W.s) (fun ⟨i1,Z,y,s,A,C,o,p,W,f,g,m,l,k,d,Q⟩=>St w0 G0 Q [(2,bk0 b1 (v31' Z y s A C o p) 31),(4,bk0 b2 (v72' W f g m l k d) 72)]) ⟨0,s1,ac,ae,ak,am,ad,af,(Zw.mk (Za.mk [] [] [] 0) 0 0),none,0,none,0,none,0,G0⟩ hr (f4 z z z z) ⟨mr,aG,aR,aO,(W' _ _),(W' _ _),(W' _ _)⟩ (w2 z z) ?_
  .intro bA gx hx hr
   obtain⟨i1,Z,y,s,A,C,o,p,W,f,g,m,l,k,d,Q⟩:=gx
   obtain⟨ab,an,ao,aj,ah,al,ai⟩:=hx
   refine n'<|sr<|mv z z<|mv z z<|yy (M' as' (aA.mono ab) z) z<|yy (ai' z z) z<|nx<|L' hr z (fun bk hr=>?_) (fun bk hr=>?_)
   .refine q'<|g'<|n'<|B'<|n'<|ah' [ff,ff,ff,ff,ff,ff,ff,ff,tt,ff] mix (by kernel_rfl) fun hb=>cn (fun _ e=>o' 2 at' z z z)<|cn (fun _ e=>e' z)<|cn (fun _ e=>e' z) ?_
    obtain⟨x1,a8,hr⟩:=hr
    refine cn (fun _ e=>T' as' cd' ((aA.mono ab).mono e) z z a8) ?_
    obtain⟨bo,bu,bg,bd⟩:=de' (I' (ae' aA a8) ab)
    refine cn (fun _ e=>aA' _ bO' z z (fun j v hv=>e _ _ _ (bg j v hv))) ?_
    obtain⟨aa,bb,hr⟩:=hr
    refine aX' (post:=w31t' aa) (fun _=>z) (fun _ _=>t' E55 z) (er' bb) z (fun G' e=>⟨(an.mono e),(ao.mono e),(aj.mono e),(bd.mono e)⟩) (fun v G1 G2 e h=>?_) ?_
    .obtain⟨U,R,V,X,T,S,rfl,J,P,K⟩:=h
     exact⟨_,_,_,_,_,_,z,J.mono e,P.mono e,K.mono e⟩
    refine bm' (φ:=w31t' aa) (fun _=>z) (fun v G1 G2 e h=>?_) (fun u G' e hu=>?_) ?_
    .obtain⟨p1,aB,p2,aF,p3,aE,rfl,av,ax,aw⟩:=h
     exact⟨_,_,_,_,_,_,z,av.mono e,ax.mono e,aw.mono e⟩
    .obtain⟨⟨U,R,V,X,T,S,aW,J,P,K⟩,_⟩:=(show (w31t' aa) G'.m (u 20)/\True from hu)
     simp only[undFr,aW]
     exact⟨_,e' z,U,R,V,X,T,S,z,J,P,K⟩
    refine bm' (φ:=w31' aa.1) (fun _=>z) (fun v G1 G2 e h=>?_) (fun u G' e hu=>?_) ?_
    .obtain⟨p4,a5,p5,a7,p6,a6,rfl,aV,aQ,aU⟩:=h
     exact⟨_,_,_,_,_,_,z,aV.mono e,aQ.mono e,aU.mono e⟩
    .obtain⟨⟨p1,aB,p2,aF,p3,aE,au,av,ax,aw⟩,_,_⟩:=(show (w31t' aa) G'.m (u 14)/\True/\True from hu)
     simp only[undFr,au]
     exact⟨_,y' z z,p1,aB,p2,aF,p3,aE,z,av,ax,aw⟩
    refine bv' (c:=i' aa.2) (fun _=>z) (fun u G' e hu=>?_) ?_
    .obtain⟨_,⟨p1,aB,p2,aF,p3,aE,au,av,ax,aw⟩,_,_⟩:=(show True/\(w31t' aa) G'.m (u 14)/\True/\True from hu)
     simp only[undFr,au]
     exact y' z z
    refine bE' (fun _=>z) z31<|cn' (fun bz bq bp br X1 aq aS aN aH aM=>?_)
    obtain⟨b3,rfl,ba⟩:=aS
    obtain⟨p4,a5,p5,a7,p6,a6,rfl,aV,aQ,aU⟩:=aN
    obtain⟨p1,aB,p2,aF,p3,aE,rfl,av,ax,aw⟩:=aH
    obtain⟨U,R,V,X,T,S,rfl,J,P,K⟩:=aM
    refine cu' ba (cf' (show WL _ _ _ _ _ _ (St w0 G0 X1.m _) from ?_))
    refine s' 6 z aV' z z z z z (List.all_eq_true.1 z)<|sg z z<|u'<|aq'<|g'<|n'<|sr<|mv z z<|yy (aw' z z) z<|nx<|L' hr z (fun bi hr=>?_) (fun bi hr=>?_)
    .refine sr<|mv z z<|mv z z<|yy (av' (vs:=#[(1,i' i1),(2,i' aa.2)]) (v:=.agg ([.slice none 0 0,.slice none 0 0,.slice none 0 0,i' 0,i' i1,i' aa.2]).toArray) z z (fun _=>by kernel_rfl)) z<|s' 4 z sz72 z z z z z (List.all_eq_true.1 z)<|nx<|j'<|a'<|m'<|a'<|a'<|m'<|ag'<|a' ?_
     obtain rfl:_=r:=hr
     exact k' z (aa' (i:=4) ag72 z z z) ⟨_,_,_,_,_,_,z,(W' Rp.str _),(W' b' _),(W' b' _)⟩
    refine q'<|g'<|A'<|yy (o' 6 at' z z z) z<|s' 2 z aV' z z z z z (List.all_eq_true.1 z)<|u'<|J'<|g'<|A'<|mv z z<|yy (X' z z) z<|sg z z<|u'<|Y' ⟨i64.wrap (i1+1),aa.1,p4,a5,p5,a7,p6,a6,W,f,g,m,l,k,d,X1.m⟩ hr ⟨(mt ab aq),aV,aQ,aU,(ah.mono aq),(al.mono aq),(ai.mono aq)⟩ (f4 z z z z) (w2 z z)
   refine ao'<|r'<|r'<|O'<|ap' ⟨Z,y,s,A,C,o,p,W,f,g,m,l,k,d,Q⟩ ⟨ab,an,ao,aj,ah,al,ai,hr⟩ (f3 z z z) (w2 z z)
 rintro⟨L,x,q,D,B,t,n,ag,I,F,M,O,E,H,Y⟩ ⟨a2,az,aJ,ay,a3,be,a4,hr⟩
 refine g'<|sr<|yy (o' 2 at' z z z) z<|mv z z<|yy (M' as' (aA.mono a2) z) z<|yy (av' (vs:=#[(0,.agg ((v31' L x q D B t n)).toArray),(1,i' (l1.length:Int))]) (v:=.agg ([.slice x L.vars.length q,.slice D L.eqs.length B,.slice t L.neqs.length n,i' L.next,i' (l1.length:Int),i' 0]).toArray) z z (fun _=>by kernel_rfl)) z<|s' 4 z sz72 z z z z z (List.all_eq_true.1 z)<|nx<|j' ?_
 obtain rfl:_=r:=hr
 exact k' z (aa' (i:=4) ag72 z z z) ⟨_,_,_,_,_,_,z,az,aJ,ay⟩
theorem fg'{l k i f g c d H E r}(hr:(ZfU l).Ret r):Ctr prog 41 #[.agg ((v34' l k i f g c d H E)).toArray] (fun G=>y34' G k i f g c d H E l) (fun G v=>∃ ah am,v = .tuple #[.slice ah r.1.length am,.bool r.2]/\sl aR' G ah am r.1):=by
 refine E' (args:=[_]) (N:=66) func41 z z z (fun w0 G0 al ax=>?_)
 obtain⟨R,V,S,U⟩:=ax
 refine sr<|af' 1 z z z fun b1=>sg z z<|sg z z<|nr<|yy (cJ' z) z<|yy (aI' ((v31' l.root k i f g c d)).toArray 1 at' z z z (aU' ([]) ((v31' l.root k i f g c d)) ([.slice H l.v.length E]))) z<|bd' (e:=31) (r:=aR') (vs:=#[(0,.agg ((v31' l.root k i f g c d)).toArray)]) (cs:=(v31' l.root k i f g c d)++([])) ([l.root]:List Za) z z z z z (by decide) (fun _=>by kernel_rfl) ⟨(v31' l.root k i f g c d),[],z,⟨[.slice k l.root.vars.length i],[.slice f l.root.eqs.length g,.slice c l.root.neqs.length d,i' l.root.next],z,⟨_,z,R⟩,⟨[.slice f l.root.eqs.length g],[.slice c l.root.neqs.length d,i' l.root.next],z,⟨_,z,V⟩,⟨[.slice c l.root.neqs.length d],[i' l.root.next],z,⟨_,z,S⟩,z⟩⟩⟩,z⟩ (key:=999) z (by rw[al]; rfl) fun p1 an X aJ=>sx0 z z<|n'<|sr<|sx0 z z<|am' (fun (⟨C,L,K,F,W⟩:(List Za)×Option Addr×Nat×Option Ow×Mem)=>[(4,.slice L C.length K)]) (fun ⟨C,L,K,F,W⟩=>Mem.le an W/\sl aR' W L K C/\Tok 4 31 (.slice L C.length K) C.length F/\(Zdp C).Ret r) (fun ⟨C,L,K,F,W⟩=>St w0 G0 W [(1004,F)]) ?_ ?_
 .refine B' ?_
  let aa:(((List Za)×Bool)⊕(List Za))->Prop:=fun oo=>((fun ov=>match ov with | .inl rv1=>Cq.ret rv1 | .inr C=>Zdp C:(((List Za)×Bool)⊕(List Za))->Cq ((List Za)×Bool)) oo).wp (fun a=>a=r)
  replace hr:(Cq.loop _ _).wp aa:=hr
  refine an' (Φ:=aa) (fun (⟨u,A,B,x,D,M⟩:(List Za)×Option Addr×Nat×Option Ow×Int×Mem)=>((u,D):(List Za)×Int)) (fun ⟨u,A,B,x,D,M⟩=>[(1,pt0 b1),(4,.slice A u.length B),(5,i' D)]) (fun ⟨u,A,B,x,D,M⟩=>Mem.le an M/\sl aR' M A B u/\Tok 4 31 (.slice A u.length B) u.length x) (fun ⟨u,A,B,x,D,M⟩=>St w0 G0 M [(1,bk0 b1 (v34' l k i f g c d H E) 34),(1004,x)]) ⟨[l.root],p1,1,none,1,an⟩ hr (f3 z z z) ⟨mr,aJ,dh'⟩ (wk (lc z (lw ln))) ?_
  .intro aT gx hx hr
   obtain⟨u,A,B,x,D,M⟩:=gx
   obtain⟨P,T,Y⟩:=hx
   refine n'<|sr<|mv z z<|yy (aj' z) z<|yy (f' 1 bc' z z z) z<|yy (M' D' (U.mono (mt X P)) z) z<|yy (ai' z z) z<|nx<|L' hr z (fun aW hr=>?_) (fun aW hr=>?_)
   .refine q'<|g'<|n'<|B'<|sr<|yy (aj' z) z<|yy (f' 1 bc' z z z) z<|mv z z ?_
    obtain⟨x1,aw,hr⟩:=hr
    refine yy (T' D' bR' (U.mono (mt X P)) z z aw) z ?_
    obtain⟨aE,aA,aP,ag⟩:=cO' (I' (ae' U aw) (mt X P))
    refine yy (aA' _ ag63 z z aP) z<|V' 6 z z63 z fun b2=>s' 6 z bR' z z z z z (List.all_eq_true.1 z)<|nx<|aM' (fun (gx:Mem)=>match gx with|Z=>[(1,pt0 b1),(4,.slice A u.length B),(5,i' D),(6,pt0 b2)]) (fun (gx:Mem)=>match gx with|Z=>Mem.le M Z/\(Zgk u D x1).wp (Out aT aa)) (fun (gx:Mem)=>match gx with|Z=>St w0 G0 Z [(1,bk0 b1 (v34' l k i f g c d H E) 34),(6,bk0 b2 (v63' x1 aE aA) 63),(1004,x)]) ?_ ?_
    .refine sr<|yy (bT' z) z<|yy (f' 6 sc3 z z z) z<|ad' hr z (ai' z z) z (fun aL hr=>?_) (fun aL hr=>?_)
     .refine mv z z<|sn4 z<|yy (h' z z) z<|mv z z<|sn3 z<|yy (h' z z) z<|mv z z<|sn4 z<|yy (h' z z) z<|mv z z<|sn4 z<|yy (h' z z) z<|nx<|U' z<|sr<|sg z z<|sx0 z z<|j'<|a'<|m'<|a'<|a'<|m'<|ag'<|a' ?_
      obtain rfl:_=r:=hr
      exact aE' z z z ⟨_,_,z,(W' aR' _)⟩
     refine mv z z<|gy z z (bT' z) z<|gy z z (f' 6 sc3 z z z) z<|gy z z (e' z) z<|ad' hr (v' z z) (bf' z z) z (fun aZ hr=>?_) (fun aZ hr=>?_)
     .refine yy (l' z z) z<|mv z z<|sn3 z<|yy (h' z z) z<|mv z z<|sn4 z<|yy (h' z z) z<|mv z z<|sn4 z<|yy (h' z z) z<|nx<|U' z<|sr<|sg z z<|sx0 z z<|j'<|a'<|m'<|a'<|a'<|m'<|ag'<|a' ?_
      obtain rfl:_=r:=hr
      exact aE' z z z ⟨_,_,z,(W' aR' _)⟩
     refine yy (l' z z) z<|mv z z<|gy z z (cB' z) z<|gy z z (f' 6 sc3 z z z) z<|ad' hr (v' z z) (ai' z z) z (fun aS hr=>?_) (fun aS hr=>?_)
     .refine yy (l' z z) z<|mv z z<|sn4 z<|yy (h' z z) z<|mv z z<|sn4 z<|yy (h' z z) z<|nx<|U' z<|sr<|sg z z<|sx0 z z<|j'<|a'<|m'<|a'<|a'<|m'<|ag'<|a' ?_
      obtain rfl:_=r:=hr
      exact aE' z z z ⟨_,_,z,(W' aR' _)⟩
     refine yy (l' z z) z<|mv z z<|gy z z (cB' z) z<|gy z z (f' 6 sc3 z z z) z<|gy z z (e' z) z<|ad' hr (v' z z) (bf' z z) z (fun aQ hr=>?_) (fun aQ hr=>?_)
     .refine yy (l' z z) z<|mv z z<|sn4 z<|yy (h' z z) z<|nx<|U' z<|sr<|sg z z<|sx0 z z<|j'<|a'<|m'<|a'<|a'<|m'<|ag'<|a' ?_
      obtain rfl:_=r:=hr
      exact aE' z z z ⟨_,_,z,(W' aR' _)⟩
     refine yy (l' z z) z<|mv z z<|gy z z (bI' z) z<|gy z z (f' 6 sc44 z z z) z<|gy z z (M' as' ag z) z<|gy z z (bh' z z) z<|yy (l' z z) z<|nx<|L' hr z (fun aK hr=>?_) (fun aK hr=>?_)
     .refine sr<|sg z z<|sx0 z z<|j'<|a'<|m'<|a'<|a'<|m'<|ag'<|a' ?_
      obtain rfl:_=r:=hr
      exact aE' z z z ⟨_,_,z,(W' aR' _)⟩
     refine q'<|ar' M ⟨mr,hr⟩ (f4 z z z z) (w3 z z z)
    rintro Z ⟨Q,hr⟩
    refine n'<|ah' [ff,ff,ff,ff,ff,ff,ff,ff,ff] mix (by kernel_rfl) fun hb=>cn (fun _ y=>e' z)<|cn (fun _ y=>bT' z)<|cn (fun _ y=>f' 6 sc3 z z z) ?_
    obtain⟨x2,av,hr⟩:=hr
    refine cn (fun _ y=>T' cI' aV' ((T.mono Q).mono y) z z av) ?_
    obtain⟨aH,aI,aO,aU,aF,aG,a0,ad,ak,ae⟩:=cY' (I' (ae' T av) Q)
    refine cn (fun _ y=>aA' _ at' z z (fun j v hv=>y _ _ _ (a0 j v hv)))<|cn (fun _ y=>bI' z)<|cn (fun _ y=>f' 6 sc44 z z z) ?_
    obtain⟨t,aC,hr⟩:=hr
    refine aX' (post:=w72' t) (fun _=>z) (fun _ _=>t' E30 z) (fb' aC) z (fun G' y=>⟨(ad.mono y),(ak.mono y),(ae.mono y),((ag.mono Q).mono y)⟩) (fun v G1 G2 y h=>?_) ?_
    .obtain⟨s,q,p,o,m,n,rfl,J,O,I⟩:=h
     exact⟨_,_,_,_,_,_,z,J.mono y,O.mono y,I.mono y⟩
    refine bE' (fun _=>z) z72<|eg' (fun bc a6 X1 ai aj af=>?_)
    obtain⟨b3,rfl,aB⟩:=aj
    obtain⟨s,q,p,o,m,n,rfl,J,O,I⟩:=af
    refine cu' aB (cf' (show WL _ _ _ _ _ _ (St w0 G0 X1.m _) from ?_))
    refine s' 7 z sz72 z z z z z (List.all_eq_true.1 z)<|u'<|aq'<|g'<|n'<|sr<|yy (Y0.ZlG z) z<|yy (f' 7 sc36 z z z) z<|yy (aw' z z) z<|nx<|L' hr z (fun aR hr=>?_) (fun aR hr=>?_)
    .refine sr<|sg z z<|sx0 z z<|j'<|a'<|m'<|a'<|a'<|m'<|ag'<|a' ?_
     obtain rfl:_=r:=hr
     exact aE' z z z ⟨_,_,z,(W' aR' _)⟩
    refine q'<|g'<|A'<|mv z z<|yy (Y0.Zqw z) z<|yy (aI' ((v31' t.s s q p o m n)).toArray 7 at' z z z (aU' ([]) ((v31' t.s s q p o m n)) ([i' t.n,i' t.e]))) z<|bd' (e:=31) (r:=aR') (vs:=#[(0,.agg ((v31' t.s s q p o m n)).toArray)]) (cs:=(v31' t.s s q p o m n)++([])) ([t.s]:List Za) z z z z z (by decide) (fun _=>by kernel_rfl) ⟨(v31' t.s s q p o m n),[],z,⟨[.slice s t.s.vars.length q],[.slice p t.s.eqs.length o,.slice m t.s.neqs.length n,i' t.s.next],z,⟨_,z,J⟩,⟨[.slice p t.s.eqs.length o],[.slice m t.s.neqs.length n,i' t.s.next],z,⟨_,z,O⟩,⟨[.slice m t.s.neqs.length n],[i' t.s.next],z,⟨_,z,I⟩,z⟩⟩⟩,z⟩ (key:=999) z (by rw[al]; rfl) (fun p2 bd ac a2=>?_)
    obtain⟨ay,hr⟩:=hr
    refine bW' (r:=aR') 1004 z z cI' el31 z (by decide) z z (T.mono (mt (mt Q ai) ac)) z (by rw[al]; rfl) Y a2 ay fun p3 aY aD aV ar aX az=>sg z z<|u'<|J'<|g'<|A'<|mv z z<|yy (X' z z) z<|sg z z<|u'<|Y' ⟨(u++[t.s]),p3,aY,aD,i64.wrap (D+1),aV⟩ hr ⟨(mt (mt (mt (mt P Q) ai) ac) ar),aX,az⟩ (f3 z z z) (w2 z z)
   refine ao'<|r'<|r'<|O'<|ap' ⟨u,A,B,x,M⟩ ⟨P,T,Y,hr⟩ (f1 z) (w1 z)
 rintro⟨C,L,K,F,W⟩ ⟨a3,ap,aM,hr⟩
 refine g'<|sr<|mv z z<|sg z z<|sx0 z z<|j' ?_
 obtain rfl:_=r:=hr
 exact aE' z z z ⟨_,_,z,ap⟩
theorem fc'{m M e h j l c d o q r}(hr:(Zgi m M).Ret r):Ctr prog 12 #[.agg ((v34' m e h j l c d o q)).toArray,i' M] (fun G=>y34' G e h j l c d o q m) (w31t' r):=by
 refine E' (args:=[_,_]) (N:=22) func12 z z z (fun X Z U A=>?_)
 obtain⟨g,k,f,p⟩:=A
 refine sr<|af' 2 z z z fun W=>V' 4 z z31 z fun Y=>sx0 z z<|n'<|sr<|yy (o' 2 aG' z z z) z<|mv z z ?_
 obtain⟨S,B,hr⟩:=hr
 refine F' z z (t' E40 z) (ed' B) z (⟨g,k,f,p⟩)<|yy (al' z) z<|nx<|aL' hr z (fun L hr=>?_) (fun L hr=>?_)
 .refine sr<|yy (av' (vs:=#[]) (v:=.agg ([.slice none 0 0,.slice none 0 0,.slice none 0 0,i' 0]).toArray) z z (fun _=>by kernel_rfl)) z<|s' 4 z aV' z z z z z (List.all_eq_true.1 z)<|sx0 z z<|j'<|a' ?_
  obtain rfl:_=r:=hr
  exact aE' z (aa' (i:=4) at' z z z) z ⟨_,_,_,_,_,_,z,(W' Rp.str _),(W' b' _),(W' b' _)⟩
 refine q'<|g'<|sr<|yy (o' 2 aG' z z z) z ?_
 obtain⟨V,C,hr⟩:=hr
 refine P' z z (t' E41 z) (fg' C) z (⟨g,k,f,p⟩) (fun R T Q s=>?_)
 obtain⟨O,P,rfl,n⟩:=s
 refine mv z z<|yy (y' z z) z<|yy (y' z z) z<|sg z z<|sg z z<|nr<|mv z z<|mv z z ?_
 obtain⟨x1,y,hr⟩:=hr
 refine yy (T' cI' aV' n z z y) z ?_
 obtain⟨E,D,K,J,H,F,I,t,x,u⟩:=cY' (ae' n y)
 refine yy (aA' _ at' z z I) z<|s' 4 z aV' z z z z z (List.all_eq_true.1 z)<|sx0 z z<|j' ?_
 obtain rfl:_=r:=hr
 exact aE' z (aa' (i:=4) at' z z z) z ⟨_,_,_,_,_,_,z,t,x,u⟩
theorem et'{s1 l1 T O R X Y Q S an ao r}(hr:(Zhl s1 l1 T).Ret r):Ctr prog 28 #[.agg ((v31' s1 O R X Y Q S)).toArray,.slice an l1.length ao,i' T] (fun G=>sl Rp.str G O R s1.vars/\sl b' G X Y s1.eqs/\sl b' G Q S s1.neqs/\sl cr' G an ao l1) (wl' ab' r):=by
 refine E' (args:=[_,_,_]) (N:=44) func28 z z z (fun w0 G0 aA aI=>?_)
 obtain⟨ap,ay,aw,ax⟩:=aI
 refine sr<|af' 3 z z z fun b1=>sg z z<|nr<|bd' (e:=48) (r:=ab') (vs:=#[]) (cs:=[]) ([]:List Zc) z z z z z (by decide) (fun _=>by kernel_rfl) (z) (key:=999) z (by rw[aA]; rfl) fun p1 aB F aP=>sx0 z z<|n'<|sr<|sx0 z z<|am' (fun (⟨A,I,H,E,aa⟩:(List Zc)×Option Addr×Nat×Option Ow×Mem)=>[(7,.slice I A.length H)]) (fun ⟨A,I,H,E,aa⟩=>Mem.le aB aa/\sl ab' aa I H A/\Tok 7 48 (.slice I A.length H) A.length E/\(ZeH A).Ret r) (fun ⟨A,I,H,E,aa⟩=>St w0 G0 aa [(1007,E)]) ?_ ?_
 .refine B' ?_
  let al:(List Zc)->Prop:=fun oo=>((fun ov=>match ov with|A=>ZeH A:(List Zc)->Cq (List Zc)) oo).wp (fun a=>a=r)
  replace hr:(Cq.loop _ _).wp al:=hr
  refine an' (Φ:=al) (fun (⟨m,q,p,l,Z,D,k,g,o,n,i,f,x⟩:(List Zc)×Option Addr×Nat×Option Ow×Int×Za×Option Addr×Nat×Option Addr×Nat×Option Addr×Nat×Mem)=>((m,Z,D):(List Zc)×Int×Za)) (fun ⟨m,q,p,l,Z,D,k,g,o,n,i,f,x⟩=>[(1,.slice an l1.length ao),(2,i' T),(3,pt0 b1),(7,.slice q m.length p),(8,i' Z)]) (fun ⟨m,q,p,l,Z,D,k,g,o,n,i,f,x⟩=>Mem.le aB x/\sl ab' x q p m/\Tok 7 48 (.slice q m.length p) m.length l/\y31' x k g o n i f D) (fun ⟨m,q,p,l,Z,D,k,g,o,n,i,f,x⟩=>St w0 G0 x [(3,bk0 b1 (v31' D k g o n i f) 31),(1007,l)]) ⟨[],p1,0,none,0,s1,O,R,X,Y,Q,S,aB⟩ hr (f5 z z z z z) ⟨mr,aP,dh',(ap.mono F),(ay.mono F),(aw.mono F)⟩ (wk (lc z (lw ln))) ?_
  .intro aW gx hx hr
   obtain⟨m,q,p,l,Z,D,k,g,o,n,i,f,x⟩:=gx
   obtain⟨C,V,L,K,P,J⟩:=hx
   refine aM' (fun (gx:Mem)=>match gx with|ak=>[(1,.slice an l1.length ao),(2,i' T),(3,pt0 b1),(7,.slice q m.length p),(8,i' Z)]) (fun (gx:Mem)=>match gx with|ak=>Mem.le x ak/\(Zhn l1 m Z D).wp (Out aW al)) (fun (gx:Mem)=>match gx with|ak=>St w0 G0 ak [(3,bk0 b1 (v31' D k g o n i f) 31),(1007,l)]) ?_ ?_
   .refine sr<|mv z z<|mv z z<|yy (M' da' (ax.mono (mt F C)) z) z<|ad' hr z (ai' z z) z (fun aQ hr=>?_) (fun aQ hr=>?_)
    .refine mv z z<|gy z z (e' z) z<|gy z z (e' z) z<|gy z z (ai' z z) z<|yy (h' z z) z<|nx<|L' hr z (fun aU hr=>?_) (fun aU hr=>?_)
     .refine q'<|ar' x ⟨mr,hr⟩ (f5 z z z z z) (w2 z z)
     refine ao'<|r'<|r'<|O'<|ap' ⟨m,q,p,l,x⟩ ⟨C,V,L,hr⟩ (f1 z) (w1 z)
    refine mv z z<|sn3 z<|yy (l' z z) z<|nx<|bb' z<|ao'<|r'<|r'<|O'<|ap' ⟨m,q,p,l,x⟩ ⟨C,V,L,hr⟩ (f1 z) (w1 z)
   rintro ak ⟨d,hr⟩
   refine n'<|B'<|n'<|ah' [ff,ff,ff,ff,ff,ff,ff] mix (by kernel_rfl) fun hb=>cn (fun _ B=>o' 3 at' z z z)<|cn (fun _ B=>e' z)<|cn (fun _ B=>e' z) ?_
   obtain⟨x1,aH,hr⟩:=hr
   refine cn (fun _ B=>T' da' sz54 ((ax.mono (mt (mt F C) d)).mono B) z z aH) ?_
   obtain⟨a2,a3,aR,aF⟩:=ZeN (I' (ae' ax aH) (mt (mt F C) d))
   refine cn (fun _ B=>aA' _ ag54 z z (fun j v hv=>B _ _ _ (aR j v hv))) ?_
   obtain⟨c,aM,hr⟩:=hr
   refine aX' (post:=w48' c) (fun _=>z) (fun _ _=>t' E19 z) (eY' aM) z (fun G' B=>⟨((K.mono d).mono B),((P.mono d).mono B),((J.mono d).mono B),(aF.mono B)⟩) (fun v G1 G2 B h=>?_) ?_
   .obtain⟨s,t,rfl,U⟩:=h
    exact⟨_,_,z,U.mono B⟩
   refine bE' (fun _=>z) z48<|eg' (fun be a8 X1 y az av=>?_)
   obtain⟨b2,rfl,aL⟩:=az
   obtain⟨s,t,rfl,U⟩:=av
   refine cu' aL (cf' (show WL _ _ _ _ _ _ (St w0 G0 X1.m _) from ?_))
   refine s' 9 z cd' z z z z z (List.all_eq_true.1 z)<|u'<|aq'<|g'<|sr<|yy (o' 3 at' z z z) z<|yy (o' 9 bO' z z z) z ?_
   obtain⟨aT,aO,hr⟩:=hr
   refine P' z z (t' E55 z) (er' aO) z (⟨(K.mono (mt d y)),(P.mono (mt d y)),(J.mono (mt d y)),U⟩) (fun a5 aV u aq=>?_)
   obtain⟨af,ae,ah,ai,ad,ac,rfl,ag,aj,ab⟩:=aq
   refine mv z z<|yy (y' z z) z<|yy (y' z z) z<|V' 10 z z31 z fun b3=>s' 10 z aV' z z z z z (List.all_eq_true.1 z)<|sg z z<|nr<|mv z z<|yy (au' z z) z<|nx<|L' hr z (fun aX hr=>?_) (fun aX hr=>?_)
   .refine sr<|mv z z<|yy (o' 9 bO' z z z) z<|bd' (e:=48) (r:=ab') (vs:=#[(0,.agg ((v48' c s t)).toArray)]) (cs:=(v48' c s t)++([])) ([c]:List Zc) z z z z z (by decide) (fun _=>by kernel_rfl) ⟨(v48' c s t),[],z,⟨[i' c.kind],[.string c.name,i' c.at',i' c.to',i' c.id,.slice s c.p.length t,.bool c.neq],z,z,⟨[.string c.name],[i' c.at',i' c.to',i' c.id,.slice s c.p.length t,.bool c.neq],z,z,⟨[i' c.at'],[i' c.to',i' c.id,.slice s c.p.length t,.bool c.neq],z,z,⟨[i' c.to'],[i' c.id,.slice s c.p.length t,.bool c.neq],z,z,⟨[i' c.id],[.slice s c.p.length t,.bool c.neq],z,z,⟨[.slice s c.p.length t],[.bool c.neq],z,⟨_,z,(U.mono u)⟩,z⟩⟩⟩⟩⟩⟩,z⟩ (key:=999) z (by rw[aA]; rfl) (fun p2 bf M a1=>?_)
    obtain⟨aJ,hr⟩:=hr
    refine bW' (r:=ab') 1007 z z as' el48 z (by decide) z z (V.mono (mt (mt (mt d y) u) M)) z (by rw[aA]; rfl) L a1 aJ fun p3 aZ aN aS W aY aK=>sx0 z z<|A'<|yy (o' 10 at' z z z) z<|s' 3 z aV' z z z z z (List.all_eq_true.1 z)<|u'<|J'<|g'<|A'<|mv z z<|yy (X' z z) z<|sg z z<|u'<|Y' ⟨(m++[c]),p3,aZ,aN,i64.wrap (Z+1),aT.1,af,ae,ah,ai,ad,ac,aS⟩ hr ⟨(mt (mt (mt (mt (mt C d) y) u) M) W),aY,aK,(ag.mono (mt M W)),(aj.mono (mt M W)),(ab.mono (mt M W))⟩ (f5 z z z z z) (w2 z z)
   have N1:=mt (mt d y) u
   refine q'<|J'<|g'<|A'<|mv z z<|yy (X' z z) z<|sg z z<|u'<|Y' ⟨m,q,p,l,i64.wrap (Z+1),D,k,g,o,n,i,f,aV⟩ hr ⟨(mt (mt (mt C d) y) u),(V.mono N1),L,(K.mono N1),(P.mono N1),(J.mono N1)⟩ (f5 z z z z z) (w2 z z)
 rintro⟨A,I,H,E,aa⟩ ⟨a4,aC,a0,hr⟩
 refine g'<|sr<|mv z z<|sx0 z z<|j' ?_
 obtain rfl:_=r:=hr
 exact k' z z ⟨_,_,z,aC⟩
theorem fx'{c y x m j g k l d f L K U T r}(hr:(Zeh c y x m).Ret r):Ctr prog 36 #[.agg ((v34' c j g k l d f L K)).toArray,i' y,i' x,.slice U m.length T] (fun G=>sl Rp.str G j g c.root.vars/\sl b' G k l c.root.eqs/\sl b' G d f c.root.neqs/\sl Q' G L K c.v/\sl ab' G U T m) (w84' r):=by
 refine E' (args:=[_,_,_,_]) (N:=66) func36 z z z (fun w0 G0 bd aP=>?_)
 obtain⟨C,E,D,J,ab⟩:=aP
 refine sr<|af' 4 z z z fun b1=>V' 8 z z84 z fun b2=>nx<|n'<|sr<|yy (o' 4 aG' z z z) z<|mv z z ?_
 obtain⟨bE,aT,hr⟩:=hr
 refine F' z z (t' E40 z) (ed' aT) z (⟨C,E,D,J⟩)<|yy (al' z) z<|nx<|aL' hr z (fun be hr=>?_) (fun be hr=>?_)
 .refine sr<|yy (av' (vs:=#[(2,i' 340)]) (v:=.agg ([.slice none 0 0,.slice none 0 0,.slice none 0 0,i' 0,.slice none 0 0,i' 0,i' 340]).toArray) z z (fun _=>by kernel_rfl)) z<|s' 8 z sz84 z z z z z (List.all_eq_true.1 z)<|nx<|j'<|a' ?_
  obtain rfl:_=r:=hr
  exact k' z (aa' (i:=8) ag84 z z z) ⟨_,_,_,_,_,_,_,_,z,(W' Rp.str _),(W' b' _),(W' b' _),(W' Q' _)⟩
 refine q'<|g'<|aM' (fun (⟨S,q,o,t,s,p,n,I,M,P⟩:ZS×Option Addr×Nat×Option Addr×Nat×Option Addr×Nat×Option Addr×Nat×Mem)=>[(1,i' y),(2,i' x),(3,.slice U m.length T),(4,pt0 b1),(8,pt0 b2)]) (fun ⟨S,q,o,t,s,p,n,I,M,P⟩=>Mem.le G0 P/\sl Rp.str P q o S.h.root.vars/\sl b' P t s S.h.root.eqs/\sl b' P p n S.h.root.neqs/\sl Q' P I M S.h.v/\(Zg6 c y x m).Ret r) (fun ⟨S,q,o,t,s,p,n,I,M,P⟩=>St w0 G0 P [(4,bk0 b1 (v34' c j g k l d f L K) 34),(8,bk0 b2 (v84' S q o t s p n I M) 84)]) ?_ ?_
 .refine sr<|yy (aj' z) z<|yy (f' 4 bc' z z z) z<|yy (M' D' J z) z<|ad' hr z (bf' z z) z (fun a8 hr=>?_) (fun a8 hr=>?_)
  .refine mv z z<|sn3 z<|yy (h' z z) z<|nx<|U' z<|sr<|yy (av' (vs:=#[(2,i' 2)]) (v:=.agg ([.slice none 0 0,.slice none 0 0,.slice none 0 0,i' 0,.slice none 0 0,i' 0,i' 2]).toArray) z z (fun _=>by kernel_rfl)) z<|s' 8 z sz84 z z z z z (List.all_eq_true.1 z)<|nx<|j'<|a' ?_
   obtain rfl:_=r:=hr
   exact k' z (aa' (i:=8) ag84 z z z) ⟨_,_,_,_,_,_,_,_,z,(W' Rp.str _),(W' b' _),(W' b' _),(W' Q' _)⟩
  refine mv z z<|gy z z (e' z) z<|gy z z (M' as' ab z) z<|gy z z (bh' z z) z<|yy (l' z z) z<|nx<|L' hr z (fun a7 hr=>?_) (fun a7 hr=>?_)
  .refine sr<|yy (av' (vs:=#[(2,i' 2)]) (v:=.agg ([.slice none 0 0,.slice none 0 0,.slice none 0 0,i' 0,.slice none 0 0,i' 0,i' 2]).toArray) z z (fun _=>by kernel_rfl)) z<|s' 8 z sz84 z z z z z (List.all_eq_true.1 z)<|nx<|j'<|a' ?_
   obtain rfl:_=r:=hr
   exact k' z (aa' (i:=8) ag84 z z z) ⟨_,_,_,_,_,_,_,_,z,(W' Rp.str _),(W' b' _),(W' b' _),(W' Q' _)⟩
  refine q'<|ar' ⟨(ZS.mk (Zf.mk (Za.mk [] [] [] 0) []) 0 0),none,0,none,0,none,0,none,0,G0⟩ ⟨mr,(W' _ _),(W' _ _),(W' _ _),(W' _ _),hr⟩ (f5 z z z z z) (w2 z z)
 rintro⟨S,q,o,t,s,p,n,I,M,P⟩ ⟨B,ak,am,aj,bc,hr⟩
 refine sr<|yy (o' 4 aG' z z z) z<|mv z z ?_
 obtain⟨bD,a0,hr⟩:=hr
 refine P' z z (t' E12 z) (fc' a0) z (⟨(C.mono B),(E.mono B),(D.mono B),(J.mono B)⟩) (fun bn bF H ag=>?_)
 obtain⟨aC,ay,aG,aI,aw,au,rfl,ac,ad,aa⟩:=ag
 refine mv z z<|yy (y' z z) z<|yy (y' z z) z<|V' 9 z z31 z fun b3=>s' 9 z aV' z z z z z (List.all_eq_true.1 z)<|sg z z<|nr<|yy (o' 9 at' z z z) z<|mv z z ?_
 obtain⟨aM,a1,hr⟩:=hr
 refine P' z z (t' E30 z) (fb' a1) z (⟨ac,ad,aa,(ab.mono (mt B H))⟩) (fun bo bH O ai=>?_)
 obtain⟨aN,aL,aU,aR,aF,aJ,rfl,aK,aW,aH⟩:=ai
 refine V' 11 z z72 z fun b4=>s' 11 z sz72 z z z z z (List.all_eq_true.1 z)<|nx<|n'<|sr<|yy (Y0.ZlG z) z<|yy (f' 11 sc36 z z z) z<|yy (aw' z z) z<|nx<|L' hr z (fun bb hr=>?_) (fun bb hr=>?_)
 .refine sr<|yy (Y0.ZlG z) z<|yy (f' 11 sc36 z z z) z<|yy (av' (vs:=#[(2,i' aM.e)]) (v:=.agg ([.slice none 0 0,.slice none 0 0,.slice none 0 0,i' 0,.slice none 0 0,i' 0,i' aM.e]).toArray) z z (fun _=>by kernel_rfl)) z<|s' 8 z sz84 z z z z z (List.all_eq_true.1 z)<|nx<|j'<|a' ?_
  obtain rfl:_=r:=hr
  exact k' z (aa' (i:=8) ag84 z z z) ⟨_,_,_,_,_,_,_,_,z,(W' Rp.str _),(W' b' _),(W' b' _),(W' Q' _)⟩
 refine q'<|g'<|n'<|ah' [ff,ff,ff,ff,ff,ff,ff,ff] mix (by kernel_rfl) fun hb=>cn (fun _ A=>cJ' z)<|cn (fun _ A=>aI' ((v31' c.root j g k l d f)).toArray 4 at' z z z (aU' ([]) ((v31' c.root j g k l d f)) ([.slice L c.v.length K])))<|dz' (r:=Q') (e:=63) ([]:List Zh) (fun _=>z) z (by decide) (fun u Y A X=>?_) ?_
 .exact⟨#[],[],z,z,fun _=>by kernel_rfl,z⟩
 refine cu (fun _ _ A=>aj' z)<|cu (fun _ _ A=>f' 4 bc' z z z) ?_
 obtain⟨aQ,hr⟩:=hr
 refine bY' (r:=Q') (e:=63) (kk:=45) (xs:=([]:List Zh)) c.v (fun _=>z) z (by kernel_rfl) (by kernel_rfl) D' el63 z (by decide) aQ (fun u Y A X=>?_) ?_
 .obtain⟨aB,_⟩:=(show (RowX Q' 63 45 ([]:List Zh)) (u 45) Y/\True from X)
  exact⟨u 45,.slice L c.v.length K,aB,z,z,((J.mono (mt (mt B H) O)).mono A)⟩
 refine Chain.buildRow (r:=Q') (e:=63) (kk:=48) (xs:=(([]:List Zh)++c.v)) (fun al aq=>.agg ([.slice j c.root.vars.length g,.slice k c.root.eqs.length l,.slice d c.root.neqs.length f,i' c.root.next,.slice al (([]:List Zh)++c.v).length aq]).toArray) (fun _=>z) z (by kernel_rfl) (by kernel_rfl) (fun u Y A X=>?_) ?_
 .obtain⟨aE,_,_⟩:=(show (RowX Q' 63 48 (([]:List Zh)++c.v)) (u 48) Y/\True/\True from X)
  exact⟨u 48,aE,fun cp cc ar _=>av' (vs:=#[(0,.agg ((v31' c.root j g k l d f)).toArray),(1,.slice cp (([]:List Zh)++c.v).length cc)]) (by simp only[undFr,eatO,List.map_cons,List.map_nil,ar] <;> rfl) z (fun _=>by kernel_rfl)⟩
 refine bE' (fun _=>z) z34<|cn' fun bB bw bq bA X1 W an R a5 a4=>WL.adoptL an (fun b5 ba a9=>?_)
 subst ba
 replace R:=RowM.drop R (by decide) a9
 refine WL.adoptM R (fun al aq bk aV a2 bz=>?_)
 subst aV
 refine cf' (show WL _ _ _ _ _ _ (St w0 G0 X1.m _) from ?_)
 refine s' 12 z bH' z z z z z (List.all_eq_true.1 z)<|u'<|aq'<|g'<|n'<|ah' [ff,ff,ff,ff,ff,ff,ff,ff,ff] mix (by kernel_rfl) fun hb=>cn (fun _ A=>aj' z)<|cn (fun _ A=>f' 12 bc' z z z)<|cn (fun _ A=>e' z)<|cn (fun _ A=>e' z)<|dz' (r:=ab') (e:=48) ([]:List Zc) (fun _=>z) z (by decide) (fun u Y A X=>?_) ?_
 .exact⟨#[],[],z,z,fun _=>by kernel_rfl,z⟩
 refine cu (fun _ _ A=>e' z) ?_
 obtain⟨aS,hr⟩:=hr
 refine bY' (r:=ab') (e:=48) (kk:=54) (xs:=([]:List Zc)) m (fun _=>z) z (by kernel_rfl) (by kernel_rfl) as' el48 z (by decide) aS (fun u Y A X=>?_) ?_
 .obtain⟨av,_⟩:=(show (RowX ab' 48 54 ([]:List Zc)) (u 54) Y/\True from X)
  exact⟨u 54,.slice U m.length T,av,z,z,((ab.mono (mt (mt (mt B H) O) W)).mono A)⟩
 refine Chain.buildEat (r:=ab') (e:=48) (kk:=56) (xs:=(([]:List Zc)++m)) (φ:=fun G v=>∃ Q F,v = .agg ([i' y,i' x,.slice Q (([]:List Zc)++m).length F]).toArray/\SlR ab' G (.slice Q (([]:List Zc)++m).length F) (([]:List Zc)++m)) (fun _=>z) z (by kernel_rfl) (by kernel_rfl) (fun v G1 G2 A h=>?_) (fun u Y A X=>?_) ?_
 .obtain⟨Q,F,rfl,af⟩:=h
  exact⟨_,_,z,af.mono A⟩
 .obtain⟨ax,_,_⟩:=(show (RowX ab' 48 56 (([]:List Zc)++m)) (u 56) Y/\True/\True from X)
  exact⟨u 56,ax,fun cp cc Gf ar bh=>⟨_,fun _=>av' (vs:=#[(0,i' y),(1,i' x),(2,.slice cp (([]:List Zc)++m).length cc)]) (by simp only[undFr,eatO,List.map_cons,List.map_nil,ar] <;> rfl) z (fun _=>by kernel_rfl),cp,cc,z,bh⟩⟩
 refine eE' (r:=Q') (e:=63) ([(Zh.mk y x (([]:List Zc)++m))]:List Zh) (fun _=>z) z (by decide) (fun u Y A X=>?_) ?_
 .obtain⟨⟨Q,F,aD,af⟩,_,_,_⟩:=(show (fun G v=>∃ Q F,v = .agg ([i' y,i' x,.slice Q (([]:List Zc)++m).length F]).toArray/\SlR ab' G (.slice Q (([]:List Zc)++m).length F) (([]:List Zc)++m)) Y.m (u 57)/\True/\True/\True from X)
  simp only[undFr,aD]
  exact⟨#[(0,.agg ([i' y,i' x,.slice Q (([]:List Zc)++m).length F]).toArray)],[i' y,i' x,.slice Q (([]:List Zc)++m).length F]++([]),z,z,fun _=>by kernel_rfl,⟨[i' y,i' x,.slice Q (([]:List Zc)++m).length F],[],z,⟨[i' y],[i' x,.slice Q (([]:List Zc)++m).length F],z,z,⟨[i' x],[.slice Q (([]:List Zc)++m).length F],z,z,⟨_,z,af⟩⟩⟩,z⟩⟩
 refine cn' (fun bm bv bp bt X2 Z ae ah a3 a6=>?_)
 obtain⟨p2,bI,rfl,bj⟩:=ae
 obtain⟨Q,F,rfl,af⟩:=ah
 refine cf' (show WL _ _ _ _ _ _ (St w0 G0 X2.m _) from ?_)
 obtain⟨aY,hr⟩:=hr
 refine ct' (r:=Q') (e:=63) 49 z z D' el63 z (by decide) z z (a2.mono Z) z bj aY fun p3 ap bu bf=>yy (aj' z) z<|bn' (r:=Q') (e:=63) 49 bf z (by rw[bd]; rfl) fun bG bC V aX bl=>aC' 12 ([.slice j c.root.vars.length g,.slice k c.root.eqs.length l,.slice d c.root.neqs.length f,i' c.root.next,.slice p3 ((([]:List Zh)++c.v)++[(Zh.mk y x (([]:List Zc)++m))]).length ap]).toArray z sz32 z z z (show 4<5 by decide) z z<|u'<|aq'<|g'<|sr<|yy (o' 12 aG' z z z) z<|yy (aj' z) z<|yy (f' 4 bc' z z z) z<|yy (M' D' (J.mono (mt (mt (mt (mt (mt B H) O) W) Z) V)) z) z<|yy (av' (vs:=#[(0,.agg ([.slice j c.root.vars.length g,.slice k c.root.eqs.length l,.slice d c.root.neqs.length f,i' c.root.next,.slice p3 ((([]:List Zh)++c.v)++[(Zh.mk y x (([]:List Zc)++m))]).length ap]).toArray),(1,i' (c.v.length:Int))]) (v:=.agg ([.slice j c.root.vars.length g,.slice k c.root.eqs.length l,.slice d c.root.neqs.length f,i' c.root.next,.slice p3 ((([]:List Zh)++c.v)++[(Zh.mk y x (([]:List Zc)++m))]).length ap,i' (c.v.length:Int),i' 0]).toArray) z z (fun _=>by kernel_rfl)) z<|s' 8 z sz84 z z z z z (List.all_eq_true.1 z)<|nx<|j' ?_
 obtain rfl:_=r:=hr
 have N1:=mt (mt (mt (mt (mt B H) O) W) Z) V
 exact k' z (aa' (i:=8) ag84 z z z) ⟨_,_,_,_,_,_,_,_,z,(C.mono N1),(E.mono N1),(D.mono N1),aX⟩
theorem ek'{L av P S R Q r}(hr:(ZiP L av).Ret r):Ctr prog 10 #[.agg ((v25' L P S R Q)).toArray,i' av] (fun G=>sl cr' G P S L.s/\sl dJ' G R Q L.v) (w34' r):=by
 refine E' (args:=[_,_]) (N:=82) func10 z z z (fun w0 G0 bT bh=>?_)
 obtain⟨aW,x⟩:=bh
 refine sr<|af' 2 z z z fun b1=>V' 4 z z34 z fun b2=>nr<|yy (Y0.Zqe z) z<|yy (f' 2 sc22 z z z) z ?_
 obtain⟨bR,bj,hr⟩:=hr
 refine P' z z (t' E35 z) (gV' bj) z (aW) (fun bJ bV I aP=>?_)
 obtain⟨bn,bk,bs,br,bg,bi,rfl,aF,aL,aH⟩:=aP
 obtain⟨bz,bo,hr⟩:=hr
 refine P' z z (t' E34 z) (hg' bo) z (⟨aF,aL,aH⟩) (fun bG aU H aJ=>?_)
 obtain⟨ad,ab,af,al,Z,aa,aM,aR,rfl,ac,ai,Y,aN⟩:=aJ
 refine mv z z<|yy (y' z z) z<|yy (y' z z) z<|V' 5 z z34 z fun b3=>s' 5 z bH' z z z z z (List.all_eq_true.1 z)<|sx0 z z<|n'<|sr<|sx0 z z<|am' (fun (⟨O,q,p,t,s,o,n,V,U,X⟩:Zf×Option Addr×Nat×Option Addr×Nat×Option Addr×Nat×Option Addr×Nat×Mem)=>[(4,pt0 b2),(5,pt0 b3)]) (fun ⟨O,q,p,t,s,o,n,V,U,X⟩=>Mem.le aU X/\sl Rp.str X q p O.root.vars/\sl b' X t s O.root.eqs/\sl b' X o n O.root.neqs/\sl Q' X V U O.v/\(ZfS O).Ret r) (fun ⟨O,q,p,t,s,o,n,V,U,X⟩=>St w0 G0 X [(4,bk0 b2 ([.slice none 0 0,.slice none 0 0,.slice none 0 0,i' 0,.slice none 0 0]) 34),(5,bk0 b3 (v34' O q p t s o n V U) 34)]) ?_ ?_
 .refine B' ?_
  let az:Zf->Prop:=fun oo=>((fun ov=>match ov with|O=>ZfS O:Zf->Cq Zf) oo).wp (fun a=>a=r)
  replace hr:(Cq.loop _ _).wp az:=hr
  refine an' (Φ:=az) (fun (⟨J,C,f,e,l,k,j,g,E,D,K⟩:Int×Zf×Option Addr×Nat×Option Addr×Nat×Option Addr×Nat×Option Addr×Nat×Mem)=>((J,C):Int×Zf)) (fun ⟨J,C,f,e,l,k,j,g,E,D,K⟩=>[(1,i' av),(2,pt0 b1),(4,pt0 b2),(5,pt0 b3),(7,i' J)]) (fun ⟨J,C,f,e,l,k,j,g,E,D,K⟩=>Mem.le aU K/\y34' K f e l k j g E D C) (fun ⟨J,C,f,e,l,k,j,g,E,D,K⟩=>St w0 G0 K [(2,bk0 b1 (v25' L P S R Q) 25),(4,bk0 b2 ([.slice none 0 0,.slice none 0 0,.slice none 0 0,i' 0,.slice none 0 0]) 34),(5,bk0 b3 (v34' C f e l k j g E D) 34)]) ⟨0,bz.1,ad,ab,af,al,Z,aa,aM,aR,aU⟩ hr (f5 z z z z z) ⟨mr,ac,ai,Y,aN⟩ (w3 z z z) ?_
  .intro bb gx hx hr
   obtain⟨J,C,f,e,l,k,j,g,E,D,K⟩:=gx
   obtain⟨u,B,F,y,T⟩:=hx
   refine aM' (fun (gx:Mem)=>match gx with|ae=>[(1,i' av),(2,pt0 b1),(4,pt0 b2),(5,pt0 b3),(7,i' J)]) (fun (gx:Mem)=>match gx with|ae=>Mem.le K ae/\(Zit L J C).wp (Out bb az)) (fun (gx:Mem)=>match gx with|ae=>St w0 G0 ae [(2,bk0 b1 (v25' L P S R Q) 25),(4,bk0 b2 ([.slice none 0 0,.slice none 0 0,.slice none 0 0,i' 0,.slice none 0 0]) 34),(5,bk0 b3 (v34' C f e l k j g E D) 34)]) ?_ ?_
   .refine sr<|mv z z<|yy (Y0.ZhD z) z<|yy (f' 2 sc23 z z z) z<|yy (M' dq' (x.mono (mt (mt I H) u)) z) z<|ad' hr z (ai' z z) z (fun bu hr=>?_) (fun bu hr=>?_)
    .refine mv z z<|gy z z (e' z) z<|gy z z (e' z) z<|gy z z (ai' z z) z<|yy (h' z z) z<|nx<|L' hr z (fun bB hr=>?_) (fun bB hr=>?_)
     .refine q'<|ar' K ⟨mr,hr⟩ (f5 z z z z z) (w3 z z z)
     refine ao'<|r'<|r'<|O'<|ap' ⟨C,f,e,l,k,j,g,E,D,K⟩ ⟨u,B,F,y,T,hr⟩ (f2 z z) (w2 z z)
    refine mv z z<|sn3 z<|yy (l' z z) z<|nx<|bb' z<|ao'<|r'<|r'<|O'<|ap' ⟨C,f,e,l,k,j,g,E,D,K⟩ ⟨u,B,F,y,T,hr⟩ (f2 z z) (w2 z z)
   rintro ae ⟨m,hr⟩
   refine n'<|B'<|n'<|ah' [ff,ff,ff,ff,ff,ff,ff,ff,ff,ff] mix (by kernel_rfl) fun hb=>cn (fun _ c=>Y0.ZhD z)<|cn (fun _ c=>f' 2 sc23 z z z)<|cn (fun _ c=>e' z) ?_
   obtain⟨x1,bd,hr⟩:=hr
   have N1:=mt (mt (mt I H) u) m
   refine cn (fun _ c=>T' dq' sz82 ((x.mono N1).mono c) z z bd)<|cn (fun _ c=>Y0.Zqx z)<|cn (fun _ c=>Z' sc5 z (aF' (I' (I' (aW' (ay' (ae' x bd))) N1) c)))<|cn (fun _ c=>aN' aQ' aB' z)<|cn (fun _ c=>aj' z)<|cn (fun _ c=>f' 5 bc' z z z)<|cn (fun _ c=>M' D' ((T.mono m).mono c) z)<|R' hb ?_
   obtain⟨bA,hr⟩:=hr
   refine yy (bA' z z bA) z<|sg z z<|u'<|aq'<|g'<|sr<|sx0 z z<|aM' (fun (⟨ao,aC⟩:Int×Mem)=>[(1,i' av),(2,pt0 b1),(4,pt0 b2),(5,pt0 b3),(7,i' J),(8,i' (Int.tmod (i64.wrap x1.at') (C.v.length:Int))),(9,i' ao)]) (fun ⟨ao,aC⟩=>Mem.le ae aC/\(ZbE L J C x1 ao).wp (Out bb az)) (fun ⟨ao,aC⟩=>St w0 G0 aC [(2,bk0 b1 (v25' L P S R Q) 25),(4,bk0 b2 ([.slice none 0 0,.slice none 0 0,.slice none 0 0,i' 0,.slice none 0 0]) 34),(5,bk0 b3 (v34' C f e l k j g E D) 34)]) ?_ ?_
   .refine sr<|yy (Y0.ZhD z) z<|yy (f' 2 sc23 z z z) z<|mv z z ?_
    obtain⟨x3,a9,hr⟩:=hr
    refine yy (T' dq' sz82 (x.mono N1) z z a9) z<|yy (Y0.Zog z) z<|yy (Z' sc5 z (aF' (I' (aW' (ax' (ay' (ae' x a9)))) N1))) z<|yy (bA' z z (by decide)) z<|yy (au' z z) z<|nx<|L' hr z (fun bC hr=>?_) (fun bC hr=>?_)
    .refine ah' [ff,ff,ff,ff,ff,ff,ff,ff,ff,ff,ff] mix (by kernel_rfl) fun hb=>cn (fun _ c=>Y0.ZhD z)<|cn (fun _ c=>f' 2 sc23 z z z)<|cn (fun _ c=>e' z) ?_
     obtain⟨x4,a8,hr⟩:=hr
     refine cn (fun _ c=>T' dq' sz82 ((x.mono N1).mono c) z z a8)<|cn (fun _ c=>Y0.Zog z)<|cn (fun _ c=>Z' sc5 z (aF' (I' (I' (aW' (ax' (ay' (ae' x a8)))) N1) c)))<|cn (fun _ c=>dX' z z (by decide))<|cn (fun _ c=>aN' aQ' aB' z)<|cn (fun _ c=>aj' z)<|cn (fun _ c=>f' 5 bc' z z z)<|cn (fun _ c=>M' D' ((T.mono m).mono c) z)<|R' hb ?_
     obtain⟨bE,hr⟩:=hr
     refine yy (bA' z z bE) z<|sg z z<|u'<|aq'<|ar' ⟨Int.tmod (i64.wrap (u8.wrap (Int.tdiv x4.other 4))) (C.v.length:Int),ae⟩ ⟨mr,hr⟩ (f7 z z z z z z z) (w3 z z z)
    refine q'<|ar' ⟨(-1),ae⟩ ⟨mr,hr⟩ (f7 z z z z z z z) (w3 z z z)
   rintro⟨ao,aC⟩ ⟨A,hr⟩
   refine sr<|yy (o' 5 aG' z z z) z<|mv z z ?_
   obtain⟨bS,bp,hr⟩:=hr
   refine P' z z (t' E12 z) (fc' bp) z (⟨(B.mono (mt m A)),(F.mono (mt m A)),(y.mono (mt m A)),(T.mono (mt m A))⟩) (fun bH bU M aS=>?_)
   obtain⟨a4,aZ,bc,a7,a6,a0,rfl,ay,aD,aA⟩:=aS
   refine mv z z<|yy (y' z z) z<|yy (y' z z) z<|V' 10 z z31 z fun b4=>s' 10 z aV' z z z z z (List.all_eq_true.1 z)<|sx0 z z<|ah' [ff,ff,ff,ff,ff,ff,ff,ff,ff,ff,ff] mix (by kernel_rfl) fun hb=>cn (fun _ c=>o' 5 aG' z z z)<|cn (fun _ c=>e' z)<|cn (fun _ c=>e' z)<|cn (fun _ c=>o' 10 at' z z z)<|cn (fun _ c=>Y0.ZhD z)<|cn (fun _ c=>f' 2 sc23 z z z)<|cn (fun _ c=>e' z) ?_
   obtain⟨x2,ba,hr⟩:=hr
   refine cn (fun _ c=>T' dq' sz82 ((x.mono (mt (mt N1 A) M)).mono c) z z ba)<|cn (fun _ c=>Y0.Zqy z) ?_
   obtain⟨p1,bP,bw,bt⟩:=bF' (I' (ax' (ax' (ay' (ae' x ba)))) (mt (mt N1 A) M))
   refine cn (fun _ c=>Z' sc22 z (c _ _ _ bw)) ?_
   obtain⟨be,bf,hr⟩:=hr
   refine aX' (post:=wl' ab' be) (fun _=>z) (fun _ _=>t' E28 z) (et' bf) z (fun G' c=>⟨(ay.mono c),(aD.mono c),(aA.mono c),(bt.mono c)⟩) (fun v G1 G2 c h=>?_) ?_
   .obtain⟨bl,bq,rfl,aI⟩:=h
    exact⟨_,_,z,aI.mono c⟩
   refine cU' (d:=78) (post:=wl' ab' be) (fun bN bQ W aK=>?_)
   obtain⟨bl,bq,rfl,aI⟩:=aK
   obtain⟨bD,bm,hr⟩:=hr
   have N2:=mt (mt (mt m A) M) W
   refine P' z z (t' E36 z) (fx' bm) z (⟨(B.mono N2),(F.mono N2),(y.mono N2),(T.mono N2),aI⟩) (fun bI bx aY aQ=>?_)
   obtain⟨aj,ag,aw,ap,am,an,aX,aV,rfl,ah,ar,ak,aT⟩:=aQ
   refine yy (Y0.fieldA underlying84 z aG' z z) z<|s' 5 z bH' z z z z z (List.all_eq_true.1 z)<|u'<|aq'<|J'<|g'<|A'<|mv z z<|yy (X' z z) z<|sg z z<|u'<|Y' ⟨i64.wrap (J+1),bD.h,aj,ag,aw,ap,am,an,aX,aV,bx⟩ hr ⟨(mt (mt (mt (mt (mt u m) A) M) W) aY),ah,ar,ak,aT⟩ (f5 z z z z z) (w3 z z z)
 rintro⟨O,q,p,t,s,o,n,V,U,X⟩ ⟨bF,aq,ax,au,a1,hr⟩
 refine g'<|sr<|yy (o' 5 aG' z z z) z<|s' 4 z bH' z z z z z (List.all_eq_true.1 z)<|nx<|j' ?_
 obtain rfl:_=r:=hr
 exact k' z (aa' (i:=4) aG' z z z) ⟨_,_,_,_,_,_,_,_,z,aq,ax,au,a1⟩
theorem gg'{s q h g j i r}(hr:(ZiK s q).Ret r):Ctr prog 154 #[.agg ((v128' s h g)).toArray,.agg ((v128' q j i)).toArray] (fun G=>sl (Rp.int .u32) G h g s.mag/\sl (Rp.int .u32) G j i q.mag) (fun G v=>v = .bool r):=by
 refine E' (args:=[_,_]) (N:=38) func154 z z z (fun B p O x=>?_)
 obtain⟨e,k⟩:=x
 refine sr<|af' 2 z z z fun F=>af' 3 z z z fun D=>sx0 z z<|n'<|sr<|yy (bs' z) z<|yy (f' 2 sc4 z z z) z<|yy (bs' z) z<|yy (f' 3 sc4 z z z) z<|ad' hr z (Y0.neqB cv' z z) z (fun C hr=>?_) (fun C hr=>?_)
 .refine mv z z<|sn7 z<|yy (h' z z) z<|nx<|U' z<|sr<|sx0 z z<|j'<|a' (k0' hr z z)
 refine mv z z<|gy z z (aZ' z) z<|gy z z (f' 2 bL' z z z) z<|gy z z (M' C' e z) z<|gy z z (aZ' z) z<|gy z z (f' 3 bL' z z z) z<|gy z z (M' C' k z) z<|gy z z (aw' z z) z<|yy (l' z z) z<|nx<|L' hr z (fun E hr=>?_) (fun E hr=>?_)
 .exact (show False from hr).elim
 refine q'<|g'<|n'<|sr<|sx0 z z<|am' (fun (m:Mem)=>match m with|l=>[]) (fun (m:Mem)=>match m with|l=>Mem.le p l/\(ZfB).Ret r) (fun (m:Mem)=>match m with|l=>St B p l []) ?_ ?_
 .refine B' ?_
  let o:(Bool⊕Unit)->Prop:=fun K=>((fun J=>match J with | .inl rv1=>Cq.ret rv1 | .inr ()=>ZfB:(Bool⊕Unit)->Cq Bool) K).wp (fun a=>a=r)
  replace hr:(Cq.loop _ _).wp o:=hr
  refine an' (Φ:=o) (fun (⟨n,f⟩:Int×Mem)=>(n:Int)) (fun ⟨n,f⟩=>[(2,pt0 F),(3,pt0 D),(5,i' n)]) (fun ⟨n,f⟩=>Mem.le p f) (fun ⟨n,f⟩=>St B p f [(2,bk0 F (v128' s h g) 128),(3,bk0 D (v128' q j i) 128)]) ⟨0,p⟩ hr (f3 z z z) mr (w2 z z) ?_
  .intro M m L hr
   obtain⟨n,f⟩:=m
   have d:=L
   refine n'<|sr<|mv z z<|yy (aZ' z) z<|yy (f' 2 bL' z z z) z<|yy (M' C' (e.mono d) z) z<|yy (ai' z z) z<|nx<|L' hr z (fun y hr=>?_) (fun y hr=>?_)
   .refine q'<|g'<|n'<|B'<|n'<|ah' [ff,ff,ff,ff,ff,ff,ff,ff,ff,ff] mix (by kernel_rfl) fun I=>cn (fun _ c=>aZ' z)<|cn (fun _ c=>f' 2 bL' z z z)<|cn (fun _ c=>e' z) ?_
    obtain⟨Q,t,hr⟩:=hr
    refine cn (fun _ c=>T' C' bt' ((e.mono d).mono c) z z t)<|cn (fun _ c=>Z' bV' z (aF' (I' (I' (ae' e t) d) c)))<|cn (fun _ c=>aZ' z)<|cn (fun _ c=>f' 3 bL' z z z)<|cn (fun _ c=>e' z) ?_
    obtain⟨P,u,hr⟩:=hr
    refine cn (fun _ c=>T' C' bt' ((k.mono d).mono c) z z u)<|cn (fun _ c=>Z' bV' z (aF' (I' (I' (ae' k u) d) c)))<|R' I<|yy (aw' z z) z<|u'<|aq'<|g'<|L' hr z (fun A hr=>?_) (fun A hr=>?_)
    .exact (show False from hr).elim
    refine q'<|J'<|g'<|A'<|mv z z<|yy (X' z z) z<|sg z z<|u'<|Y' ⟨i64.wrap (n+1),f⟩ hr d (f3 z z z) (w2 z z)
   refine ao'<|r'<|r'<|O'<|ap' f ⟨d,hr⟩ fn (wk ln)
 rintro l ⟨H,hr⟩
 refine g'<|sr<|sx0 z z<|j' (k0' hr z z)
theorem gX'{l k j d c h i g f e r}(hr:(ZiJ l k).Ret r):Ctr prog 105 #[.agg ((v130' l j d c h)).toArray,.agg ((v130' k i g f e)).toArray] (fun G=>sl (Rp.int .u32) G j d l.num.mag/\sl (Rp.int .u32) G c h l.den.mag/\sl (Rp.int .u32) G i g k.num.mag/\sl (Rp.int .u32) G f e k.den.mag) (fun G v=>v = .bool r):=by
 refine E' (args:=[_,_]) (N:=17) func105 z z z (fun A D x q=>?_)
 obtain⟨p,o,n,m⟩:=q
 refine sr<|af' 2 z z z fun C=>af' 3 z z z fun B=>sg z z<|nr<|yy (cE' z) z<|yy (aI' ((v128' l.num j d)).toArray 2 bu' z z z (aU' ([]) ((v128' l.num j d)) ((v128' l.den c h)))) z<|yy (cE' z) z<|yy (aI' ((v128' k.num i g)).toArray 3 bu' z z z (aU' ([]) ((v128' k.num i g)) ((v128' k.den f e)))) z ?_
 obtain⟨u,s,hr⟩:=hr
 refine F' z z (t' E154 z) (gg' s) z (⟨p,n⟩) ?_
 cases u
 .refine mv z z<|sn5 z<|yy (l' z z) z<|sx0 z z<|j' (k0' hr z z)
 refine mv z z<|gy z z (cj' z) z<|gy z z (aI' ((v128' l.den c h)).toArray 2 bu' z z z (aU' ((v128' l.num j d)) ((v128' l.den c h)) ([]))) z<|gy z z (cj' z) z<|gy z z (aI' ((v128' k.den f e)).toArray 3 bu' z z z (aU' ((v128' k.num i g)) ((v128' k.den f e)) ([]))) z ?_
 obtain⟨y,t,hr⟩:=hr
 refine F' (v' z z) z (t' E154 z) (gg' t) z (⟨o,m⟩)<|yy (h' z z) z<|sx0 z z<|j' (k0' hr z z)
theorem gl'{l k d j i g e h c f r}(hr:(ZcM l k).Ret r):Ctr prog 75 #[.agg (((v130' l.c d j i g):List Value)++(vecG (Value.int .i64) 8 l.m)).toArray,.agg (((v130' k.c e h c f):List Value)++(vecG (Value.int .i64) 8 k.m)).toArray] (fun G=>sl (Rp.int .u32) G d j l.c.num.mag/\sl (Rp.int .u32) G i g l.c.den.mag/\sl (Rp.int .u32) G e h k.c.num.mag/\sl (Rp.int .u32) G c f k.c.den.mag) (fun G v=>v = .bool r):=by
 refine E' (args:=[_,_]) (N:=17) func75 z z z (fun y C x q=>?_)
 obtain⟨o,m,p,n⟩:=q
 refine sr<|af' 2 z z z fun B=>af' 3 z z z fun A=>sg z z<|nr<|yy (bB' z) z<|yy (aI' (vecG (Value.int .i64) 8 l.m).toArray 2 bS' z z (ac' _ _ _) (aU' ((v130' l.c d j i g)) (vecG (Value.int .i64) 8 l.m) ([]))) z<|yy (bB' z) z<|yy (aI' (vecG (Value.int .i64) 8 k.m).toArray 3 bS' z z (ac' _ _ _) (aU' ((v130' k.c e h c f)) (vecG (Value.int .i64) 8 k.m) ([]))) z<|ad' hr z (Y0.eqlV aO' aB' sc3 sz3 eg120 z z) z (fun t hr=>?_) (fun t hr=>?_)
 .refine mv z z<|gy z z (cQ' z) z<|gy z z (aI' ((v130' l.c d j i g)).toArray 2 cR' z z z (aU' ([]) ((v130' l.c d j i g)) ((vecG (Value.int .i64) 8 l.m)))) z<|gy z z (cQ' z) z<|gy z z (aI' ((v130' k.c e h c f)).toArray 3 cR' z z z (aU' ([]) ((v130' k.c e h c f)) ((vecG (Value.int .i64) 8 k.m)))) z ?_
  obtain⟨u,s,hr⟩:=hr
  refine F' (v' z z) z (t' E105 z) (gX' s) z (⟨o,m,p,n⟩)<|yy (h' z z) z<|sx0 z z<|j' (k0' hr z z)
 refine mv z z<|sn5 z<|yy (l' z z) z<|sx0 z z<|j' (k0' hr z z)
theorem gh'{E C x t q p r}(hr:(ZeA E C).Ret r):Ctr prog 58 #[.slice x E.length t,.slice q C.length p] (fun G=>sl K' G x t E/\sl K' G q p C) (fun G v=>v = .bool r):=by
 refine E' (args:=[_,_]) (N:=27) func58 z z z (fun S u ad M=>?_)
 obtain⟨n,s⟩:=M
 refine sr<|sx0 z z<|n'<|sr<|mv z z<|yy (M' ak' n z) z<|mv z z<|yy (M' ak' s z) z<|yy (aw' z z) z<|nx<|L' hr z (fun V hr=>?_) (fun V hr=>?_)
 .exact (show False from hr).elim
 refine q'<|g'<|n'<|sr<|sx0 z z<|am' (fun (l:Mem)=>match l with|k=>[]) (fun (l:Mem)=>match l with|k=>Mem.le u k/\(ZfH).Ret r) (fun (l:Mem)=>match l with|k=>St S u k []) ?_ ?_
 .refine B' ?_
  let o:(Bool⊕Unit)->Prop:=fun Z=>((fun Y=>match Y with | .inl rv1=>Cq.ret rv1 | .inr ()=>ZfH:(Bool⊕Unit)->Cq Bool) Z).wp (fun a=>a=r)
  replace hr:(Cq.loop _ _).wp o:=hr
  refine an' (Φ:=o) (fun (⟨m,e⟩:Int×Mem)=>(m:Int)) (fun ⟨m,e⟩=>[(0,.slice x E.length t),(1,.slice q C.length p),(5,i' m)]) (fun ⟨m,e⟩=>Mem.le u e) (fun ⟨m,e⟩=>St S u e []) ⟨0,u⟩ hr (f3 z z z) mr (wk ln) ?_
  .intro ac l hx hr
   obtain⟨m,e⟩:=l
   have c:=hx
   refine n'<|sr<|mv z z<|mv z z<|yy (M' ak' (n.mono c) z) z<|yy (ai' z z) z<|nx<|L' hr z (fun Q hr=>?_) (fun Q hr=>?_)
   .refine q'<|g'<|n'<|B'<|n'<|ah' [ff,ff,ff,ff,ff,ff,ff,ff] mix (by kernel_rfl) fun X=>cn (fun _ d=>e' z)<|cn (fun _ d=>e' z) ?_
    obtain⟨x1,K,hr⟩:=hr
    refine cn (fun _ d=>T' ak' cg' ((n.mono c).mono d) z z K) ?_
    obtain⟨y,B,D,F,T,f,h⟩:=do' (I' (ae' n K) c)
    refine cn (fun _ d=>aA' _ ag133 z z (fun j v O=>d _ _ _ (T j v O)))<|cn (fun _ d=>e' z)<|cn (fun _ d=>e' z) ?_
    obtain⟨x2,L,hr⟩:=hr
    refine cn (fun _ d=>T' ak' cg' ((s.mono c).mono d) z z L) ?_
    obtain⟨J,A,I,H,U,g,i⟩:=do' (I' (ae' s L) c)
    refine cn (fun _ d=>aA' _ ag133 z z (fun j v O=>d _ _ _ (U j v O)))<|R' X ?_
    obtain⟨ab,P,hr⟩:=hr
    refine F' z z (t' E75 z) (gl' P) z (⟨f,h,g,i⟩)<|yy (al' z) z<|u'<|aq'<|g'<|aL' hr z (fun R hr=>?_) (fun R hr=>?_)
    .exact (show False from hr).elim
    refine q'<|J'<|g'<|A'<|mv z z<|yy (X' z z) z<|sg z z<|u'<|Y' ⟨i64.wrap (m+1),e⟩ hr c (f3 z z z) (wk ln)
   refine ao'<|r'<|r'<|O'<|ap' e ⟨c,hr⟩ fn (wk ln)
 rintro k ⟨W,hr⟩
 refine g'<|sr<|sx0 z z<|j' (k0' hr z z)
theorem eT'{s q l p m o r}(hr:(ZbM s q).Ret r):Ctr prog 43 #[.slice l s.length p,.slice m q.length o] (fun G=>sl b' G l p s/\sl b' G m o q) (fun G v=>v = .bool r):=by
 refine E' (args:=[_,_]) (N:=42) func43 z z z (fun H n V A=>?_)
 obtain⟨f,g⟩:=A
 refine sr<|sx0 z z<|n'<|sr<|mv z z<|yy (M' w' f z) z<|mv z z<|yy (M' w' g z) z<|yy (aw' z z) z<|nx<|L' hr z (fun K hr=>?_) (fun K hr=>?_)
 .exact (show False from hr).elim
 refine q'<|g'<|n'<|sr<|sx0 z z<|am' (fun (i:Mem)=>match i with|h=>[]) (fun (i:Mem)=>match i with|h=>Mem.le n h/\(ZcP).Ret r) (fun (i:Mem)=>match i with|h=>St H n h []) ?_ ?_
 .refine B' ?_
  let k:(Bool⊕Unit)->Prop:=fun Q=>((fun P=>match P with | .inl rv1=>Cq.ret rv1 | .inr ()=>ZcP:(Bool⊕Unit)->Cq Bool) Q).wp (fun a=>a=r)
  replace hr:(Cq.loop _ _).wp k:=hr
  refine an' (Φ:=k) (fun (⟨j,e⟩:Int×Mem)=>(j:Int)) (fun ⟨j,e⟩=>[(0,.slice l s.length p),(1,.slice m q.length o),(5,i' j)]) (fun ⟨j,e⟩=>Mem.le n e) (fun ⟨j,e⟩=>St H n e []) ⟨0,n⟩ hr (f3 z z z) mr (wk ln) ?_
  .intro T i R hr
   obtain⟨j,e⟩:=i
   have d:=R
   refine n'<|sr<|mv z z<|mv z z<|yy (M' w' (f.mono d) z) z<|yy (ai' z z) z<|nx<|L' hr z (fun D hr=>?_) (fun D hr=>?_)
   .refine q'<|g'<|n'<|B'<|n'<|ah' [ff,ff,ff,ff,ff,ff,ff,ff,ff,ff,ff,ff,ff,ff,ff,ff,ff,ff,ff,ff,ff,ff] mix (by kernel_rfl) fun E=>cn (fun _ c=>e' z)<|cn (fun _ c=>e' z) ?_
    obtain⟨x1,t,hr⟩:=hr
    refine cn (fun _ c=>T' w' aT' ((f.mono d).mono c) z z t)<|cn (fun _ c=>bo' z)<|cn (fun _ c=>Z' sc3 z (aF' (I' (I' (aW' (ay' (ae' f t))) d) c)))<|cn (fun _ c=>e' z)<|cn (fun _ c=>e' z) ?_
    obtain⟨x2,x,hr⟩:=hr
    refine cn (fun _ c=>T' w' aT' ((g.mono d).mono c) z z x)<|cn (fun _ c=>bo' z)<|cn (fun _ c=>Z' sc3 z (aF' (I' (I' (aW' (ay' (ae' g x))) d) c)))<|bz' hr z (fun _ c=>aw' z z) (fun I hr=>?_) (fun I hr=>?_)
    .refine cn (fun _ c=>e' z)<|cf z z<|cf z z<|cf z z<|cf z z<|cf z z<|cf z z<|cf z z<|cf z z<|cf z z<|cf z z<|R' E<|sn2 z<|yy (h' z z) z<|u'<|aq'<|g'<|U' z<|sr<|sx0 z z<|j'<|m'<|a'<|a'<|m'<|ag'<|a' (k0' hr z z)
    refine cn (fun _ c=>e' z)<|cy z z (fun _ c=>e' z)<|cy z z (fun _ c=>e' z) ?_
    obtain⟨x3,u,hr⟩:=hr
    refine cy z z (fun _ c=>T' w' aT' ((f.mono d).mono c) z z u)<|cy z z (fun _ c=>bX' z) ?_
    obtain⟨Z,W,J,C⟩:=bF' (I' (ax' (ay' (ae' f u))) d)
    refine cy z z (fun _ c=>Z' cF' z (c _ _ _ J))<|cy z z (fun _ c=>e' z)<|cy z z (fun _ c=>e' z) ?_
    obtain⟨X,y,hr⟩:=hr
    refine cy z z (fun _ c=>T' w' aT' ((g.mono d).mono c) z z y)<|cy z z (fun _ c=>bX' z) ?_
    obtain⟨Y,U,M,L⟩:=bF' (I' (ax' (ay' (ae' g y))) d)
    refine cy z z (fun _ c=>Z' cF' z (c _ _ _ M))<|R' E ?_
    obtain⟨S,B,hr⟩:=hr
    refine F' (v' z z) z (t' E58 z) (gh' B) z (⟨C,L⟩)<|gy z z (al' z) z<|yy (l' z z) z<|u'<|aq'<|g'<|aL' hr z (fun F hr=>?_) (fun F hr=>?_)
    .exact (show False from hr).elim
    refine q'<|J'<|g'<|A'<|mv z z<|yy (X' z z) z<|sg z z<|u'<|Y' ⟨i64.wrap (j+1),e⟩ hr d (f3 z z z) (wk ln)
   refine ao'<|r'<|r'<|O'<|ap' e ⟨d,hr⟩ fn (wk ln)
 rintro h ⟨O,hr⟩
 refine g'<|sr<|sx0 z z<|j' (k0' hr z z)
theorem dH'{B A m i o n g l f h q s k e r}(hr:(ZeD B A).Ret r):Ctr prog 15 #[.agg ((v31' B m i o n g l)).toArray,.agg ((v31' A f h q s k e)).toArray] (fun G=>sl Rp.str G m i B.vars/\sl b' G o n B.eqs/\sl b' G g l B.neqs/\y31' G f h q s k e A) (fun G v=>v = .bool r):=by
 refine E' (args:=[_,_]) (N:=54) func15 z z z (fun Q K ag R=>?_)
 obtain⟨j,I,E,u,J,F⟩:=R
 refine sr<|af' 2 z z z fun M=>af' 3 z z z fun L=>sx0 z z<|aM' (fun (t:Mem)=>match t with|y=>[(2,pt0 M),(3,pt0 L)]) (fun (t:Mem)=>match t with|y=>Mem.le K y/\(Zir B A).Ret r) (fun (t:Mem)=>match t with|y=>St Q K y [(2,bk0 M (v31' B m i o n g l) 31),(3,bk0 L (v31' A f h q s k e) 31)]) ?_ ?_
 .refine sr<|yy (aH' z) z<|yy (f' 2 bC' z z z) z<|yy (M' H' j z) z<|yy (aH' z) z<|yy (f' 3 bC' z z z) z<|yy (M' H' u z) z<|ad' hr z (aw' z z) z (fun Y hr=>?_) (fun Y hr=>?_)
  .refine mv z z<|sn5 z<|yy (h' z z) z<|mv z z<|sn6 z<|yy (h' z z) z<|mv z z<|sn6 z<|yy (h' z z) z<|nx<|U' z<|sr<|sx0 z z<|j'<|a' (k0' hr z z)
  refine mv z z<|gy z z (bw' z) z<|gy z z (f' 2 sc3 z z z) z<|gy z z (bw' z) z<|gy z z (f' 3 sc3 z z z) z<|ad' hr (v' z z) (aw' z z) z (fun X hr=>?_) (fun X hr=>?_)
  .refine yy (l' z z) z<|mv z z<|sn6 z<|yy (h' z z) z<|mv z z<|sn6 z<|yy (h' z z) z<|nx<|U' z<|sr<|sx0 z z<|j'<|a' (k0' hr z z)
  refine yy (l' z z) z<|mv z z<|gy z z (aY' z) z<|gy z z (f' 2 br' z z z) z<|gy z z (aY' z) z<|gy z z (f' 3 br' z z z) z ?_
  obtain⟨V,S,hr⟩:=hr
  refine F' (v' z z) z (t' E43 z) (eT' S) z (⟨I,J⟩) ?_
  cases V
  .refine gy z z (al' z) z<|yy (l' z z) z<|mv z z<|sn6 z<|yy (h' z z) z<|nx<|U' z<|sr<|sx0 z z<|j'<|a' (k0' hr z z)
  refine gy z z (al' z) z<|yy (l' z z) z<|mv z z<|gy z z (ba' z) z<|gy z z (f' 2 br' z z z) z<|gy z z (ba' z) z<|gy z z (f' 3 br' z z z) z ?_
  obtain⟨ah,T,hr⟩:=hr
  refine F' (v' z z) z (t' E43 z) (eT' T) z (⟨E,F⟩)<|gy z z (al' z) z<|yy (l' z z) z<|nx<|aL' hr z (fun W hr=>?_) (fun W hr=>?_)
  .exact (show False from hr).elim
  refine q'<|ar' K ⟨mr,hr⟩ (f2 z z) (w2 z z)
 rintro y ⟨p,hr⟩
 refine n'<|sr<|sx0 z z<|am' (fun (t:Mem)=>match t with|C=>[]) (fun (t:Mem)=>match t with|C=>Mem.le y C/\(ZfK).Ret r) (fun (t:Mem)=>match t with|C=>St Q K C []) ?_ ?_
 .refine B' ?_
  let H:(Bool⊕Unit)->Prop:=fun oo=>((fun ov=>match ov with | .inl rv1=>Cq.ret rv1 | .inr ()=>ZfK:(Bool⊕Unit)->Cq Bool) oo).wp (fun a=>a=r)
  replace hr:(Cq.loop _ _).wp H:=hr
  refine an' (Φ:=H) (fun (⟨D,x⟩:Int×Mem)=>(D:Int)) (fun ⟨D,x⟩=>[(2,pt0 M),(3,pt0 L),(5,i' D)]) (fun ⟨D,x⟩=>Mem.le y x) (fun ⟨D,x⟩=>St Q K x [(2,bk0 M (v31' B m i o n g l) 31),(3,bk0 L (v31' A f h q s k e) 31)]) ⟨0,y⟩ hr (f3 z z z) mr (w2 z z) ?_
  .intro af t hx hr
   obtain⟨D,x⟩:=t
   have d:=hx
   refine n'<|sr<|mv z z<|yy (aH' z) z<|yy (f' 2 bC' z z z) z<|yy (M' H' (j.mono (mt p d)) z) z<|yy (ai' z z) z<|nx<|L' hr z (fun Z hr=>?_) (fun Z hr=>?_)
   .refine q'<|g'<|n'<|B'<|n'<|ah' [ff,ff,ff,ff,ff,ff,ff,ff,ff,ff] mix (by kernel_rfl) fun hb=>cn (fun _ c=>aH' z)<|cn (fun _ c=>f' 2 bC' z z z)<|cn (fun _ c=>e' z) ?_
    obtain⟨x1,O,hr⟩:=hr
    refine cn (fun _ c=>T' H' sz9 ((j.mono (mt p d)).mono c) z z O)<|cn (fun _ c=>Z' sc9 z (cb' (I' (I' (ae' j O) (mt p d)) c)))<|cn (fun _ c=>aH' z)<|cn (fun _ c=>f' 3 bC' z z z)<|cn (fun _ c=>e' z) ?_
    obtain⟨x2,P,hr⟩:=hr
    refine cn (fun _ c=>T' H' sz9 ((u.mono (mt p d)).mono c) z z P)<|cn (fun _ c=>Z' sc9 z (cb' (I' (I' (ae' u P) (mt p d)) c)))<|R' hb<|yy (Y0.neqS bl' z z) z<|u'<|aq'<|g'<|L' hr z (fun U hr=>?_) (fun U hr=>?_)
    .exact (show False from hr).elim
    refine q'<|J'<|g'<|A'<|mv z z<|yy (X' z z) z<|sg z z<|u'<|Y' ⟨i64.wrap (D+1),x⟩ hr d (f3 z z z) (w2 z z)
   refine ao'<|r'<|r'<|O'<|ap' x ⟨d,hr⟩ fn (wk ln)
 rintro C ⟨aa,hr⟩
 refine g'<|sr<|sx0 z z<|j' (k0' hr z z)
theorem fy'{A Q M l m n o j k D E J K r}(hr:(Zej A Q M).Ret r):Ctr prog 21 #[.agg ((v34' A l m n o j k D E)).toArray,i' Q,.slice J M.length K] (fun G=>sl Rp.str G l m A.root.vars/\sl b' G n o A.root.eqs/\sl b' G j k A.root.neqs/\sl Q' G D E A.v/\sl ab' G J K M) (w34u' r):=by
 refine E' (args:=[_,_,_]) (N:=20) func21 z z z (fun Z G0 X L=>?_)
 obtain⟨x,y,t,I,P⟩:=L
 refine sr<|af' 3 z z z fun Y=>V' 6 z z34 z fun b2=>sg z z<|sg z z<|nr<|yy (o' 3 aG' z z z) z<|mv z z<|mv z z ?_
 obtain⟨B,O,hr⟩:=hr
 refine P' z z (t' E36 z) (fx' O) z (⟨x,y,t,I,P⟩) (fun T W S F=>?_)
 obtain⟨d,e,g,h,c,f,v,s,rfl,p,u,q,H⟩:=F
 refine V' 9 z z84 z fun V=>s' 9 z sz84 z z z z z (List.all_eq_true.1 z)<|nx<|n'<|WC.drawnB [(9,bk0 V (v84' B d e g h c f v s) 84)] (lc z ln) [ff,ff,tt,tt,tt,tt] mix (by kernel_rfl) fun U=>cn (fun _ R=>Y0.Zqz z)<|cn (fun _ R=>aI' ((v34' B.h d e g h c f v s)).toArray 9 aG' z z z (aU' ([]) ((v34' B.h d e g h c f v s)) ([i' B.n,i' B.e])))<|cm' z (Y0.ZqA z)<|cm' z (f' 9 sc3 z z z)<|cm' z (Y0.ZqB z)<|cm' z (f' 9 sc36 z z z)<|Chain.tailB U<|WLT.one (fun w C=>C.weaken (lc z ln))<|s' 6 z bH' z z z z z (List.all_eq_true.1 z)<|WLT.back<|WLT.y0 (fun w C=>C.weaken (lc z ln)) z (Y0.assign z) z<|WLT.y0 (fun w C=>C.weaken (lc z ln)) z (Y0.assign z) z<|WLT.nil (fun w C=>C.weaken (lc z ln))<|aq'<|g'<|j' ?_
 obtain rfl:_=r:=hr
 exact cW' z (aa' (i:=6) aG' z z z) z z ⟨_,_,_,_,_,_,_,_,z,p,u,q,H⟩
end Go.Proofs.YtnjiloaolgjedaaGreat

namespace Go.Proofs.YtnjiloaolgjedaaGreat
open Go.IntKind (i8 i16 i32 i64 u8 u16 u32 u64)
open Go.Proofs.Tryz
open Go Go.EL Go.RowKit Go.Proofs
theorem eu'{g I L f h j l c d C D r}(hr:(Zcx g I L).Ret r):Ctr prog 17 #[.agg ((v34' g f h j l c d C D)).toArray,i' I,i' L] (fun G=>y34' G f h j l c d C D g) (fun G v=>v = .bool r):=by
 refine E' (args:=[_,_,_]) (N:=62) func17 z z z (fun w0 P aA af=>?_)
 obtain⟨t,x,s,m⟩:=af
 refine sr<|af' 3 z z z fun R=>sx0 z z<|aM' (fun (J:Mem)=>match J with|B=>[(1,i' I),(2,i' L),(3,pt0 R)]) (fun (J:Mem)=>match J with|B=>Mem.le P B/\(Zhp g I L).Ret r) (fun (J:Mem)=>match J with|B=>St w0 P B [(3,bk0 R (v34' g f h j l c d C D) 34)]) ?_ ?_
 .refine sr<|yy (o' 3 aG' z z z) z<|mv z z ?_
  obtain⟨aj,ag,hr⟩:=hr
  refine F' z z (t' E40 z) (ed' ag) z (⟨t,x,s,m⟩) ?_
  cases aj
  .refine yy (al' z) z<|mv z z<|sn4 z<|yy (h' z z) z<|nx<|U' z<|sr<|sx0 z z<|j'<|a' (k0' hr z z)
  refine yy (al' z) z<|mv z z<|gy z z (o' 3 aG' z z z) z<|gy z z (e' z) z ?_
  obtain⟨aB,ah,hr⟩:=hr
  refine F' (v' z z) z (t' E40 z) (ed' ah) z (⟨t,x,s,m⟩)<|gy z z (al' z) z<|yy (l' z z) z<|nx<|aL' hr z (fun an hr=>?_) (fun an hr=>?_)
  .refine sr<|sx0 z z<|j'<|a' (k0' hr z z)
  refine q'<|ar' P ⟨mr,hr⟩ (f3 z z z) (w1 z)
 rintro B ⟨p,hr⟩
 refine sr<|yy (aj' z) z<|yy (f' 3 bc' z z z) z<|yy (M' D' (m.mono p) z) z ?_
 obtain⟨am,hr⟩:=hr
 refine dS' (r:=Rp.bool) (e:=4) (n:=(g.v.length:Int)) (zx:=false) 4022 z z db' el4 z (by decide) (by decide) z z z am fun Q ax S=>sg z z<|nr<|mv z z<|mv z z ?_
 obtain⟨x1,V,hr⟩:=hr
 refine yy (aP' db' sz4 S z z V) z<|bx' (r:=Rp.bool) (e:=4) (cs':=[.bool true]) (i:=L) (z':=true) 4022 z sz4 z S z z z z z V fun al ab=>nx<|n'<|sr<|mv z z<|sx0 z z<|am' (fun (⟨E,A,F⟩:(List Bool)×Option Ow×Mem)=>[(1,i' I),(7,.slice Q (g.v.length:Int).toNat ((g.v.length:Int).toNat))]) (fun ⟨E,A,F⟩=>Mem.le B F/\RowR Rp.bool 4 F (.slice Q (g.v.length:Int).toNat ((g.v.length:Int).toNat)) E A/\(ZeL I E).Ret r) (fun ⟨E,A,F⟩=>St w0 P F [(4022,A)]) ?_ ?_
 .refine B' ?_
  let O:(List Bool)->Prop:=fun oo=>((fun ov=>match ov with|E=>ZeL I E:(List Bool)->Cq Bool) oo).wp (fun a=>a=r)
  replace hr:(Cq.loop _ _).wp O:=hr
  refine an' (Φ:=O) (fun (⟨u,o,H,q⟩:(List Bool)×Option Ow×Int×Mem)=>((u,H):(List Bool)×Int)) (fun ⟨u,o,H,q⟩=>[(1,i' I),(3,pt0 R),(7,.slice Q (g.v.length:Int).toNat ((g.v.length:Int).toNat)),(8,i' H)]) (fun ⟨u,o,H,q⟩=>Mem.le B q/\RowR Rp.bool 4 q (.slice Q (g.v.length:Int).toNat ((g.v.length:Int).toNat)) u o) (fun ⟨u,o,H,q⟩=>St w0 P q [(3,bk0 R (v34' g f h j l c d C D) 34),(4022,o)]) ⟨((List.replicate (g.v.length:Int).toNat false).set L.toNat true),al,L,B⟩ hr (f4 z z z z) ⟨mr,ab⟩ (w2 z z) ?_
  .intro az J hx hr
   obtain⟨u,o,H,q⟩:=J
   obtain⟨k,y⟩:=hx
   refine n'<|sr<|mv z z<|yy (bh' z z) z<|nx<|L' hr z (fun ap hr=>?_) (fun ap hr=>?_)
   .refine q'<|g'<|n'<|B'<|sr<|mv z z<|mv z z ?_
    obtain⟨x3,U,hr⟩:=hr
    refine yy (aP' db' sz4 y z z U) z<|yy (dj' sc4 y (key:=4022) z z (AtK.bool (cz' y U))) z<|nx<|aL' hr z (fun ai hr=>?_) (fun ai hr=>?_)
    .refine sr<|mv z z<|yy (aj' z) z<|yy (f' 3 bc' z z z) z<|mv z z ?_
     obtain⟨x4,X,hr⟩:=hr
     refine yy (T' D' bR' (m.mono (mt p k)) z z X) z<|yy (bT' z) z<|yy (Z' sc3 z (aF' (I' (aW' (ay' (ae' m X))) (mt p k)))) z ?_
     obtain⟨x5,Y,hr⟩:=hr
     refine yy (aP' db' sz4 y z z Y) z<|bx' (r:=Rp.bool) (e:=4) (cs':=[.bool true]) (i:=x4.parent) (z':=true) 4022 z sz4 z y z z z z z Y fun aq M=>nr<|yy (aj' z) z<|yy (f' 3 bc' z z z) z<|mv z z ?_
     obtain⟨x6,aa,hr⟩:=hr
     refine yy (T' D' bR' (m.mono (mt p k)) z z aa) z<|yy (cB' z) z<|yy (Z' sc3 z (aF' (I' (aW' (ax' (ay' (ae' m aa)))) (mt p k)))) z<|yy (bf' z z) z<|nx<|L' hr z (fun ak hr=>?_) (fun ak hr=>?_)
     .refine A'<|mv z z<|yy (aj' z) z<|yy (f' 3 bc' z z z) z<|mv z z ?_
      obtain⟨x7,T,hr⟩:=hr
      refine yy (T' D' bR' (m.mono (mt p k)) z z T) z<|yy (cB' z) z<|yy (Z' sc3 z (aF' (I' (aW' (ax' (ay' (ae' m T)))) (mt p k)))) z ?_
      obtain⟨x8,Z,hr⟩:=hr
      refine yy (aP' db' sz4 M z z Z) z<|bx' (r:=Rp.bool) (e:=4) (cs':=[.bool true]) (i:=x7.other) (z':=true) 4022 z sz4 z M z z z z z Z fun ar ae=>u'<|J'<|g'<|A'<|mv z z<|yy (bj' z z) z<|sg z z<|u'<|Y' ⟨((u.set x4.parent.toNat true).set x7.other.toNat true),ar,i64.wrap (H-1),q⟩ hr ⟨k,ae⟩ (f4 z z z z) (w2 z z)
     refine q'<|J'<|g'<|A'<|mv z z<|yy (bj' z z) z<|sg z z<|u'<|Y' ⟨(u.set x4.parent.toNat true),aq,i64.wrap (H-1),q⟩ hr ⟨k,M⟩ (f4 z z z z) (w2 z z)
    refine q'<|J'<|g'<|A'<|mv z z<|yy (bj' z z) z<|sg z z<|u'<|Y' ⟨u,o,i64.wrap (H-1),q⟩ hr ⟨k,y⟩ (f4 z z z z) (w2 z z)
   refine ao'<|r'<|r'<|O'<|ap' ⟨u,o,q⟩ ⟨k,y,hr⟩ (f2 z z) (w1 z)
 rintro⟨E,A,F⟩ ⟨au,K,hr⟩
 refine g'<|sr<|mv z z<|mv z z ?_
 obtain⟨x2,W,hr⟩:=hr
 refine yy (aP' db' sz4 K z z W) z<|yy (dj' sc4 K (key:=4022) z z (AtK.bool (cz' K W))) z<|sx0 z z<|j' (k0' hr z z)
theorem gW'{o A x i j k l g h p q r}(hr:(ZiO o A x).Ret r):Ctr prog 14 #[.agg ((v34' o i j k l g h p q)).toArray,i' A,i' x] (fun G=>y34' G i j k l g h p q o) (fun G v=>v = .tuple #[i' r.1,i' r.2]):=by
 refine E' (args:=[_,_,_]) (N:=37) func14 z z z (fun M B V E=>?_)
 obtain⟨d,f,c,n⟩:=E
 refine sr<|af' 3 z z z fun P=>sg z z<|sx0 z z<|n'<|sr<|yy (o' 3 aG' z z z) z<|mv z z ?_
 obtain⟨J,F,hr⟩:=hr
 refine F' z z (t' E40 z) (ed' F) z (⟨d,f,c,n⟩) ?_
 cases J
 .refine yy (al' z) z<|mv z z<|sn4 z<|yy (h' z z) z<|nx<|U' z<|sr<|sg z z<|sx0 z z<|j'<|a' ?_
  obtain rfl:_=r:=hr
  exact aE' z z z z
 refine yy (al' z) z<|mv z z<|gy z z (o' 3 aG' z z z) z<|gy z z (e' z) z ?_
 obtain⟨X,H,hr⟩:=hr
 refine F' (v' z z) z (t' E40 z) (ed' H) z (⟨d,f,c,n⟩)<|gy z z (al' z) z<|yy (l' z z) z<|nx<|aL' hr z (fun O hr=>?_) (fun O hr=>?_)
 .refine sr<|sg z z<|sx0 z z<|j'<|a' ?_
  obtain rfl:_=r:=hr
  exact aE' z z z z
 refine q'<|g'<|n'<|sr<|mv z z<|mv z z<|yy (Y0.min2 z z) z<|sx0 z z<|am' (fun (u:Mem)=>match u with|t=>[]) (fun (u:Mem)=>match u with|t=>Mem.le B t/\(ZfR).Ret r) (fun (u:Mem)=>match u with|t=>St M B t []) ?_ ?_
 .refine B' ?_
  let y:((Int×Int)⊕Unit)->Prop:=fun S=>((fun R=>match R with | .inl rv1=>Cq.ret rv1 | .inr ()=>ZfR:((Int×Int)⊕Unit)->Cq (Int×Int)) S).wp (fun a=>a=r)
  replace hr:(Cq.loop _ _).wp y:=hr
  refine an' (Φ:=y) (fun (⟨s,m⟩:Int×Mem)=>(s:Int)) (fun ⟨s,m⟩=>[(1,i' A),(2,i' x),(3,pt0 P),(8,i' s)]) (fun ⟨s,m⟩=>Mem.le B m) (fun ⟨s,m⟩=>St M B m [(3,bk0 P (v34' o i j k l g h p q) 34)]) ⟨if x<A then x else A,B⟩ hr (f4 z z z z) mr (w1 z) ?_
  .intro U u T hr
   obtain⟨s,m⟩:=u
   have e:=T
   refine n'<|sr<|mv z z<|yy (bh' z z) z<|nx<|L' hr z (fun I hr=>?_) (fun I hr=>?_)
   .refine q'<|g'<|n'<|B'<|sr<|yy (o' 3 aG' z z z) z<|mv z z<|mv z z ?_
    obtain⟨K,D,hr⟩:=hr
    refine F' z z (t' E17 z) (eu' D) z (⟨(d.mono e),(f.mono e),(c.mono e),(n.mono e)⟩) ?_
    cases K
    .refine mv z z<|sn4 z<|yy (l' z z) z<|nx<|bb' z<|q'<|J'<|g'<|A'<|mv z z<|yy (bj' z z) z<|sg z z<|u'<|Y' ⟨i64.wrap (s-1),m⟩ hr e (f4 z z z z) (w1 z)
    refine mv z z<|gy z z (o' 3 aG' z z z) z<|gy z z (e' z) z<|gy z z (e' z) z ?_
    obtain⟨W,C,hr⟩:=hr
    refine F' (v' z z) z (t' E17 z) (eu' C) z (⟨(d.mono e),(f.mono e),(c.mono e),(n.mono e)⟩)<|yy (h' z z) z<|nx<|aL' hr z (fun L hr=>?_) (fun L hr=>?_)
    .refine sr<|mv z z<|sg z z<|sx0 z z<|j'<|m'<|a'<|a'<|m'<|ag'<|a' ?_
     obtain rfl:_=r:=hr
     exact aE' z z z z
    refine q'<|J'<|g'<|A'<|mv z z<|yy (bj' z z) z<|sg z z<|u'<|Y' ⟨i64.wrap (s-1),m⟩ hr e (f4 z z z z) (w1 z)
   refine ao'<|r'<|r'<|O'<|ap' m ⟨e,hr⟩ fn (wk ln)
 rintro t ⟨Q,hr⟩
 refine g'<|sr<|sg z z<|sx0 z z<|j' ?_
 obtain rfl:_=r:=hr
 exact aE' z z z z
theorem gB'{j c p o q s n l x u r}(hr:(ZfM j c).Ret r):Ctr prog 68 #[.agg ((v31' j p o q s n l)).toArray,.agg ((v48' c x u)).toArray] (fun G=>sl Rp.str G p o j.vars/\sl b' G q s j.eqs/\sl b' G n l j.neqs/\sl K' G x u c.p) (w48t' r):=by
 refine E' (args:=[_,_]) (N:=108) func68 z z z (fun w0 E au P=>?_)
 obtain⟨e,k,h,D⟩:=P
 refine sr<|af' 2 z z z fun Z=>af' 3 z z z fun b2=>V' 4 z z48 z fun b3=>sg z z<|nr<|yy (o' 2 at' z z z) z<|yy (o' 3 bO' z z z) z ?_
 obtain⟨ar,R,hr⟩:=hr
 refine F' z z (t' E71 z) (fO' R) z (⟨e,k,h,D⟩)<|sx0 z z<|n'<|sr<|mv z z<|yy (aw' z z) z<|nx<|L' hr z (fun ah hr=>?_) (fun ah hr=>?_)
 .refine sr<|yy (av' (vs:=#[]) (v:=.agg ([i' 0,.string ByteArray.empty,i' 0,i' 0,i' 0,.slice none 0 0,.bool false]).toArray) z z (fun _=>by kernel_rfl)) z<|mv z z<|s' 4 z cd' z z z z z (List.all_eq_true.1 z)<|sx0 z z<|j'<|a' ?_
  obtain rfl:_=r:=hr
  exact aE' z (aa' (i:=4) bO' z z z) z ⟨_,_,z,(W' K' _)⟩
 refine q'<|g'<|n'<|ah' [ff,ff,ff,ff,ff,ff,ff,ff,ff] mix (by kernel_rfl) fun C=>cn (fun _ d=>aY' z)<|cn (fun _ d=>f' 2 br' z z z)<|cn (fun _ d=>aS' z)<|cn (fun _ d=>f' 3 sc3 z z z) ?_
 obtain⟨av,V,hr⟩:=hr
 refine bD' z (fun _=>t' E93 z) (dG' V) z (fun G' d=>(k.mono d))<|cn (fun _ d=>ba' z)<|cn (fun _ d=>f' 2 br' z z z)<|cn (fun _ d=>aS' z)<|cn (fun _ d=>f' 3 sc3 z z z)<|R' C ?_
 obtain⟨A,L,hr⟩:=hr
 refine F' z z (t' E93 z) (dG' L) z (h)<|sg z z<|sg z z<|u'<|aq'<|g'<|sr<|yy (av' (vs:=#[]) (v:=.agg ([i' 0,.slice none 0 0]).toArray) z z (fun _=>by kernel_rfl)) z<|V' 9 z z110 z fun b4=>s' 9 z aT' z z z z z (List.all_eq_true.1 z)<|nx<|aM' (fun (⟨m,f,g,y⟩:Zb×Option Addr×Nat×Mem)=>[(2,pt0 Z),(3,pt0 b2),(4,pt0 b3),(8,i' A),(9,pt0 b4)]) (fun ⟨m,f,g,y⟩=>Mem.le E y/\sl K' y f g m.p/\(ZaF j c A m).Ret r) (fun ⟨m,f,g,y⟩=>St w0 E y [(2,bk0 Z (v31' j p o q s n l) 31),(3,bk0 b2 (v48' c x u) 48),(4,bk0 b3 ([i' 0,.string ByteArray.empty,i' 0,i' 0,i' 0,.slice none 0 0,.bool false]) 48),(9,bk0 b4 (v110' m.id f m.p g) 110)]) ?_ ?_
 .refine sr<|mv z z<|yy (bf' z z) z<|nx<|L' hr z (fun Q hr=>?_) (fun Q hr=>?_)
  .refine A'<|yy (aY' z) z<|yy (f' 2 br' z z z) z<|mv z z ?_
   obtain⟨x3,H,hr⟩:=hr
   refine yy (T' w' aT' k z z H) z ?_
   obtain⟨K,M,aa,S⟩:=bq' (ae' k H)
   refine yy (aA' _ bM' z z aa) z<|s' 9 z aT' z z z z z (List.all_eq_true.1 z)<|u'<|ar' ⟨x3,K,M,E⟩ ⟨mr,S,hr⟩ (f5 z z z z z) (w4 z z z z)
  refine sr<|mv z z<|yy (bf' z z) z<|nx<|L' hr z (fun T hr=>?_) (fun T hr=>?_)
  .refine A'<|yy (ba' z) z<|yy (f' 2 br' z z z) z<|mv z z ?_
   obtain⟨x4,J,hr⟩:=hr
   refine yy (T' w' aT' h z z J) z ?_
   obtain⟨W,U,ac,O⟩:=bq' (ae' h J)
   refine yy (aA' _ bM' z z ac) z<|s' 9 z aT' z z z z z (List.all_eq_true.1 z)<|u'<|ar' ⟨x4,W,U,E⟩ ⟨mr,O,hr⟩ (f5 z z z z z) (w4 z z z z)
  refine q'<|ar' ⟨(Zb.mk 0 []),none,0,E⟩ ⟨mr,(W' _ _),hr⟩ (f5 z z z z z) (w4 z z z z)
 rintro⟨m,f,g,y⟩ ⟨t,B,hr⟩
 refine n'<|sr<|yy (cA' z) z<|yy (f' 3 sc3 z z z) z<|nx<|B'<|sr<|yy (au' z z) z<|sx0 z z<|L' hr z (fun X hr=>?_) (fun X hr=>?_)
 .refine sr<|yy (aJ' z) z<|yy (f' 3 sc3 z z z) z<|yy (av' (vs:=#[(0,i' 2),(2,i' c.at')]) (v:=.agg ([i' 2,.string ByteArray.empty,i' c.at',i' 0,i' 0,.slice none 0 0,.bool false]).toArray) z z (fun _=>by kernel_rfl)) z<|s' 4 z cd' z z z z z (List.all_eq_true.1 z)<|sx0 z z<|j'<|m'<|a' ?_
  obtain rfl:_=r:=hr
  exact aE' z (aa' (i:=4) bO' z z z) z ⟨_,_,z,(W' K' _)⟩
 refine sr<|yy (au' z z) z<|sx0 z z<|L' hr z (fun ab hr=>?_) (fun ab hr=>?_)
 .refine n'<|ah' [ff,ff,ff,ff,ff,ff,ff,ff] mix (by kernel_rfl) fun C=>cn (fun _ d=>aJ' z)<|cn (fun _ d=>f' 3 sc3 z z z)<|cn (fun _ d=>aH' z)<|cn (fun _ d=>f' 2 bC' z z z)<|cn (fun _ d=>aJ' z)<|cn (fun _ d=>f' 3 sc3 z z z) ?_
  obtain⟨x1,F,hr⟩:=hr
  refine cn (fun _ d=>T' H' sz9 ((e.mono t).mono d) z z F)<|cn (fun _ d=>Z' sc9 z (cb' (I' (I' (ae' e F) t) d)))<|R' C<|yy (av' (vs:=#[(0,i' 1),(2,i' c.at'),(1,.string x1)]) (v:=.agg ([i' 1,.string x1,i' c.at',i' 0,i' 0,.slice none 0 0,.bool false]).toArray) z z (fun _=>by kernel_rfl)) z<|s' 4 z cd' z z z z z (List.all_eq_true.1 z)<|sg z z<|u'<|aq'<|g'<|j'<|m'<|a' ?_
  obtain rfl:_=r:=hr
  exact aE' z (aa' (i:=4) bO' z z z) z ⟨_,_,z,(W' K' _)⟩
 refine sr<|yy (au' z z) z<|sx0 z z<|L' hr z (fun ad hr=>?_) (fun ad hr=>?_)
 .refine n'<|ah' [ff,ff,ff,ff,ff,ff,ff,ff] mix (by kernel_rfl) fun C=>cn (fun _ d=>aJ' z)<|cn (fun _ d=>f' 3 sc3 z z z)<|cn (fun _ d=>aH' z)<|cn (fun _ d=>f' 2 bC' z z z)<|cn (fun _ d=>aJ' z)<|cn (fun _ d=>f' 3 sc3 z z z) ?_
  obtain⟨x2,I,hr⟩:=hr
  refine cn (fun _ d=>T' H' sz9 ((e.mono t).mono d) z z I)<|cn (fun _ d=>Z' sc9 z (cb' (I' (I' (ae' e I) t) d)))<|R' C<|yy (av' (vs:=#[(0,i' 3),(2,i' c.at'),(1,.string x2)]) (v:=.agg ([i' 3,.string x2,i' c.at',i' 0,i' 0,.slice none 0 0,.bool false]).toArray) z z (fun _=>by kernel_rfl)) z<|s' 4 z cd' z z z z z (List.all_eq_true.1 z)<|sg z z<|u'<|aq'<|g'<|j'<|m'<|a' ?_
  obtain rfl:_=r:=hr
  exact aE' z (aa' (i:=4) bO' z z z) z ⟨_,_,z,(W' K' _)⟩
 refine sr<|yy (au' z z) z<|sx0 z z<|L' hr z (fun Y hr=>?_) (fun Y hr=>?_)
 .refine sr<|yy (aJ' z) z<|yy (f' 3 sc3 z z z) z<|yy (cy' z) z<|yy (f' 3 sc3 z z z) z<|yy (av' (vs:=#[(0,i' 4),(2,i' c.at'),(3,i' c.to')]) (v:=.agg ([i' 4,.string ByteArray.empty,i' c.at',i' c.to',i' 0,.slice none 0 0,.bool false]).toArray) z z (fun _=>by kernel_rfl)) z<|s' 4 z cd' z z z z z (List.all_eq_true.1 z)<|sx0 z z<|j'<|m'<|a' ?_
  obtain rfl:_=r:=hr
  exact aE' z (aa' (i:=4) bO' z z z) z ⟨_,_,z,(W' K' _)⟩
 refine sr<|yy (au' z z) z<|sx0 z z<|L' hr z (fun ak hr=>?_) (fun ak hr=>?_)
 .refine n'<|sr<|yy (aS' z) z<|yy (f' 3 sc3 z z z) z<|yy (au' z z) z<|nx<|L' hr z (fun an hr=>?_) (fun an hr=>?_)
  .refine sr<|yy (bw' z) z<|yy (f' 2 sc3 z z z) z<|yy (av' (vs:=#[(0,i' 6),(4,i' j.next)]) (v:=.agg ([i' 6,.string ByteArray.empty,i' 0,i' 0,i' j.next,.slice none 0 0,.bool false]).toArray) z z (fun _=>by kernel_rfl)) z<|s' 4 z cd' z z z z z (List.all_eq_true.1 z)<|sx0 z z<|j'<|a'<|m'<|a' ?_
   obtain rfl:_=r:=hr
   exact aE' z (aa' (i:=4) bO' z z z) z ⟨_,_,z,(W' K' _)⟩
  refine q'<|g'<|sr<|yy (aS' z) z<|yy (f' 3 sc3 z z z) z<|yy (av' (vs:=#[(0,i' 6),(4,i' c.id)]) (v:=.agg ([i' 6,.string ByteArray.empty,i' 0,i' 0,i' c.id,.slice none 0 0,.bool false]).toArray) z z (fun _=>by kernel_rfl)) z<|s' 4 z cd' z z z z z (List.all_eq_true.1 z)<|sx0 z z<|j'<|m'<|a' ?_
  obtain rfl:_=r:=hr
  exact aE' z (aa' (i:=4) bO' z z z) z ⟨_,_,z,(W' K' _)⟩
 refine sr<|yy (au' z z) z<|sx0 z z<|L' hr z (fun ag hr=>?_) (fun ag hr=>?_)
 .refine sr<|yy (aS' z) z<|yy (f' 3 sc3 z z z) z<|yy (bX' z) z<|yy (f' 9 cF' z z z) z<|mv z z<|yy (bf' z z) z<|yy (av' (vs:=#[(0,i' 5),(4,i' c.id),(5,.slice f m.p.length g),(6,.bool (decide (0<=A)))]) (v:=.agg ([i' 5,.string ByteArray.empty,i' 0,i' 0,i' c.id,.slice f m.p.length g,.bool (decide (0<=A))]).toArray) z z (fun _=>by kernel_rfl)) z<|s' 4 z cd' z z z z z (List.all_eq_true.1 z)<|sx0 z z<|j'<|m'<|a' ?_
  obtain rfl:_=r:=hr
  exact aE' z (aa' (i:=4) bO' z z z) z ⟨_,_,z,B⟩
 refine sr<|yy (au' z z) z<|sx0 z z<|L' hr z (fun al hr=>?_) (fun al hr=>?_)
 .refine sr<|yy (aS' z) z<|yy (f' 3 sc3 z z z) z<|yy (bX' z) z<|yy (f' 9 cF' z z z) z<|yy (av' (vs:=#[(0,i' 7),(4,i' c.id),(5,.slice f m.p.length g)]) (v:=.agg ([i' 7,.string ByteArray.empty,i' 0,i' 0,i' c.id,.slice f m.p.length g,.bool false]).toArray) z z (fun _=>by kernel_rfl)) z<|s' 4 z cd' z z z z z (List.all_eq_true.1 z)<|sx0 z z<|j'<|m'<|a' ?_
  obtain rfl:_=r:=hr
  exact aE' z (aa' (i:=4) bO' z z z) z ⟨_,_,z,B⟩
 refine q'<|J'<|g'<|sr<|yy (aS' z) z<|yy (f' 3 sc3 z z z) z<|yy (av' (vs:=#[(0,i' 8),(4,i' c.id)]) (v:=.agg ([i' 8,.string ByteArray.empty,i' 0,i' 0,i' c.id,.slice none 0 0,.bool false]).toArray) z z (fun _=>by kernel_rfl)) z<|s' 4 z cd' z z z z z (List.all_eq_true.1 z)<|sx0 z z<|j' ?_
 obtain rfl:_=r:=hr
 exact aE' z (aa' (i:=4) bO' z z z) z ⟨_,_,z,(W' K' _)⟩
theorem gm'{ai aU s q D E o p aD aA r}(hr:(ZcV ai aU).Ret r):Ctr prog 52 #[.agg ((v34' ai s q D E o p aD aA)).toArray,i' aU] (fun G=>y34' G s q D E o p aD aA ai) (wl' ab' r):=by
 refine E' (args:=[_,_]) (N:=73) func52 z z z (fun w0 G0 bq bT=>?_)
 obtain⟨av,az,aw,i⟩:=bT
 refine sr<|af' 2 z z z fun b1=>sg z z<|nr<|bd' (e:=48) (r:=ab') (vs:=#[]) (cs:=[]) ([]:List Zc) z z z z z (by decide) (fun _=>by kernel_rfl) (z) (key:=999) z (by rw[bq]; rfl) fun p1 cW g bE=>sx0 z z<|n'<|sr<|mv z z<|yy (au' z z) z<|nx<|L' hr z (fun ci hr=>?_) (fun ci hr=>?_)
 .refine sr<|mv z z<|sx0 z z<|j'<|a' ?_
  obtain rfl:_=r:=hr
  exact k' z z ⟨_,_,z,bE⟩
 refine q'<|g'<|n'<|ah' [ff,ff,ff,ff,ff,ff,ff,ff,ff,ff,tt,ff] mix (by kernel_rfl) fun hb=>cn (fun _ d=>o' 2 aG' z z z)<|cn (fun _ d=>aj' z)<|cn (fun _ d=>f' 2 bc' z z z)<|cn (fun _ d=>e' z) ?_
 obtain⟨x1,bQ,hr⟩:=hr
 refine cn (fun _ d=>T' D' bR' ((i.mono g).mono d) z z bQ)<|cn (fun _ d=>bT' z)<|cn (fun _ d=>Z' sc3 z (aF' (I' (I' (aW' (ay' (ae' i bQ))) g) d))) ?_
 obtain⟨au,bZ,hr⟩:=hr
 refine aX' (post:=w31t' au) (fun _=>z) (fun _ _=>t' E12 z) (fc' bZ) z (fun K d=>⟨((av.mono g).mono d),((az.mono g).mono d),((aw.mono g).mono d),((i.mono g).mono d)⟩) (fun v G1 G2 d h=>?_) ?_
 .obtain⟨X,S,Z,ae,V,U,rfl,t,I,y⟩:=h
  exact⟨_,_,_,_,_,_,z,t.mono d,I.mono d,y.mono d⟩
 refine bm' (φ:=w31t' au) (fun _=>z) (fun v G1 G2 d h=>?_) (fun u K d hu=>?_) ?_
 .obtain⟨p2,a4,p3,a1,p4,a0,rfl,aS,aQ,aT⟩:=h
  exact⟨_,_,_,_,_,_,z,aS.mono d,aQ.mono d,aT.mono d⟩
 .obtain⟨⟨X,S,Z,ae,V,U,bv,t,I,y⟩,_⟩:=(show (w31t' au) K.m (u 25)/\True from hu)
  simp only[undFr,bv]
  exact⟨_,e' z,X,S,Z,ae,V,U,z,t,I,y⟩
 refine bm' (φ:=w31' au.1) (fun _=>z) (fun v G1 G2 d h=>?_) (fun u K d hu=>?_) ?_
 .obtain⟨p5,bO,p6,bN,p7,bH,rfl,bi,bn,bp⟩:=h
  exact⟨_,_,_,_,_,_,z,bi.mono d,bn.mono d,bp.mono d⟩
 .obtain⟨⟨p2,a4,p3,a1,p4,a0,aL,aS,aQ,aT⟩,_,_⟩:=(show (w31t' au) K.m (u 17)/\True/\True from hu)
  simp only[undFr,aL]
  exact⟨_,y' z z,p2,a4,p3,a1,p4,a0,z,aS,aQ,aT⟩
 refine bv' (c:=i' au.2) (fun _=>z) (fun u K d hu=>?_) ?_
 .obtain⟨_,⟨p2,a4,p3,a1,p4,a0,aL,aS,aQ,aT⟩,_,_⟩:=(show True/\(w31t' au) K.m (u 17)/\True/\True from hu)
  simp only[undFr,aL]
  exact y' z z
 refine bE' (fun _=>z) z31<|cn' (fun cQ cx cw cB X1 ak bl bf a7 bc=>?_)
 obtain⟨b2,rfl,bX⟩:=bl
 obtain⟨p5,bO,p6,bN,p7,bH,rfl,bi,bn,bp⟩:=bf
 obtain⟨p2,a4,p3,a1,p4,a0,rfl,aS,aQ,aT⟩:=a7
 obtain⟨X,S,Z,ae,V,U,rfl,t,I,y⟩:=bc
 refine cu' bX (cf' (show WL _ _ _ _ _ _ (St w0 G0 X1.m _) from ?_))
 refine s' 6 z aV' z z z z z (List.all_eq_true.1 z)<|sg z z<|u'<|aq'<|g'<|n'<|sr<|sx0 z z<|am' (fun (⟨ac,am,ao,aH⟩:(List Zc)×Option Addr×Nat×Mem)=>[(5,.slice am ac.length ao)]) (fun ⟨ac,am,ao,aH⟩=>Mem.le X1.m aH/\sl ab' aH am ao ac/\(ZcW ac).Ret r) (fun ⟨ac,am,ao,aH⟩=>St w0 G0 aH []) ?_ ?_
 .refine B' ?_
  let bg:(List Zc)->Prop:=fun oo=>((fun ov=>match ov with|ac=>ZcW ac:(List Zc)->Cq (List Zc)) oo).wp (fun a=>a=r)
  replace hr:(Cq.loop _ _).wp bg:=hr
  refine an' (Φ:=bg) (fun (⟨M,Q,L,aj,an,n,l,C,B,m,k,ad⟩:(List Zc)×Option Addr×Nat×Int×Za×Option Addr×Nat×Option Addr×Nat×Option Addr×Nat×Mem)=>((M,aj,an):(List Zc)×Int×Za)) (fun ⟨M,Q,L,aj,an,n,l,C,B,m,k,ad⟩=>[(1,i' aU),(2,pt0 b1),(5,.slice Q M.length L),(6,pt0 b2),(8,i' aj)]) (fun ⟨M,Q,L,aj,an,n,l,C,B,m,k,ad⟩=>Mem.le X1.m ad/\sl ab' ad Q L M/\y31' ad n l C B m k an) (fun ⟨M,Q,L,aj,an,n,l,C,B,m,k,ad⟩=>St w0 G0 ad [(2,bk0 b1 (v34' ai s q D E o p aD aA) 34),(6,bk0 b2 (v31' an n l C B m k) 31)]) ⟨[],p1,0,0,au.1,p5,bO,p6,bN,p7,bH,X1.m⟩ hr (f5 z z z z z) ⟨mr,(bE.mono ak),bi,bn,bp⟩ (w2 z z) ?_
  .intro cT gx hx hr
   obtain⟨M,Q,L,aj,an,n,l,C,B,m,k,ad⟩:=gx
   obtain⟨F,a6,aB,aG,ay⟩:=hx
   refine n'<|sr<|mv z z<|yy (aj' z) z<|yy (f' 2 bc' z z z) z<|mv z z ?_
   obtain⟨x2,bM,hr⟩:=hr
   refine yy (T' D' bR' (i.mono (mt (mt g ak) F)) z z bM) z<|yy (bI' z) z ?_
   obtain⟨p8,cP,ce,cq⟩:=bF' (I' (ax' (ax' (ay' (ae' i bM)))) (mt (mt g ak) F))
   refine yy (Z' sc44 z (ce)) z<|yy (M' as' cq z) z<|yy (ai' z z) z<|nx<|L' hr z (fun cf hr=>?_) (fun cf hr=>?_)
   .refine q'<|g'<|n'<|B'<|n'<|ah' [ff,ff,ff,ff,ff,ff,ff,ff,ff,ff,ff,ff,ff,tt,ff] mix (by kernel_rfl) fun hb=>cn (fun _ d=>o' 6 at' z z z)<|cn (fun _ d=>aj' z)<|cn (fun _ d=>f' 2 bc' z z z)<|cn (fun _ d=>e' z) ?_
    obtain⟨x3,bL,hr⟩:=hr
    refine cn (fun _ d=>T' D' bR' ((i.mono (mt (mt g ak) F)).mono d) z z bL)<|cn (fun _ d=>bI' z) ?_
    obtain⟨p9,cY,cm,bR⟩:=bF' (I' (ax' (ax' (ay' (ae' i bL)))) (mt (mt g ak) F))
    refine cn (fun _ d=>Z' sc44 z (d _ _ _ cm))<|cn (fun _ d=>e' z) ?_
    obtain⟨x4,bJ,hr⟩:=hr
    refine cn (fun _ d=>T' as' cd' (bR.mono d) z z bJ) ?_
    obtain⟨cv,cK,cd,b8⟩:=de' (ae' bR bJ)
    refine cn (fun _ d=>aA' _ bO' z z (fun j v hv=>d _ _ _ (cd j v hv))) ?_
    obtain⟨f,bS,hr⟩:=hr
    refine aX' (post:=w48t' f) (fun _=>z) (fun _ _=>t' E68 z) (gB' bS) z (fun K d=>⟨(aB.mono d),(aG.mono d),(ay.mono d),(b8.mono d)⟩) (fun v G1 G2 d h=>?_) ?_
    .obtain⟨aq,ap,rfl,af⟩:=h
     exact⟨_,_,z,af.mono d⟩
    refine bm' (φ:=w48t' f) (fun _=>z) (fun v G1 G2 d h=>?_) (fun u K d hu=>?_) ?_
    .obtain⟨a5,aO,rfl,aC⟩:=h
     exact⟨_,_,z,aC.mono d⟩
    .obtain⟨⟨aq,ap,bD,af⟩,_⟩:=(show (w48t' f) K.m (u 50)/\True from hu)
     simp only[undFr,bD]
     exact⟨_,e' z,aq,ap,z,af⟩
    refine bm' (φ:=w48' f.1) (fun _=>z) (fun v G1 G2 d h=>?_) (fun u K d hu=>?_) ?_
    .obtain⟨ah,J,rfl,aV⟩:=h
     exact⟨_,_,z,aV.mono d⟩
    .obtain⟨⟨a5,aO,aM,aC⟩,_,_⟩:=(show (w48t' f) K.m (u 39)/\True/\True from hu)
     simp only[undFr,aM]
     exact⟨_,y' z z,a5,aO,z,aC⟩
    refine bv' (c:=i' f.2) (fun _=>z) (fun u K d hu=>?_) ?_
    .obtain⟨_,⟨a5,aO,aM,aC⟩,_,_⟩:=(show True/\(w48t' f) K.m (u 39)/\True/\True from hu)
     simp only[undFr,aM]
     exact y' z z
    refine bE' (fun _=>z) z48<|cn' (fun cX cI cz cM X2 al bj bb bd a9=>?_)
    obtain⟨b3,rfl,b9⟩:=bj
    obtain⟨ah,J,rfl,aV⟩:=bb
    obtain⟨a5,aO,rfl,aC⟩:=bd
    obtain⟨aq,ap,rfl,af⟩:=a9
    refine cu' b9 (cf' (show WL _ _ _ _ _ _ (St w0 G0 X2.m _) from ?_))
    refine s' 9 z cd' z z z z z (List.all_eq_true.1 z)<|sg z z<|u'<|aq'<|g'<|sr<|yy (o' 9 bO' z z z) z<|bd' (e:=48) (r:=ab') (vs:=#[(0,.agg ((v48' f.1 ah J)).toArray)]) (cs:=(v48' f.1 ah J)++([])) ([f.1]:List Zc) z z z z z (by decide) (fun _=>by kernel_rfl) ⟨(v48' f.1 ah J),[],z,⟨[i' f.1.kind],[.string f.1.name,i' f.1.at',i' f.1.to',i' f.1.id,.slice ah f.1.p.length J,.bool f.1.neq],z,z,⟨[.string f.1.name],[i' f.1.at',i' f.1.to',i' f.1.id,.slice ah f.1.p.length J,.bool f.1.neq],z,z,⟨[i' f.1.at'],[i' f.1.to',i' f.1.id,.slice ah f.1.p.length J,.bool f.1.neq],z,z,⟨[i' f.1.to'],[i' f.1.id,.slice ah f.1.p.length J,.bool f.1.neq],z,z,⟨[i' f.1.id],[.slice ah f.1.p.length J,.bool f.1.neq],z,z,⟨[.slice ah f.1.p.length J],[.bool f.1.neq],z,⟨_,z,aV⟩,z⟩⟩⟩⟩⟩⟩,z⟩ (key:=999) z (by rw[bq]; rfl) fun cZ cR P ca=>mv z z ?_
    obtain⟨bU,hr⟩:=hr
    refine bW' (r:=ab') 2056 z z as' el48 z (by decide) z z ca z (by rw[bq]; rfl) dh' (a6.mono (mt al P)) bU fun cc b0 cr cU ag b5 ct=>sx0 z z<|n'<|ah' [ff,ff,ff,ff,ff,ff,ff,ff,ff,ff,ff,ff,ff,tt,ff] mix (by kernel_rfl) fun hb=>cn (fun _ d=>o' 6 at' z z z)<|cn (fun _ d=>aj' z)<|cn (fun _ d=>f' 2 bc' z z z)<|cn (fun _ d=>e' z) ?_
    obtain⟨x5,bF,hr⟩:=hr
    refine cn (fun _ d=>T' D' bR' ((i.mono (mt (mt (mt (mt (mt g ak) F) al) P) ag)).mono d) z z bF)<|cn (fun _ d=>bI' z) ?_
    obtain⟨cV,cO,bY,bt⟩:=bF' (I' (ax' (ax' (ay' (ae' i bF)))) (mt (mt (mt (mt (mt g ak) F) al) P) ag))
    refine cn (fun _ d=>Z' sc44 z (d _ _ _ bY))<|cn (fun _ d=>e' z) ?_
    obtain⟨x6,bP,hr⟩:=hr
    refine cn (fun _ d=>T' as' cd' (bt.mono d) z z bP) ?_
    obtain⟨cA,cG,co,bV⟩:=de' (ae' bt bP)
    refine cn (fun _ d=>aA' _ bO' z z (fun j v hv=>d _ _ _ (co j v hv))) ?_
    obtain⟨ar,b6,hr⟩:=hr
    have N1:=mt (mt al P) ag
    refine aX' (post:=w31t' ar) (fun _=>z) (fun _ _=>t' E55 z) (er' b6) z (fun K d=>⟨((aB.mono N1).mono d),((aG.mono N1).mono d),((ay.mono N1).mono d),(bV.mono d)⟩) (fun v G1 G2 d h=>?_) ?_
    .obtain⟨T,O,Y,aa,W,R,rfl,A,H,x⟩:=h
     exact⟨_,_,_,_,_,_,z,A.mono d,H.mono d,x.mono d⟩
    refine bm' (φ:=w31t' ar) (fun _=>z) (fun v G1 G2 d h=>?_) (fun u K d hu=>?_) ?_
    .obtain⟨aZ,aK,a2,aJ,a3,aN,rfl,aF,ax,aE⟩:=h
     exact⟨_,_,_,_,_,_,z,aF.mono d,ax.mono d,aE.mono d⟩
    .obtain⟨⟨T,O,Y,aa,W,R,bx,A,H,x⟩,_⟩:=(show (w31t' ar) K.m (u 68)/\True from hu)
     simp only[undFr,bx]
     exact⟨_,e' z,T,O,Y,aa,W,R,z,A,H,x⟩
    refine bm' (φ:=w31' ar.1) (fun _=>z) (fun v G1 G2 d h=>?_) (fun u K d hu=>?_) ?_
    .obtain⟨bI,bk,bK,bu,bG,bs,rfl,aW,aY,aX⟩:=h
     exact⟨_,_,_,_,_,_,z,aW.mono d,aY.mono d,aX.mono d⟩
    .obtain⟨⟨aZ,aK,a2,aJ,a3,aN,aI,aF,ax,aE⟩,_,_⟩:=(show (w31t' ar) K.m (u 57)/\True/\True from hu)
     simp only[undFr,aI]
     exact⟨_,y' z z,aZ,aK,a2,aJ,a3,aN,z,aF,ax,aE⟩
    refine bv' (c:=i' ar.2) (fun _=>z) (fun u K d hu=>?_) ?_
    .obtain⟨_,⟨aZ,aK,a2,aJ,a3,aN,aI,aF,ax,aE⟩,_,_⟩:=(show True/\(w31t' ar) K.m (u 57)/\True/\True from hu)
     simp only[undFr,aI]
     exact y' z z
    refine bE' (fun _=>z) z31<|cn' (fun cS cH cy cF X3 bh bm ba a8 be=>?_)
    obtain⟨b4,rfl,bW⟩:=bm
    obtain⟨bI,bk,bK,bu,bG,bs,rfl,aW,aY,aX⟩:=ba
    obtain⟨aZ,aK,a2,aJ,a3,aN,rfl,aF,ax,aE⟩:=a8
    obtain⟨T,O,Y,aa,W,R,rfl,A,H,x⟩:=be
    refine cu' bW (cf' (show WL _ _ _ _ _ _ (St w0 G0 X3.m _) from ?_))
    refine s' 11 z aV' z z z z z (List.all_eq_true.1 z)<|sg z z<|u'<|aq'<|g'<|A'<|yy (o' 11 at' z z z) z<|s' 6 z aV' z z z z z (List.all_eq_true.1 z)<|u'<|J'<|g'<|A'<|mv z z<|yy (X' z z) z<|sg z z<|u'<|Y' ⟨([f.1]++M),cc,b0,i64.wrap (aj+1),ar.1,bI,bk,bK,bu,bG,bs,X3.m⟩ hr ⟨(mt (mt (mt (mt F al) P) ag) bh),(b5.mono bh),aW,aY,aX⟩ (f5 z z z z z) (w2 z z)
   refine ao'<|r'<|r'<|O'<|ap' ⟨M,Q,L,ad⟩ ⟨F,a6,hr⟩ (f1 z) (wk ln)
 rintro⟨ac,am,ao,aH⟩ ⟨cu,bz,hr⟩
 refine g'<|sr<|mv z z<|sx0 z z<|j' ?_
 obtain rfl:_=r:=hr
 exact k' z z ⟨_,_,z,bz⟩
theorem gY'{L Y v1 E F H I C D R S r}(hr:(ZiQ L Y v1).Ret r):Ctr prog 23 #[.agg ((v34' L E F H I C D R S)).toArray,i' Y,i' v1] (fun G=>y34' G E F H I C D R S L) (w34u' r):=by
 refine E' (args:=[_,_,_]) (N:=24) func23 z z z (fun w0 G0 aD ag=>?_)
 obtain⟨x,y,t,M⟩:=ag
 refine sr<|af' 3 z z z fun b1=>V' 6 z z34 z fun b2=>sg z z<|sx0 z z<|n'<|sr<|yy (o' 3 aG' z z z) z<|mv z z<|mv z z ?_
 obtain⟨aB,ai,hr⟩:=hr
 refine F' z z (t' E17 z) (eu' ai) z (⟨x,y,t,M⟩)<|yy (al' z) z<|nx<|aL' hr z (fun al hr=>?_) (fun al hr=>?_)
 .refine sr<|yy (av' (vs:=#[]) (v:=.agg ([.slice none 0 0,.slice none 0 0,.slice none 0 0,i' 0,.slice none 0 0]).toArray) z z (fun _=>by kernel_rfl)) z<|s' 6 z bH' z z z z z (List.all_eq_true.1 z)<|sg z z<|sx0 z z<|j'<|a' ?_
  obtain rfl:_=r:=hr
  exact cW' z (aa' (i:=6) aG' z z z) z z ⟨_,_,_,_,_,_,_,_,z,(W' Rp.str _),(W' b' _),(W' b' _),(W' Q' _)⟩
 refine q'<|g'<|n'<|ah' [ff,ff,ff,ff,ff,ff,ff,ff,ff] mix (by kernel_rfl) fun hb=>cn (fun _ k=>o' 3 aG' z z z)<|cn (fun _ k=>e' z)<|cn (fun _ k=>o' 3 aG' z z z)<|cn (fun _ k=>e' z) ?_
 obtain⟨Z,af,hr⟩:=hr
 refine aX' (post:=wl' ab' Z) (fun _=>z) (fun _ _=>t' E52 z) (gm' af) z (fun P k=>⟨(x.mono k),(y.mono k),(t.mono k),(M.mono k)⟩) (fun v G1 G2 k h=>?_) ?_
 .obtain⟨X,ad,rfl,O⟩:=h
  exact⟨_,_,z,O.mono k⟩
 obtain⟨J,ah,hr⟩:=hr
 refine cD' (f:=21) (φ:=w34u' J) (fun _=>z) (fun v G1 G2 k h=>?_) (fun u P k Q=>?_) ?_
 .obtain⟨o,n,p,q,l,m,B,A,rfl,g,j,e,s⟩:=h
  exact⟨_,_,_,_,_,_,_,_,z,g.mono k,j.mono k,e.mono k,s.mono k⟩
 .obtain⟨⟨X,ad,ae,O⟩,_⟩:=(show (wl' ab' Z) P.m (u 19)/\True from Q)
  exact⟨_,_,_,fun _=>t' E21 z,fy' ah,(by simp only[ae] <;> rfl),⟨(x.mono k),(y.mono k),(t.mono k),(M.mono k),O⟩⟩
 refine bm' (φ:=w34' J.1) (fun _=>z) (fun v G1 G2 k h=>?_) (fun u P k Q=>?_) ?_
 .obtain⟨p1,ao,p2,ak,p3,aq,p4,aj,rfl,W,ab,aa,ac⟩:=h
  exact⟨_,_,_,_,_,_,_,_,z,W.mono k,ab.mono k,aa.mono k,ac.mono k⟩
 .obtain⟨⟨o,n,p,q,l,m,B,A,K,g,j,e,s⟩,_,_⟩:=(show (w34u' J) P.m (u 20)/\True/\True from Q)
  simp only[undFr,K]
  exact⟨_,y' z z,o,n,p,q,l,m,B,A,z,g,j,e,s⟩
 refine Chain.y0UD (c:=i' J.2.1) (fun _=>z) (fun u P k Q=>?_) ?_
 .obtain⟨_,⟨o,n,p,q,l,m,B,A,K,g,j,e,s⟩,_,_⟩:=(show True/\(w34u' J) P.m (u 20)/\True/\True from Q)
  simp only[undFr,K]
  exact y' z z
 refine Chain.y0UD (c:=i' J.2.2) (fun _=>z) (fun u P k Q=>?_) ?_
 .obtain⟨_,⟨o,n,p,q,l,m,B,A,K,g,j,e,s⟩,_,_⟩:=(show True/\(w34u' J) P.m (u 20)/\True/\True from Q)
  simp only[undFr,K]
  exact y' z z
 refine Chain.tailU3 (d:=21) (post:=w34' J.1) (d':=20) (post':=w34u' J) (d'':=19) (post'':=wl' ab' Z) (fun au aA az aC ar T U V=>?_)
 obtain⟨p1,ao,p2,ak,p3,aq,p4,aj,rfl,W,ab,aa,ac⟩:=T
 obtain⟨o,n,p,q,l,m,B,A,rfl,g,j,e,s⟩:=U
 obtain⟨X,ad,rfl,O⟩:=V
 refine s' 6 z bH' z z z z z (List.all_eq_true.1 z)<|sg z z<|sg z z<|u'<|aq'<|g'<|j' ?_
 obtain rfl:_=r:=hr
 exact cW' z (aa' (i:=6) aG' z z z) z z ⟨_,_,_,_,_,_,_,_,z,W,ab,aa,ac⟩
theorem gn'{j g d c f e r}(hr:(ZcT j g).Ret r):Ctr prog 56 #[.agg ((v48' j d c)).toArray,.agg ((v48' g f e)).toArray] (fun G=>sl K' G d c j.p/\sl K' G f e g.p) (fun G v=>v = .bool r):=by
 refine E' (args:=[_,_]) (N:=52) func56 z z z (fun x B u i=>?_)
 obtain⟨k,h⟩:=i
 refine sr<|af' 2 z z z fun A=>af' 3 z z z fun y=>sg z z<|nr<|yy (cA' z) z<|yy (f' 2 sc3 z z z) z<|yy (cA' z) z<|yy (f' 3 sc3 z z z) z<|ad' hr z (au' z z) z (fun q hr=>?_) (fun q hr=>?_)
 .refine mv z z<|gy z z (ca' z) z<|gy z z (f' 2 sc9 z z z) z<|gy z z (ca' z) z<|gy z z (f' 3 sc9 z z z) z<|ad' hr (v' z z) (Y0.eqlS bl' z z) z (fun n hr=>?_) (fun n hr=>?_)
  .refine yy (h' z z) z<|mv z z<|gy z z (aJ' z) z<|gy z z (f' 2 sc3 z z z) z<|gy z z (aJ' z) z<|gy z z (f' 3 sc3 z z z) z<|ad' hr (v' z z) (au' z z) z (fun o hr=>?_) (fun o hr=>?_)
   .refine yy (h' z z) z<|mv z z<|gy z z (cy' z) z<|gy z z (f' 2 sc3 z z z) z<|gy z z (cy' z) z<|gy z z (f' 3 sc3 z z z) z<|ad' hr (v' z z) (au' z z) z (fun s hr=>?_) (fun s hr=>?_)
    .refine yy (h' z z) z<|mv z z<|gy z z (aS' z) z<|gy z z (f' 2 sc3 z z z) z<|gy z z (aS' z) z<|gy z z (f' 3 sc3 z z z) z<|ad' hr (v' z z) (au' z z) z (fun m hr=>?_) (fun m hr=>?_)
     .refine yy (h' z z) z<|mv z z<|gy z z (dC' z) z<|gy z z (f' 2 sc4 z z z) z<|gy z z (dC' z) z<|gy z z (f' 3 sc4 z z z) z<|ad' hr (v' z z) (Y0.eqlB cv' z z) z (fun p hr=>?_) (fun p hr=>?_)
      .refine yy (h' z z) z<|mv z z<|gy z z (dm' z) z<|gy z z (f' 2 cF' z z z) z<|gy z z (dm' z) z<|gy z z (f' 3 cF' z z z) z ?_
       obtain⟨t,l,hr⟩:=hr
       refine F' (v' z z) z (t' E58 z) (gh' l) z (⟨k,h⟩)<|yy (h' z z) z<|sx0 z z<|j' (k0' hr z z)
      refine yy (h' z z) z<|mv z z<|sn5 z<|yy (l' z z) z<|sx0 z z<|j' (k0' hr z z)
     refine yy (h' z z) z<|mv z z<|sn5 z<|yy (l' z z) z<|mv z z<|sn5 z<|yy (l' z z) z<|sx0 z z<|j' (k0' hr z z)
    refine yy (h' z z) z<|mv z z<|sn5 z<|yy (l' z z) z<|mv z z<|sn5 z<|yy (l' z z) z<|mv z z<|sn5 z<|yy (l' z z) z<|sx0 z z<|j' (k0' hr z z)
   refine yy (h' z z) z<|mv z z<|sn5 z<|yy (l' z z) z<|mv z z<|sn5 z<|yy (l' z z) z<|mv z z<|sn5 z<|yy (l' z z) z<|mv z z<|sn5 z<|yy (l' z z) z<|sx0 z z<|j' (k0' hr z z)
  refine yy (h' z z) z<|mv z z<|sn5 z<|yy (l' z z) z<|mv z z<|sn5 z<|yy (l' z z) z<|mv z z<|sn5 z<|yy (l' z z) z<|mv z z<|sn5 z<|yy (l' z z) z<|mv z z<|sn5 z<|yy (l' z z) z<|sx0 z z<|j' (k0' hr z z)
 refine mv z z<|sn5 z<|yy (l' z z) z<|mv z z<|sn5 z<|yy (l' z z) z<|mv z z<|sn5 z<|yy (l' z z) z<|mv z z<|sn5 z<|yy (l' z z) z<|mv z z<|sn5 z<|yy (l' z z) z<|mv z z<|sn5 z<|yy (l' z z) z<|sx0 z z<|j' (k0' hr z z)
theorem dV'{t s l k n m r}(hr:(ZaZ t s).Ret r):Ctr prog 29 #[.agg ((v63' t l k)).toArray,.agg ((v63' s n m)).toArray] (fun G=>sl ab' G l k t.e/\sl ab' G n m s.e) (fun G v=>v = .bool r):=by
 refine E' (args:=[_,_]) (N:=46) func29 z z z (fun D x ad F=>?_)
 obtain⟨i,q⟩:=F
 refine sr<|af' 2 z z z fun A=>af' 3 z z z fun y=>sx0 z z<|aM' (fun (f:Mem)=>match f with|h=>[(2,pt0 A),(3,pt0 y)]) (fun (f:Mem)=>match f with|h=>Mem.le x h/\(ZdO t s).Ret r) (fun (f:Mem)=>match f with|h=>St D x h [(2,bk0 A (v63' t l k) 63),(3,bk0 y (v63' s n m) 63)]) ?_ ?_
 .refine sr<|yy (bT' z) z<|yy (f' 2 sc3 z z z) z<|yy (bT' z) z<|yy (f' 3 sc3 z z z) z<|ad' hr z (aw' z z) z (fun Q hr=>?_) (fun Q hr=>?_)
  .refine mv z z<|sn5 z<|yy (h' z z) z<|mv z z<|sn7 z<|yy (h' z z) z<|nx<|U' z<|sr<|sx0 z z<|j'<|a' (k0' hr z z)
  refine mv z z<|gy z z (cB' z) z<|gy z z (f' 2 sc3 z z z) z<|gy z z (cB' z) z<|gy z z (f' 3 sc3 z z z) z<|ad' hr (v' z z) (aw' z z) z (fun O hr=>?_) (fun O hr=>?_)
  .refine yy (l' z z) z<|mv z z<|sn7 z<|yy (h' z z) z<|nx<|U' z<|sr<|sx0 z z<|j'<|a' (k0' hr z z)
  refine yy (l' z z) z<|mv z z<|gy z z (bI' z) z<|gy z z (f' 2 sc44 z z z) z<|gy z z (M' as' i z) z<|gy z z (bI' z) z<|gy z z (f' 3 sc44 z z z) z<|gy z z (M' as' q z) z<|gy z z (aw' z z) z<|yy (l' z z) z<|nx<|L' hr z (fun M hr=>?_) (fun M hr=>?_)
  .refine sr<|sx0 z z<|j'<|a' (k0' hr z z)
  refine q'<|ar' x ⟨mr,hr⟩ (f2 z z) (w2 z z)
 rintro h ⟨e,hr⟩
 refine n'<|sr<|sx0 z z<|am' (fun (f:Mem)=>match f with|o=>[]) (fun (f:Mem)=>match f with|o=>Mem.le h o/\(ZbN).Ret r) (fun (f:Mem)=>match f with|o=>St D x o []) ?_ ?_
 .refine B' ?_
  let u:(Bool⊕Unit)->Prop:=fun X=>((fun V=>match V with | .inl rv1=>Cq.ret rv1 | .inr ()=>ZbN:(Bool⊕Unit)->Cq Bool) X).wp (fun a=>a=r)
  replace hr:(Cq.loop _ _).wp u:=hr
  refine an' (Φ:=u) (fun (⟨p,g⟩:Int×Mem)=>(p:Int)) (fun ⟨p,g⟩=>[(2,pt0 A),(3,pt0 y),(5,i' p)]) (fun ⟨p,g⟩=>Mem.le h g) (fun ⟨p,g⟩=>St D x g [(2,bk0 A (v63' t l k) 63),(3,bk0 y (v63' s n m) 63)]) ⟨0,h⟩ hr (f3 z z z) mr (w2 z z) ?_
  .intro ac f Z hr
   obtain⟨p,g⟩:=f
   have d:=Z
   refine n'<|sr<|mv z z<|yy (bI' z) z<|yy (f' 2 sc44 z z z) z<|yy (M' as' (i.mono (mt e d)) z) z<|yy (ai' z z) z<|nx<|L' hr z (fun R hr=>?_) (fun R hr=>?_)
   .refine q'<|g'<|n'<|B'<|n'<|ah' [ff,ff,ff,ff,ff,ff,ff,ff,ff,ff] mix (by kernel_rfl) fun U=>cn (fun _ c=>bI' z)<|cn (fun _ c=>f' 2 sc44 z z z)<|cn (fun _ c=>e' z) ?_
    obtain⟨x1,B,hr⟩:=hr
    refine cn (fun _ c=>T' as' cd' ((i.mono (mt e d)).mono c) z z B) ?_
    obtain⟨T,W,L,J⟩:=de' (I' (ae' i B) (mt e d))
    refine cn (fun _ c=>aA' _ bO' z z (fun j v H=>c _ _ _ (L j v H)))<|cn (fun _ c=>bI' z)<|cn (fun _ c=>f' 3 sc44 z z z)<|cn (fun _ c=>e' z) ?_
    obtain⟨x2,C,hr⟩:=hr
    refine cn (fun _ c=>T' as' cd' ((q.mono (mt e d)).mono c) z z C) ?_
    obtain⟨aa,Y,P,E⟩:=de' (I' (ae' q C) (mt e d))
    refine cn (fun _ c=>aA' _ bO' z z (fun j v H=>c _ _ _ (P j v H)))<|R' U ?_
    obtain⟨ab,I,hr⟩:=hr
    refine F' z z (t' E56 z) (gn' I) z (⟨J,E⟩)<|yy (al' z) z<|u'<|aq'<|g'<|aL' hr z (fun K hr=>?_) (fun K hr=>?_)
    .refine sr<|sx0 z z<|j'<|m'<|a'<|a'<|m'<|ag'<|a' (k0' hr z z)
    refine q'<|J'<|g'<|A'<|mv z z<|yy (X' z z) z<|sg z z<|u'<|Y' ⟨i64.wrap (p+1),g⟩ hr d (f3 z z z) (w2 z z)
   refine ao'<|r'<|r'<|O'<|ap' g ⟨d,hr⟩ fn (wk ln)
 rintro o ⟨S,hr⟩
 refine g'<|sr<|sx0 z z<|j' (k0' hr z z)
theorem dn'{A t g d m l e k C E i c o n h f J D r}(hr:(ZaK A t).Ret r):Ctr prog 24 #[.agg ((v34' A g d m l e k C E)).toArray,.agg ((v34' t i c o n h f J D)).toArray] (fun G=>sl Rp.str G g d A.root.vars/\sl b' G m l A.root.eqs/\sl b' G e k A.root.neqs/\sl Q' G C E A.v/\y34' G i c o n h f J D t) (fun G v=>v = .bool r):=by
 refine E' (args:=[_,_]) (N:=40) func24 z z z (fun w0 Q av U=>?_)
 obtain⟨B,I,y,H,u,F,x,M⟩:=U
 refine sr<|af' 2 z z z fun b2=>af' 3 z z z fun b3=>sx0 z z<|n'<|sr<|yy (cJ' z) z<|yy (aI' ((v31' A.root g d m l e k)).toArray 2 at' z z z (aU' ([]) ((v31' A.root g d m l e k)) ([.slice C A.v.length E]))) z<|yy (cJ' z) z<|yy (aI' ((v31' t.root i c o n h f)).toArray 3 at' z z z (aU' ([]) ((v31' t.root i c o n h f)) ([.slice J t.v.length D]))) z ?_
 obtain⟨aa,W,hr⟩:=hr
 refine F' z z (t' E15 z) (dH' W) z (⟨B,I,y,u,F,x⟩) ?_
 cases aa
 .refine yy (al' z) z<|mv z z<|sn7 z<|yy (h' z z) z<|nx<|U' z<|sr<|sx0 z z<|j'<|a' (k0' hr z z)
 refine yy (al' z) z<|mv z z<|gy z z (aj' z) z<|gy z z (f' 2 bc' z z z) z<|gy z z (M' D' H z) z<|gy z z (aj' z) z<|gy z z (f' 3 bc' z z z) z<|gy z z (M' D' M z) z<|gy z z (aw' z z) z<|yy (l' z z) z<|nx<|L' hr z (fun ag hr=>?_) (fun ag hr=>?_)
 .refine sr<|sx0 z z<|j'<|a' (k0' hr z z)
 refine q'<|g'<|n'<|sr<|sx0 z z<|am' (fun (L:Mem)=>match L with|K=>[]) (fun (L:Mem)=>match L with|K=>Mem.le Q K/\(ZfT).Ret r) (fun (L:Mem)=>match L with|K=>St w0 Q K []) ?_ ?_
 .refine B' ?_
  let P:(Bool⊕Unit)->Prop:=fun oo=>((fun ov=>match ov with | .inl rv1=>Cq.ret rv1 | .inr ()=>ZfT:(Bool⊕Unit)->Cq Bool) oo).wp (fun a=>a=r)
  replace hr:(Cq.loop _ _).wp P:=hr
  refine an' (Φ:=P) (fun (⟨O,s⟩:Int×Mem)=>(O:Int)) (fun ⟨O,s⟩=>[(2,pt0 b2),(3,pt0 b3),(5,i' O)]) (fun ⟨O,s⟩=>Mem.le Q s) (fun ⟨O,s⟩=>St w0 Q s [(2,bk0 b2 (v34' A g d m l e k C E) 34),(3,bk0 b3 (v34' t i c o n h f J D) 34)]) ⟨0,Q⟩ hr (f3 z z z) mr (w2 z z) ?_
  .intro au L hx hr
   obtain⟨O,s⟩:=L
   have q:=hx
   refine n'<|sr<|mv z z<|yy (aj' z) z<|yy (f' 2 bc' z z z) z<|yy (M' D' (H.mono q) z) z<|yy (ai' z z) z<|nx<|L' hr z (fun Z hr=>?_) (fun Z hr=>?_)
   .refine q'<|g'<|n'<|B'<|n'<|ah' [ff,ff,ff,ff,ff,ff,ff,ff,ff,ff] mix (by kernel_rfl) fun hb=>cn (fun _ p=>aj' z)<|cn (fun _ p=>f' 2 bc' z z z)<|cn (fun _ p=>e' z) ?_
    obtain⟨x1,R,hr⟩:=hr
    refine cn (fun _ p=>T' D' bR' ((H.mono q).mono p) z z R) ?_
    obtain⟨ao,am,ab,T⟩:=cO' (I' (ae' H R) q)
    refine cn (fun _ p=>aA' _ ag63 z z (fun j v V=>p _ _ _ (ab j v V)))<|cn (fun _ p=>aj' z)<|cn (fun _ p=>f' 3 bc' z z z)<|cn (fun _ p=>e' z) ?_
    obtain⟨x2,S,hr⟩:=hr
    refine cn (fun _ p=>T' D' bR' ((M.mono q).mono p) z z S) ?_
    obtain⟨ap,al,ae,Y⟩:=cO' (I' (ae' M S) q)
    refine cn (fun _ p=>aA' _ ag63 z z (fun j v V=>p _ _ _ (ae j v V)))<|R' hb ?_
    obtain⟨ar,X,hr⟩:=hr
    refine F' z z (t' E29 z) (dV' X) z (⟨T,Y⟩)<|yy (al' z) z<|u'<|aq'<|g'<|aL' hr z (fun ac hr=>?_) (fun ac hr=>?_)
    .refine sr<|sx0 z z<|j'<|m'<|a'<|a'<|m'<|ag'<|a' (k0' hr z z)
    refine q'<|J'<|g'<|A'<|mv z z<|yy (X' z z) z<|sg z z<|u'<|Y' ⟨i64.wrap (O+1),s⟩ hr q (f3 z z z) (w2 z z)
   refine ao'<|r'<|r'<|O'<|ap' s ⟨q,hr⟩ fn (wk ln)
 rintro K ⟨ai,hr⟩
 refine g'<|sr<|sx0 z z<|j' (k0' hr z z)
set_option maxHeartbeats 2000000 in
theorem ZcH(a4:ZE)(ah:(Fin 3->Int))(aE:(List Zr))(bb:Option Addr)(bf:Nat)(be:Option Addr)(bc:Nat)(aX:Option Addr)(aY:Nat)(r:Bool)(hr:(Za9 a4 ah aE).Ret r):Ctr prog 3 #[.agg ((v25' a4 bb bf be bc)).toArray,.agg (vecG (Value.int .i64) 3 ah).toArray,.slice aX aE.length aY] (fun G=>sl cr' G bb bf a4.s/\sl dJ' G be bc a4.v/\sl cr' G aX aY aE) (fun G v=>v = .bool r):=by
 refine E' (args:=[_,_,_]) (N:=222) func3 z z z (fun w0 G0 bL cw=>?_)
 obtain⟨bJ,bH,a5⟩:=cw
 refine sr<|af' 3 z z z fun b1=>af' 4 z z z fun b2=>sg z z<|nr ?_
 obtain⟨aP,cI,hr⟩:=hr
 refine F' z z (t' E9 z) (dy' cI) z (trivial)<|sx0 z z<|n'<|sr<|mv z z<|yy (al' z) z<|nx<|aL' hr z (fun di hr=>?_) (fun di hr=>?_)
 .refine sr<|sx0 z z<|j'<|a' (k0' hr z z)
 refine q'<|g'<|sr<|yy (o' 3 ag25 z z z) z ?_
 obtain⟨a0,cR,hr⟩:=hr
 refine P' z z (t' E10 z) (ek' cR) z (⟨bJ,bH⟩) (fun du dV a8 bp=>?_)
 obtain⟨U,T,V,W,R,S,a6,a7,rfl,k,m,l,J⟩:=bp
 refine V' 8 z z34 z fun b3=>s' 8 z bH' z z z z z (List.all_eq_true.1 z)<|nr<|yy (o' 8 aG' z z z) z<|yy (bU' bp' sz3 z z (by decide)) z<|yy (f' 4 sc3 z z (bk' _ _ _ (i:=(0:Int)) (by decide))) z ?_
 obtain⟨dU,cT,hr⟩:=hr
 refine P' z z (t' E11 z) (bJ' cT) z (⟨k,m,l,J⟩) (fun dx dY f bD=>?_)
 obtain⟨cg,bT,cq,cm,ck,bV,rfl,a3,bh,a9⟩:=bD
 refine mv z z<|yy (y' z z) z<|yy (y' z z) z<|V' 9 z z31 z fun b4=>s' 9 z aV' z z z z z (List.all_eq_true.1 z)<|sg z z<|nr<|yy (o' 8 aG' z z z) z<|yy (bU' bp' sz3 z z (by decide)) z<|yy (f' 4 sc3 z z (bk' _ _ _ (i:=(0:Int)) (by decide))) z ?_
 obtain⟨bP,cv,hr⟩:=hr
 refine P' z z (t' E12 z) (fc' cv) z (⟨(k.mono f),(m.mono f),(l.mono f),(J.mono f)⟩) (fun dP co g br=>?_)
 obtain⟨ak,au,aN,aQ,an,ar,rfl,ai,aO,al⟩:=br
 refine mv z z<|yy (y' z z) z<|yy (y' z z) z<|V' 11 z z31 z fun b5=>s' 11 z aV' z z z z z (List.all_eq_true.1 z)<|sg z z<|nr<|yy (o' 8 aG' z z z) z<|yy (bU' bp' sz3 z z (by decide)) z<|yy (f' 4 sc3 z z (bk' _ _ _ (i:=(0:Int)) (by decide))) z<|yy (bU' bp' sz3 z z (by decide)) z<|yy (f' 4 sc3 z z (bk' _ _ _ (i:=(1:Int)) (by decide))) z ?_
 obtain⟨dZ,cP,hr⟩:=hr
 have N1:=mt f g
 refine F' z z (t' E13 z) (Zgd _ _ _ _ _ _ _ _ _ _ _ _ cP) z (⟨(k.mono N1),(m.mono N1),(l.mono N1),(J.mono N1)⟩)<|mv z z<|yy (y' z z) z<|yy (y' z z) z<|sg z z<|sg z z<|nr<|yy (o' 8 aG' z z z) z<|yy (bU' bp' sz3 z z (by decide)) z<|yy (f' 4 sc3 z z (bk' _ _ _ (i:=(0:Int)) (by decide))) z<|yy (bU' bp' sz3 z z (by decide)) z<|yy (f' 4 sc3 z z (bk' _ _ _ (i:=(1:Int)) (by decide))) z ?_
 obtain⟨dT,cU,hr⟩:=hr
 refine F' z z (t' E14 z) (gW' cU) z (⟨(k.mono N1),(m.mono N1),(l.mono N1),(J.mono N1)⟩)<|mv z z<|yy (y' z z) z<|yy (y' z z) z<|sg z z<|sx0 z z<|aM' (fun (gx:Mem)=>match gx with|bj=>[(2,.slice aX aE.length aY),(4,pt0 b2),(7,.bool aP),(8,pt0 b3),(11,pt0 b5)]) (fun (gx:Mem)=>match gx with|bj=>Mem.le co bj/\(ZaP ah aE aP a0 bP).Ret r) (fun (gx:Mem)=>match gx with|bj=>St w0 G0 bj [(4,bk0 b2 (vecG (Value.int .i64) 3 ah) 26),(8,bk0 b3 (v34' a0 U T V W R S a6 a7) 34),(11,bk0 b5 (v31' bP.1 ak au aN aQ an ar) 31)]) ?_ ?_
 .refine n'<|ah' [ff,ff,ff,ff,ff,ff,ff,ff,ff,ff,ff,ff,ff,ff,ff,ff,ff,ff,ff,ff,ff,ff,ff,ff,ff,ff,ff,ff,ff,ff,ff] mix (by kernel_rfl) fun hb=>cn (fun _ h=>e' z)<|cn (fun _ h=>e' z)<|bz' hr z (fun _ h=>aw' z z) (fun cu hr=>?_) (fun cu hr=>?_)
  .refine cn (fun _ h=>e' z)<|cf z z<|cf z z<|cf z z<|cf z z<|cn (fun _ h=>h' z z)<|cn (fun _ h=>e' z)<|cf z z<|cf z z<|cf z z<|cn (fun _ h=>h' z z)<|cn (fun _ h=>e' z)<|cf z z<|cf z z<|cf z z<|cn (fun _ h=>h' z z)<|cn (fun _ h=>e' z)<|cf z z<|cf z z<|cf z z<|cf z z<|cf z z<|cf z z<|cf z z<|cf z z<|cf z z<|cf z z<|cf z z<|R' hb<|sn2 z<|yy (h' z z) z<|mv z z<|sn3 z<|yy (h' z z) z<|u'<|aq'<|g'<|U' z<|sr<|sx0 z z<|j'<|a' (k0' hr z z)
  refine cn (fun _ h=>e' z)<|cy z z (fun _ h=>o' 9 at' z z z)<|cy z z (fun _ h=>o' 11 at' z z z) ?_
  obtain⟨cM,b0,hr⟩:=hr
  refine bD' (v' z z) (fun _=>t' E15 z) (dH' b0) z (fun G' h=>⟨((a3.mono g).mono h),((bh.mono g).mono h),((a9.mono g).mono h),(ai.mono h),(aO.mono h),(al.mono h)⟩) ?_
  cases cM
  .refine cy z z (fun _ h=>al' z)<|cn (fun _ h=>l' z z)<|cn (fun _ h=>e' z)<|cf z z<|cf z z<|cf z z<|cn (fun _ h=>h' z z)<|cn (fun _ h=>e' z)<|cf z z<|cf z z<|cf z z<|cn (fun _ h=>h' z z)<|cn (fun _ h=>e' z)<|cf z z<|cf z z<|cf z z<|cf z z<|cf z z<|cf z z<|cf z z<|cf z z<|cf z z<|cf z z<|cf z z<|R' hb<|sn2 z<|yy (h' z z) z<|mv z z<|sn3 z<|yy (h' z z) z<|u'<|aq'<|g'<|U' z<|sr<|sx0 z z<|j'<|a' (k0' hr z z)
  refine cy z z (fun _ h=>al' z)<|cn (fun _ h=>l' z z)<|cn (fun _ h=>e' z)<|cy z z (fun _ h=>e' z)<|cy z z (fun _ h=>e' z)<|bz' hr (v' z z) (fun _ h=>aw' z z) (fun cW hr=>?_) (fun cW hr=>?_)
  .refine cn (fun _ h=>l' z z)<|cn (fun _ h=>e' z)<|cf z z<|cf z z<|cf z z<|cn (fun _ h=>h' z z)<|cn (fun _ h=>e' z)<|cf z z<|cf z z<|cf z z<|cf z z<|cf z z<|cf z z<|cf z z<|cf z z<|cf z z<|cf z z<|cf z z<|R' hb<|sn2 z<|yy (h' z z) z<|mv z z<|sn3 z<|yy (h' z z) z<|u'<|aq'<|g'<|U' z<|sr<|sx0 z z<|j'<|a' (k0' hr z z)
  refine cn (fun _ h=>l' z z)<|cn (fun _ h=>e' z)<|cy z z (fun _ h=>e' z)<|cy z z (fun _ h=>e' z)<|bz' hr (v' z z) (fun _ h=>aw' z z) (fun cY hr=>?_) (fun cY hr=>?_)
  .refine cn (fun _ h=>l' z z)<|cn (fun _ h=>e' z)<|cf z z<|cf z z<|cf z z<|cf z z<|cf z z<|cf z z<|cf z z<|cf z z<|cf z z<|cf z z<|cf z z<|R' hb<|sn2 z<|yy (h' z z) z<|mv z z<|sn3 z<|yy (h' z z) z<|u'<|aq'<|g'<|U' z<|sr<|sx0 z z<|j'<|a' (k0' hr z z)
  refine cn (fun _ h=>l' z z)<|cn (fun _ h=>e' z)<|cy z z (fun _ h=>o' 8 aG' z z z)<|cy z z (fun _ h=>bU' bp' sz3 z z (by decide))<|cy z z (fun _ h=>f' 4 sc3 z z (bk' _ _ _ (i:=(0:Int)) (by decide)))<|cy z z (fun _ h=>bU' bp' sz3 z z (by decide))<|cy z z (fun _ h=>f' 4 sc3 z z (bk' _ _ _ (i:=(1:Int)) (by decide))) ?_
  obtain⟨dJ,bS,hr⟩:=hr
  refine bD' (v' z z) (fun _=>t' E16 z) (ZaW _ _ _ _ _ _ _ _ _ _ _ _ bS) z (fun G' h=>⟨((k.mono N1).mono h),((m.mono N1).mono h),((l.mono N1).mono h),((J.mono N1).mono h)⟩)<|cy z z (fun _ h=>o' 8 aG' z z z)<|cy z z (fun _ h=>bU' bp' sz3 z z (by decide))<|cy z z (fun _ h=>f' 4 sc3 z z (bk' _ _ _ (i:=(0:Int)) (by decide)))<|cy z z (fun _ h=>bU' bp' sz3 z z (by decide))<|cy z z (fun _ h=>f' 4 sc3 z z (bk' _ _ _ (i:=(1:Int)) (by decide)))<|R' hb ?_
  obtain⟨dF,bW,hr⟩:=hr
  refine F' (v' z z) z (t' E17 z) (eu' bW) z (⟨(k.mono N1),(m.mono N1),(l.mono N1),(J.mono N1)⟩)<|ad' hr (v' z z) (Y0.neqB cv' z z) z (fun cz hr=>?_) (fun cz hr=>?_)
  .refine yy (l' z z) z<|mv z z<|sn3 z<|yy (h' z z) z<|u'<|aq'<|g'<|U' z<|sr<|sx0 z z<|j'<|a' (k0' hr z z)
  refine yy (l' z z) z<|mv z z<|gy z z (o' 8 aG' z z z) z ?_
  obtain⟨dG,cl,hr⟩:=hr
  refine F' (v' z z) z (t' E18 z) (cX' cl) z (⟨(k.mono N1),(m.mono N1),(l.mono N1),(J.mono N1)⟩)<|gy z z (al' z) z<|yy (l' z z) z<|u'<|aq'<|g'<|aL' hr z (fun dc hr=>?_) (fun dc hr=>?_)
  .refine sr<|sx0 z z<|j'<|a' (k0' hr z z)
  refine q'<|ar' co ⟨mr,hr⟩ (f5 z z z z z) (w3 z z z)
 rintro bj ⟨q,hr⟩
 refine sr<|bd' (e:=48) (r:=ab') (vs:=#[]) (cs:=[]) ([]:List Zc) z z z z z (by decide) (fun _=>by kernel_rfl) (z) (key:=999) z (by rw[bL]; rfl) fun p1 bO p c2=>sx0 z z<|n'<|sr<|sx0 z z<|am' (fun (⟨P,Y,Z,ad,a1⟩:(List Zc)×Option Addr×Nat×Option Ow×Mem)=>[(4,pt0 b2),(7,.bool aP),(8,pt0 b3),(17,.slice Y P.length Z)]) (fun ⟨P,Y,Z,ad,a1⟩=>Mem.le bO a1/\sl ab' a1 Y Z P/\Tok 7 48 (.slice Y P.length Z) P.length ad/\(Zaa ah aP a0 P).Ret r) (fun ⟨P,Y,Z,ad,a1⟩=>St w0 G0 a1 [(4,bk0 b2 (vecG (Value.int .i64) 3 ah) 26),(8,bk0 b3 (v34' a0 U T V W R S a6 a7) 34),(1017,ad)]) ?_ ?_
 .refine B' ?_
  let bF:(List Zc)->Prop:=fun oo=>((fun ov=>match ov with|P=>Zaa ah aP a0 P:(List Zc)->Cq Bool) oo).wp (fun a=>a=r)
  replace hr:(Cq.loop _ _).wp bF:=hr
  refine an' (Φ:=bF) (fun (⟨F,I,K,H,ae,ao⟩:(List Zc)×Option Addr×Nat×Option Ow×Int×Mem)=>((F,ae):(List Zc)×Int)) (fun ⟨F,I,K,H,ae,ao⟩=>[(2,.slice aX aE.length aY),(4,pt0 b2),(7,.bool aP),(8,pt0 b3),(11,pt0 b5),(17,.slice I F.length K),(18,i' ae)]) (fun ⟨F,I,K,H,ae,ao⟩=>Mem.le bO ao/\sl ab' ao I K F/\Tok 7 48 (.slice I F.length K) F.length H) (fun ⟨F,I,K,H,ae,ao⟩=>St w0 G0 ao [(4,bk0 b2 (vecG (Value.int .i64) 3 ah) 26),(8,bk0 b3 (v34' a0 U T V W R S a6 a7) 34),(11,bk0 b5 (v31' bP.1 ak au aN aQ an ar) 31),(1017,H)]) ⟨[],p1,0,none,0,bO⟩ hr (f7 z z z z z z z) ⟨mr,c2,dh'⟩ (wk (lc z (lc z (lc z (lw ln))))) ?_
  .intro dW gx hx hr
   obtain⟨F,I,K,H,ae,ao⟩:=gx
   obtain⟨Q,aZ,aK⟩:=hx
   refine n'<|sr<|mv z z<|mv z z<|yy (M' da' (a5.mono (mt (mt (mt (mt (mt a8 f) g) q) p) Q)) z) z<|ad' hr z (ai' z z) z (fun cX hr=>?_) (fun cX hr=>?_)
   .refine mv z z<|gy z z (e' z) z<|gy z z (ai' z z) z<|yy (h' z z) z<|nx<|L' hr z (fun c6 hr=>?_) (fun c6 hr=>?_)
    .refine q'<|g'<|n'<|B'<|ah' [tt,ff,ff,ff,ff,ff] mix (by kernel_rfl) fun hb=>cq' z (e' z)<|cn (fun _ h=>o' 11 at' z z z)<|cn (fun _ h=>e' z)<|cn (fun _ h=>e' z) ?_
     obtain⟨x1,cr,hr⟩:=hr
     refine cn (fun _ h=>T' da' sz54 ((a5.mono (mt (mt (mt (mt (mt a8 f) g) q) p) Q)).mono h) z z cr) ?_
     obtain⟨dp,dq,da,ce⟩:=ZeN (I' (ae' a5 cr) (mt (mt (mt (mt (mt a8 f) g) q) p) Q))
     refine cn (fun _ h=>aA' _ ag54 z z (fun j v hv=>h _ _ _ (da j v hv)))<|R' hb ?_
     obtain⟨n,cb,hr⟩:=hr
     have N2:=mt (mt q p) Q
     refine P' z z (t' E19 z) (eY' cb) z (⟨(ai.mono N2),(aO.mono N2),(al.mono N2),ce⟩) (fun ds dA bg bk=>?_)
     obtain⟨M,L,rfl,bK⟩:=bk
     refine bd' (e:=48) (r:=ab') (vs:=#[(0,.agg ((v48' n M L)).toArray)]) (cs:=(v48' n M L)++([])) ([n]:List Zc) z z z z z (by decide) (fun _=>by kernel_rfl) ⟨(v48' n M L),[],z,⟨[i' n.kind],[.string n.name,i' n.at',i' n.to',i' n.id,.slice M n.p.length L,.bool n.neq],z,z,⟨[.string n.name],[i' n.at',i' n.to',i' n.id,.slice M n.p.length L,.bool n.neq],z,z,⟨[i' n.at'],[i' n.to',i' n.id,.slice M n.p.length L,.bool n.neq],z,z,⟨[i' n.to'],[i' n.id,.slice M n.p.length L,.bool n.neq],z,z,⟨[i' n.id],[.slice M n.p.length L,.bool n.neq],z,z,⟨[.slice M n.p.length L],[.bool n.neq],z,⟨_,z,bK⟩,z⟩⟩⟩⟩⟩⟩,z⟩ (key:=999) z (by rw[bL]; rfl) (fun p2 dz ba dn=>?_)
     obtain⟨cB,hr⟩:=hr
     refine bW' (r:=ab') 1017 z z as' el48 z (by decide) z z (aZ.mono (mt bg ba)) z (by rw[bL]; rfl) aK dn cB fun p3 dk cJ cQ bM dj cD=>sg z z<|u'<|aq'<|J'<|g'<|A'<|mv z z<|yy (X' z z) z<|sg z z<|u'<|Y' ⟨(F++[n]),p3,dk,cJ,i64.wrap (ae+1),cQ⟩ hr ⟨(mt (mt (mt Q bg) ba) bM),dj,cD⟩ (f7 z z z z z z z) (w4 z z z z)
    refine ao'<|r'<|r'<|O'<|ap' ⟨F,I,K,H,ao⟩ ⟨Q,aZ,aK,hr⟩ (f4 z z z z) (w3 z z z)
   refine mv z z<|sn2 z<|yy (l' z z) z<|nx<|bb' z<|ao'<|r'<|r'<|O'<|ap' ⟨F,I,K,H,ao⟩ ⟨Q,aZ,aK,hr⟩ (f4 z z z z) (w3 z z z)
 rintro⟨P,Y,Z,ad,a1⟩ ⟨C,bd,c1,hr⟩
 refine g'<|sr<|yy (o' 8 aG' z z z) z<|yy (bU' bp' sz3 z z (by decide)) z<|yy (f' 4 sc3 z z (bk' _ _ _ (i:=(0:Int)) (by decide))) z<|mv z z ?_
 obtain⟨bG,cN,hr⟩:=hr
 have N3:=mt (mt (mt N1 q) p) C
 refine P' z z (t' E20 z) (ce' cN) z (⟨(k.mono N3),(m.mono N3),(l.mono N3),(J.mono N3),bd⟩) (fun dE dS E bC=>?_)
 obtain⟨aF,ay,aR,aU,aw,aA,bz,bv,rfl,aa,ag,X,aD⟩:=bC
 refine mv z z<|yy (y' z z) z<|yy (y' z z) z<|yy (y' z z) z<|V' 19 z z34 z fun b6=>s' 19 z bH' z z z z z (List.all_eq_true.1 z)<|sg z z<|sg z z<|nr<|yy (o' 8 aG' z z z) z<|yy (bU' bp' sz3 z z (by decide)) z<|yy (f' 4 sc3 z z (bk' _ _ _ (i:=(0:Int)) (by decide))) z<|mv z z ?_
 obtain⟨cp,cG,hr⟩:=hr
 have N4:=mt (mt (mt (mt N1 q) p) C) E
 refine P' z z (t' E21 z) (fy' cG) z (⟨(k.mono N4),(m.mono N4),(l.mono N4),(J.mono N4),(bd.mono E)⟩) (fun dy dX B bq=>?_)
 obtain⟨aL,az,aT,aS,aH,aC,bu,bx,rfl,ac,af,ab,a2⟩:=bq
 refine mv z z<|yy (y' z z) z<|yy (y' z z) z<|yy (y' z z) z<|V' 22 z z34 z fun b7=>s' 22 z bH' z z z z z (List.all_eq_true.1 z)<|sg z z<|sg z z<|nr<|yy (o' 8 aG' z z z) z<|yy (bU' bp' sz3 z z (by decide)) z<|yy (f' 4 sc3 z z (bk' _ _ _ (i:=(1:Int)) (by decide))) z<|yy (bU' bp' sz3 z z (by decide)) z<|yy (f' 4 sc3 z z (bk' _ _ _ (i:=(2:Int)) (by decide))) z ?_
 obtain⟨bN,cx,hr⟩:=hr
 have N5:=mt (mt (mt (mt (mt N1 q) p) C) E) B
 refine P' z z (t' E22 z) (cP' cx) z (⟨(k.mono N5),(m.mono N5),(l.mono N5),(J.mono N5)⟩) (fun dH dR o bA=>?_)
 obtain⟨aM,aI,aW,aV,ax,av,bw,bs,rfl,y,A,x,D⟩:=bA
 refine mv z z<|yy (y' z z) z<|yy (y' z z) z<|yy (y' z z) z<|V' 25 z z34 z fun b8=>s' 25 z bH' z z z z z (List.all_eq_true.1 z)<|sg z z<|sg z z<|nr<|yy (o' 8 aG' z z z) z<|yy (bU' bp' sz3 z z (by decide)) z<|yy (f' 4 sc3 z z (bk' _ _ _ (i:=(1:Int)) (by decide))) z<|yy (bU' bp' sz3 z z (by decide)) z<|yy (f' 4 sc3 z z (bk' _ _ _ (i:=(2:Int)) (by decide))) z ?_
 obtain⟨bE,bY,hr⟩:=hr
 have N6:=mt (mt (mt (mt (mt (mt N1 q) p) C) E) B) o
 refine P' z z (t' E23 z) (gY' bY) z (⟨(k.mono N6),(m.mono N6),(l.mono N6),(J.mono N6)⟩) (fun dr bI d bl=>?_)
 obtain⟨aq,aj,aG,aJ,am,ap,bm,bo,rfl,s,u,t,O⟩:=bl
 refine mv z z<|yy (y' z z) z<|yy (y' z z) z<|yy (y' z z) z<|V' 28 z z34 z fun b9=>s' 28 z bH' z z z z z (List.all_eq_true.1 z)<|sg z z<|sx0 z z<|aM' (fun (gx:Mem)=>match gx with|bi=>[(7,.bool aP),(19,pt0 b6),(21,i' bG.2.2),(22,pt0 b7),(25,pt0 b8),(27,i' bN.2.2),(28,pt0 b9)]) (fun (gx:Mem)=>match gx with|bi=>Mem.le bI bi/\(ZQ aP bG cp bN bE).Ret r) (fun (gx:Mem)=>match gx with|bi=>St w0 G0 bi [(19,bk0 b6 (v34' bG.1 aF ay aR aU aw aA bz bv) 34),(22,bk0 b7 (v34' cp.1 aL az aT aS aH aC bu bx) 34),(25,bk0 b8 (v34' bN.1 aM aI aW aV ax av bw bs) 34),(28,bk0 b9 (v34' bE.1 aq aj aG aJ am ap bm bo) 34)]) ?_ ?_
 .refine sr<|mv z z<|mv z z<|ad' hr z (aw' z z) z (fun cV hr=>?_) (fun cV hr=>?_)
  .refine mv z z<|sn3 z<|yy (h' z z) z<|mv z z<|sn3 z<|yy (h' z z) z<|mv z z<|sn3 z<|yy (h' z z) z<|nx<|U' z<|sr<|sx0 z z<|j'<|a' (k0' hr z z)
  refine mv z z<|gy z z (e' z) z<|gy z z (e' z) z<|ad' hr (v' z z) (aw' z z) z (fun cS hr=>?_) (fun cS hr=>?_)
  .refine yy (l' z z) z<|mv z z<|sn3 z<|yy (h' z z) z<|mv z z<|sn3 z<|yy (h' z z) z<|nx<|U' z<|sr<|sx0 z z<|j'<|a' (k0' hr z z)
  refine yy (l' z z) z<|mv z z<|gy z z (e' z) z<|gy z z (e' z) z<|ad' hr (v' z z) (aw' z z) z (fun cA hr=>?_) (fun cA hr=>?_)
  .refine yy (l' z z) z<|mv z z<|sn3 z<|yy (h' z z) z<|nx<|U' z<|sr<|sx0 z z<|j'<|a' (k0' hr z z)
  refine yy (l' z z) z<|mv z z<|gy z z (e' z) z<|gy z z (e' z) z<|gy z z (aw' z z) z<|yy (l' z z) z<|nx<|L' hr z (fun df hr=>?_) (fun df hr=>?_)
  .refine sr<|sx0 z z<|j'<|a' (k0' hr z z)
  refine q'<|ar' bI ⟨mr,hr⟩ (f7 z z z z z z z) (w4 z z z z)
 rintro bi ⟨c,hr⟩
 refine sr<|ad' hr z (dc' (e' z) (congrArg Value.bool (bdec _))) z (fun c8 hr=>?_) (fun c8 hr=>?_)
 .refine mv z z<|gy z z (e' z) z<|ad' hr (v' z z) (aw' z z) z (fun dl hr=>?_) (fun dl hr=>?_)
  .refine gy z z (e' z) z<|gy z z (aj' z) z<|gy z z (f' 19 bc' z z z) z<|gy z z (M' D' (aD.mono (mt (mt (mt B o) d) c)) z) z<|ad' hr (v' z z) (au' z z) z (fun dg hr=>?_) (fun dg hr=>?_)
   .refine gy z z (h' z z) z<|gy z z (e' z) z<|sn3 z<|N' (x' z z) z<|N' (x' z z) z<|N' (x' z z) z<|sf z z z<|gy z z (h' z z) z<|yy (h' z z) z<|mv z z<|gy z z (e' z) z<|ad' hr (v' z z) (aw' z z) z (fun dd hr=>?_) (fun dd hr=>?_)
    .refine gy z z (e' z) z<|gy z z (aj' z) z<|gy z z (f' 25 bc' z z z) z<|gy z z (M' D' (D.mono (mt d c)) z) z<|ad' hr (v' z z) (au' z z) z (fun c5 hr=>?_) (fun c5 hr=>?_)
     .refine gy z z (h' z z) z<|gy z z (e' z) z<|sn3 z<|N' (x' z z) z<|N' (x' z z) z<|N' (x' z z) z<|sf z z z<|gy z z (h' z z) z<|yy (h' z z) z<|sx0 z z<|j' (k0' hr z z)
     refine gy z z (h' z z) z<|gy z z (e' z) z<|gy z z (e' z) z<|ad' hr (v' z z) (au' z z) z (fun dm hr=>?_) (fun dm hr=>?_)
     .refine gy z z (e' z) z<|gy z z (o' 25 aG' z z z) z<|gy z z (o' 28 aG' z z z) z ?_
      obtain⟨dK,bR,hr⟩:=hr
      refine F' (v' z z) z (t' E24 z) (dn' bR) z (⟨(y.mono (mt d c)),(A.mono (mt d c)),(x.mono (mt d c)),(D.mono (mt d c)),(s.mono c),(u.mono c),(t.mono c),(O.mono c)⟩)<|gy z z (h' z z) z<|gy z z (l' z z) z<|yy (h' z z) z<|sx0 z z<|j' (k0' hr z z)
     refine gy z z (e' z) z<|sn3 z<|gy z z (l' z z) z<|gy z z (l' z z) z<|yy (h' z z) z<|sx0 z z<|j' (k0' hr z z)
    refine gy z z (e' z) z<|sn4 z<|gy z z (l' z z) z<|gy z z (e' z) z<|gy z z (e' z) z<|ad' hr (v' z z) (au' z z) z (fun c3 hr=>?_) (fun c3 hr=>?_)
    .refine gy z z (e' z) z<|gy z z (o' 25 aG' z z z) z<|gy z z (o' 28 aG' z z z) z ?_
     obtain⟨dO,ch,hr⟩:=hr
     refine F' (v' z z) z (t' E24 z) (dn' ch) z (⟨(y.mono (mt d c)),(A.mono (mt d c)),(x.mono (mt d c)),(D.mono (mt d c)),(s.mono c),(u.mono c),(t.mono c),(O.mono c)⟩)<|gy z z (h' z z) z<|gy z z (l' z z) z<|yy (h' z z) z<|sx0 z z<|j' (k0' hr z z)
    refine gy z z (e' z) z<|sn3 z<|gy z z (l' z z) z<|gy z z (l' z z) z<|yy (h' z z) z<|sx0 z z<|j' (k0' hr z z)
   refine gy z z (h' z z) z<|gy z z (e' z) z<|gy z z (e' z) z<|ad' hr (v' z z) (au' z z) z (fun c4 hr=>?_) (fun c4 hr=>?_)
   .refine gy z z (e' z) z<|gy z z (o' 19 aG' z z z) z<|gy z z (o' 22 aG' z z z) z ?_
    obtain⟨cK,cj,hr⟩:=hr
    have N7:=mt (mt (mt B o) d) c
    have N8:=mt (mt o d) c
    refine F' (v' z z) z (t' E24 z) (dn' cj) z (⟨(aa.mono N7),(ag.mono N7),(X.mono N7),(aD.mono N7),(ac.mono N8),(af.mono N8),(ab.mono N8),(a2.mono N8)⟩) ?_
    cases cK
    .refine gy z z (h' z z) z<|gy z z (l' z z) z<|yy (h' z z) z<|mv z z<|sn3 z<|N' (x' z z) z<|N' (x' z z) z<|N' (x' z z) z<|N' (x' z z) z<|sn2 z<|N' (x' z z) z<|N' (x' z z) z<|N' (x' z z) z<|N' (x' z z) z<|N' (x' z z) z<|N' (x' z z) z<|N' (x' z z) z<|sk z z z<|yy (l' z z) z<|sx0 z z<|j' (k0' hr z z)
    refine gy z z (h' z z) z<|gy z z (l' z z) z<|yy (h' z z) z<|mv z z<|gy z z (e' z) z<|ad' hr (v' z z) (aw' z z) z (fun c9 hr=>?_) (fun c9 hr=>?_)
    .refine gy z z (e' z) z<|gy z z (aj' z) z<|gy z z (f' 25 bc' z z z) z<|gy z z (M' D' (D.mono (mt d c)) z) z<|ad' hr (v' z z) (au' z z) z (fun cE hr=>?_) (fun cE hr=>?_)
     .refine gy z z (h' z z) z<|gy z z (e' z) z<|sn3 z<|N' (x' z z) z<|N' (x' z z) z<|N' (x' z z) z<|sf z z z<|gy z z (h' z z) z<|yy (h' z z) z<|sx0 z z<|j' (k0' hr z z)
     refine gy z z (h' z z) z<|gy z z (e' z) z<|gy z z (e' z) z<|ad' hr (v' z z) (au' z z) z (fun cZ hr=>?_) (fun cZ hr=>?_)
     .refine gy z z (e' z) z<|gy z z (o' 25 aG' z z z) z<|gy z z (o' 28 aG' z z z) z ?_
      obtain⟨dw,bU,hr⟩:=hr
      refine F' (v' z z) z (t' E24 z) (dn' bU) z (⟨(y.mono (mt d c)),(A.mono (mt d c)),(x.mono (mt d c)),(D.mono (mt d c)),(s.mono c),(u.mono c),(t.mono c),(O.mono c)⟩)<|gy z z (h' z z) z<|gy z z (l' z z) z<|yy (h' z z) z<|sx0 z z<|j' (k0' hr z z)
     refine gy z z (e' z) z<|sn3 z<|gy z z (l' z z) z<|gy z z (l' z z) z<|yy (h' z z) z<|sx0 z z<|j' (k0' hr z z)
    refine gy z z (e' z) z<|sn4 z<|gy z z (l' z z) z<|gy z z (e' z) z<|gy z z (e' z) z<|ad' hr (v' z z) (au' z z) z (fun cC hr=>?_) (fun cC hr=>?_)
    .refine gy z z (e' z) z<|gy z z (o' 25 aG' z z z) z<|gy z z (o' 28 aG' z z z) z ?_
     obtain⟨dI,bQ,hr⟩:=hr
     refine F' (v' z z) z (t' E24 z) (dn' bQ) z (⟨(y.mono (mt d c)),(A.mono (mt d c)),(x.mono (mt d c)),(D.mono (mt d c)),(s.mono c),(u.mono c),(t.mono c),(O.mono c)⟩)<|gy z z (h' z z) z<|gy z z (l' z z) z<|yy (h' z z) z<|sx0 z z<|j' (k0' hr z z)
    refine gy z z (e' z) z<|sn3 z<|gy z z (l' z z) z<|gy z z (l' z z) z<|yy (h' z z) z<|sx0 z z<|j' (k0' hr z z)
   refine gy z z (e' z) z<|sn3 z<|gy z z (l' z z) z<|gy z z (l' z z) z<|yy (h' z z) z<|mv z z<|sn3 z<|N' (x' z z) z<|N' (x' z z) z<|N' (x' z z) z<|N' (x' z z) z<|sn2 z<|N' (x' z z) z<|N' (x' z z) z<|N' (x' z z) z<|N' (x' z z) z<|N' (x' z z) z<|N' (x' z z) z<|N' (x' z z) z<|sk z z z<|yy (l' z z) z<|sx0 z z<|j' (k0' hr z z)
  refine gy z z (e' z) z<|sn4 z<|gy z z (l' z z) z<|gy z z (e' z) z<|gy z z (e' z) z<|ad' hr (v' z z) (au' z z) z (fun ct hr=>?_) (fun ct hr=>?_)
  .refine gy z z (e' z) z<|gy z z (o' 19 aG' z z z) z<|gy z z (o' 22 aG' z z z) z ?_
   obtain⟨cH,ci,hr⟩:=hr
   have N9:=mt (mt (mt B o) d) c
   have N10:=mt (mt o d) c
   refine F' (v' z z) z (t' E24 z) (dn' ci) z (⟨(aa.mono N9),(ag.mono N9),(X.mono N9),(aD.mono N9),(ac.mono N10),(af.mono N10),(ab.mono N10),(a2.mono N10)⟩) ?_
   cases cH
   .refine gy z z (h' z z) z<|gy z z (l' z z) z<|yy (h' z z) z<|mv z z<|sn3 z<|N' (x' z z) z<|N' (x' z z) z<|N' (x' z z) z<|N' (x' z z) z<|sn2 z<|N' (x' z z) z<|N' (x' z z) z<|N' (x' z z) z<|N' (x' z z) z<|N' (x' z z) z<|N' (x' z z) z<|N' (x' z z) z<|sk z z z<|yy (l' z z) z<|sx0 z z<|j' (k0' hr z z)
   refine gy z z (h' z z) z<|gy z z (l' z z) z<|yy (h' z z) z<|mv z z<|gy z z (e' z) z<|ad' hr (v' z z) (aw' z z) z (fun cO hr=>?_) (fun cO hr=>?_)
   .refine gy z z (e' z) z<|gy z z (aj' z) z<|gy z z (f' 25 bc' z z z) z<|gy z z (M' D' (D.mono (mt d c)) z) z<|ad' hr (v' z z) (au' z z) z (fun cF hr=>?_) (fun cF hr=>?_)
    .refine gy z z (h' z z) z<|gy z z (e' z) z<|sn3 z<|N' (x' z z) z<|N' (x' z z) z<|N' (x' z z) z<|sf z z z<|gy z z (h' z z) z<|yy (h' z z) z<|sx0 z z<|j' (k0' hr z z)
    refine gy z z (h' z z) z<|gy z z (e' z) z<|gy z z (e' z) z<|ad' hr (v' z z) (au' z z) z (fun cL hr=>?_) (fun cL hr=>?_)
    .refine gy z z (e' z) z<|gy z z (o' 25 aG' z z z) z<|gy z z (o' 28 aG' z z z) z ?_
     obtain⟨dC,cd,hr⟩:=hr
     refine F' (v' z z) z (t' E24 z) (dn' cd) z (⟨(y.mono (mt d c)),(A.mono (mt d c)),(x.mono (mt d c)),(D.mono (mt d c)),(s.mono c),(u.mono c),(t.mono c),(O.mono c)⟩)<|gy z z (h' z z) z<|gy z z (l' z z) z<|yy (h' z z) z<|sx0 z z<|j' (k0' hr z z)
    refine gy z z (e' z) z<|sn3 z<|gy z z (l' z z) z<|gy z z (l' z z) z<|yy (h' z z) z<|sx0 z z<|j' (k0' hr z z)
   refine gy z z (e' z) z<|sn4 z<|gy z z (l' z z) z<|gy z z (e' z) z<|gy z z (e' z) z<|ad' hr (v' z z) (au' z z) z (fun c0 hr=>?_) (fun c0 hr=>?_)
   .refine gy z z (e' z) z<|gy z z (o' 25 aG' z z z) z<|gy z z (o' 28 aG' z z z) z ?_
    obtain⟨dt,bZ,hr⟩:=hr
    refine F' (v' z z) z (t' E24 z) (dn' bZ) z (⟨(y.mono (mt d c)),(A.mono (mt d c)),(x.mono (mt d c)),(D.mono (mt d c)),(s.mono c),(u.mono c),(t.mono c),(O.mono c)⟩)<|gy z z (h' z z) z<|gy z z (l' z z) z<|yy (h' z z) z<|sx0 z z<|j' (k0' hr z z)
   refine gy z z (e' z) z<|sn3 z<|gy z z (l' z z) z<|gy z z (l' z z) z<|yy (h' z z) z<|sx0 z z<|j' (k0' hr z z)
  refine gy z z (e' z) z<|sn3 z<|gy z z (l' z z) z<|gy z z (l' z z) z<|yy (h' z z) z<|mv z z<|sn3 z<|N' (x' z z) z<|N' (x' z z) z<|N' (x' z z) z<|N' (x' z z) z<|sn2 z<|N' (x' z z) z<|N' (x' z z) z<|N' (x' z z) z<|N' (x' z z) z<|N' (x' z z) z<|N' (x' z z) z<|N' (x' z z) z<|sk z z z<|yy (l' z z) z<|sx0 z z<|j' (k0' hr z z)
 refine mv z z<|sn3 z<|N' (x' z z) z<|N' (x' z z) z<|N' (x' z z) z<|N' (x' z z) z<|sn2 z<|N' (x' z z) z<|N' (x' z z) z<|N' (x' z z) z<|N' (x' z z) z<|N' (x' z z) z<|N' (x' z z) z<|N' (x' z z) z<|sk z z z<|yy (l' z z) z<|mv z z<|sn3 z<|N' (x' z z) z<|N' (x' z z) z<|N' (x' z z) z<|N' (x' z z) z<|sn2 z<|N' (x' z z) z<|N' (x' z z) z<|N' (x' z z) z<|N' (x' z z) z<|N' (x' z z) z<|N' (x' z z) z<|N' (x' z z) z<|sk z z z<|yy (l' z z) z<|sx0 z z<|j' (k0' hr z z)
end Go.Proofs.YtnjiloaolgjedaaGreat

namespace Go.Proofs.YtnjiloaolgjedaaGreat
open Go.IntKind (i8 i16 i32 i64 u8 u16 u32 u64)
open Go.Proofs.Tryz
open Go Go.EL Go.RowKit Go.Proofs
end Go.Proofs.YtnjiloaolgjedaaGreat

namespace Go.EL
open Go.IntKind (i8 i16 i32 i64 u8 u16 u32 u64)
open Go Go.RowKit
def sanE(v:ByteArray):Zc:=⟨1,v,0,0,0,[],false⟩
def sanX(v:ByteArray):Za:=⟨[v],[],[],1⟩
def vA:Zh:=⟨-1,-1,[]⟩
def vB(v:ByteArray):Zh:=⟨0,-1,[sanE v]⟩
theorem Zl1:checkF oneS (sanE ZG)=0:=by decide +kernel
theorem Zl2:checkF oneS (sanE ZK)=0:=by decide +kernel
theorem Zdy(v:ByteArray)(hc:checkF oneS (sanE v)=0):allF oneS [sanE v] 0=⟨sanX v,1,0⟩:=by
 have h:Runs oneS [sanE v]:=⟨hc,trivial⟩
 rw[ZeM h]; rfl
theorem ZjI(v:ByteArray):∀ e ∈ [sanE v],PolOk e.p/\KindOk e:=fun e he=>by
 rw[List.mem_singleton] at he
 subst he
 exact⟨ZdV,show (-1000:Int)<=1 by decide,show (1:Int)<=1000 by decide⟩
def sanH:Zf:=⟨oneS,[vA]⟩
def sanI:Zf:=⟨oneS,[vA,vB ZG]⟩
def sanJ:Zf:=⟨oneS,[vA,vB ZG,vB ZK]⟩
theorem Zid:HistOk sanH [oneS]:=ZlP ZgQ
theorem Zkh:HistOk sanI [oneS,sanX ZG]:=by
 have h0:(allF oneS [sanE ZG] 0).e=0:=by rw[Zdy _ Zl1]
 have h:=Zid.add (v:=0) (o:=-1) (s:=oneS) rfl (by decide) (by decide) (by decide) (ZjI _) h0
 rw[Zdy _ Zl1] at h
 exact h
theorem Zb8:HistOk sanJ [oneS,sanX ZG,sanX ZK]:=by
 have h0:(allF oneS [sanE ZK] 0).e=0:=by rw[Zdy _ Zl2]
 have h:=Zkh.add (v:=0) (o:=-1) (s:=oneS) rfl (by decide) (by decide) (by decide) (ZjI _) h0
 rw[Zdy _ Zl2] at h
 exact h
theorem ZqH:addF sanH [oneS] 0 (-1) [sanE ZG]=(sanI,1,0):=Zh8 (v:=0) Zid rfl (-1) (by decide) (by decide) (by rw[Zdy _ Zl1])
theorem ZqI:addF sanI [oneS,sanX ZG] 0 (-1) [sanE ZK]=(sanJ,2,0):=Zh8 (v:=0) Zkh rfl (-1) (by decide) (by decide) (by rw[Zdy _ Zl2])
theorem Zl3:upB (parV sanJ) (othV sanJ) 2 1=false:=rfl
theorem Zpm:upB (parV sanJ) (othV sanJ) 1 2=false:=rfl
theorem Zpl:(ZbY sanJ 1 2).Ret (0,0):=by
 obtain⟨r,h1,h2⟩:=Zla Zb8 1 2
 rcases h2 with ⟨_,_,v,⟨k1,k2,_⟩,rfl⟩|⟨k,_⟩
 .have hv:=ZdY Zb8.down (b:=(1:Int).toNat) (by decide) k1
  have hv':v=0\/v=1:=by have:(1:Int).toNat=1:=rfl; omega
  rcases hv' with rfl|rfl
  .exact h1
  rw[show (2:Int).toNat=2 from rfl,Zl3] at k2; cases k2
 exact absurd ⟨rfl,rfl⟩ k
theorem ZoM{h:Zf}{a b:Nat}(ha:a<h.v.length)(hb:b<h.v.length)(hu:upB (parV h) (othV h) b a=false):upH h (a:Int) (b:Int)=false:=by rw[Ze7 ha hb,hu]
theorem ZqJ:undoF sanJ [oneS,sanX ZG,sanX ZK] 1 2=(zeroH,0,340):=by
 unfold undoF
 have h:upH sanJ ((2:Nat):Int) ((1:Nat):Int)=false:=ZoM (by decide) (by decide) Zpm
 rw[show upH sanJ 2 1=false from h]; rfl
theorem ZnC:(ZaA ⟨oneS,[]⟩).Ret false:=by
 refine⟨true,Zcg ZgQ,?_⟩
 show (if (((0:Nat):Int))<1 then _ else _:Cq _).wp _
 exact Cq.wp.yes (by decide) rfl
theorem Zl4:ZeW.Ret true:=by
 refine⟨_,ZpA ZgQ,?_⟩
 show (if ¬ (0:Int)=0 then _ else _:Cq _).wp _
 refine Cq.wp.no (fun h=>h rfl) (Cq.wp.no (fun h=>h rfl) ⟨true,ZfV Zid,Cq.wp.no (by decide) ?_⟩)
 refine⟨_,rfl,_,ZcI Zid 0 (by decide) (ZjI _),?_⟩
 have e1:=ZqH
 unfold sanE at e1
 rw[e1]
 refine Cq.wp.no (fun h=>h rfl) (Cq.wp.no (fun h=>h rfl) (Cq.wp.no (fun h=>h rfl) ?_))
 refine⟨_,rfl,_,ZcI Zkh 0 (by decide) (ZjI _),?_⟩
 have e2:=ZqI
 unfold sanE at e2
 rw[e2]
 refine Cq.wp.no (fun h=>h rfl) (Cq.wp.no (fun h=>h rfl) (Cq.wp.no (fun h=>h rfl) ⟨true,ZfV Zb8,Cq.wp.no (by decide) ?_⟩))
 obtain⟨t,u1,u2,u3,_⟩:=Zb8.ZoK (v:=1) (by decide) (by decide)
 refine⟨_,Zpl,_,ZiR Zb8 ((1:Nat):Int) ((1:Nat):Int),_,ZiR Zb8 1 2,?_⟩
 rw[u1,ZqJ]
 refine Cq.wp.no (fun h=>h rfl) (Cq.wp.no (fun h=>h rfl) (Cq.wp.no (fun h=>h rfl) (Cq.wp.no (fun h=>h rfl) (Cq.wp.no (fun h=>h rfl) (Cq.wp.no (fun h=>h rfl) ?_)))))
 refine⟨_,Zfb Zb8 1 2,?_⟩
 have h12:upH sanJ ((1:Nat):Int) ((2:Nat):Int)=false:=ZoM (by decide) (by decide) Zl3
 rw[show upH sanJ 1 2=false from h12]
 refine⟨_,Zfb Zb8 0 2,?_⟩
 have h02:upH sanJ ((0:Nat):Int) ((2:Nat):Int)=true:=(Ze7 (by decide) (by decide)).trans (Zgu Zb8 (by decide))
 rw[show upH sanJ 0 2=true from h02]
 refine Cq.wp.no (by decide) ?_
 refine⟨_,Zgb u2 ((3:Nat):Int),_,Zgb u2 ((2:Nat):Int),_,Zgb u2 4,?_⟩
 rw[Zgl (v:=3) (s:=t) rfl,Zgl (v:=2) (s:=sanX ZK) rfl]
 refine Cq.wp.yes rfl (Cq.wp.yes rfl (Cq.wp.yes rfl ?_))
 have hv:t.vars=[]:=u3.1
 refine Cq.wp.yes (by rw[hv]; rfl) (Cq.wp.yes rfl ⟨false,ZnC,rfl⟩)
section
variable {h:Zf}{ss:List Za}
def ResOk(r:Zf×Int×Int):Prop:=(r.2.2≠0/\r.1.v.length=0)\/(r.2.2=0/\(ZaK r.1 r.1).Ret true)
theorem Zlx(hh:HistOk h ss)(v:Int){l:List Zc}(he:∀ e ∈ l,PolOk e.p/\KindOk e):ResOk (addF h ss v (-1) l):=by
 by_cases c:(addF h ss v (-1) l).2.2=0
 .obtain⟨n,s,rfl,hs,hn,hl,h0,e⟩:=ZpE hh c
  have hb:=hh.bd
  refine .inr ⟨c,?_⟩
  rw[e]
  exact (hh.add hs hn ⟨by omega,by omega⟩ hl he h0).same
 exact .inl ⟨c,(ZpD c).1⟩
theorem ZoJ(hh:HistOk h ss)(a v:Int):ResOk (undoF h ss a v):=by
 unfold undoF
 cases hu:upH h v a with
 | false=>exact .inl ⟨show (340:Int)≠0 by decide,rfl⟩
 | true=>
  obtain⟨m,n,rfl,rfl,hm,hn,_⟩:=Zmd hu
  exact Zlx hh _ (Zfw hh (by omega))
theorem Zqa{r q:Zf×Int×Int}(hr:ResOk r)(hq:ResOk q):(ZQ true r r q q).Ret true:=by
 unfold ZQ
 rcases hr with ⟨r1,r2⟩|⟨r1,r2⟩
 .refine Cq.wp.yes rfl (Cq.wp.yes r1 (Cq.wp.yes (by rw[r2]; rfl) ?_))
  rcases hq with ⟨q1,q2⟩|⟨q1,q2⟩
  .exact Cq.wp.yes q1 (Cq.wp.yes (by rw[q2]; rfl) rfl)
  exact Cq.wp.no (fun h=>h q1) (Cq.wp.yes q1 ⟨true,q2,rfl⟩)
 refine Cq.wp.yes rfl (Cq.wp.no (fun h=>h r1) (Cq.wp.yes r1 ⟨true,r2,?_⟩))
 rcases hq with ⟨q1,q2⟩|⟨q1,q2⟩
 .exact Cq.wp.yes q1 (Cq.wp.yes (by rw[q2]; rfl) rfl)
 exact Cq.wp.no (fun h=>h q1) (Cq.wp.yes q1 ⟨true,q2,rfl⟩)
theorem Zp9{l:List Zr}(hl:∀ y ∈ l,DescOk y){y:Za×Int}(hy:Fit y.1):∃ r,(ZJ l y ([],0)).Ret r/\r.length<=3/\∀ e ∈ r,PolOk e.p/\KindOk e:=by
 have key:∀ (d k:Nat) (out:List Zc),k+d=min l.length 3->out.length=k->(∀ e ∈ out,PolOk e.p/\KindOk e)->∃ r,(ZJ l y (out,(k:Int))).Ret r/\r.length<=3/\∀ e ∈ r,PolOk e.p/\KindOk e:=by
  intro d
  induction d with
  | zero=>
   intro k out hk ho hp
   refine⟨out,Cq.ZX ?_,by omega,hp⟩
   show (if (k:Int)<(l.length:Int) then _ else _:Cq _).wp _
   rw[Cq.Zd]
   by_cases c:(k:Int)<(l.length:Int)
   .rw[if_pos c]; exact Cq.wp.no (by omega) rfl
   rw[if_neg c]; rfl
  | succ d ih=>
   intro k out hk ho hp
   have hkl:k<l.length:=by omega
   obtain⟨e,h1,h2⟩:=ZjW hy (hl l[k] (List.getElem_mem hkl))
   obtain⟨r,h3,h4⟩:=ih (k+1) (out++[e]) (by omega) (by rw[List.length_append,ho]; rfl) (fun x hx=>by
    rcases List.mem_append.1 hx with hx|hx
    .exact hp x hx
    rw[List.mem_singleton] at hx; subst hx; exact⟨h2.p,h2.k⟩)
   refine⟨r,Cq.ZX ?_,h4⟩
   refine Cq.wp.yes (p:=(k:Int)<(l.length:Int)) (by omega) ?_
   refine Cq.wp.yes (by omega) ⟨l[k],idxN hkl,e,h1,by rw[List.length_append,ho,List.length_singleton]; unfold small; omega,?_⟩
   show (ZJ l y _).wp _
   rw[wrapN (by omega)]
   exact h3
 exact key _ 0 [] (by rw[Nat.zero_add]) rfl (fun e he=>absurd he List.not_mem_nil)
theorem ZpI(hh:HistOk h ss)(v:Int):SysPol (atF ss v).1/\Fit (atF ss v).1:=by
 unfold atF
 by_cases c:0<=v/\v<(ss.length:Int)
 .rw[if_pos c]
  have hl:=hh.len
  obtain⟨s,_,hs,_,hg⟩:=hh.at (v:=v.toNat) (by omega)
  rw[getD_some hs]
  exact⟨hg.sys,hg.fit⟩
 rw[if_neg c]; exact⟨Zme,Zpw⟩
end
theorem ZdP{x:ZE}{n:Fin 3->Int}{l:List Zr}(hx:HRawOk x)(hl:∀ y ∈ l,DescOk y):(Za9 x n l).Ret true:=by
 obtain⟨h,ss,hm,hh,_⟩:=ZnW hx (m:=6) (by decide)
 obtain⟨s1,s2⟩:=ZpI hh (getF n 0)
 obtain⟨r,b1,b2⟩:=Zla hh (getF n 0) (getF n 1)
 obtain⟨q,b3,b4⟩:=Zlr hh (getF n 0) (getF n 1)
 have hrq:=b2.uniq b4
 subst hrq
 obtain⟨ed,e1,e2,e3⟩:=Zp9 hl s2
 refine⟨true,Zl4,Cq.wp.no (by decide) ⟨h,hm,_,Zgb hh _,_,Zei hh _,_,b1,_,b3,?_⟩⟩
 refine Cq.wp.no (fun h=>h rfl) ⟨true,Zlv s1,?_⟩
 refine Cq.wp.no (fun h=>h rfl) (Cq.wp.no (fun h=>h rfl) ⟨_,Zfb hh _ _,_,ZaU hh _ _,Cq.wp.no (fun h=>h rfl) ⟨true,ZfV hh,Cq.wp.no (by decide) ?_⟩⟩)
 show (Cq.next _ _).wp _
 refine (ZJ l _ _).mono (fun v hv=>?_) e1
 subst hv
 refine⟨_,ZcI hh _ (by omega) e3,_,Zgj hh _ (by omega) e3,_,ZiR hh _ _,_,Zls hh _ _,?_⟩
 exact Cq.wp.no (fun h=>h rfl) (Cq.wp.no (fun h=>h rfl) (Cq.wp.no (fun h=>h rfl) (Cq.wp.no (fun h=>h rfl) (Zqa (Zlx hh _ e3) (ZoJ hh _ _)))))
end Go.EL

