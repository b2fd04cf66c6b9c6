/- The law SystemSolutions holds for every input: a part of its proof (what the code does, plain models, and what they return). No condition. -/
import Derived.Test.YtgllmhmhldlemaaGreatXS15f
set_option linter.unusedVariables false
set_option linter.unusedSimpArgs false
namespace Go.Proofs.YtgllmhmhldlemaaGreat
open Go.IntKind (i8 i16 i32 i64 u8 u16 u32 u64)
open Go.Proofs.Tryz
open Go Go.EL Go.RowKit Go.Proofs
theorem eQ'{L K j g l k r}(hr:(Zdr L K).Ret r):Ctr prog 91 #[.agg ((v38' L j g)).toArray,.agg ((v38' K l k)).toArray] (fun G=>sl (Rp.int .u32) G j g L.mag/\sl (Rp.int .u32) G l k K.mag) (w38' r):=by
 refine B' (args:=[_,_]) (N:=40) func91 z z z (fun w0 G0 aA W=>?_)
 obtain⟨f,e⟩:=W
 refine sr<|ah' 2 z z z fun b2=>ah' 3 z z z fun b3=>P' 4 z z38 z fun b4=>nx<|c'<|sr<|yw0 (aw' z)<|yw0 (A' 2 sc4 z z z)<|yw0 (aw' z)<|yw0 (A' 3 sc4 z z z)<|yw0 (Y0.eqlB ba' z z)<|nx<|I' hr z (fun ai hr=>?_) (fun ai hr=>?_)
 .refine c'<|aj' [ff,ff,ff,ff,ff,ff,ff] mix (by kernel_rfl) fun hb=>cn (fun _ c=>aw' z)<|cn (fun _ c=>A' 2 sc4 z z z)<|cn (fun _ c=>ai' z)<|cn (fun _ c=>A' 2 aE' z z z)<|cn (fun _ c=>ai' z)<|cn (fun _ c=>A' 3 aE' z z z)<|oE hr fun E M hr=>at' (post:=wl' (Rp.int .u32) E) (fun _=>z) (fun _ _=>k' E103 z) (dN' M) z (fun G' c=>⟨(f.mono c),(e.mono c)⟩) (fun v G1 G2 c h=>?_) ?_
  .obtain⟨U,I,rfl,m⟩:=h
   exact⟨_,_,z,m.mono c⟩
  refine aF' (d:=16) (post:=wl' (Rp.int .u32) E) (fun aw aD an s=>?_)
  obtain⟨U,I,rfl,m⟩:=s
  refine oE hr fun aB O hr=>y' z z (k' E97 z) (aZ' O) z (m) (fun av az al B=>?_)
  obtain⟨Y,ac,rfl,x⟩:=B
  refine stB 4 aA' z<|p'<|ar'<|b'<|q'<|j' ?_
  obtain rfl:_=r:=hr
  exact o' z (af' (i:=4) W' z z z) ⟨_,_,z,x⟩
 refine t'<|b'<|c'<|sr<|yw0 (ai' z)<|yw0 (A' 2 aE' z z z)<|yw0 (ai' z)<|yw0 (A' 3 aE' z z z)<|oE hr fun aC T hr=>T' z z (k' E126 z) (dd' T) z (⟨f,e⟩)<|yw0 (bc' z z)<|nx<|I' hr z (fun ag hr=>?_) (fun ag hr=>?_)
 .refine c'<|aj' [ff,ff,ff,ff,ff,ff,ff] mix (by kernel_rfl) fun hb=>cn (fun _ c=>aw' z)<|cn (fun _ c=>A' 2 sc4 z z z)<|cn (fun _ c=>ai' z)<|cn (fun _ c=>A' 2 aE' z z z)<|cn (fun _ c=>ai' z)<|cn (fun _ c=>A' 3 aE' z z z)<|oE hr fun C F hr=>at' (post:=wl' (Rp.int .u32) C) (fun _=>z) (fun _ _=>k' E104 z) (cj' F) z (fun G' c=>⟨(f.mono c),(e.mono c)⟩) (fun v G1 G2 c h=>?_) ?_
  .obtain⟨R,P,rfl,n⟩:=h
   exact⟨_,_,z,n.mono c⟩
  refine aF' (d:=30) (post:=wl' (Rp.int .u32) C) (fun au ax am t=>?_)
  obtain⟨R,P,rfl,n⟩:=t
  refine oE hr fun aG S hr=>y' z z (k' E97 z) (aZ' S) z (n) (fun aq aE ak u=>?_)
  obtain⟨ab,aa,rfl,y⟩:=u
  refine stB 4 aA' z<|p'<|ar'<|b'<|q'<|j' ?_
  obtain rfl:_=r:=hr
  exact o' z (af' (i:=4) W' z z z) ⟨_,_,z,y⟩
 refine t'<|b'<|c'<|aj' [ff,ff,ff,ff,ff,ff,ff] mix (by kernel_rfl) fun hb=>cn (fun _ c=>aw' z)<|cn (fun _ c=>A' 3 sc4 z z z)<|cn (fun _ c=>ai' z)<|cn (fun _ c=>A' 3 aE' z z z)<|cn (fun _ c=>ai' z)<|cn (fun _ c=>A' 2 aE' z z z)<|oE hr fun D H hr=>at' (post:=wl' (Rp.int .u32) D) (fun _=>z) (fun _ _=>k' E104 z) (cj' H) z (fun G' c=>⟨(e.mono c),(f.mono c)⟩) (fun v G1 G2 c h=>?_) ?_
 .obtain⟨Q,J,rfl,o⟩:=h
  exact⟨_,_,z,o.mono c⟩
 refine aF' (d:=38) (post:=wl' (Rp.int .u32) D) (fun ap aH aj p=>?_)
 obtain⟨Q,J,rfl,o⟩:=p
 refine oE hr fun aF V hr=>y' z z (k' E97 z) (aZ' V) z (o) (fun ar ay ao A=>?_)
 obtain⟨Z,X,rfl,q⟩:=A
 refine stB 4 aA' z<|p'<|ar'<|b'<|q' ?_
 obtain rfl:_=r:=hr
 exact o' z (af' (i:=4) W' z z z) ⟨_,_,z,q⟩
theorem eB'{s q n p j k m o c g r}(hr:(Zc5 s q).Ret r):Ctr prog 56 #[.agg ((v40' s n p j k)).toArray,.agg ((v40' q m o c g)).toArray] (fun G=>sl (Rp.int .u32) G n p s.num.mag/\sl (Rp.int .u32) G j k s.den.mag/\sl (Rp.int .u32) G m o q.num.mag/\sl (Rp.int .u32) G c g q.den.mag) (w40' r):=by
 refine B' (args:=[_,_]) (N:=27) func56 z z z (fun w0 G0 a0 aI=>?_)
 obtain⟨O,C,P,B⟩:=aI
 refine sr<|ah' 2 z z z fun b2=>ah' 3 z z z fun b3=>P' 4 z z40 z fun b4=>nx<|c'<|aj' [ff,ff,ff,ff,ff,ff,ff,ff,ff,ff,ff,ff,ff,ff] mix (by kernel_rfl) fun hb=>cn (fun _ l=>aT' z)<|cn (fun _ l=>ag' ((v38' s.num n p)).toArray 2 W' z z z (aq' ([]) ((v38' s.num n p)) ((v38' s.den j k))))<|cn (fun _ l=>aM' z)<|cn (fun _ l=>ag' ((v38' q.den c g)).toArray 3 W' z z z (aq' ((v38' q.num m o)) ((v38' q.den c g)) ([])))<|bD' (r:=aH') (e:=38) ([s.num,q.den]:List Zb) (fun _=>z) z (by decide) (fun u D l E=>?_) ?_
 .exact⟨#[(0,.agg ((v38' s.num n p)).toArray),(1,.agg ((v38' q.den c g)).toArray)],(v38' s.num n p)++((v38' q.den c g)++([])),z,z,fun _=>by kernel_rfl,⟨(v38' s.num n p),(v38' q.den c g)++([]),z,⟨[.bool s.num.neg],[sv0 n s.num.mag p],z,z,⟨_,z,(O.mono l)⟩⟩,⟨(v38' q.den c g),[],z,⟨[.bool q.den.neg],[sv0 c q.den.mag g],z,z,⟨_,z,(B.mono l)⟩⟩,z⟩⟩⟩
 refine oE hr fun aw aE hr=>bd' (f:=90) (φ:=w38' aw) (fun _=>z) (fun v G1 G2 l h=>?_) (fun u D l E=>?_) ?_
 .obtain⟨F,I,rfl,x⟩:=h
  exact⟨_,_,z,x.mono l⟩
 .obtain⟨⟨p1,ag,al,ax⟩,_⟩:=(show (fun G v=>∃ p1 ag,v = .slice p1 2 2/\SlRd aH' G (.slice p1 2 2) ag [s.num,q.den]) D.m (u 10)/\True from E)
  exact⟨_,_,_,fun _=>k' E90 z,bI' aE,(by simp only[al] <;> rfl),ax⟩
 refine cu (fun _ _ l=>aT' z)<|cu (fun _ _ l=>ag' ((v38' q.num m o)).toArray 3 W' z z z (aq' ([]) ((v38' q.num m o)) ((v38' q.den c g))))<|cu (fun _ _ l=>aM' z)<|cu (fun _ _ l=>ag' ((v38' s.den j k)).toArray 2 W' z z z (aq' ((v38' s.num n p)) ((v38' s.den j k)) ([])))<|bD' (r:=aH') (e:=38) ([q.num,s.den]:List Zb) (fun _=>z) z (by decide) (fun u D l E=>?_) ?_
 .exact⟨#[(0,.agg ((v38' q.num m o)).toArray),(1,.agg ((v38' s.den j k)).toArray)],(v38' q.num m o)++((v38' s.den j k)++([])),z,z,fun _=>by kernel_rfl,⟨(v38' q.num m o),(v38' s.den j k)++([]),z,⟨[.bool q.num.neg],[sv0 m q.num.mag o],z,z,⟨_,z,(P.mono l)⟩⟩,⟨(v38' s.den j k),[],z,⟨[.bool s.den.neg],[sv0 j s.den.mag k],z,z,⟨_,z,(C.mono l)⟩⟩,z⟩⟩⟩
 refine oE hr fun av aB hr=>bd' (f:=90) (φ:=w38' av) (fun _=>z) (fun v G1 G2 l h=>?_) (fun u D l E=>?_) ?_
 .obtain⟨H,J,rfl,t⟩:=h
  exact⟨_,_,z,t.mono l⟩
 .obtain⟨⟨p2,ad,ak,az⟩,_,_,_⟩:=(show (fun G v=>∃ p2 ad,v = .slice p2 2 2/\SlRd aH' G (.slice p2 2 2) ad [q.num,s.den]) D.m (u 16)/\True/\True/\True from E)
  exact⟨_,_,_,fun _=>k' E90 z,bI' aB,(by simp only[ak] <;> rfl),az⟩
 refine oE hr fun aK aF hr=>bd' (f:=91) (φ:=w38' aK) (fun _=>z) (fun v G1 G2 l h=>?_) (fun u D l E=>?_) ?_
 .obtain⟨aa,Y,rfl,A⟩:=h
  exact⟨_,_,z,A.mono l⟩
 .obtain⟨⟨H,J,ai,t⟩,_,⟨F,I,aj,x⟩,_,_⟩:=(show (w38' av) D.m (u 17)/\True/\(w38' aw) D.m (u 11)/\True/\True from E)
  exact⟨_,_,_,fun _=>k' E91 z,eQ' aF,(by simp only[ai,aj] <;> rfl),⟨x,t⟩⟩
 refine cc' (fun _=>z) z38<|Chain.tailX6 (fun a3 aP aT aQ aU aV X1 ae af W U Z ab T=>?_)
 obtain⟨b5,rfl,aD⟩:=af
 obtain⟨aa,Y,rfl,A⟩:=W
 obtain⟨H,J,rfl,t⟩:=U
 obtain⟨p2,ad,rfl,az⟩:=Z
 obtain⟨F,I,rfl,x⟩:=ab
 obtain⟨p1,ag,rfl,ax⟩:=T
 refine WL.adopt aD (WL.unX (show WL _ _ _ _ _ _ (St w0 G0 X1.m _) from ?_))
 refine stB 5 aA' z<|p'<|ar'<|b'<|c'<|aj' [ff,ff,ff,ff,ff,ff,ff] mix (by kernel_rfl) fun hb=>cn (fun _ l=>C' 5 W' z z z)<|cn (fun _ l=>aM' z)<|cn (fun _ l=>ag' ((v38' s.den j k)).toArray 2 W' z z z (aq' ((v38' s.num n p)) ((v38' s.den j k)) ([])))<|cn (fun _ l=>aM' z)<|cn (fun _ l=>ag' ((v38' q.den c g)).toArray 3 W' z z z (aq' ((v38' q.num m o)) ((v38' q.den c g)) ([])))<|bD' (r:=aH') (e:=38) ([s.den,q.den]:List Zb) (fun _=>z) z (by decide) (fun u D l E=>?_) ?_
 .exact⟨#[(0,.agg ((v38' s.den j k)).toArray),(1,.agg ((v38' q.den c g)).toArray)],(v38' s.den j k)++((v38' q.den c g)++([])),z,z,fun _=>by kernel_rfl,⟨(v38' s.den j k),(v38' q.den c g)++([]),z,⟨[.bool s.den.neg],[sv0 j s.den.mag k],z,z,⟨_,z,((C.mono ae).mono l)⟩⟩,⟨(v38' q.den c g),[],z,⟨[.bool q.den.neg],[sv0 c q.den.mag g],z,z,⟨_,z,((B.mono ae).mono l)⟩⟩,z⟩⟩⟩
 refine oE hr fun aA aG hr=>bd' (f:=90) (φ:=w38' aA) (fun _=>z) (fun v G1 G2 l h=>?_) (fun u D l E=>?_) ?_
 .obtain⟨X,S,rfl,y⟩:=h
  exact⟨_,_,z,y.mono l⟩
 .obtain⟨⟨Q,M,an,ay⟩,_⟩:=(show (fun G v=>∃ Q M,v = .slice Q 2 2/\SlRd aH' G (.slice Q 2 2) M [s.den,q.den]) D.m (u 24)/\True from E)
  exact⟨_,_,_,fun _=>k' E90 z,bI' aG,(by simp only[an] <;> rfl),ay⟩
 refine cq' (d:=25) (post:=w38' aA) (d':=24) (post':=fun G v=>∃ Q M,v = .slice Q 2 2/\SlRd aH' G (.slice Q 2 2) M [s.den,q.den]) (fun aS aO a2 au ac R=>?_)
 obtain⟨X,S,rfl,y⟩:=ac
 obtain⟨Q,M,rfl,ay⟩:=R
 refine oE hr fun aY aJ hr=>y' z z (k' E89 z) (cv' aJ) z (⟨(A.mono au),y⟩) (fun aN aZ aL V=>?_)
 obtain⟨aq,ao,ar,am,rfl,L,K⟩:=V
 refine stB 4 bk' z<|p'<|ar'<|b'<|q' ?_
 obtain rfl:_=r:=hr
 exact o' z (af' (i:=4) aN' z z z) ⟨_,_,_,_,z,L,K⟩
theorem de'{p1 x1 aJ aO aL bi r}(hr:(ZZ p1 x1).Ret r):Ctr prog 25 #[sv0 aJ p1 aO,.agg (aL).toArray] (fun G=>sl g' G aJ aO p1/\ArRd bm' 8 G aL bi x1) (w40' r):=by
 refine B' (args:=[_,_]) (N:=41) func25 z z z (fun w0 G0 bA bg=>?_)
 obtain⟨aW,bb⟩:=bg
 refine sr<|ah' 3 z z z fun b1=>P' 4 z z40 z fun b2=>nr<|oE hr fun bq bd hr=>y' z z (k' E33 z) (dh' bd) z (trivial) (fun bz aX W aS=>?_)
 obtain⟨av,ai,ac,ah,rfl,ar,an⟩:=aS
 refine P' 5 z z40 z fun b3=>stB 5 bk' z<|nx<|c'<|sr<|mw0 z<|yw0 (D' N' (aW.mono W) z)<|mw0 z<|nx<|aa' (X:=Int×Zc×Option Addr×Nat×Option Addr×Nat×Mem) hr (fun ⟨M,Y,l,j,m,k,P⟩=>⟨(M,Y),[(3,pt0 b1),(4,pt0 b2),(5,pt0 b3),(12,sv0 aJ p1 aO),(13,i' (p1.length:Int)),(14,i' M)],Mem.le aX P/\sl (Rp.int .u32) P l j Y.num.mag/\sl (Rp.int .u32) P m k Y.den.mag,St w0 G0 P [(3,bk0 b1 (aL) 41),(4,bk0 b2 ([.bool false,.slice none 0 0,.bool false,.slice none 0 0]) 40),(5,bk0 b3 (v40' Y l j m k) 40)]⟩) (fun (⟨aK,K,H,D,y,aP⟩:Zc×Option Addr×Nat×Option Addr×Nat×Mem)=>⟨aK,[(4,pt0 b2),(5,pt0 b3)],Mem.le aX aP/\sl (Rp.int .u32) aP K H aK.num.mag/\sl (Rp.int .u32) aP D y aK.den.mag,St w0 G0 aP [(4,bk0 b2 ([.bool false,.slice none 0 0,.bool false,.slice none 0 0]) 40),(5,bk0 b3 (v40' aK K H D y) 40)]⟩) ⟨0,bq,av,ai,ac,ah,aX⟩ z (fz0 z) ⟨mr,ar,an⟩ (w3 z z z) ?_ ?_
 .rintro _ ⟨M,Y,l,j,m,k,P⟩ ⟨L,Q,R⟩ hr
  refine sr<|ls0 z<|nx<|c'<|I' hr z (fun bt hr=>?_) (fun bt hr=>?_)
  .refine t'<|b'<|c'<|U'<|sr<|oE hr fun s a3 hr=>yw0 (Q' N' by' (aW.mono (mx W L)) z z a3) ?_
   obtain⟨c,f,g,e,bl,S,U⟩:=bB' (M' (ad' aW a3) (mx W L))
   refine yw0 (aP' _ ag91 z z bl)<|P' 7 z z91 z fun b4=>x' 7 z by' z z z z z (fun u hu=>Rp.one g' (G:=P) (x:=s) (cs:=((v40' s.c c f g e):List Value)++(vi8 s.m)) ⟨(v40' s.c c f g e),vi8 s.m,z,⟨(v38' s.c.num c f),(v38' s.c.den g e),z,⟨[.bool s.c.num.neg],[sv0 c s.c.num.mag f],z,z,⟨_,z,S⟩⟩,⟨[.bool s.c.den.neg],[sv0 g s.c.den.mag e],z,z,⟨_,z,U⟩⟩⟩,z⟩ u (by first|simpa using hu|simpa [Value.cells] using hu))<|nr<|yw0 (bu' z)<|yw0 (ag' ((v40' s.c c f g e)).toArray 7 aN' z z z (aq' ([]) ((v40' s.c c f g e)) ((vi8 s.m))))<|P' 8 z z40 z fun b5=>stB 8 bk' z<|nx<|c'<|sr<|yw0 (bb' z)<|yw0 (ag' (vi8 s.m).toArray 7 bt' z z (an' _ _ _) (aq' ((v40' s.c c f g e)) (vi8 s.m) ([])))<|mw0 z<|nx<|aa' (X:=Int×Zc×Option Addr×Nat×Option Addr×Nat×Mem) hr (fun ⟨T,aa,o,p,q,n,Z⟩=>⟨(T,aa),[(3,pt0 b1),(4,pt0 b2),(5,pt0 b3),(8,pt0 b5),(12,sv0 aJ p1 aO),(13,i' (p1.length:Int)),(14,i' M),(21,.agg (vi8 s.m).toArray),(22,i' T)],Mem.le P Z/\sl (Rp.int .u32) Z o p aa.num.mag/\sl (Rp.int .u32) Z q n aa.den.mag,St w0 G0 Z [(3,bk0 b1 (aL) 41),(4,bk0 b2 ([.bool false,.slice none 0 0,.bool false,.slice none 0 0]) 40),(5,bk0 b3 (v40' Y l j m k) 40),(8,bk0 b5 (v40' aa o p q n) 40)]⟩) (fun (⟨aN,F,t,A,B,aI⟩:Zc×Option Addr×Nat×Option Addr×Nat×Mem)=>⟨aN,[(3,pt0 b1),(4,pt0 b2),(5,pt0 b3),(8,pt0 b5),(12,sv0 aJ p1 aO),(13,i' (p1.length:Int)),(14,i' M)],Mem.le P aI/\sl (Rp.int .u32) aI F t aN.num.mag/\sl (Rp.int .u32) aI A B aN.den.mag,St w0 G0 aI [(3,bk0 b1 (aL) 41),(4,bk0 b2 ([.bool false,.slice none 0 0,.bool false,.slice none 0 0]) 40),(5,bk0 b3 (v40' Y l j m k) 40),(8,bk0 b5 (v40' aN F t A B) 40)]⟩) ⟨0,s.c,c,f,g,e,P⟩ z (fz0 z) ⟨mr,S,U⟩ (w4 z z z z) ?_ ?_
   .rintro _ ⟨T,aa,o,p,q,n,Z⟩ ⟨V,E,I⟩ hr
    refine sr<|ls0 z<|nx<|c'<|I' hr z (fun bo hr=>?_) (fun bo hr=>?_)
    .refine t'<|b'<|c'<|U'<|sr<|mw0 z<|oA hr fun a4 hr=>yw0 (Y0.index av' sc3 sz3 z z a4 (br' _ _ _ a4))<|sw0 z<|sw0 z<|nr<|mw0 z<|yw0 (aL' z z)<|nx<|I' hr z (fun bp hr=>?_) (fun bp hr=>?_)
     .refine aj' [ff,ff,ff,ff,ff,ff] mix (by kernel_rfl) fun hb=>cn (fun _ O=>C' 8 aN' z z z)<|cm0 z<|oE hr fun x3 a5 hr=>cn (fun _ O=>Y0.idxAy dC' bk' z z (ArRd.lt (bb.mono (mx (mx W L) V)) a5)) ?_
      obtain⟨a6,a8,a9,ba,bh,aH,aM⟩:=cW' (ArRd.at (bb.mono (mx (mx W L) V)) a5)
      refine cn (fun _ O=>ag' _ 3 aN' z z z bh)<|cm0 z<|oE hr fun a7 bf hr=>at' (post:=w40' a7) (fun _=>z) (fun _ _=>k' E55 z) (ec' bf) z (fun G' O=>⟨(aH.mono O),(aM.mono O)⟩) (fun v G1 G2 O h=>?_) ?_
      .obtain⟨aF,ae,ao,ax,rfl,C,J⟩:=h
       exact⟨_,_,_,_,z,C.mono O,J.mono O⟩
      refine aF' (d:=33) (post:=w40' a7) (fun bv bB aD aU=>?_)
      obtain⟨aF,ae,ao,ax,rfl,C,J⟩:=aU
      refine oE hr fun bj bc hr=>y' z z (k' E54 z) (cb' bc) z (⟨(E.mono aD),(I.mono aD),C,J⟩) (fun bw bk a1 aT=>?_)
      obtain⟨aB,aA,aw,am,rfl,aj,au⟩:=aT
      refine stB 8 bk' z<|p'<|ar'<|E'<|b'<|w'<|ad0 z<|mw0 z<|p'<|O' ⟨i64.wrap (T+1),bj,aB,aA,aw,am,bk⟩ hr ⟨(mx (mx V aD) a1),aj,au⟩ (fz0 z) (w4 z z z z)
     refine t'<|E'<|b'<|w'<|ad0 z<|mw0 z<|p'<|O' ⟨i64.wrap (T+1),aa,o,p,q,n,Z⟩ hr ⟨V,E,I⟩ (fz0 z) (w4 z z z z)
    refine Z'<|f'<|f'<|F'<|ab' ⟨aa,o,p,q,n,Z⟩ ⟨hr,V,E,I⟩ (fz0 z) (w4 z z z z)
   rintro⟨aN,F,t,A,B,aI⟩ ⟨hr,ag,ab,ay⟩
   refine b'<|w'<|yw0 (C' 5 aN' z z z)<|yw0 (C' 8 aN' z z z)<|oE hr fun bn be hr=>y' z z (k' E56 z) (eB' be) z (⟨(Q.mono ag),(R.mono ag),ab,ay⟩) (fun bx bm aZ aV=>?_)
   obtain⟨ad,al,ak,ap,rfl,aC,az⟩:=aV
   refine stB 5 bk' z<|p'<|E'<|b'<|w'<|ad0 z<|mw0 z<|p'<|O' ⟨i64.wrap (M+1),bn,ad,al,ak,ap,bm⟩ hr ⟨(mx (mx L ag) aZ),aC,az⟩ (fz0 z) (w3 z z z)
  refine Z'<|f'<|f'<|F'<|ab' ⟨Y,l,j,m,k,P⟩ ⟨hr,L,Q,R⟩ (fz0 z) (w2 z z)
 rintro⟨aK,K,H,D,y,aP⟩ ⟨hr,bu,af,aq⟩
 refine b'<|sr<|yw0 (C' 5 aN' z z z)<|stB 4 bk' z<|nx<|q' ?_
 obtain rfl:_=r:=hr
 exact o' z (af' (i:=4) aN' z z z) ⟨_,_,_,_,z,af,aq⟩
theorem ep'{f d c r}(hr:(ZdG f).Ret r):Ctr prog 51 #[.agg ((v38' f d c)).toArray] (fun G=>sl (Rp.int .u32) G d c f.mag) (fun G v=>v=i' r):=by
 refine B' (args:=[_]) (N:=9) func51 z z z (fun k l i g=>?_)
 have e:=g
 refine sr<|ah' 1 z z z fun j=>sx1 z<|c'<|sr<|yw0 (aw' z)<|yw0 (A' 1 sc4 z z z)<|nx<|aX' hr z (fun h hr=>?_) (fun h hr=>?_)
 .refine sr<|sx1 z<|q'<|j' (k0' hr z z)
 refine t'<|b'<|sr<|yw0 (ai' z)<|yw0 (A' 1 aE' z z z)<|yw0 (D' a' e z)<|yw0 (Y0.min2 z z)<|sx1 z<|q' (k0' hr z z)
theorem eq'{h d c f e r}(hr:(ZbG h).Ret r):Ctr prog 24 #[.agg ((v40' h d c f e)).toArray] (fun G=>sl (Rp.int .u32) G d c h.num.mag/\sl (Rp.int .u32) G f e h.den.mag) (fun G v=>v=i' r):=by
 refine B' (args:=[_]) (N:=6) func24 z z z (fun o p m j=>?_)
 obtain⟨g,i⟩:=j
 refine sr<|ah' 1 z z z fun n=>sw0 z<|nr<|yw0 (aT' z)<|yw0 (ag' ((v38' h.num d c)).toArray 1 W' z z z (aq' ([]) ((v38' h.num d c)) ((v38' h.den f e))))<|oE hr fun l k hr=>T' z z (k' E51 z) (ep' k) z (g)<|sx1 z<|q' (k0' hr z z)
theorem bN'{h g f r}(hr:(Zaf h).Ret r):Ctr prog 85 #[sv0 g h f] (fun G=>sl (Rp.int .u32) G g f h) (wl' (Rp.int .u32) r):=by
 refine B' (args:=[_]) (N:=21) func85 z z z (fun q j x n=>?_)
 have e:=n
 refine sr<|sw0 z<|nr<|mw0 z<|yw0 (D' a' e z)<|sx1 z<|c'<|aa' (X:=Int×Mem) hr (fun ⟨i,d⟩=>⟨i,[(0,sv0 g h f),(3,i' i)],Mem.le j d,St q j d []⟩) (fun (⟨o,k⟩:Int×Mem)=>⟨o,[(0,sv0 g h f),(3,i' o)],Mem.le j k,St q j k []⟩) ⟨(h.length:Int),j⟩ z (fz0 z) mr (wk ln) ?_ ?_
 .rintro _ ⟨i,d⟩ c hr
  refine c'<|sr<|mw0 z<|aQ' hr z (aL' z z) z (fun t hr=>?_) (fun t hr=>?_)
  .refine mw0 z<|gm0 z<|gm0 z<|gy z z (ap' z z) z<|oE hr fun A m hr=>gy z z (Q' a' R' (e.mono c) z z m) z<|gy z z (ac' au' z (ak' (M' (ad' e m) c))) z<|gy z z (aK' z z) z<|pt00 z<|nx<|I' hr z (fun u hr=>?_) (fun u hr=>?_)
   .refine t'<|b'<|U'<|w'<|mw0 z<|yw0 (ap' z z)<|sw0 z<|p'<|E'<|O' ⟨i64.wrap (i-1),d⟩ hr c (fz0 z) (wk ln)
   refine Z'<|f'<|f'<|F'<|ab' ⟨i,d⟩ ⟨hr,c⟩ (fz0 z) (wk ln)
  refine mw0 z<|sn6 z<|pf00 z<|nx<|bJ' z<|Z'<|f'<|f'<|F'<|ab' ⟨i,d⟩ ⟨hr,c⟩ (fz0 z) (wk ln)
 rintro⟨o,k⟩ ⟨hr,l⟩
 refine b'<|sr<|mw0 z<|mw0 z<|oA hr fun p hr=>dE' (r:=(Rp.int .u32)) z z a' R' z (e.mono l) z z p fun y v s=>sx1 z<|q' ?_
 obtain rfl:_=r:=hr
 exact o' z z ⟨_,_,z,s⟩
theorem ce'{c r}(hr:(Zaq c).Ret r):Ctr prog 45 #[.int .u64 c] (fun G=>True) (wl' (Rp.int .u32) r):=by
 refine B' (args:=[_]) (N:=11) func45 z z z fun v t i o=>sr<|sw0 z<|nr<|mw0 z<|yw0 (aV' z z (by decide))<|yw0 (K' h' m' z)<|mw0 z<|yw0 (bv' z z (by decide))<|yw0 (K' h' m' z)<|aO' (e:=139) (r:=(Rp.int .u32)) (vs:=#[(0,.int .u32 (u32.wrap (Int.tmod c 4294967296))),(1,.int .u32 (u32.wrap (u64.wrap (Int.tdiv c 4294967296))))]) (cs:=[.int .u32 (u32.wrap (Int.tmod c 4294967296))]++([.int .u32 (u32.wrap (u64.wrap (Int.tdiv c 4294967296)))]++([]))) ([u32.wrap (Int.tmod c 4294967296),u32.wrap (u64.wrap (Int.tdiv c 4294967296))]:List Int) z z z z z (by decide) (fun _=>by kernel_rfl) ⟨[.int .u32 (u32.wrap (Int.tmod c 4294967296))],[.int .u32 (u32.wrap (u64.wrap (Int.tdiv c 4294967296)))]++([]),z,z,⟨[.int .u32 (u32.wrap (u64.wrap (Int.tdiv c 4294967296)))],[],z,z,z⟩⟩ (key:=999) z (by rw[i]; rfl) (fun u p k h=>?_)
 refine oE hr fun q g hr=>y' z z (k' E85 z) (bN' g) z (h) (fun l s j d=>?_)
 obtain⟨n,m,rfl,f⟩:=d
 refine sx1 z<|q' ?_
 obtain rfl:_=r:=hr
 exact o' z z ⟨_,_,z,f⟩
theorem bC'{h m k j r}(hr:(Z2 h m).Ret r):Ctr prog 44 #[.bool h,sv0 k m j] (fun G=>sl (Rp.int .u32) G k j m) (w38' r):=by
 refine B' (args:=[_,_]) (N:=16) func44 z z z (fun A y u l=>?_)
 have o:=l
 refine sr<|P' 4 z z38 z fun x=>nr<|mw0 z<|oE hr fun c n hr=>y' z z (k' E85 z) (bN' n) z (o) (fun s t q g=>?_)
 obtain⟨e,d,rfl,f⟩:=g
 refine sw0 z<|nr<|aQ' hr z (Y0.eq (n' z) (congrArg Value.bool (bdec _))) z (fun p hr=>?_) (fun p hr=>?_)
 .refine mw0 z<|gm0 z<|gy z z (D' a' f z) z<|gy z z (aL' z z) z<|pt00 z<|mw0 z<|yw0 (ax' (vs:=#[(0,.bool (decide (0<(c.length:Int)))),(1,sv0 e c d)]) (v:=.agg ([.bool (decide (0<(c.length:Int))),sv0 e c d]).toArray) z z (fun _=>by kernel_rfl))<|stB 4 aA' z<|nx<|q' ?_
  obtain rfl:_=r:=hr
  exact o' z (af' (i:=4) W' z z z) ⟨_,_,z,f⟩
 refine mw0 z<|sn3 z<|pf00 z<|mw0 z<|yw0 (ax' (vs:=#[(0,.bool false),(1,sv0 e c d)]) (v:=.agg ([.bool false,sv0 e c d]).toArray) z z (fun _=>by kernel_rfl))<|stB 4 aA' z<|nx<|q' ?_
 obtain rfl:_=r:=hr
 exact o' z (af' (i:=4) W' z z z) ⟨_,_,z,f⟩
theorem cn'{u r}(hr:(ZaW u).Ret r):Ctr prog 19 #[i' u] (fun G=>True) (w38' r):=by
 refine B' (args:=[_]) (N:=16) func19 z z z fun Y X V K=>sr<|P' 2 z z38 z fun W=>nx<|c'<|sr<|mw0 z<|ls0 z<|nx<|I' hr z (fun v hr=>?_) (fun v hr=>?_)
 .refine sr<|mw0 z<|ad0 z<|yw0 (Y0.neg z)<|yw0 (K' aU' h' z)<|ad0 z<|oE hr fun Q o hr=>y' z z (k' E45 z) (ce' o) z (trivial) (fun C M B d=>?_)
  obtain⟨I,F,rfl,n⟩:=d
  refine oE hr fun O j hr=>y' z z (k' E44 z) (bC' j) z (n) (fun L T A g=>?_)
  obtain⟨s,q,rfl,e⟩:=g
  refine stB 2 aA' z<|nx<|q'<|j' ?_
  obtain rfl:_=r:=hr
  exact o' z (af' (i:=2) W' z z z) ⟨_,_,z,e⟩
 refine t'<|b'<|sr<|mw0 z<|yw0 (K' aU' h' z)<|oE hr fun S m hr=>y' z z (k' E45 z) (ce' m) z (trivial) (fun J U y c=>?_)
 obtain⟨D,H,rfl,l⟩:=c
 refine oE hr fun P k hr=>y' z z (k' E44 z) (bC' k) z (l) (fun E R x f=>?_)
 obtain⟨p,t,rfl,h⟩:=f
 refine stB 2 aA' z<|nx<|q' ?_
 obtain rfl:_=r:=hr
 exact o' z (af' (i:=2) W' z z z) ⟨_,_,z,h⟩
theorem fd'{q r}(hr:(Zev q).Ret r):Ctr prog 6 #[i' q] (fun G=>True) (w40' r):=by
 refine B' (args:=[_]) (N:=7) func6 z z z fun E D B u=>sr<|P' 2 z z40 z fun C=>nr<|mw0 z<|oE hr fun m p hr=>y' z z (k' E19 z) (cn' p) z (trivial) (fun t y s g=>?_)
 obtain⟨c,d,rfl,j⟩:=g
 refine oE hr fun l o hr=>y' z z (k' E19 z) (cn' o) z (trivial) (fun x A n k=>?_)
 obtain⟨f,e,rfl,h⟩:=k
 refine yw0 (ax' (vs:=#[(0,.agg ((v38' m c d)).toArray),(1,.agg ((v38' l f e)).toArray)]) (v:=.agg ([.bool m.neg,sv0 c m.mag d,.bool l.neg,sv0 f l.mag e]).toArray) z z (fun _=>by kernel_rfl))<|stB 2 bk' z<|nx<|q' ?_
 obtain rfl:_=r:=hr
 exact o' z (af' (i:=2) aN' z z z) ⟨_,_,_,_,z,(j.mono n),h⟩
theorem do'{d c t o s u r}(hr:(ZbY d c).Ret r):Ctr prog 49 #[sv0 t d o,sv0 s c u] (fun G=>sl (Rp.int .u32) G t o d/\sl (Rp.int .u32) G s u c) (wl' (Rp.int .u32) r):=by
 refine B' (args:=[_,_]) (N:=69) func49 z z z (fun W L ap ag=>?_)
 obtain⟨A,p⟩:=ag
 refine sr<|sw0 z<|nr<|mw0 z<|yw0 (D' a' A z)<|mw0 z<|yw0 (D' a' p z)<|ad0 z<|oA hr fun ak hr=>bj' (r:=(Rp.int .u32)) (e:=139) (n:=i64.wrap ((d.length:Int)+(c.length:Int))) (zx:=0) 4015 z z a' bO' z (by decide) (by decide) z z z ak fun J af an=>sx1 z<|c'<|sr<|sx1 z<|aa' (X:=(List Int)×Option Ow×Int×Mem) hr (fun ⟨E,k,h,y⟩=>⟨(E,h),[(0,sv0 t d o),(1,sv0 s c u),(5,.slice J (i64.wrap ((d.length:Int)+(c.length:Int))).toNat ((i64.wrap ((d.length:Int)+(c.length:Int))).toNat)),(6,i' h)],Mem.le L y/\RowR (Rp.int .u32) 139 y (.slice J (i64.wrap ((d.length:Int)+(c.length:Int))).toNat ((i64.wrap ((d.length:Int)+(c.length:Int))).toNat)) E k,St W L y [(4015,k)]⟩) (fun (⟨K,D,Q⟩:(List Int)×Option Ow×Mem)=>⟨K,[(5,.slice J (i64.wrap ((d.length:Int)+(c.length:Int))).toNat ((i64.wrap ((d.length:Int)+(c.length:Int))).toNat))],Mem.le L Q/\RowR (Rp.int .u32) 139 Q (.slice J (i64.wrap ((d.length:Int)+(c.length:Int))).toNat ((i64.wrap ((d.length:Int)+(c.length:Int))).toNat)) K D,St W L Q [(4015,D)]⟩) ⟨(List.replicate (i64.wrap ((d.length:Int)+(c.length:Int))).toNat 0),af,0,L⟩ z (fz0 z) ⟨mr,an⟩ (w1 z) ?_ ?_
 .rintro _ ⟨E,k,h,y⟩ ⟨g,O⟩ hr
  refine c'<|sr<|mw0 z<|mw0 z<|yw0 (D' a' (A.mono g) z)<|ls0 z<|nx<|I' hr z (fun aq hr=>?_) (fun aq hr=>?_)
  .refine t'<|b'<|c'<|U'<|sr<|sx1 z<|c'<|sr<|sx1 z<|aa' (X:=(List Int)×Option Ow×Int×Int×Mem) hr (fun ⟨B,q,l,x,F⟩=>⟨(B,l,x),[(0,sv0 t d o),(1,sv0 s c u),(5,.slice J (i64.wrap ((d.length:Int)+(c.length:Int))).toNat ((i64.wrap ((d.length:Int)+(c.length:Int))).toNat)),(6,i' h),(7,.int .u64 l),(8,i' x)],Mem.le y F/\RowR (Rp.int .u32) 139 F (.slice J (i64.wrap ((d.length:Int)+(c.length:Int))).toNat ((i64.wrap ((d.length:Int)+(c.length:Int))).toNat)) B q,St W L F [(4015,q)]⟩) (fun (⟨H,C,v,I⟩:(List Int)×Option Ow×Int×Mem)=>⟨(H,v),[(0,sv0 t d o),(1,sv0 s c u),(5,.slice J (i64.wrap ((d.length:Int)+(c.length:Int))).toNat ((i64.wrap ((d.length:Int)+(c.length:Int))).toNat)),(6,i' h),(7,.int .u64 v)],Mem.le y I/\RowR (Rp.int .u32) 139 I (.slice J (i64.wrap ((d.length:Int)+(c.length:Int))).toNat ((i64.wrap ((d.length:Int)+(c.length:Int))).toNat)) H C,St W L I [(4015,C)]⟩) ⟨E,k,0,0,y⟩ z (fz0 z) ⟨mr,O⟩ (w1 z) ?_ ?_
   .rintro _ ⟨B,q,l,x,F⟩ ⟨j,m⟩ hr
    refine c'<|sr<|mw0 z<|mw0 z<|yw0 (D' a' (p.mono (mx g j)) z)<|ls0 z<|nx<|I' hr z (fun am hr=>?_) (fun am hr=>?_)
    .refine t'<|b'<|c'<|U'<|c'<|aj' [ff,ff,ff,ff,ff,ff,ff,ff,ff,ff,ff,ff,ff,ff,ff,ff,ff,ff,ff,ff] mix (by kernel_rfl) fun hb=>cm0 z<|cm0 z<|oE hr fun Y aa hr=>cn (fun _ f=>Q' a' R' ((A.mono (mx g j)).mono f) z z aa)<|cn (fun _ f=>ac' au' z (ak' (M' (M' (ad' A aa) (mx g j)) f)))<|cn (fun _ f=>K' m' h' z)<|cm0 z<|cm0 z<|oE hr fun U Z hr=>cn (fun _ f=>Q' a' R' ((p.mono (mx g j)).mono f) z z Z)<|cn (fun _ f=>ac' au' z (ak' (M' (M' (ad' p Z) (mx g j)) f)))<|cn (fun _ f=>K' m' h' z)<|cn (fun _ f=>bE' z z)<|cm0 z<|cm0 z<|cm0 z<|cn (fun _ f=>J' z z)<|oE hr fun T ab hr=>cn (fun _ f=>aB' a' R' (m.mono f) z z ab)<|cn (fun _ f=>cP' au' (m.mono f) (key:=4015) z z (ak' (dl' m ab)))<|cn (fun _ f=>K' m' h' z)<|cn (fun _ f=>J' z z)<|cm0 z<|am' hb<|ad0 z<|sw0 z<|p'<|ar'<|b'<|sr<|mw0 z<|mw0 z<|mw0 z<|ad0 z<|mw0 z<|yw0 (aV' z z (by decide))<|yw0 (K' h' m' z)<|oE hr fun x5 ad hr=>yw0 (aB' a' R' m z z ad)<|aI' (r:=(Rp.int .u32)) (e:=139) (cs':=[.int .u32 (u32.wrap (Int.tmod (u64.wrap ((u64.wrap ((u64.wrap ((u64.wrap Y)*(u64.wrap U)))+(u64.wrap T)))+l)) 4294967296))]) (i:=i64.wrap (h+x)) (z':=u32.wrap (Int.tmod (u64.wrap ((u64.wrap ((u64.wrap ((u64.wrap Y)*(u64.wrap U)))+(u64.wrap T)))+l)) 4294967296)) 4015 z R' z m z z z z z ad fun ao ah=>nx<|w'<|mw0 z<|yw0 (bv' z z (by decide))<|sw0 z<|p'<|E'<|b'<|w'<|mw0 z<|ad0 z<|sw0 z<|p'<|O' ⟨(B.set (i64.wrap (h+x)).toNat (u32.wrap (Int.tmod (u64.wrap ((u64.wrap ((u64.wrap ((u64.wrap Y)*(u64.wrap U)))+(u64.wrap T)))+l)) 4294967296))),ao,u64.wrap (Int.tdiv (u64.wrap ((u64.wrap ((u64.wrap ((u64.wrap Y)*(u64.wrap U)))+(u64.wrap T)))+l)) 4294967296),i64.wrap (x+1),F⟩ hr ⟨j,ah⟩ (fz0 z) (w1 z)
    refine Z'<|f'<|f'<|F'<|ab' ⟨B,q,l,F⟩ ⟨hr,j,m⟩ (fz0 z) (w1 z)
   rintro⟨H,C,v,I⟩ ⟨hr,P,M⟩
   refine b'<|w'<|mw0 z<|mw0 z<|mw0 z<|yw0 (D' a' (p.mono (mx g P)) z)<|ad0 z<|mw0 z<|yw0 (K' h' m' z)<|oE hr fun x1 ac hr=>yw0 (aB' a' R' M z z ac)<|aI' (r:=(Rp.int .u32)) (e:=139) (cs':=[.int .u32 (u32.wrap v)]) (i:=i64.wrap (h+(c.length:Int))) (z':=u32.wrap v) 4015 z R' z M z z z z z ac fun al aj=>p'<|E'<|b'<|w'<|mw0 z<|ad0 z<|sw0 z<|p'<|O' ⟨(H.set (i64.wrap (h+(c.length:Int))).toNat (u32.wrap v)),al,i64.wrap (h+1),I⟩ hr ⟨(mx g P),aj⟩ (fz0 z) (w1 z)
  refine Z'<|f'<|f'<|F'<|ab' ⟨E,k,y⟩ ⟨hr,g,O⟩ (f1 z) (w1 z)
 rintro⟨K,D,Q⟩ ⟨hr,ar,V⟩
 refine b'<|sr<|mw0 z<|aY' (r:=(Rp.int .u32)) (e:=139) 4015 V z (by rw[ap]; rfl) (fun aC aB aw S au=>?_)
 refine oE hr fun aD ai hr=>y' z z (k' E85 z) (bN' ai) (by rw[bs' S]) ((bq' S)) (fun ay aE av R=>?_)
 obtain⟨aA,az,rfl,ae⟩:=R
 refine sx1 z<|q' ?_
 obtain rfl:_=r:=hr
 exact o' z z ⟨_,_,z,ae⟩
theorem df'{A t j f g e r}(hr:(Zb9 A t).Ret r):Ctr prog 21 #[.agg ((v38' A j f)).toArray,.agg ((v38' t g e)).toArray] (fun G=>sl (Rp.int .u32) G j f A.mag/\sl (Rp.int .u32) G g e t.mag) (w38' r):=by
 refine B' (args:=[_,_]) (N:=16) func21 z z z (fun T R M y=>?_)
 obtain⟨o,p⟩:=y
 refine sr<|ah' 2 z z z fun U=>ah' 3 z z z fun Q=>P' 4 z z38 z fun V=>nx<|c'<|aj' [ff,ff,ff,ff,ff,ff,ff,ff,ff,ff] mix (by kernel_rfl) fun P=>cn (fun _ c=>aw' z)<|cn (fun _ c=>A' 2 sc4 z z z)<|cn (fun _ c=>aw' z)<|cn (fun _ c=>A' 3 sc4 z z z)<|cn (fun _ c=>dm' ba' z z)<|cn (fun _ c=>ai' z)<|cn (fun _ c=>A' 2 aE' z z z)<|cn (fun _ c=>ai' z)<|cn (fun _ c=>A' 3 aE' z z z)<|oE hr fun q B hr=>at' (post:=wl' (Rp.int .u32) q) (fun _=>z) (fun _ _=>k' E49 z) (do' B) z (fun O c=>⟨(o.mono c),(p.mono c)⟩) (fun v W S c h=>?_) ?_
 .obtain⟨x,u,rfl,k⟩:=h
  exact⟨_,_,z,k.mono c⟩
 refine aF' (d:=14) (post:=wl' (Rp.int .u32) q) (fun H J F l=>?_)
 obtain⟨x,u,rfl,k⟩:=l
 refine oE hr fun K s hr=>y' z z (k' E44 z) (bC' s) z (k) (fun I L E n=>?_)
 obtain⟨D,C,rfl,m⟩:=n
 refine stB 4 aA' z<|p'<|ar'<|b'<|q' ?_
 obtain rfl:_=r:=hr
 exact o' z (af' (i:=4) W' z z z) ⟨_,_,z,m⟩
theorem ed'{d c y B v A r}(hr:(Zc0 d c).Ret r):Ctr prog 46 #[sv0 y d B,sv0 v c A] (fun G=>sl (Rp.int .u32) G y B d/\sl (Rp.int .u32) G v A c) (wl' (Rp.int .u32) r):=by
 refine B' (args:=[_,_]) (N:=42) func46 z z z (fun T x U O=>?_)
 obtain⟨F,I⟩:=O
 refine sr<|sw0 z<|nr<|mw0 z<|yw0 (D' a' F z)<|mw0 z<|yw0 (D' a' I z)<|yw0 (Y0.max2 z z)<|ad0 z<|sw0 z<|nr<|mw0 z<|oA hr fun R hr=>bj' (r:=(Rp.int .u32)) (e:=139) (n:=i64.wrap ((if (d.length:Int)<(c.length:Int) then (c.length:Int) else (d.length:Int))+1)) (zx:=0) 4017 z z a' bO' z (by decide) (by decide) z z z R fun D M V=>sw0 z<|nr<|sx1 z<|c'<|sr<|sx1 z<|aa' (X:=(List Int)×Option Ow×Int×Int×Mem) hr (fun ⟨j,g,f,u,l⟩=>⟨(j,f,u),[(0,sv0 y d B),(1,sv0 v c A),(5,i' (i64.wrap ((if (d.length:Int)<(c.length:Int) then (c.length:Int) else (d.length:Int))+1))),(6,.slice D (i64.wrap ((if (d.length:Int)<(c.length:Int) then (c.length:Int) else (d.length:Int))+1)).toNat ((i64.wrap ((if (d.length:Int)<(c.length:Int) then (c.length:Int) else (d.length:Int))+1)).toNat)),(7,.int .u64 f),(8,i' u)],Mem.le x l/\RowR (Rp.int .u32) 139 l (.slice D (i64.wrap ((if (d.length:Int)<(c.length:Int) then (c.length:Int) else (d.length:Int))+1)).toNat ((i64.wrap ((if (d.length:Int)<(c.length:Int) then (c.length:Int) else (d.length:Int))+1)).toNat)) j g,St T x l [(4017,g)]⟩) (fun (⟨o,k,q⟩:(List Int)×Option Ow×Mem)=>⟨o,[(6,.slice D (i64.wrap ((if (d.length:Int)<(c.length:Int) then (c.length:Int) else (d.length:Int))+1)).toNat ((i64.wrap ((if (d.length:Int)<(c.length:Int) then (c.length:Int) else (d.length:Int))+1)).toNat))],Mem.le x q/\RowR (Rp.int .u32) 139 q (.slice D (i64.wrap ((if (d.length:Int)<(c.length:Int) then (c.length:Int) else (d.length:Int))+1)).toNat ((i64.wrap ((if (d.length:Int)<(c.length:Int) then (c.length:Int) else (d.length:Int))+1)).toNat)) o k,St T x q [(4017,k)]⟩) ⟨(List.replicate (i64.wrap ((if (d.length:Int)<(c.length:Int) then (c.length:Int) else (d.length:Int))+1)).toNat 0),M,0,0,x⟩ z (fz0 z) ⟨mr,V⟩ (w1 z) ?_ ?_
 .rintro _ ⟨j,g,f,u,l⟩ ⟨h,m⟩ hr
  refine c'<|sr<|mw0 z<|mw0 z<|ls0 z<|nx<|I' hr z (fun W hr=>?_) (fun W hr=>?_)
  .refine t'<|b'<|c'<|U'<|sr<|mw0 z<|mw0 z<|oE hr fun p J hr=>T' z z (k' E86 z) (bY' J) z ((F.mono h))<|mw0 z<|mw0 z<|oE hr fun s K hr=>T' z z (k' E86 z) (bY' K) z ((I.mono h))<|ad0 z<|mw0 z<|ad0 z<|sw0 z<|nr<|mw0 z<|mw0 z<|mw0 z<|yw0 (aV' z z (by decide))<|yw0 (K' h' m' z)<|oE hr fun x1 H hr=>yw0 (aB' a' R' m z z H)<|aI' (r:=(Rp.int .u32)) (e:=139) (cs':=[.int .u32 (u32.wrap (Int.tmod (u64.wrap ((u64.wrap (p+s))+f)) 4294967296))]) (i:=u) (z':=u32.wrap (Int.tmod (u64.wrap ((u64.wrap (p+s))+f)) 4294967296)) 4017 z R' z m z z z z z H fun S Q=>nx<|w'<|mw0 z<|yw0 (bv' z z (by decide))<|sw0 z<|p'<|E'<|b'<|w'<|mw0 z<|ad0 z<|sw0 z<|p'<|O' ⟨(j.set u.toNat (u32.wrap (Int.tmod (u64.wrap ((u64.wrap (p+s))+f)) 4294967296))),S,u64.wrap (Int.tdiv (u64.wrap ((u64.wrap (p+s))+f)) 4294967296),i64.wrap (u+1),l⟩ hr ⟨h,Q⟩ (fz0 z) (w1 z)
  refine Z'<|f'<|f'<|F'<|ab' ⟨j,g,l⟩ ⟨hr,h,m⟩ (f1 z) (w1 z)
 rintro⟨o,k,q⟩ ⟨hr,Y,E⟩
 refine b'<|sr<|mw0 z<|aY' (r:=(Rp.int .u32)) (e:=139) 4017 E z (by rw[U]; rfl) (fun ag af ab C Z=>?_)
 refine oE hr fun ah P hr=>y' z z (k' E85 z) (bN' P) (by rw[bs' C]) ((bq' C)) (fun ac ai aa t=>?_)
 obtain⟨ae,ad,rfl,L⟩:=t
 refine sx1 z<|q' ?_
 obtain rfl:_=r:=hr
 exact o' z z ⟨_,_,z,L⟩
theorem dD'{m o j n h l r}(hr:(ZbK m o).Ret r):Ctr prog 47 #[sv0 j m n,sv0 h o l] (fun G=>sl (Rp.int .u32) G j n m/\sl (Rp.int .u32) G h l o) (fun G v=>v=i' r):=by
 refine B' (args:=[_,_]) (N:=41) func47 z z z (fun D i J y=>?_)
 obtain⟨e,f⟩:=y
 refine sr<|sx1 z<|c'<|sr<|mw0 z<|yw0 (D' a' e z)<|mw0 z<|yw0 (D' a' f z)<|ls0 z<|nx<|I' hr z (fun F hr=>?_) (fun F hr=>?_)
 .refine sr<|sx1 z<|q'<|j' (k0' hr z z)
 refine t'<|b'<|c'<|sr<|mw0 z<|yw0 (D' a' e z)<|mw0 z<|yw0 (D' a' f z)<|yw0 (aL' z z)<|nx<|I' hr z (fun C hr=>?_) (fun C hr=>?_)
 .refine sr<|sx1 z<|q'<|j' (k0' hr z z)
 refine t'<|b'<|c'<|sr<|mw0 z<|yw0 (D' a' e z)<|yw0 (ap' z z)<|sx1 z<|aa' (X:=Int×Mem) hr (fun ⟨p,g⟩=>⟨p,[(0,sv0 j m n),(1,sv0 h o l),(5,i' p)],Mem.le i g,St D i g []⟩) (fun (I:Mem)=>match I with|k=>⟨(.inr ()),[],Mem.le i k,St D i k []⟩) ⟨i64.wrap ((m.length:Int)-1),i⟩ z (fz0 z) mr (wk ln) ?_ ?_
 .rintro _ ⟨p,g⟩ d hr
  refine c'<|sr<|mw0 z<|yw0 (bc' z z)<|nx<|I' hr z (fun E hr=>?_) (fun E hr=>?_)
  .refine t'<|b'<|c'<|U'<|c'<|c'<|aj' [ff,ff,ff,ff,ff,ff,ff,ff] mix (by kernel_rfl) fun x=>cm0 z<|cm0 z<|oE hr fun O u hr=>cn (fun _ c=>Q' a' R' ((e.mono d).mono c) z z u)<|cn (fun _ c=>ac' au' z (ak' (M' (M' (ad' e u) d) c)))<|cm0 z<|cm0 z<|oE hr fun M s hr=>cn (fun _ c=>Q' a' R' ((f.mono d).mono c) z z s)<|cn (fun _ c=>ac' au' z (ak' (M' (M' (ad' f s) d) c)))<|am' x<|ls0 z<|p'<|ar'<|b'<|I' hr z (fun B hr=>?_) (fun B hr=>?_)
   .refine sr<|sx1 z<|q'<|j'<|H'<|j'<|j'<|H'<|az'<|j' (k0' hr z z)
   refine t'<|b'<|c'<|aj' [ff,ff,ff,ff,ff,ff,ff,ff] mix (by kernel_rfl) fun x=>cm0 z<|cm0 z<|oE hr fun L q hr=>cn (fun _ c=>Q' a' R' ((e.mono d).mono c) z z q)<|cn (fun _ c=>ac' au' z (ak' (M' (M' (ad' e q) d) c)))<|cm0 z<|cm0 z<|oE hr fun K t hr=>cn (fun _ c=>Q' a' R' ((f.mono d).mono c) z z t)<|cn (fun _ c=>ac' au' z (ak' (M' (M' (ad' f t) d) c)))<|am' x<|yw0 (aL' z z)<|p'<|ar'<|b'<|I' hr z (fun A hr=>?_) (fun A hr=>?_)
   .refine sr<|sx1 z<|q'<|H'<|j'<|j'<|H'<|az'<|j' (k0' hr z z)
   refine t'<|E'<|b'<|w'<|mw0 z<|yw0 (ap' z z)<|sw0 z<|p'<|O' ⟨i64.wrap (p-1),g⟩ hr d (fz0 z) (wk ln)
  refine Z'<|f'<|f'<|F'<|ab' g ⟨hr,d⟩ fn (wk ln)
 rintro k ⟨hr,H⟩
 refine b'<|sr<|sx1 z<|q' (k0' hr z z)
theorem dp'{h D y B v A r}(hr:(ZbX h D).Ret r):Ctr prog 48 #[sv0 y h B,sv0 v D A] (fun G=>sl (Rp.int .u32) G y B h/\sl (Rp.int .u32) G v A D) (wl' (Rp.int .u32) r):=by
 refine B' (args:=[_,_]) (N:=41) func48 z z z (fun T x U O=>?_)
 obtain⟨p,W⟩:=O
 refine sr<|sw0 z<|nr<|mw0 z<|yw0 (D' a' p z)<|oA hr fun R hr=>bj' (r:=(Rp.int .u32)) (e:=139) (n:=(h.length:Int)) (zx:=0) 4011 z z a' bO' z (by decide) (by decide) z z z R fun E M V=>sw0 z<|nr<|sx1 z<|c'<|sr<|sx1 z<|aa' (X:=(List Int)×Option Ow×Int×Int×Mem) hr (fun ⟨j,g,c,u,l⟩=>⟨(j,c,u),[(0,sv0 y h B),(1,sv0 v D A),(5,.slice E (h.length:Int).toNat ((h.length:Int).toNat)),(6,.int .u64 c),(7,i' u)],Mem.le x l/\RowR (Rp.int .u32) 139 l (.slice E (h.length:Int).toNat ((h.length:Int).toNat)) j g,St T x l [(4011,g)]⟩) (fun (⟨o,k,s⟩:(List Int)×Option Ow×Mem)=>⟨o,[(5,.slice E (h.length:Int).toNat ((h.length:Int).toNat))],Mem.le x s/\RowR (Rp.int .u32) 139 s (.slice E (h.length:Int).toNat ((h.length:Int).toNat)) o k,St T x s [(4011,k)]⟩) ⟨(List.replicate (h.length:Int).toNat 0),M,0,0,x⟩ z (fz0 z) ⟨mr,V⟩ (w1 z) ?_ ?_
 .rintro _ ⟨j,g,c,u,l⟩ ⟨f,m⟩ hr
  refine c'<|sr<|mw0 z<|mw0 z<|yw0 (D' a' (p.mono f) z)<|ls0 z<|nx<|I' hr z (fun Y hr=>?_) (fun Y hr=>?_)
  .refine t'<|b'<|c'<|U'<|c'<|aj' [ff,ff,ff,ff,ff,ff,ff,ff,ff,ff,ff] mix (by kernel_rfl) fun hb=>cm0 z<|cm0 z<|oE hr fun H J hr=>cn (fun _ d=>Q' a' R' ((p.mono f).mono d) z z J)<|cn (fun _ d=>ac' au' z (ak' (M' (M' (ad' p J) f) d)))<|cn (fun _ d=>K' m' h' z)<|cn (fun _ d=>J' z z)<|cm0 z<|cm0 z<|oE hr fun q K hr=>bR' z (fun _=>k' E86 z) (bY' K) z (fun G' d=>((W.mono f).mono d))<|cn (fun _ d=>ap' z z)<|cm0 z<|am' hb<|yw0 (ap' z z)<|sw0 z<|p'<|ar'<|b'<|sr<|mw0 z<|mw0 z<|mw0 z<|yw0 (aV' z z (by decide))<|yw0 (K' h' m' z)<|oE hr fun x2 I hr=>yw0 (aB' a' R' m z z I)<|aI' (r:=(Rp.int .u32)) (e:=139) (cs':=[.int .u32 (u32.wrap (Int.tmod (u64.wrap ((u64.wrap ((u64.wrap (4294967296+(u64.wrap H)))-q))-c)) 4294967296))]) (i:=u) (z':=u32.wrap (Int.tmod (u64.wrap ((u64.wrap ((u64.wrap (4294967296+(u64.wrap H)))-q))-c)) 4294967296)) 4011 z R' z m z z z z z I fun S Q=>nx<|w'<|mw0 z<|yw0 (bv' z z (by decide))<|yw0 (ap' z z)<|sw0 z<|p'<|E'<|b'<|w'<|mw0 z<|ad0 z<|sw0 z<|p'<|O' ⟨(j.set u.toNat (u32.wrap (Int.tmod (u64.wrap ((u64.wrap ((u64.wrap (4294967296+(u64.wrap H)))-q))-c)) 4294967296))),S,u64.wrap (1-(u64.wrap (Int.tdiv (u64.wrap ((u64.wrap ((u64.wrap (4294967296+(u64.wrap H)))-q))-c)) 4294967296))),i64.wrap (u+1),l⟩ hr ⟨f,Q⟩ (fz0 z) (w1 z)
  refine Z'<|f'<|f'<|F'<|ab' ⟨j,g,l⟩ ⟨hr,f,m⟩ (f1 z) (w1 z)
 rintro⟨o,k,s⟩ ⟨hr,Z,F⟩
 refine b'<|sr<|mw0 z<|aY' (r:=(Rp.int .u32)) (e:=139) 4011 F z (by rw[U]; rfl) (fun ai ah ac C aa=>?_)
 refine oE hr fun aj P hr=>y' z z (k' E85 z) (bN' P) (by rw[bs' C]) ((bq' C)) (fun ae ak ab t=>?_)
 obtain⟨ag,af,rfl,L⟩:=t
 refine sx1 z<|q' ?_
 obtain rfl:_=r:=hr
 exact o' z z ⟨_,_,z,L⟩
theorem fs'{L K j g l k r}(hr:(Zf8 L K).Ret r):Ctr prog 20 #[.agg ((v38' L j g)).toArray,.agg ((v38' K l k)).toArray] (fun G=>sl (Rp.int .u32) G j g L.mag/\sl (Rp.int .u32) G l k K.mag) (w38' r):=by
 refine B' (args:=[_,_]) (N:=40) func20 z z z (fun w0 G0 aA W=>?_)
 obtain⟨f,e⟩:=W
 refine sr<|ah' 2 z z z fun b2=>ah' 3 z z z fun b3=>P' 4 z z38 z fun b4=>nx<|c'<|sr<|yw0 (aw' z)<|yw0 (A' 2 sc4 z z z)<|yw0 (aw' z)<|yw0 (A' 3 sc4 z z z)<|yw0 (Y0.eqlB ba' z z)<|nx<|I' hr z (fun ai hr=>?_) (fun ai hr=>?_)
 .refine c'<|aj' [ff,ff,ff,ff,ff,ff,ff] mix (by kernel_rfl) fun hb=>cn (fun _ c=>aw' z)<|cn (fun _ c=>A' 2 sc4 z z z)<|cn (fun _ c=>ai' z)<|cn (fun _ c=>A' 2 aE' z z z)<|cn (fun _ c=>ai' z)<|cn (fun _ c=>A' 3 aE' z z z)<|oE hr fun E M hr=>at' (post:=wl' (Rp.int .u32) E) (fun _=>z) (fun _ _=>k' E46 z) (ed' M) z (fun G' c=>⟨(f.mono c),(e.mono c)⟩) (fun v G1 G2 c h=>?_) ?_
  .obtain⟨U,I,rfl,m⟩:=h
   exact⟨_,_,z,m.mono c⟩
  refine aF' (d:=16) (post:=wl' (Rp.int .u32) E) (fun aw aD an s=>?_)
  obtain⟨U,I,rfl,m⟩:=s
  refine oE hr fun aB O hr=>y' z z (k' E44 z) (bC' O) z (m) (fun av az al B=>?_)
  obtain⟨Y,ac,rfl,x⟩:=B
  refine stB 4 aA' z<|p'<|ar'<|b'<|q'<|j' ?_
  obtain rfl:_=r:=hr
  exact o' z (af' (i:=4) W' z z z) ⟨_,_,z,x⟩
 refine t'<|b'<|c'<|sr<|yw0 (ai' z)<|yw0 (A' 2 aE' z z z)<|yw0 (ai' z)<|yw0 (A' 3 aE' z z z)<|oE hr fun aC T hr=>T' z z (k' E47 z) (dD' T) z (⟨f,e⟩)<|ls0 z<|nx<|I' hr z (fun ag hr=>?_) (fun ag hr=>?_)
 .refine c'<|aj' [ff,ff,ff,ff,ff,ff,ff] mix (by kernel_rfl) fun hb=>cn (fun _ c=>aw' z)<|cn (fun _ c=>A' 3 sc4 z z z)<|cn (fun _ c=>ai' z)<|cn (fun _ c=>A' 3 aE' z z z)<|cn (fun _ c=>ai' z)<|cn (fun _ c=>A' 2 aE' z z z)<|oE hr fun C F hr=>at' (post:=wl' (Rp.int .u32) C) (fun _=>z) (fun _ _=>k' E48 z) (dp' F) z (fun G' c=>⟨(e.mono c),(f.mono c)⟩) (fun v G1 G2 c h=>?_) ?_
  .obtain⟨R,P,rfl,n⟩:=h
   exact⟨_,_,z,n.mono c⟩
  refine aF' (d:=30) (post:=wl' (Rp.int .u32) C) (fun au ax am t=>?_)
  obtain⟨R,P,rfl,n⟩:=t
  refine oE hr fun aG S hr=>y' z z (k' E44 z) (bC' S) z (n) (fun aq aE ak u=>?_)
  obtain⟨ab,aa,rfl,y⟩:=u
  refine stB 4 aA' z<|p'<|ar'<|b'<|q'<|j' ?_
  obtain rfl:_=r:=hr
  exact o' z (af' (i:=4) W' z z z) ⟨_,_,z,y⟩
 refine t'<|b'<|c'<|aj' [ff,ff,ff,ff,ff,ff,ff] mix (by kernel_rfl) fun hb=>cn (fun _ c=>aw' z)<|cn (fun _ c=>A' 2 sc4 z z z)<|cn (fun _ c=>ai' z)<|cn (fun _ c=>A' 2 aE' z z z)<|cn (fun _ c=>ai' z)<|cn (fun _ c=>A' 3 aE' z z z)<|oE hr fun D H hr=>at' (post:=wl' (Rp.int .u32) D) (fun _=>z) (fun _ _=>k' E48 z) (dp' H) z (fun G' c=>⟨(f.mono c),(e.mono c)⟩) (fun v G1 G2 c h=>?_) ?_
 .obtain⟨Q,J,rfl,o⟩:=h
  exact⟨_,_,z,o.mono c⟩
 refine aF' (d:=38) (post:=wl' (Rp.int .u32) D) (fun ap aH aj p=>?_)
 obtain⟨Q,J,rfl,o⟩:=p
 refine oE hr fun aF V hr=>y' z z (k' E44 z) (bC' V) z (o) (fun ar ay ao A=>?_)
 obtain⟨Z,X,rfl,q⟩:=A
 refine stB 4 aA' z<|p'<|ar'<|b'<|q' ?_
 obtain rfl:_=r:=hr
 exact o' z (af' (i:=4) W' z z z) ⟨_,_,z,q⟩
theorem dV'{g e d r}(hr:(Zcs g).Ret r):Ctr prog 123 #[sv0 e g d] (fun G=>sl (Rp.int .u32) G e d g) (fun G v=>v = .int .u64 r):=by
 refine B' (args:=[_]) (N:=9) func123 z z z (fun m n l h=>?_)
 have c:=h
 refine sr<|sw0 z<|nr<|mw0 z<|oE hr fun j i hr=>T' z z (k' E86 z) (bY' i) z (c)<|yw0 (bE' z z)<|mw0 z<|oE hr fun k f hr=>T' z z (k' E86 z) (bY' f) z (c)<|ad0 z<|sx1 z<|q' (k0' hr z z)
theorem eV'{j i r}(hr:(Zd4 j i).Ret r):Ctr prog 122 #[.int .u64 j,.int .u64 i] (fun G=>True) (fun G v=>v = .int .u64 r):=by
 refine B' (args:=[_,_]) (N:=14) func122 z z z fun m h q p=>sr<|sx1 z<|c'<|aa' (X:=Int×Int×Mem) hr (fun ⟨g,e,c⟩=>⟨(g,e),[(0,.int .u64 g),(1,.int .u64 e)],Mem.le h c,St m h c []⟩) (fun (⟨k,f⟩:Int×Mem)=>⟨k,[(0,.int .u64 k)],Mem.le h f,St m h f []⟩) ⟨j,i,h⟩ z (fz0 z) mr (wk ln) ?_ ?_
 .rintro _ ⟨g,e,c⟩ d hr
  refine c'<|sr<|mw0 z<|yw0 (aL' z z)<|nx<|I' hr z (fun n hr=>?_) (fun n hr=>?_)
  .refine t'<|b'<|U'<|sr<|mw0 z<|mw0 z<|oA hr fun l hr=>yw0 (aV' z z l)<|sw0 z<|nr<|mw0 z<|sx1 z<|w'<|mw0 z<|sw0 z<|p'<|E'<|O' ⟨e,Int.tmod g e,c⟩ hr d (fz0 z) (wk ln)
  refine Z'<|f'<|f'<|F'<|ab' ⟨g,c⟩ ⟨hr,d⟩ (f1 z) (wk ln)
 rintro⟨k,f⟩ ⟨hr,o⟩
 refine b'<|sr<|mw0 z<|sx1 z<|q' (k0' hr z z)
theorem dO'{c m B C r}(hr:(Zbg c m).Ret r):Ctr prog 144 #[sv0 B c C,.int .u64 m] (fun G=>sl (Rp.int .u32) G B C c) (fun G v=>∃ A x,v = .tuple #[sv0 A r.1 x,.int .u64 r.2]/\sl (Rp.int .u32) G A x r.1):=by
 refine B' (args:=[_,_]) (N:=41) func144 z z z (fun U u V M=>?_)
 have p:=M
 refine sr<|sw0 z<|sw0 z<|nr<|mw0 z<|yw0 (D' a' p z)<|oA hr fun R hr=>bj' (r:=(Rp.int .u32)) (e:=139) (n:=(c.length:Int)) (zx:=0) 4012 z z a' bO' z (by decide) (by decide) z z z R fun E L W=>sw0 z<|nr<|sx1 z<|c'<|sr<|mw0 z<|yw0 (D' a' p z)<|yw0 (ap' z z)<|sx1 z<|aa' (X:=(List Int)×Option Ow×Int×Int×Mem) hr (fun ⟨h,d,f,t,k⟩=>⟨(h,f,t),[(0,sv0 B c C),(1,.int .u64 m),(6,.slice E (c.length:Int).toNat ((c.length:Int).toNat)),(7,.int .u64 f),(8,i' t)],Mem.le u k/\RowR (Rp.int .u32) 139 k (.slice E (c.length:Int).toNat ((c.length:Int).toNat)) h d,St U u k [(4012,d)]⟩) (fun (⟨o,j,y,q⟩:(List Int)×Option Ow×Int×Mem)=>⟨(o,y),[(6,.slice E (c.length:Int).toNat ((c.length:Int).toNat)),(7,.int .u64 y)],Mem.le u q/\RowR (Rp.int .u32) 139 q (.slice E (c.length:Int).toNat ((c.length:Int).toNat)) o j,St U u q [(4012,j)]⟩) ⟨(List.replicate (c.length:Int).toNat 0),L,0,i64.wrap ((c.length:Int)-1),u⟩ z (fz0 z) ⟨mr,W⟩ (w1 z) ?_ ?_
 .rintro _ ⟨h,d,f,t,k⟩ ⟨g,l⟩ hr
  refine c'<|sr<|mw0 z<|yw0 (bc' z z)<|nx<|I' hr z (fun Y hr=>?_) (fun Y hr=>?_)
  .refine t'<|b'<|c'<|U'<|sr<|mw0 z<|yw0 (bE' z z)<|mw0 z<|mw0 z<|oE hr fun H J hr=>yw0 (Q' a' R' (p.mono g) z z J)<|yw0 (ac' au' z (ak' (M' (ad' p J) g)))<|yw0 (K' m' h' z)<|ad0 z<|sw0 z<|nr<|mw0 z<|mw0 z<|mw0 z<|mw0 z<|oA hr fun T hr=>yw0 (bv' z z T)<|yw0 (K' h' m' z)<|oE hr fun x2 I hr=>yw0 (aB' a' R' l z z I)<|aI' (r:=(Rp.int .u32)) (e:=139) (cs':=[.int .u32 (u32.wrap (u64.wrap (Int.tdiv (u64.wrap ((u64.wrap (f*4294967296))+(u64.wrap H))) m)))]) (i:=t) (z':=u32.wrap (u64.wrap (Int.tdiv (u64.wrap ((u64.wrap (f*4294967296))+(u64.wrap H))) m))) 4012 z R' z l z z z z z I fun S P=>nx<|w'<|mw0 z<|mw0 z<|oA hr fun Q hr=>yw0 (aV' z z Q)<|sw0 z<|p'<|E'<|b'<|w'<|mw0 z<|yw0 (ap' z z)<|sw0 z<|p'<|O' ⟨(h.set t.toNat (u32.wrap (u64.wrap (Int.tdiv (u64.wrap ((u64.wrap (f*4294967296))+(u64.wrap H))) m)))),S,Int.tmod (u64.wrap ((u64.wrap (f*4294967296))+(u64.wrap H))) m,i64.wrap (t-1),k⟩ hr ⟨g,P⟩ (fz0 z) (w1 z)
  refine Z'<|f'<|f'<|F'<|ab' ⟨h,d,f,k⟩ ⟨hr,g,l⟩ (fz0 z) (w1 z)
 rintro⟨o,j,y,q⟩ ⟨hr,Z,F⟩
 refine b'<|sr<|mw0 z<|aY' (r:=(Rp.int .u32)) (e:=139) 4012 F z (by rw[V]; rfl) (fun ah ag ac D aa=>?_)
 refine oE hr fun ai O hr=>y' z z (k' E85 z) (bN' O) (by rw[bs' D]) ((bq' D)) (fun ad aj ab s=>?_)
 obtain⟨af,ae,rfl,K⟩:=s
 refine mw0 z<|sw0 z<|sx1 z<|q' ?_
 obtain rfl:_=r:=hr
 exact aW' z z z ⟨_,_,z,K⟩
theorem fe'{l i n k m o r}(hr:(ZbW l i).Ret r):Ctr prog 145 #[sv0 n l k,sv0 m i o] (fun G=>sl (Rp.int .u32) G n k l/\sl (Rp.int .u32) G m o i) (fun G v=>v = .int .u64 r):=by
 refine B' (args:=[_,_]) (N:=75) func145 z z z (fun K q W F=>?_)
 obtain⟨g,e⟩:=F
 refine sr<|sw0 z<|nr<|mw0 z<|yw0 (D' a' e z)<|sx1 z<|c'<|aj' [ff,ff,ff,ff,ff,ff,ff,ff,ff,ff,ff,ff] mix (by kernel_rfl) fun t=>cm0 z<|cm0 z<|oE hr fun O B hr=>cn (fun _ c=>Q' a' R' (g.mono c) z z B)<|cn (fun _ c=>ac' au' z (ak' (M' (ad' g B) c)))<|cn (fun _ c=>K' m' h' z)<|cn (fun _ c=>bE' z z)<|cm0 z<|cm0 z<|cn (fun _ c=>ap' z z)<|oE hr fun L x hr=>cn (fun _ c=>Q' a' R' (g.mono c) z z x)<|cn (fun _ c=>ac' au' z (ak' (M' (ad' g x) c)))<|cn (fun _ c=>K' m' h' z)<|am' t<|ad0 z<|sw0 z<|p'<|ar'<|b'<|sr<|mw0 z<|mw0 z<|mw0 z<|yw0 (ap' z z)<|oE hr fun T u hr=>yw0 (Q' a' R' e z z u)<|yw0 (ac' au' z (ak' (ad' e u)))<|yw0 (K' m' h' z)<|oA hr fun I hr=>yw0 (bv' z z I)<|sw0 z<|nr<|mw0 z<|mw0 z<|mw0 z<|yw0 (ap' z z)<|oE hr fun S A hr=>yw0 (Q' a' R' e z z A)<|yw0 (ac' au' z (ak' (ad' e A)))<|yw0 (K' m' h' z)<|oA hr fun H hr=>yw0 (aV' z z H)<|sx1 z<|c'<|aa' (X:=Int×Int×Mem) hr (fun ⟨f,j,h⟩=>⟨(f,j),[(0,sv0 n l k),(1,sv0 m i o),(5,i' (i.length:Int)),(7,.int .u64 f),(8,.int .u64 j)],Mem.le q h,St K q h []⟩) (fun (⟨p,s⟩:Int×Mem)=>⟨p,[(7,.int .u64 p)],Mem.le q s,St K q s []⟩) ⟨u64.wrap (Int.tdiv (u64.wrap ((u64.wrap ((u64.wrap O)*4294967296))+(u64.wrap L))) (u64.wrap T)),Int.tmod (u64.wrap ((u64.wrap ((u64.wrap O)*4294967296))+(u64.wrap L))) (u64.wrap S),q⟩ z (fz0 z) mr (wk ln) ?_ ?_
 .rintro _ ⟨f,j,h⟩ d hr
  refine c'<|c'<|aj' [ff,ff,ff,ff,ff,ff,ff,ff,ff,ff,ff,ff,ff,ff,ff,ff,ff,ff,ff,ff] mix (by kernel_rfl) fun t=>cm0 z<|bX' hr z (fun _ c=>bc' z z) (fun M hr=>?_) (fun M hr=>?_)
  .refine cm0 z<|cf z z<|cf z z<|cf z z<|cf z z<|cf z z<|cf z z<|cf z z<|cf z z<|cf z z<|cf z z<|cf z z<|cf z z<|cf z z<|cf z z<|cf z z<|cf z z<|cf z z<|am' t<|sf z z z<|pt00 z<|p'<|ar'<|b'<|aR' z<|t'<|b'<|U'<|sr<|mw0 z<|yw0 (ap' z z)<|sw0 z<|nr<|mw0 z<|mw0 z<|mw0 z<|yw0 (ap' z z)<|oE hr fun U C hr=>yw0 (Q' a' R' (e.mono d) z z C)<|yw0 (ac' au' z (ak' (M' (ad' e C) d)))<|yw0 (K' m' h' z)<|ad0 z<|sw0 z<|nr<|mw0 z<|yw0 (bc' z z)<|nx<|I' hr z (fun Q hr=>?_) (fun Q hr=>?_)
   .refine Z'<|cY' z<|f'<|F'<|ab' ⟨u64.wrap (f-1),h⟩ ⟨hr,d⟩ (f1 z) (wk ln)
   refine t'<|E'<|O' ⟨u64.wrap (f-1),u64.wrap (j+(u64.wrap U)),h⟩ hr d (fz0 z) (wk ln)
  refine cm0 z<|cy z z (fun _ c=>n' z)<|cy z z (fun _ c=>n' z)<|cy z z (fun _ c=>n' z)<|cy z z (fun _ c=>ap' z z)<|oE hr fun Z y hr=>cy z z (fun _ c=>Q' a' R' ((e.mono d).mono c) z z y)<|cy z z (fun _ c=>ac' au' z (ak' (M' (M' (ad' e y) d) c)))<|cy z z (fun _ c=>K' m' h' z)<|cy z z (fun _ c=>bE' z z)<|cy z z (fun _ c=>n' z)<|cy z z (fun _ c=>bE' z z)<|cy z z (fun _ c=>n' z)<|cy z z (fun _ c=>n' z)<|cy z z (fun _ c=>ap' z z)<|oE hr fun Y D hr=>cy z z (fun _ c=>Q' a' R' ((g.mono d).mono c) z z D)<|cy z z (fun _ c=>ac' au' z (ak' (M' (M' (ad' g D) d) c)))<|cy z z (fun _ c=>K' m' h' z)<|cy z z (fun _ c=>J' z z)<|am' t<|gy z z (aL' z z) z<|pf00 z<|p'<|ar'<|b'<|I' hr z (fun J hr=>?_) (fun J hr=>?_)
  .refine t'<|b'<|U'<|sr<|mw0 z<|yw0 (ap' z z)<|sw0 z<|nr<|mw0 z<|mw0 z<|mw0 z<|yw0 (ap' z z)<|oE hr fun V E hr=>yw0 (Q' a' R' (e.mono d) z z E)<|yw0 (ac' au' z (ak' (M' (ad' e E) d)))<|yw0 (K' m' h' z)<|ad0 z<|sw0 z<|nr<|mw0 z<|yw0 (bc' z z)<|nx<|I' hr z (fun P hr=>?_) (fun P hr=>?_)
   .refine Z'<|cY' z<|f'<|F'<|ab' ⟨u64.wrap (f-1),h⟩ ⟨hr,d⟩ (f1 z) (wk ln)
   refine t'<|E'<|O' ⟨u64.wrap (f-1),u64.wrap (j+(u64.wrap V)),h⟩ hr d (fz0 z) (wk ln)
  refine Z'<|f'<|f'<|F'<|ab' ⟨f,h⟩ ⟨hr,d⟩ (f1 z) (wk ln)
 rintro⟨p,s⟩ ⟨hr,R⟩
 refine b'<|sr<|mw0 z<|sx1 z<|q' (k0' hr z z)
theorem dP'{c d T W U V r}(hr:(Zbe c d).Ret r):Ctr prog 124 #[sv0 T c W,sv0 U d V] (fun G=>sl (Rp.int .u32) G T W c/\sl (Rp.int .u32) G U V d) (fun G v=>∃ aq ag ak au,v = .tuple #[sv0 aq r.1 ag,sv0 ak r.2 au]/\sl (Rp.int .u32) G aq ag r.1/\sl (Rp.int .u32) G ak au r.2):=by
 refine B' (args:=[_,_]) (N:=110) func124 z z z (fun w0 G0 H be=>?_)
 obtain⟨m,h⟩:=be
 have hz:w0.L.zero:=by rw[H]; intro p hp; simp at hp
 refine sr<|sw0 z<|sx1 z<|c'<|sr<|mw0 z<|mw0 z<|oE hr fun cq a3 hr=>T' z z (k' E47 z) (dD' a3) z (⟨m,h⟩)<|ls0 z<|nx<|I' hr z (fun bF hr=>?_) (fun bF hr=>?_)
 .refine sr<|mw0 z<|sw0 z<|sx1 z<|q'<|j' ?_
  obtain rfl:_=r:=hr
  exact aW' z z z ⟨_,_,_,_,z,(ay' (Rp.int .u32) _),m⟩
 refine t'<|b'<|c'<|sr<|mw0 z<|yw0 (D' a' h z)<|yw0 (aK' z z)<|nx<|I' hr z (fun br hr=>?_) (fun br hr=>?_)
 .refine sr<|mw0 z<|mw0 z<|oE hr fun x1 aS hr=>yw0 (Q' a' R' h z z aS)<|yw0 (ac' au' z (ak' (ad' h aS)))<|yw0 (K' m' h' z)<|oE hr fun cl a4 hr=>y' z z (k' E144 z) (dO' a4) z (m) (fun b3 ck bJ ae=>?_)
  obtain⟨bA,bl,rfl,am⟩:=ae
  refine mw0 z<|ex0 z<|ex0 z<|sw0 z<|sw0 z<|nr<|mw0 z<|mw0 z<|oE hr fun cn a9 hr=>y' z z (k' E45 z) (ce' a9) z (trivial) (fun bY co aH ad=>?_)
  obtain⟨bU,cc,rfl,aZ⟩:=ad
  refine sw0 z<|sx1 z<|q'<|j' ?_
  obtain rfl:_=r:=hr
  exact aW' z z z ⟨_,_,_,_,z,(am.mono aH),aZ⟩
 refine t'<|b'<|sr<|mw0 z<|yw0 (D' a' h z)<|sw0 z<|nr<|mw0 z<|mw0 z<|yw0 (ap' z z)<|oE hr fun x2 aM hr=>yw0 (Q' a' R' h z z aM)<|yw0 (ac' au' z (ak' (ad' h aM)))<|yw0 (K' m' h' z)<|ad0 z<|oA hr fun bx hr=>yw0 (bv' z z bx)<|sw0 z<|nr<|mw0 z<|mw0 z<|oE hr fun cg aT hr=>y' z z (k' E45 z) (ce' aT) z (trivial) (fun b1 cj y Z=>?_)
 obtain⟨ca,b5,rfl,a5⟩:=Z
 refine oE hr fun bB a8 hr=>y' z z (k' E49 z) (do' a8) z (⟨(h.mono y),a5⟩) (fun bW cr E ab=>?_)
 obtain⟨a1,bf,rfl,Q⟩:=ab
 refine sw0 z<|nr<|mw0 z<|yw0 (D' a' (m.mono (mx y E)) z)<|ad0 z<|oA hr fun bk hr=>bj' (r:=(Rp.int .u32)) (e:=139) (n:=i64.wrap ((c.length:Int)+1)) (zx:=0) 4055 z z a' bO' z (by decide) (by decide) z z z bk fun p1 bX bs=>sw0 z<|nr<|mw0 z<|mw0 z<|mw0 z<|oE hr fun ci aU hr=>y' z z (k' E45 z) (ce' aU) z (trivial) (fun bS cw l Y=>?_)
 obtain⟨b9,bZ,rfl,bd⟩:=Y
 refine oE hr fun aR ba hr=>y' z z (k' E49 z) (do' ba) z (⟨(m.mono (mx (mx y E) l)),bd⟩) (fun b0 ah x af=>?_)
 obtain⟨b8,bR,rfl,a6⟩:=af
 refine oA hr fun bz hr=>WL.copyRow (r:=(Rp.int .u32)) (e:=139) 4055 z z a' R' z (bs.mono (mx l x)) z a6 z z bz fun bj a7=>nr<|mw0 z<|yw0 (D' a' (m.mono (mx (mx (mx y E) l) x)) z)<|mw0 z<|yw0 (ap' z z)<|ad0 z<|oA hr fun bD hr=>bj' (r:=(Rp.int .u32)) (e:=139) (n:=i64.wrap ((i64.wrap ((c.length:Int)-(d.length:Int)))+1)) (zx:=0) 4067 z z a' bO' z (by decide) (by decide) z z z bD fun p2 bb bu=>sx1 z<|c'<|sr<|mw0 z<|yw0 (D' a' (m.mono (mx (mx (mx y E) l) x)) z)<|mw0 z<|yw0 (ap' z z)<|sx1 z<|aa' (X:=(List Int)×Option Ow×(List Int)×Option Ow×Int×Mem) hr (fun ⟨k,u,s,t,f,I⟩=>⟨(k,s,f),[(8,i' (d.length:Int)),(9,.int .u64 (u64.wrap (Int.tdiv 4294967296 (u64.wrap ((u64.wrap x2)+1))))),(10,sv0 a1 bB bf),(11,.slice p1 (i64.wrap ((c.length:Int)+1)).toNat ((i64.wrap ((c.length:Int)+1)).toNat)),(12,.slice p2 (i64.wrap ((i64.wrap ((c.length:Int)-(d.length:Int)))+1)).toNat ((i64.wrap ((i64.wrap ((c.length:Int)-(d.length:Int)))+1)).toNat)),(13,i' f)],Mem.le ah I/\RowR (Rp.int .u32) 139 I (.slice p1 (i64.wrap ((c.length:Int)+1)).toNat ((i64.wrap ((c.length:Int)+1)).toNat)) k u/\RowR (Rp.int .u32) 139 I (.slice p2 (i64.wrap ((i64.wrap ((c.length:Int)-(d.length:Int)))+1)).toNat ((i64.wrap ((i64.wrap ((c.length:Int)-(d.length:Int)))+1)).toNat)) s t,St w0 G0 I [(4055,u),(4067,t)]⟩) (fun (⟨K,B,J,C,M⟩:(List Int)×Option Ow×(List Int)×Option Ow×Mem)=>⟨(K,J),[(9,.int .u64 (u64.wrap (Int.tdiv 4294967296 (u64.wrap ((u64.wrap x2)+1))))),(11,.slice p1 (i64.wrap ((c.length:Int)+1)).toNat ((i64.wrap ((c.length:Int)+1)).toNat)),(12,.slice p2 (i64.wrap ((i64.wrap ((c.length:Int)-(d.length:Int)))+1)).toNat ((i64.wrap ((i64.wrap ((c.length:Int)-(d.length:Int)))+1)).toNat))],Mem.le ah M/\RowR (Rp.int .u32) 139 M (.slice p1 (i64.wrap ((c.length:Int)+1)).toNat ((i64.wrap ((c.length:Int)+1)).toNat)) K B/\RowR (Rp.int .u32) 139 M (.slice p2 (i64.wrap ((i64.wrap ((c.length:Int)-(d.length:Int)))+1)).toNat ((i64.wrap ((i64.wrap ((c.length:Int)-(d.length:Int)))+1)).toNat)) J C,St w0 G0 M [(4055,B),(4067,C)]⟩) ⟨(aR++(List.replicate (i64.wrap ((c.length:Int)+1)).toNat 0).drop aR.length),bj,(List.replicate (i64.wrap ((i64.wrap ((c.length:Int)-(d.length:Int)))+1)).toNat 0),bb,i64.wrap ((c.length:Int)-(d.length:Int)),ah⟩ z (fz0 z) ⟨mr,a7,bu⟩ (w2 z z) ?_ ?_
 .rintro _ ⟨k,u,s,t,f,I⟩ ⟨q,F,o⟩ hr
  refine c'<|sr<|mw0 z<|yw0 (bc' z z)<|nx<|I' hr z (fun bv hr=>?_) (fun bv hr=>?_)
  .refine t'<|b'<|c'<|U'<|sr<|mw0 z<|mw0 z<|mw0 z<|mw0 z<|ad0 z<|ad0 z ?_
   obtain⟨aO,hr⟩:=hr
   obtain⟨ch,cv,ax,aQ⟩:=RowR.partI (r:=(Rp.int .u32)) (e:=139) (sz:=1) z F aO
   refine yw0 (Y0.partR a' R' F z z z aO)<|sw0 z<|nr<|mw0 z<|mw0 z<|oE hr fun D aG hr=>WL.peekS (r:=(Rp.int .u32)) (e:=139) 4055 ax z hz z z (fun _=>k' E145 z) (Ctr.ro (fe' aG)) (by rw[RowS.eqv ax]) (fun G' bt bC=>⟨(bq' bC),((Q.mono (mx (mx l x) q)).mono bt)⟩)<|sx1 z<|c'<|sr<|mw0 z<|mw0 z<|mw0 z<|oE hr fun aW aE hr=>bM' (fun w R=>R.rekey (i:=4055) (j:=5000) z (by rw[H]; rfl))<|bo' z z (k' E146 z) (eU' _ _ _ _ _ _ _ _ _ _ aE) z ⟨ax,(Q.mono (mx (mx l x) q))⟩ (lc z ln) hz (fun bH aV bG g P=>?_)
   obtain⟨ar,rfl,rfl,L⟩:=P
   refine bM' (fun w R=>R.rekey (i:=5000) (j:=4055) z (by rw[H]; rfl)) ?_
   have aD:=aQ _ _ _ g L
   refine nx<|aX' hr z (fun bq hr=>?_) (fun bq hr=>?_)
   .refine sr<|mw0 z<|yw0 (ap' z z)<|sx1 z<|w'<|mw0 z<|mw0 z<|oE hr fun aX aF hr=>bM' (fun w R=>R.rekey (i:=4055) (j:=5000) z (by rw[H]; rfl))<|bo' z z (k' E147 z) (eN' _ _ _ _ _ _ _ _ _ aF) z ⟨L,(Q.mono (mx (mx (mx l x) q) g))⟩ (lc z ln) hz (fun bL aY bN A S=>?_)
    obtain⟨ao,rfl,rfl,aw⟩:=S
    refine bM' (fun w R=>R.rekey (i:=5000) (j:=4055) z (by rw[H]; rfl)) ?_
    have aL:=aQ _ _ _ (mx g A) aw
    refine nx<|w'<|mw0 z<|mw0 z<|mw0 z<|yw0 (K' h' m' z)<|oE hr fun x3 aP hr=>yw0 (aB' a' R' (o.mono (mx g A)) z z aP)<|aI' (r:=(Rp.int .u32)) (e:=139) (cs':=[.int .u32 (u32.wrap (u64.wrap (D-1)))]) (i:=f) (z':=u32.wrap (u64.wrap (D-1))) 4067 z R' z (o.mono (mx g A)) z z z z z aP fun bo a0=>p'<|E'<|b'<|w'<|mw0 z<|yw0 (ap' z z)<|sw0 z<|p'<|O' ⟨(k.take f.toNat++aX++k.drop (i64.wrap ((i64.wrap (f+(d.length:Int)))+1)).toNat),ao,(s.set f.toNat (u32.wrap (u64.wrap (D-1)))),bo,i64.wrap (f-1),aY⟩ hr ⟨(mx (mx q g) A),aL,a0⟩ (fz0 z) (w2 z z)
   refine t'<|b'<|w'<|mw0 z<|mw0 z<|mw0 z<|yw0 (K' h' m' z)<|oE hr fun x4 aN hr=>yw0 (aB' a' R' (o.mono g) z z aN)<|aI' (r:=(Rp.int .u32)) (e:=139) (cs':=[.int .u32 (u32.wrap D)]) (i:=f) (z':=u32.wrap D) 4067 z R' z (o.mono g) z z z z z aN fun bm bi=>p'<|E'<|b'<|w'<|mw0 z<|yw0 (ap' z z)<|sw0 z<|p'<|O' ⟨(k.take f.toNat++aW.2++k.drop (i64.wrap ((i64.wrap (f+(d.length:Int)))+1)).toNat),ar,(s.set f.toNat (u32.wrap D)),bm,i64.wrap (f-1),aV⟩ hr ⟨(mx q g),aD,bi⟩ (fz0 z) (w2 z z)
  refine Z'<|f'<|f'<|F'<|ab' ⟨k,u,s,t,I⟩ ⟨hr,q,F,o⟩ (fz0 z) (w2 z z)
 rintro⟨K,B,J,C,M⟩ ⟨hr,bM,av,ap⟩
 refine b'<|sr<|mw0 z<|aY' (r:=(Rp.int .u32)) (e:=139) 4055 av z (by rw[H]; rfl) (fun cu cm aC an bP=>?_)
 refine oE hr fun cf bh hr=>y' z z (k' E85 z) (bN' bh) (by rw[bs' an]) ((bq' an)) (fun bT cp aK aa=>?_)
 obtain⟨ce,b6,rfl,bg⟩:=aa
 refine mw0 z<|oE hr fun ct a2 hr=>y' z z (k' E144 z) (dO' a2) z (bg) (fun b4 bV ai ac=>?_)
 obtain⟨bE,bn,rfl,al⟩:=ac
 refine mw0 z<|ex0 z<|ex0 z<|sw0 z<|sw0 z<|nr<|mw0 z<|aY' (r:=(Rp.int .u32)) (e:=139) 4067 (ap.mono (mx (mx aC aK) ai)) z (by rw[H]; rfl) (fun cs cb ay az bQ=>?_)
 refine oE hr fun b2 aI hr=>y' z z (k' E85 z) (bN' aI) (by rw[bs' az]) ((bq' az)) (fun bI b7 aj O=>?_)
 obtain⟨bO,bK,rfl,aA⟩:=O
 refine mw0 z<|sw0 z<|sx1 z<|q' ?_
 obtain rfl:_=r:=hr
 exact aW' z z z ⟨_,_,_,_,z,aA,(al.mono (mx ay aj))⟩
theorem eW'{I H C F x E r}(hr:(Zd3 I H).Ret r):Ctr prog 87 #[sv0 C I F,sv0 x H E] (fun G=>sl (Rp.int .u32) G C F I/\sl (Rp.int .u32) G x E H) (wl' (Rp.int .u32) r):=by
 refine B' (args:=[_,_]) (N:=33) func87 z z z (fun Q s aq R=>?_)
 obtain⟨T,ad⟩:=R
 refine sr<|sx1 z<|c'<|aa' (X:=(List Int)×Option Addr×Nat×(List Int)×Option Addr×Nat×Mem) hr (fun ⟨l,g,i,j,k,f,d⟩=>⟨(l,j),[(0,sv0 g l i),(1,sv0 k j f)],Mem.le s d/\sl (Rp.int .u32) d g i l/\sl (Rp.int .u32) d k f j,St Q s d []⟩) (fun (⟨J,A,u,o⟩:(List Int)×Option Addr×Nat×Mem)=>⟨(.inr J),[(0,sv0 A J u)],Mem.le s o/\sl (Rp.int .u32) o A u J,St Q s o []⟩) ⟨I,C,F,H,x,E,s⟩ z (fz0 z) ⟨mr,T,ad⟩ (wk ln) ?_ ?_
 .rintro _ ⟨l,g,i,j,k,f,d⟩ ⟨p,m,h⟩ hr
  refine c'<|sr<|mw0 z<|yw0 (D' a' h z)<|yw0 (aL' z z)<|nx<|I' hr z (fun ae hr=>?_) (fun ae hr=>?_)
  .refine t'<|b'<|U'<|c'<|aD' hr (fun (⟨e,v⟩:Bool×Mem)=>⟨[(0,sv0 g l i),(1,sv0 k j f),(17,.bool e)],ZaM l j e,Mem.le d v,St Q s v []⟩) ?_ ?_
   .refine w'<|mw0 z<|yw0 (D' a' m z)<|aQ' hr z (bF' z z) z (fun ac hr=>?_) (fun ac hr=>?_)
    .refine mw0 z<|gm0 z<|gy z z (D' a' h z) z<|gy z z (bF' z z) z<|pt00 z<|p'<|ao' ⟨decide ((j.length:Int)<=2),d⟩ ⟨hr,mr⟩ (fz0 z) (wk ln)
    refine mw0 z<|sn3 z<|pf00 z<|p'<|ao' ⟨false,d⟩ ⟨hr,mr⟩ (fz0 z) (wk ln)
   rintro⟨e,v⟩ ⟨hr,c⟩
   refine aX' hr z (fun Z hr=>?_) (fun Z hr=>?_)
   .refine sr<|mw0 z<|oE hr fun an S hr=>T' z z (k' E123 z) (dV' S) z ((m.mono c))<|mw0 z<|oE hr fun al K hr=>T' z z (k' E123 z) (dV' K) z ((h.mono c))<|oE hr fun ap O hr=>T' z z (k' E122 z) (eV' O) z (trivial)<|oE hr fun am M hr=>y' z z (k' E45 z) (ce' M) z (trivial) (fun ah ao ag t=>?_)
    obtain⟨aj,ak,rfl,P⟩:=t
    refine sx1 z<|q'<|j'<|H'<|j'<|H'<|az'<|j' ?_
    obtain rfl:_=r:=hr
    exact o' z z ⟨_,_,z,P⟩
   refine t'<|b'<|sr<|mw0 z<|mw0 z<|oE hr fun W L hr=>y' z z (k' E124 z) (dP' L) z (⟨(m.mono c),(h.mono c)⟩) (fun ai ab n q=>?_)
   obtain⟨V,aa,y,B,rfl,U,D⟩:=q
   refine mw0 z<|ex0 z<|ex0 z<|sw0 z<|sw0 z<|nr<|mw0 z<|sx1 z<|w'<|mw0 z<|sw0 z<|p'<|E'<|O' ⟨j,k,f,W.2,y,B,ab⟩ hr ⟨(mx (mx p c) n),(h.mono (mx c n)),D⟩ (fz0 z) (wk ln)
  refine Z'<|f'<|f'<|F'<|ab' ⟨l,g,i,d⟩ ⟨hr,p,m⟩ (f1 z) (wk ln)
 rintro⟨J,A,u,o⟩ ⟨hr,af,Y⟩
 refine b'<|sr<|mw0 z<|sx1 z<|q' ?_
 obtain rfl:_=r:=hr
 exact o' z z ⟨_,_,z,Y⟩
theorem ft'{q n f d e c r}(hr:(Zf9 q n).Ret r):Ctr prog 50 #[.agg ((v38' q f d)).toArray,.agg ((v38' n e c)).toArray] (fun G=>sl (Rp.int .u32) G f d q.mag/\sl (Rp.int .u32) G e c n.mag) (w38' r):=by
 refine B' (args:=[_,_]) (N:=11) func50 z z z (fun L K I p=>?_)
 obtain⟨k,l⟩:=p
 refine sr<|ah' 2 z z z fun M=>ah' 3 z z z fun J=>P' 4 z z38 z fun O=>nr<|yw0 (ai' z)<|yw0 (A' 2 aE' z z z)<|yw0 (ai' z)<|yw0 (A' 3 aE' z z z)<|oE hr fun F s hr=>y' z z (k' E87 z) (eW' s) z (⟨k,l⟩) (fun y D x g=>?_)
 obtain⟨B,A,rfl,o⟩:=g
 refine oE hr fun E m hr=>y' z z (k' E44 z) (bC' m) z (o) (fun C H v j=>?_)
 obtain⟨u,t,rfl,h⟩:=j
 refine stB 4 aA' z<|nx<|q' ?_
 obtain rfl:_=r:=hr
 exact o' z (af' (i:=4) W' z z z) ⟨_,_,z,h⟩
theorem fu'{j d c r}(hr:(Zga j).Ret r):Ctr prog 52 #[.agg ((v38' j d c)).toArray] (fun G=>sl (Rp.int .u32) G d c j.mag) (w38' r):=by
 refine B' (args:=[_]) (N:=9) func52 z z z (fun v u s h=>?_)
 have g:=h
 refine sr<|ah' 1 z z z fun t=>P' 2 z z38 z fun x=>nr<|yw0 (aw' z)<|yw0 (A' 1 sc4 z z z)<|yw0 (bf' z)<|yw0 (ai' z)<|yw0 (A' 1 aE' z z z)<|oE hr fun q k hr=>y' z z (k' E44 z) (bC' k) z (g) (fun o p n e=>?_)
 obtain⟨l,m,rfl,f⟩:=e
 refine stB 2 aA' z<|nx<|q' ?_
 obtain rfl:_=r:=hr
 exact o' z (af' (i:=2) W' z z z) ⟨_,_,z,f⟩
theorem eX'{H F f d h g r}(hr:(Zgl H F).Ret r):Ctr prog 88 #[.agg ((v38' H f d)).toArray,.agg ((v38' F h g)).toArray] (fun G=>sl (Rp.int .u32) G f d H.mag/\sl (Rp.int .u32) G h g F.mag) (fun G v=>∃ p q o n,v = .tuple #[.agg ((v38' r.1 p q)).toArray,.agg ((v38' r.2.1 o n)).toArray,i' r.2.2]/\sl (Rp.int .u32) G p q r.1.mag/\sl (Rp.int .u32) G o n r.2.1.mag):=by
 refine B' (args:=[_,_]) (N:=46) func88 z z z (fun w0 G0 az aq=>?_)
 obtain⟨W,l⟩:=aq
 refine sr<|ah' 2 z z z fun b2=>ah' 3 z z z fun X=>P' 4 z z38 z fun b4=>P' 5 z z38 z fun Y=>sx1 z<|c'<|sr<|yw0 (ai' z)<|yw0 (A' 3 aE' z z z)<|yw0 (D' a' l z)<|yw0 (aK' z z)<|nx<|I' hr z (fun aI hr=>?_) (fun aI hr=>?_)
 .refine sr<|yw0 (ax' (vs:=#[]) (v:=.agg ([.bool false,.slice none 0 0]).toArray) z z (fun _=>by kernel_rfl))<|yw0 (ax' (vs:=#[]) (v:=.agg ([.bool false,.slice none 0 0]).toArray) z z (fun _=>by kernel_rfl))<|stB 4 aA' z<|stB 5 aA' z<|sx1 z<|q'<|j' ?_
  obtain rfl:_=r:=hr
  exact WE.ret3 z (af' (i:=4) W' z z z) (af' (i:=5) W' z z z) z ⟨_,_,_,_,z,(ay' (Rp.int .u32) _),(ay' (Rp.int .u32) _)⟩
 refine t'<|b'<|sr<|yw0 (ai' z)<|yw0 (A' 2 aE' z z z)<|yw0 (ai' z)<|yw0 (A' 3 aE' z z z)<|oE hr fun m ai hr=>y' z z (k' E124 z) (dP' ai) z (⟨W,l⟩) (fun aO K ae M=>?_)
 obtain⟨x,u,A,y,rfl,B,k⟩:=M
 refine mw0 z<|ex0 z<|ex0 z<|sw0 z<|sx1 z<|aD' hr (fun (⟨q1,U,V,I,E,D,C⟩:(List Int)×Option Addr×Nat×(List Int)×Option Addr×Nat×Mem)=>⟨[(2,pt0 b2),(3,pt0 X),(4,pt0 b4),(5,pt0 Y),(7,sv0 U q1 V),(8,sv0 E I D)],ZcC H F q1 I,Mem.le K C/\sl (Rp.int .u32) C U V q1/\sl (Rp.int .u32) C E D I,St w0 G0 C [(2,bk0 b2 (v38' H f d) 38),(3,bk0 X (v38' F h g) 38),(4,bk0 b4 ([.bool false,.slice none 0 0]) 38),(5,bk0 Y ([.bool false,.slice none 0 0]) 38)]⟩) ?_ ?_
 .refine aD' hr (fun (⟨s,L⟩:Bool×Mem)=>⟨[(2,pt0 b2),(3,pt0 X),(4,pt0 b4),(5,pt0 Y),(7,sv0 x m.1 u),(8,sv0 A m.2 y),(29,.bool s)],Zbp H F m s,Mem.le K L,St w0 G0 L [(2,bk0 b2 (v38' H f d) 38),(3,bk0 X (v38' F h g) 38),(4,bk0 b4 ([.bool false,.slice none 0 0]) 38),(5,bk0 Y ([.bool false,.slice none 0 0]) 38)]⟩) ?_ ?_
  .refine w'<|yw0 (aw' z)<|aQ' hr z (Y0.eq (A' 2 sc4 z z z) (congrArg Value.bool (bdec _))) z (fun aH hr=>?_) (fun aH hr=>?_)
   .refine mw0 z<|gm0 z<|gy z z (D' a' k z) z<|gy z z (aL' z z) z<|pt00 z<|p'<|ao' ⟨decide (0<(m.2.length:Int)),K⟩ ⟨hr,mr⟩ (fz0 z) (w4 z z z z)
   refine mw0 z<|sn3 z<|pf00 z<|p'<|ao' ⟨false,K⟩ ⟨hr,mr⟩ (fz0 z) (w4 z z z z)
  rintro⟨s,L⟩ ⟨hr,c⟩
  refine aX' hr z (fun aA hr=>?_) (fun aA hr=>?_)
  .refine sr<|mw0 z<|aO' (e:=139) (r:=(Rp.int .u32)) (vs:=#[(0,.int .u32 1)]) (cs:=[.int .u32 1]++([])) ([1]:List Int) z z z z z (by decide) (fun _=>by kernel_rfl) ⟨[.int .u32 1],[],z,z,z⟩ (key:=999) z (by rw[az]; rfl) (fun p1 aP j aB=>?_)
   refine oE hr fun ay af hr=>y' z z (k' E46 z) (ed' af) z (⟨(B.mono (mx c j)),aB⟩) (fun aM aU t O=>?_)
   obtain⟨am,al,rfl,ak⟩:=O
   refine sx1 z<|w'<|yw0 (ai' z)<|yw0 (A' 3 aE' z z z)<|mw0 z<|oE hr fun aD an hr=>y' z z (k' E48 z) (dp' an) z (⟨(l.mono (mx (mx (mx ae c) j) t)),(k.mono (mx (mx c j) t))⟩) (fun aK aE J P=>?_)
   obtain⟨ah,ar,rfl,ag⟩:=P
   refine sw0 z<|p'<|ao' ⟨ay,am,al,aD,ah,ar,aE⟩ ⟨hr,(mx (mx (mx c j) t) J),(ak.mono J),ag⟩ (fz0 z) (w4 z z z z)
  refine t'<|ao' ⟨m.1,x,u,m.2,A,y,L⟩ ⟨hr,c,(B.mono c),(k.mono c)⟩ (fz0 z) (w4 z z z z)
 rintro⟨q1,U,V,I,E,D,C⟩ ⟨hr,aJ,aF,ap⟩
 refine sr<|yw0 (aw' z)<|yw0 (A' 2 sc4 z z z)<|yw0 (aw' z)<|yw0 (A' 3 sc4 z z z)<|yw0 (dm' ba' z z)<|mw0 z<|oE hr fun aR aj hr=>y' z z (k' E44 z) (bC' aj) z (aF) (fun aN aQ Z T=>?_)
 obtain⟨au,aw,rfl,Q⟩:=T
 refine mw0 z<|oE hr fun aS ao hr=>y' z z (k' E44 z) (bC' ao) z ((ap.mono Z)) (fun aL aT ab R=>?_)
 obtain⟨ax,av,rfl,S⟩:=R
 refine stB 4 aA' z<|stB 5 aA' z<|sx1 z<|q' ?_
 obtain rfl:_=r:=hr
 exact WE.ret3 z (af' (i:=4) W' z z z) (af' (i:=5) W' z z z) z ⟨_,_,_,_,z,(Q.mono ab),S⟩
theorem ee'{t q d c g f r}(hr:(Zc2 t q).Ret r):Ctr prog 53 #[.agg ((v38' t d c)).toArray,.agg ((v38' q g f)).toArray] (fun G=>sl (Rp.int .u32) G d c t.mag/\sl (Rp.int .u32) G g f q.mag) (w38' r):=by
 refine B' (args:=[_,_]) (N:=16) func53 z z z (fun H F B s=>?_)
 obtain⟨k,j⟩:=s
 refine sr<|ah' 2 z z z fun C=>ah' 3 z z z fun I=>P' 4 z z38 z fun E=>nr<|yw0 (C' 2 W' z z z)<|yw0 (C' 3 W' z z z)<|oE hr fun A u hr=>y' z z (k' E88 z) (eX' u) z (⟨k,j⟩) (fun x y v h=>?_)
 obtain⟨p,o,l,m,rfl,e,n⟩:=h
 refine mw0 z<|ex0 z<|ex0 z<|ex0 z<|P' 5 z z38 z fun J=>P' 6 z z38 z fun D=>stB 5 aA' z<|stB 6 aA' z<|sw0 z<|nr<|yw0 (C' 5 W' z z z)<|stB 4 aA' z<|nx<|q' ?_
 obtain rfl:_=r:=hr
 exact o' z (af' (i:=4) W' z z z) ⟨_,_,z,e⟩
theorem dW'{T R o l p n r}(hr:(Zct T R).Ret r):Ctr prog 22 #[.agg ((v38' T o l)).toArray,.agg ((v38' R p n)).toArray] (fun G=>sl (Rp.int .u32) G o l T.mag/\sl (Rp.int .u32) G p n R.mag) (w40' r):=by
 refine B' (args:=[_,_]) (N:=21) func22 z z z (fun w0 G0 aw ab=>?_)
 obtain⟨A,m⟩:=ab
 refine sr<|ah' 2 z z z fun b1=>ah' 3 z z z fun b2=>P' 4 z z40 z fun b3=>nr<|yw0 (C' 2 W' z z z)<|yw0 (C' 3 W' z z z)<|oE hr fun af ac hr=>y' z z (k' E50 z) (ft' ac) z (⟨A,m⟩) (fun al W x L=>?_)
 obtain⟨H,I,rfl,t⟩:=L
 refine P' 5 z z38 z fun b4=>stB 5 aA' z<|nx<|aD' hr (fun (⟨C,c,e,D⟩:Zb×Option Addr×Nat×Mem)=>⟨[(2,pt0 b1),(3,pt0 b2),(4,pt0 b3),(5,pt0 b4)],ZcF T R C,Mem.le W D/\sl (Rp.int .u32) D c e C.mag,St w0 G0 D [(2,bk0 b1 (v38' T o l) 38),(3,bk0 b2 (v38' R p n) 38),(4,bk0 b3 ([.bool false,.slice none 0 0,.bool false,.slice none 0 0]) 40),(5,bk0 b4 (v38' C c e) 38)]⟩) ?_ ?_
 .refine sr<|yw0 (C' 3 W' z z z)<|oE hr fun ar Z hr=>T' z z (k' E51 z) (ep' Z) z ((m.mono x))<|ls0 z<|nx<|I' hr z (fun ak hr=>?_) (fun ak hr=>?_)
  .refine w'<|yw0 (C' 5 W' z z z)<|oE hr fun ag Y hr=>y' z z (k' E52 z) (fu' Y) z (t) (fun an aj V F=>?_)
   obtain⟨M,J,rfl,Q⟩:=F
   refine stB 5 aA' z<|p'<|ao' ⟨ag,M,J,aj⟩ ⟨hr,V,Q⟩ (fz0 z) (w4 z z z z)
  refine t'<|ao' ⟨af,H,I,W⟩ ⟨hr,mr,t⟩ (fz0 z) (w4 z z z z)
 rintro⟨C,c,e,D⟩ ⟨hr,B,q⟩
 refine c'<|aj' [ff,ff,ff,ff,ff] mix (by kernel_rfl) fun hb=>cn (fun _ k=>C' 2 W' z z z)<|cn (fun _ k=>C' 5 W' z z z)<|oE hr fun y X hr=>at' (post:=w38' y) (fun _=>z) (fun _ _=>k' E53 z) (ee' X) z (fun G' k=>⟨((A.mono (mx x B)).mono k),(q.mono k)⟩) (fun v G1 G2 k h=>?_) ?_
 .obtain⟨j,f,rfl,g⟩:=h
  exact⟨_,_,z,g.mono k⟩
 refine cu (fun _ _ k=>C' 3 W' z z z)<|cu (fun _ _ k=>C' 5 W' z z z)<|aF' (d:=16) (post:=w38' y) (fun aq au E P=>?_)
 obtain⟨j,f,rfl,g⟩:=P
 refine oE hr fun S aa hr=>y' z z (k' E53 z) (ee' aa) z (⟨(m.mono (mx (mx x B) E)),(q.mono E)⟩) (fun ap av U K=>?_)
 obtain⟨u,s,rfl,O⟩:=K
 refine yw0 (ax' (vs:=#[(0,.agg ((v38' y j f)).toArray),(1,.agg ((v38' S u s)).toArray)]) (v:=.agg ([.bool y.neg,sv0 j y.mag f,.bool S.neg,sv0 u S.mag s]).toArray) z z (fun _=>by kernel_rfl))<|stB 4 bk' z<|p'<|ar'<|b'<|q' ?_
 obtain rfl:_=r:=hr
 exact o' z (af' (i:=4) aN' z z z) ⟨_,_,_,_,z,(g.mono U),O⟩
theorem fm'{x1 r}(hr:(Zfg x1).Ret r):Ctr prog 7 #[.agg ((v28' x1)).toArray] (fun G=>True) (w40' r):=by
 refine B' (args:=[_]) (N:=49) func7 z z z fun w0 G0 bS bM=>sr<|ah' 1 z z z fun b1=>P' 2 z z40 z fun b2=>nx<|c'<|aj' [ff,ff,ff,ff,ff,ff,ff,ff,ff,ff] mix (by kernel_rfl) fun hb=>cn (fun _ c=>Y0.Zqf z)<|cn (fun _ c=>A' 1 sc26 z z z)<|cn (fun _ c=>K' bL' aU' z)<|oE hr fun aa a7 hr=>at' (post:=w38' aa) (fun _=>z) (fun _ _=>k' E19 z) (cn' a7) z (fun G' c=>trivial) (fun v G1 G2 c h=>?_) ?_
 .obtain⟨t,m,rfl,j⟩:=h
  exact⟨_,_,z,j.mono c⟩
 refine cu (fun _ _ c=>Y0.Zns z)<|cu (fun _ _ c=>A' 1 sc26 z z z)<|cu (fun _ _ c=>K' bL' aU' z)<|oE hr fun aY a8 hr=>at' (post:=w38' aY) (fun _=>z) (fun _ _=>k' E19 z) (cn' a8) z (fun G' c=>trivial) (fun v G1 G2 c h=>?_) ?_
 .obtain⟨E,I,rfl,s⟩:=h
  exact⟨_,_,z,s.mono c⟩
 refine cc' (fun _=>z) z38<|cc' (fun _=>z) z38<|Chain.tailX4 (fun bV bX bH bJ X1 bL aA A au ah=>?_)
 obtain⟨E,I,rfl,s⟩:=au
 obtain⟨t,m,rfl,j⟩:=ah
 refine WL.adoptL aA (fun b4 bm br=>?_)
 subst bm
 replace A:=Laid.drop A (by decide) br
 refine WL.adoptL A (fun b3 bs bN=>?_)
 subst bs
 refine WL.unX (show WL _ _ _ _ _ _ (St w0 G0 X1.m _) from ?_)
 refine stB 3 aA' z<|stB 4 aA' z<|p'<|ar'<|b'<|aD' hr (fun (⟨D,e,g,ad⟩:Zb×Option Addr×Nat×Mem)=>⟨[(1,pt0 b1),(2,pt0 b2),(3,pt0 b3),(4,pt0 b4)],Zcb x1 aa D,Mem.le X1.m ad/\sl (Rp.int .u32) ad e g D.mag,St w0 G0 ad [(1,bk0 b1 (v28' x1) 28),(2,bk0 b2 ([.bool false,.slice none 0 0,.bool false,.slice none 0 0]) 40),(3,bk0 b3 (v38' aa t m) 38),(4,bk0 b4 (v38' D e g) 38)]⟩) ?_ ?_
 .refine sr<|yw0 (Y0.Zns z)<|yw0 (A' 1 sc26 z z z)<|yw0 (aK' z z)<|nx<|I' hr z (fun bp hr=>?_) (fun bp hr=>?_)
  .refine w'<|oE hr fun a5 aE hr=>y' z z (k' E19 z) (cn' aE) z (trivial) (fun bu bq aS S=>?_)
   obtain⟨W,P,rfl,R⟩:=S
   refine stB 4 aA' z<|p'<|ao' ⟨a5,W,P,bq⟩ ⟨hr,aS,R⟩ (fz0 z) (w4 z z z z)
  refine t'<|ao' ⟨aY,E,I,X1.m⟩ ⟨hr,mr,s⟩ (fz0 z) (w4 z z z z)
 rintro⟨D,e,g,ad⟩ ⟨hr,Z,C⟩
 refine sr<|yw0 (cU' z)<|yw0 (A' 1 sc5 z z z)<|yw0 (K' aJ' aU' z)<|ad0 z<|oE hr fun aZ bd hr=>y' z z (k' E19 z) (cn' bd) z (trivial) (fun bD a0 y ar=>?_)
 obtain⟨aw,al,rfl,l⟩:=ar
 refine P' 5 z z38 z fun b5=>stB 5 aA' z<|nx<|aD' hr (fun (⟨ab,p,n,ac⟩:Zb×Option Addr×Nat×Mem)=>⟨[(1,pt0 b1),(2,pt0 b2),(3,pt0 b3),(4,pt0 b4),(5,pt0 b5)],Zca x1 D aZ ab,Mem.le a0 ac/\sl (Rp.int .u32) ac p n ab.mag,St w0 G0 ac [(1,bk0 b1 (v28' x1) 28),(2,bk0 b2 ([.bool false,.slice none 0 0,.bool false,.slice none 0 0]) 40),(3,bk0 b3 (v38' ab p n) 38),(4,bk0 b4 (v38' D e g) 38),(5,bk0 b5 (v38' aZ aw al) 38)]⟩) ?_ ?_
 .refine sr<|yw0 (cU' z)<|yw0 (A' 1 sc5 z z z)<|yw0 (aV' z z (by decide))<|yw0 (aK' z z)<|nx<|I' hr z (fun bo hr=>?_) (fun bo hr=>?_)
  .refine aj' [ff,ff,ff,ff,ff,ff,ff,ff] mix (by kernel_rfl) fun hb=>cn (fun _ c=>C' 3 W' z z z)<|cn (fun _ c=>C' 5 W' z z z)<|oE hr fun az bh hr=>at' (post:=w38' az) (fun _=>z) (fun _ _=>k' E21 z) (df' bh) z (fun G' c=>⟨((j.mono (mx Z y)).mono c),(l.mono c)⟩) (fun v G1 G2 c h=>?_) ?_
   .obtain⟨F,B,rfl,k⟩:=h
    exact⟨_,_,z,k.mono c⟩
   refine cu (fun _ _ c=>C' 5 W' z z z)<|oE hr fun a1 a6 hr=>bd' (f:=21) (φ:=w38' a1) (fun _=>z) (fun v G1 G2 c h=>?_) (fun u G' c hu=>?_) ?_
   .obtain⟨aq,ag,rfl,q⟩:=h
    exact⟨_,_,z,q.mono c⟩
   .obtain⟨⟨F,B,aH,k⟩,_⟩:=(show (w38' az) G'.m (u 29)/\True from hu)
    exact⟨_,_,_,fun _=>k' E21 z,df' a6,(by simp only[aH] <;> rfl),⟨k,(l.mono c)⟩⟩
   refine cu (fun _ _ c=>cU' z)<|cu (fun _ _ c=>A' 1 sc5 z z z)<|cu (fun _ _ c=>K' aJ' aU' z)<|cq' (d:=31) (post:=w38' a1) (d':=29) (post':=w38' az) (fun bI bA bZ aI am aj=>?_)
   obtain⟨aq,ag,rfl,q⟩:=am
   obtain⟨F,B,rfl,k⟩:=aj
   refine oE hr fun bG aR hr=>y' z z (k' E19 z) (cn' aR) z (trivial) (fun bv bQ ae O=>?_)
   obtain⟨a9,be,rfl,Q⟩:=O
   refine oE hr fun bb aM hr=>y' z z (k' E20 z) (fs' aM) z (⟨(q.mono ae),Q⟩) (fun bx bn aB T=>?_)
   obtain⟨V,X,rfl,U⟩:=T
   refine stB 3 aA' z<|p'<|ar'<|ao' ⟨bb,V,X,bn⟩ ⟨hr,(mx (mx aI ae) aB),U⟩ (fz0 z) (w5 z z z z z)
  refine t'<|ao' ⟨aa,t,m,a0⟩ ⟨hr,mr,(j.mono (mx Z y))⟩ (fz0 z) (w5 z z z z z)
 rintro⟨ab,p,n,ac⟩ ⟨hr,x,H⟩
 refine c'<|sr<|yw0 (cU' z)<|yw0 (A' 1 sc5 z z z)<|yw0 (aV' z z (by decide))<|yw0 (aK' z z)<|nx<|I' hr z (fun bt hr=>?_) (fun bt hr=>?_)
 .refine aj' [ff,ff,ff,ff] mix (by kernel_rfl) fun hb=>cn (fun _ c=>C' 4 W' z z z)<|cn (fun _ c=>C' 5 W' z z z)<|oE hr fun aX a2 hr=>at' (post:=w38' aX) (fun _=>z) (fun _ _=>k' E21 z) (df' a2) z (fun G' c=>⟨((C.mono (mx y x)).mono c),((l.mono x).mono c)⟩) (fun v G1 G2 c h=>?_) ?_
  .obtain⟨ap,ax,rfl,o⟩:=h
   exact⟨_,_,z,o.mono c⟩
  refine cu (fun _ _ c=>C' 5 W' z z z)<|aF' (d:=43) (post:=w38' aX) (fun bF bR Y ai=>?_)
  obtain⟨ap,ax,rfl,o⟩:=ai
  refine oE hr fun bY bc hr=>y' z z (k' E21 z) (df' bc) z (⟨o,(l.mono (mx x Y))⟩) (fun bC bT aQ ak=>?_)
  obtain⟨bj,bi,rfl,an⟩:=ak
  refine stB 4 aA' z<|p'<|ar'<|b'<|sr<|yw0 (C' 3 W' z z z)<|yw0 (C' 4 W' z z z)<|oE hr fun bP a3 hr=>y' z z (k' E22 z) (dW' a3) z (⟨(H.mono (mx Y aQ)),an⟩) (fun bB bO bz af=>?_)
  obtain⟨aD,aL,aP,aO,rfl,K,M⟩:=af
  refine stB 2 bk' z<|nx<|q' ?_
  obtain rfl:_=r:=hr
  exact o' z (af' (i:=2) aN' z z z) ⟨_,_,_,_,z,K,M⟩
 refine t'<|b'<|sr<|yw0 (C' 3 W' z z z)<|yw0 (C' 4 W' z z z)<|oE hr fun bW bf hr=>y' z z (k' E22 z) (dW' bf) z (⟨H,(C.mono (mx y x))⟩) (fun bE bU bw av=>?_)
 obtain⟨aJ,aW,aK,aN,rfl,J,L⟩:=av
 refine stB 2 bk' z<|nx<|q' ?_
 obtain rfl:_=r:=hr
 exact o' z (af' (i:=2) aN' z z z) ⟨_,_,_,_,z,J,L⟩
theorem ef'{t h F o n g f i T r}(hr:(Zbc t h F).Ret r):Ctr prog 9 #[sv0 o t n,sv0 g h f,.agg (i).toArray] (fun G=>sl (Rp.sl g') G o n t/\sl (Rp.sl g') G g f h/\ArRd bm' 8 G i T F) (fun G v=>v = .bool r):=by
 refine B' (args:=[_,_,_]) (N:=37) func9 z z z (fun U y ax ag=>?_)
 obtain⟨q,l,k⟩:=ag
 refine sr<|ah' 5 z z z fun C=>sx1 z<|c'<|sr<|sx1 z<|aa' (X:=Int×Mem) hr (fun ⟨O,B⟩=>⟨O,[(0,sv0 o t n),(1,sv0 g h f),(5,pt0 C),(7,i' O)],Mem.le y B,St U y B [(5,bk0 C (i) 41)]⟩) (fun (gx:Mem)=>match gx with|m=>⟨(.inr ()),[(1,sv0 g h f),(5,pt0 C)],Mem.le y m,St U y m [(5,bk0 C (i) 41)]⟩) ⟨0,y⟩ z (fz0 z) mr (w1 z) ?_ ?_
 .rintro _ ⟨O,B⟩ e hr
  refine c'<|sr<|mw0 z<|mw0 z<|yw0 (D' al' (q.mono e) z)<|ls0 z<|nx<|I' hr z (fun an hr=>?_) (fun an hr=>?_)
  .refine t'<|b'<|c'<|U'<|c'<|aj' [ff,ff,ff,ff,ff] mix (by kernel_rfl) fun hb=>cm0 z<|cm0 z<|oE hr fun x2 Y hr=>cn (fun _ c=>Q' al' sz54 ((q.mono e).mono c) z z Y) ?_
   obtain⟨p2,aA,ap,am⟩:=cw' (M' (ad' q Y) e)
   refine cn (fun _ c=>ac' sc54 z (c _ _ _ ap))<|cn (fun _ c=>C' 5 ag41 z z (dx' (k.mono e)))<|am' hb<|oE hr fun az af hr=>y' z z (k' E25 z) (de' af) z (⟨am,(k.mono e)⟩) (fun au al S E=>?_)
   obtain⟨W,J,M,R,rfl,u,x⟩:=E
   refine oE hr fun aw aa hr=>T' z z (k' E24 z) (eq' aa) z (⟨u,x⟩)<|yw0 (bU' z z)<|p'<|ar'<|b'<|I' hr z (fun ai hr=>?_) (fun ai hr=>?_)
   .refine sr<|sx1 z<|q'<|H'<|j'<|j'<|H'<|az'<|j' (k0' hr z z)
   refine t'<|E'<|b'<|w'<|mw0 z<|ad0 z<|sw0 z<|p'<|O' ⟨i64.wrap (O+1),al⟩ hr (mx e S) (fz0 z) (w1 z)
  refine Z'<|f'<|f'<|F'<|ab' B ⟨hr,e⟩ (fz0 z) (w1 z)
 rintro m ⟨hr,j⟩
 refine b'<|c'<|sr<|sx1 z<|aa' (X:=Int×Mem) hr (fun ⟨Q,A⟩=>⟨Q,[(1,sv0 g h f),(5,pt0 C),(8,i' Q)],Mem.le m A,St U y A [(5,bk0 C (i) 41)]⟩) (fun (gx:Mem)=>match gx with|H=>⟨(.inr ()),[],Mem.le m H,St U y H []⟩) ⟨0,m⟩ z (fz0 z) mr (w1 z) ?_ ?_
 .rintro _ ⟨Q,A⟩ d hr
  refine c'<|sr<|mw0 z<|mw0 z<|yw0 (D' al' (l.mono (mx j d)) z)<|ls0 z<|nx<|I' hr z (fun aq hr=>?_) (fun aq hr=>?_)
  .refine t'<|b'<|c'<|U'<|c'<|aj' [ff,ff,ff,ff,ff] mix (by kernel_rfl) fun hb=>cm0 z<|cm0 z<|oE hr fun x1 Z hr=>cn (fun _ c=>Q' al' sz54 ((l.mono (mx j d)).mono c) z z Z) ?_
   obtain⟨p1,aC,ah,ak⟩:=cw' (M' (ad' l Z) (mx j d))
   refine cn (fun _ c=>ac' sc54 z (c _ _ _ ah))<|cn (fun _ c=>C' 5 ag41 z z (dx' (k.mono (mx j d))))<|am' hb<|oE hr fun aB ad hr=>y' z z (k' E25 z) (de' ad) z (⟨ak,(k.mono (mx j d))⟩) (fun av ao V D=>?_)
   obtain⟨P,L,I,K,rfl,s,p⟩:=D
   refine oE hr fun ay ae hr=>T' z z (k' E24 z) (eq' ae) z (⟨s,p⟩)<|yw0 (aK' z z)<|p'<|ar'<|b'<|I' hr z (fun aj hr=>?_) (fun aj hr=>?_)
   .refine sr<|sx1 z<|q'<|H'<|j'<|j'<|H'<|az'<|j' (k0' hr z z)
   refine t'<|E'<|b'<|w'<|mw0 z<|ad0 z<|sw0 z<|p'<|O' ⟨i64.wrap (Q+1),ao⟩ hr (mx d V) (fz0 z) (w1 z)
  refine Z'<|f'<|f'<|F'<|ab' A ⟨hr,d⟩ fn (wk ln)
 rintro H ⟨hr,ar⟩
 refine b'<|sr<|sx1 z<|q' (k0' hr z z)
theorem ZeM(x1:Zo)(aU:(List ZD))(aC:Option Addr)(ay:Nat)(ac:Option Addr)(ab:Nat)(ai:List Value)(a1:Unit)(r:Bool)(hr:(ZcO x1 aU).Ret r):Ctr prog 3 #[.agg ((v25' x1 aC ay ac ab)).toArray,.agg (ai).toArray] (fun G=>sl ZaQ G aC ay x1.l/\sl (Rp.int .u8) G ac ab x1.gap/\ArRd Zdc 3 G ai a1 aU) (fun G v=>v = .bool r):=by
 refine B' (args:=[_,_]) (N:=59) func3 z z z (fun w0 G0 bB a6=>?_)
 obtain⟨a2,ar,aA⟩:=a6
 refine sr<|ah' 2 z z z fun b1=>ah' 3 z z z fun b2=>sw0 z<|nr<|oE hr fun aS a0 hr=>T' z z (k' E4 z) (eM' a0) z (trivial)<|sx1 z<|c'<|sr<|mw0 z<|yw0 (bf' z)<|nx<|aX' hr z (fun bk hr=>?_) (fun bk hr=>?_)
 .refine sr<|sx1 z<|q'<|j' (k0' hr z z)
 refine t'<|b'<|sr<|yw0 (C' 2 ag25 z z z)<|oE hr fun aT a4 hr=>y' z z (k' E5 z) (fA' a4) z (⟨a2,ar⟩) (fun bq s ak aq=>?_)
 obtain⟨D,F,P,M,C,E,rfl,ag,L,I⟩:=aq
 refine yw0 (ax' (vs:=#[]) (v:=.agg (([.bool false,.slice none 0 0,.bool false,.slice none 0 0,.bool false,.slice none 0 0,.bool false,.slice none 0 0,.bool false,.slice none 0 0,.bool false,.slice none 0 0,.bool false,.slice none 0 0,.bool false,.slice none 0 0,.bool false,.slice none 0 0,.bool false,.slice none 0 0,.bool false,.slice none 0 0,.bool false,.slice none 0 0,.bool false,.slice none 0 0,.bool false,.slice none 0 0,.bool false,.slice none 0 0,.bool false,.slice none 0 0]:List Value)).toArray) z z (fun _=>by kernel_rfl))<|P' 6 z z34 z fun b3=>P' 7 z z41 z fun b4=>stB 6 sz34 z<|x' 7 z sz41 z z z (dx' (show ArRd bm' 8 s ([.bool false,.slice none 0 0,.bool false,.slice none 0 0,.bool false,.slice none 0 0,.bool false,.slice none 0 0,.bool false,.slice none 0 0,.bool false,.slice none 0 0,.bool false,.slice none 0 0,.bool false,.slice none 0 0,.bool false,.slice none 0 0,.bool false,.slice none 0 0,.bool false,.slice none 0 0,.bool false,.slice none 0 0,.bool false,.slice none 0 0,.bool false,.slice none 0 0,.bool false,.slice none 0 0,.bool false,.slice none 0 0]:List Value) () _ from ArRd.zero (G:=s) (r:=bm') (n:=8) (zc:=[.bool false,.slice none 0 0,.bool false,.slice none 0 0]) (z:=(Zc.mk (Zb.mk false []) (Zb.mk false []))) ⟨[.bool false,.slice none 0 0],[.bool false,.slice none 0 0],z,⟨[.bool false],[.slice none 0 0],z,z,⟨_,z,(ay' _ _)⟩⟩,⟨[.bool false],[.slice none 0 0],z,z,⟨_,z,(ay' _ _)⟩⟩⟩)) (dx' (show ArRd bm' 8 s ([.bool false,.slice none 0 0,.bool false,.slice none 0 0,.bool false,.slice none 0 0,.bool false,.slice none 0 0,.bool false,.slice none 0 0,.bool false,.slice none 0 0,.bool false,.slice none 0 0,.bool false,.slice none 0 0,.bool false,.slice none 0 0,.bool false,.slice none 0 0,.bool false,.slice none 0 0,.bool false,.slice none 0 0,.bool false,.slice none 0 0,.bool false,.slice none 0 0,.bool false,.slice none 0 0,.bool false,.slice none 0 0]:List Value) () _ from ArRd.zero (G:=s) (r:=bm') (n:=8) (zc:=[.bool false,.slice none 0 0,.bool false,.slice none 0 0]) (z:=(Zc.mk (Zb.mk false []) (Zb.mk false []))) ⟨[.bool false,.slice none 0 0],[.bool false,.slice none 0 0],z,⟨[.bool false],[.slice none 0 0],z,z,⟨_,z,(ay' _ _)⟩⟩,⟨[.bool false],[.slice none 0 0],z,z,⟨_,z,(ay' _ _)⟩⟩⟩)) (ArRd.one (show ArRd bm' 8 s ([.bool false,.slice none 0 0,.bool false,.slice none 0 0,.bool false,.slice none 0 0,.bool false,.slice none 0 0,.bool false,.slice none 0 0,.bool false,.slice none 0 0,.bool false,.slice none 0 0,.bool false,.slice none 0 0,.bool false,.slice none 0 0,.bool false,.slice none 0 0,.bool false,.slice none 0 0,.bool false,.slice none 0 0,.bool false,.slice none 0 0,.bool false,.slice none 0 0,.bool false,.slice none 0 0,.bool false,.slice none 0 0]:List Value) () _ from ArRd.zero (G:=s) (r:=bm') (n:=8) (zc:=[.bool false,.slice none 0 0,.bool false,.slice none 0 0]) (z:=(Zc.mk (Zb.mk false []) (Zb.mk false []))) ⟨[.bool false,.slice none 0 0],[.bool false,.slice none 0 0],z,⟨[.bool false],[.slice none 0 0],z,z,⟨_,z,(ay' _ _)⟩⟩,⟨[.bool false],[.slice none 0 0],z,z,⟨_,z,(ay' _ _)⟩⟩⟩)) ?_
 refine nx<|c'<|sr<|sx1 z<|aa' (X:=Int×(List Zc)×List Value×Unit×Mem) hr (fun ⟨i1,O,U,H,ae⟩=>⟨(i1,O),[(3,pt0 b2),(5,.bool aS),(6,pt0 b3),(7,pt0 b4),(8,i' i1)],Mem.le s ae/\ArRd bm' 8 ae U H O,St w0 G0 ae [(3,bk0 b2 (ai) 29),(6,bk0 b3 (v34' aT D F P M C E) 34),(7,bk0 b4 (U) 41)]⟩) (fun (⟨az,aj,aF,al⟩:(List Zc)×List Value×Unit×Mem)=>⟨az,[(5,.bool aS),(6,pt0 b3),(7,pt0 b4)],Mem.le s al/\ArRd bm' 8 al aj aF az,St w0 G0 al [(6,bk0 b3 (v34' aT D F P M C E) 34),(7,bk0 b4 (aj) 41)]⟩) ⟨0,(List.replicate 8 (Zc.mk (Zb.mk false []) (Zb.mk false []))),([.bool false,.slice none 0 0,.bool false,.slice none 0 0,.bool false,.slice none 0 0,.bool false,.slice none 0 0,.bool false,.slice none 0 0,.bool false,.slice none 0 0,.bool false,.slice none 0 0,.bool false,.slice none 0 0,.bool false,.slice none 0 0,.bool false,.slice none 0 0,.bool false,.slice none 0 0,.bool false,.slice none 0 0,.bool false,.slice none 0 0,.bool false,.slice none 0 0,.bool false,.slice none 0 0,.bool false,.slice none 0 0]:List Value),(),s⟩ z (fz0 z) ⟨mr,(show ArRd bm' 8 s ([.bool false,.slice none 0 0,.bool false,.slice none 0 0,.bool false,.slice none 0 0,.bool false,.slice none 0 0,.bool false,.slice none 0 0,.bool false,.slice none 0 0,.bool false,.slice none 0 0,.bool false,.slice none 0 0,.bool false,.slice none 0 0,.bool false,.slice none 0 0,.bool false,.slice none 0 0,.bool false,.slice none 0 0,.bool false,.slice none 0 0,.bool false,.slice none 0 0,.bool false,.slice none 0 0,.bool false,.slice none 0 0]:List Value) () _ from ArRd.zero (G:=s) (r:=bm') (n:=8) (zc:=[.bool false,.slice none 0 0,.bool false,.slice none 0 0]) (z:=(Zc.mk (Zb.mk false []) (Zb.mk false []))) ⟨[.bool false,.slice none 0 0],[.bool false,.slice none 0 0],z,⟨[.bool false],[.slice none 0 0],z,z,⟨_,z,(ay' _ _)⟩⟩,⟨[.bool false],[.slice none 0 0],z,z,⟨_,z,(ay' _ _)⟩⟩⟩)⟩ (w3 z z z) ?_ ?_
 .rintro _ ⟨i1,O,U,H,ae⟩ ⟨A,ah⟩ hr
  refine c'<|sr<|mw0 z<|ls0 z<|nx<|I' hr z (fun ba hr=>?_) (fun ba hr=>?_)
  .refine t'<|b'<|c'<|U'<|sr<|mw0 z<|oE hr fun y aZ hr=>y' z z (k' E6 z) (fd' aZ) z (trivial) (fun bu bg t ap=>?_)
   obtain⟨m,p,q,o,rfl,W,Z⟩:=ap
   refine oE hr fun x2 aP hr=>yw0 (Y0.idxAy dC' bk' z z (ArRd.lt (ah.mono t) aP))<|WL.storeAy (cs':=(v40' y m p q o)) (z':=y) 7 z bk' z (by decide) (ah.mono t) z z z z ⟨(v38' y.num m p),(v38' y.den q o),z,⟨[.bool y.num.neg],[sv0 m y.num.mag p],z,z,⟨_,z,W⟩⟩,⟨[.bool y.den.neg],[sv0 q y.den.mag o],z,z,⟨_,z,Z⟩⟩⟩ aP fun d1 ax=>nr<|mw0 z<|ls0 z<|nx<|I' hr z (fun bc hr=>?_) (fun bc hr=>?_)
   .refine w'<|mw0 z<|mw0 z<|oE hr fun x3 aR hr=>yw0 (Y0.idxAy underlying29 sz28 z z (ArRd.lt (aA.mono (mx (mx ak A) t)) aR)) ?_
    have a9:=ZkK (ArRd.at (aA.mono (mx (mx ak A) t)) aR)
    refine yw0 (ag' _ 3 ag28 z z z a9)<|oE hr fun l aN hr=>y' z z (k' E7 z) (fm' aN) z (trivial) (fun bl a8 S af=>?_)
    obtain⟨k,j,i,g,rfl,J,K⟩:=af
    refine oE hr fun x4 aQ hr=>yw0 (Y0.idxAy dC' bk' z z (ArRd.lt (ax.mono S) aQ))<|WL.storeAy (cs':=(v40' l k j i g)) (z':=l) 7 z bk' z (by decide) (ax.mono S) z z z z ⟨(v38' l.num k j),(v38' l.den i g),z,⟨[.bool l.num.neg],[sv0 k l.num.mag j],z,z,⟨_,z,J⟩⟩,⟨[.bool l.den.neg],[sv0 i l.den.mag g],z,z,⟨_,z,K⟩⟩⟩ aQ fun d2 bf=>p'<|E'<|b'<|w'<|mw0 z<|ad0 z<|sw0 z<|p'<|O' ⟨i64.wrap (i1+1),(O.set i1.toNat y).set i1.toNat l,d2,H,a8⟩ hr ⟨(mx (mx A t) S),bf⟩ (fz0 z) (w3 z z z)
   refine t'<|E'<|b'<|w'<|mw0 z<|ad0 z<|sw0 z<|p'<|O' ⟨i64.wrap (i1+1),O.set i1.toNat y,d1,H,bg⟩ hr ⟨(mx A t),ax⟩ (fz0 z) (w3 z z z)
  refine Z'<|f'<|f'<|F'<|ab' ⟨O,U,H,ae⟩ ⟨hr,A,ah⟩ (fz0 z) (w2 z z)
 rintro⟨az,aj,aF,al⟩ ⟨hr,B,Q⟩
 refine b'<|sr<|yw0 (C' 6 ag34 z z z)<|oE hr fun bz aX hr=>y' z z (k' E8 z) (eo' aX) z (⟨(ag.mono B),(L.mono B),(I.mono B)⟩) (fun bt bC x an=>?_)
 obtain⟨aW,aV,aI,aJ,rfl,aa,R⟩:=an
 refine mw0 z<|ex0 z<|ex0 z<|P' 9 z z46 z fun b5=>stB 9 sz46 z<|sx1 z<|c'<|aj' [ff,ff,ff,ff,ff,ff,ff,ff,ff,ff,ff,ff,ff,ff,ff,ff] mix (by kernel_rfl) fun hb=>cm0 z<|bX' hr z (fun _ e=>aK' z z) (fun bj hr=>?_) (fun bj hr=>?_)
 .refine cm0 z<|cy z z (fun _ e=>Y0.ZgT z)<|cy z z (fun _ e=>A' 6 sc32 z z z)<|oE hr fun aD a3 hr=>at' (post:=wl' (Rp.sl g') aD) (fun _=>(as' z z)) (fun _ _=>k' E10 z) (eI' a3) z (fun G' e=>((L.mono (mx B x)).mono e)) (fun v G1 G2 e h=>?_) ?_
  .obtain⟨aw,aE,rfl,T⟩:=h
   exact⟨_,_,z,T.mono e⟩
  refine cl' (fun _=>(as' z z)) (fun _ _ e=>Y0.ZgU z)<|cl' (fun _=>(as' z z)) (fun _ _ e=>A' 6 sc32 z z z)<|oE hr fun au aY hr=>at' (post:=wl' (Rp.sl g') au) (fun _=>(as' z z)) (fun _ _=>k' E10 z) (eI' aY) z (fun G' e=>((I.mono (mx B x)).mono e)) (fun v G1 G2 e h=>?_) ?_
  .obtain⟨aB,av,rfl,Y⟩:=h
   exact⟨_,_,z,Y.mono e⟩
  refine cl' (fun _=>(as' z z)) (fun _ _ e=>C' 7 ag41 z z (dx' (Q.mono x)))<|oE hr fun be a5 hr=>Chain.callD (f:=9) (c:=.bool be) (fun _=>(as' z z)) (fun u G' e hu=>?_) ?_
  .obtain⟨⟨aB,av,aM,Y⟩,⟨aw,aE,aL,T⟩,_⟩:=(show (wl' (Rp.sl g') au) G'.m (u 45)/\(wl' (Rp.sl g') aD) G'.m (u 42)/\True from hu)
   exact⟨_,_,_,fun _=>k' E9 z,ef' a5,(by simp only[aM,aL] <;> rfl),⟨T,Y,((Q.mono x).mono e)⟩⟩
  refine cl' (fun _=>(as' z z)) (fun _ _ e=>Y0.Zfq z)<|cl' (fun _=>(as' z z)) (fun _ _ e=>A' 9 sc44 z z z)<|cl' (fun _=>(as' z z)) (fun _ _ e=>Y0.Zfr z)<|cl' (fun _=>(as' z z)) (fun _ _ e=>A' 9 sc44 z z z)<|cl' (fun _=>(as' z z)) (fun _ _ e=>C' 7 ag41 z z (dx' (Q.mono x)))<|cq' (d:=45) (post:=wl' (Rp.sl g') au) (d':=42) (post':=wl' (Rp.sl g') aD) (fun bo bp bA V am ao=>?_)
  obtain⟨aB,av,rfl,Y⟩:=am
  obtain⟨aw,aE,rfl,T⟩:=ao
  refine oE hr fun bx a7 hr=>T' (as' z z) z (k' E9 z) (ef' a7) z (⟨(aa.mono V),(R.mono V),(Q.mono (mx x V))⟩)<|aQ' hr (as' z z) (Y0.eqlB ba' z z) z (fun bb hr=>?_) (fun bb hr=>?_)
  .refine pt00 z<|mw0 z<|gm0 z<|pt00 z<|sw0 z<|p'<|ar'<|b'<|q' (k0' hr z z)
  refine pt00 z<|mw0 z<|sk z z z<|pf00 z<|sw0 z<|p'<|ar'<|b'<|q' (k0' hr z z)
 refine cm0 z<|ct z z<|ct z z<|ct z z<|ct z z<|ct z z<|ct z z<|ct z z<|ct z z<|ct z z<|ct z z<|ct z z<|ct z z<|ct z z<|am' hb<|sn2 z<|pf00 z<|mw0 z<|sk z z z<|pf00 z<|sw0 z<|p'<|ar'<|b'<|q' (k0' hr z z)
end Go.Proofs.YtgllmhmhldlemaaGreat

