/- The law TaskValid holds for every input: a part of its proof (fY the code does, plain models, and fY they return). No condition. -/
import Derived.Test.YtepbagkffgddlaaGreatXV9gb
import Derived.Test.YtepbagkffgddlaaGreatXV9e
import Derived.Test.YtepbagkffgddlaaGreatXV9d
set_option linter.unusedVariables false
set_option linter.unusedSimpArgs false
namespace Go.Proofs.YtepbagkffgddlaaGreat
open Go.IntKind (i8 i16 i32 i64 u8 u16 u32 u64)
open Go.Proofs.Tryz
open Go Go.EL Go.RowKit Go.Proofs
set_option maxHeartbeats 4000000
set_option maxRecDepth 20000
instance iQ'{k n r}:SpcM ((Lp k n)) r (∀{f c d e m l},Cr 120 #[.agg ((Τ k f c d e)).toArray,δ m n l] (λG=>su G f c k.num.υ/\su G d e k.den.υ/\sl c' G m l n) (fT c' r)):=.mk λhr {f c d e m l}=>Η
instance gF'{H K F O r}:SpcM ((Bj H K F O)) r (∀{s t},Cr 65 #[.agg ([δ s H.t t]).toArray,i' K,i' F,i' O] (λG=>sl (gf .i8 5) G s t H.t) (fT c' r)):=.mk λhr {s t}=>by
 refine Ν ?_;intro w0 G0 ay b1 p1 an M aP hr E;refine WC.mC hr [1,2,3,4] [4] [] [] (λ(⟨q,m,p,o⟩:(Ŀ Za)×ŀ Addr×Nat×Int)=>⟨(q,o),[(9,δ m q p),(10,i' o)],λQ=>sl c' Q m p q,[]⟩) (λ(⟨W,Y,L⟩:(Ŀ Za)×ŀ Addr×Nat)=>⟨W,[(9,δ Y W L)],λah=>sl c' ah Y L W,[]⟩) ⟨[],p1,0,0⟩ ?_;rintro _ Q ⟨q,m,p,o⟩ n ad hr;refine WC.nB hr [1,2,3,4,9,10] [4] (λ(_:Unit)=>⟨[],RD H K F q o,tr,[]⟩) ?_;intro T _ hr I _;refine Ν ?_;intro U hr;refine WC.mB hr [1,2,3,4,9,10,11] [4] [1,2,3,4,9,10,11] [4] (λ(⟨y,l,P⟩:Int×Int×(Fin 8->Int))=>⟨(y,l,P),[(12,i' y),(13,i' l)],tr,[(11,ú U (Ø P) 145)]⟩) (λ(J:(Fin 8->Int))=>⟨J,[],tr,[(11,ú U (Ø J) 145)]⟩) ⟨F,0,(λ_=>0)⟩ ?_;intro am J hr S _;refine b'<|fL [tt,ff,ff,ff,ff,ff,ff,ff,ff,ff,ff,ff] eL İ λhb=>uA z (k' z)<|cn (λ_ j=>Y0.VD z)<|cn (λ_ j=>n' 4 Dt z z z)<|fN z ?_
 obtain⟨x1,x,hr⟩:=hr;have a:=mx (mx (mx M n) I) S;refine cn (λ_ j=>kp underlying35 wF ((E.mono a).mono j) z z x)<|cn (λ_ j=>Y0.Cm underlying197 ta z z ĳ)<|cn (λ_ j=>nI sS z (AtK.DV (T' (T' (iQ E x) a) j) ĳ))<|cn (λ_ j=>yb z z ĳ)<|cn (λ_ j=>pJ underlying196 underlying2 z)<|oE hr λu aE hr=>qM (post:=eB u) (λ_=>z) (λ_ _=>x' D9 z) (GW.h aE) z (λG' j=>trivial) (λv X G2 j h=>?_) ?_
 .obtain⟨ac,aa,V,Z,rfl,B,A⟩:=h;exact⟨_,_,_,_,z,B.mono j,A.mono j⟩
 refine oE hr λk aF hr=>qM (post:=eB k) (λ_=>z) (λ_ _=>x' D9 z) (GW.h aF) z (λG' j=>trivial) (λv X G2 j h=>?_) ?_
 .obtain⟨c,g,f,i,rfl,D,C⟩:=h;exact⟨_,_,_,_,z,D.mono j,C.mono j⟩
 refine cu (λ_ _ j=>y' 11 rY z z (Zz _ _ _))<|γ.tg (d:=67) (post:=eB k) (d':=66) (post':=eB u) (λa4 a5 ba af al ai=>?_)
 obtain⟨c,g,f,i,rfl,D,C⟩:=al;obtain⟨ac,aa,V,Z,rfl,B,A⟩:=ai;refine Ε (me (vs:=#[(0,.agg ((Τ k c g f i)).toArray),(1,.agg (Ø J).toArray)]) (v:=.agg (((Τ k c g f i):Ŀ Value)++(Ø J)).toArray) z z (λ_=>İ))<|nb (e:=147) (r:=c') (vs:=#[(0,.agg (((Τ k c g f i):Ŀ Value)++(Ø J)).toArray)]) (cs:=(((Τ k c g f i):Ŀ Value)++(Ø J))++([])) ([(Za.mk k J)]:Ŀ Za) z z z z z ĳ (λ_=>İ) ⟨((Τ k c g f i):Ŀ Value)++(Ø J),[],z,⟨(Τ k c g f i),Ø J,z,⟨(ζ k.num c g),(ζ k.den f i),z,⟨[.bool k.num.neg],[δ c k.num.υ g],z,z,⟨_,z,D⟩⟩,⟨[.bool k.den.neg],[δ f k.den.υ i],z,z,⟨_,z,C⟩⟩⟩,z⟩,z⟩ (key:=999) z (by rw[ay];rfl) (λp2 bc R aQ=>?_)
 refine oE hr λbb aK hr=>gW z z (x' Ie z) (iQ'.h aK) z (⟨(B.mono R),(A.mono R),aQ⟩) (λa0 a9 N ak=>?_);obtain⟨aZ,a6,rfl,aD⟩:=ak;refine oE hr λaM aC hr=>gW z z (x' zX z) (WX.h aC) z (⟨(ad.mono (mx (mx (mx (mx I S) af) R) N)),aD⟩) (λa3 aT ar aj=>?_);obtain⟨aI,aH,rfl,aG⟩:=aj;have N2:=mx (mx (mx (mx (mx (mx n I) S) af) R) N) ar;exact Η
instance iY'{x r}:SpcM ((FV x)) r (∀{Y V F H},Cr 63 #[.agg ((OS x Y V F H)).toArray] (λG=>sl ZQ G Y V x.l/\sl (Rp.int .u8) G F H x.iT) (DX r)):=.mk λhr {Y V F H}=>by
 refine Ν ?_;intro w0 G0 _ aw al b1 b2 _ aH S bb hr _;obtain⟨bg,hr⟩:=hr;refine WL.slice3 (r:=Rp.str) z z BY yC z bb z z z bg λp2 bd=>?_;refine æ ?_;intro b3 hr;refine WC.mC (hH:=by exact⟨bd,(X' _ _),la,(X' _ _),la⟩) hr [1,2,4,5] [1,2] [2,5] [2] (λ(⟨R,f,k,l,g,p,q,A,d,o,n,t,c⟩:Int×(Ŀ Ĳ)×ŀ Addr×Nat×(Ŀ Zo)×ŀ Addr×Nat×ŀ Ow×(Ŀ Zo)×ŀ Addr×Nat×ŀ Ow×Int)=>⟨(R,f,g,d,c),[(6,i' R)],λa=>sl Rp.str a k l f/\sl ZM a p q g/\Tok 2 194 (δ p g q) g.length A/\sl ZM a o n d/\Tok 2 194 (δ o d n) d.length t,[(5,ú b3 ([δ k f l,δ p g q,δ o d n,i' c]) 129),(310051,A),(310052,t)]⟩) (λ(⟨ac,ag,af,J,X,Z,ae,E,K,Q,U,ah⟩:(Ŀ Ĳ)×ŀ Addr×Nat×(Ŀ Zo)×ŀ Addr×Nat×ŀ Ow×(Ŀ Zo)×ŀ Addr×Nat×ŀ Ow×Int)=>⟨(ac,J,E,ah),[],λap=>sl Rp.str ap ag af ac/\sl ZM ap X Z J/\Tok 2 194 (δ X J Z) J.length ae/\sl ZM ap K Q E/\Tok 2 194 (δ K E Q) E.length U,[(5,ú b3 ([δ ag ac af,δ X J Z,δ K E Q,i' ah]) 129),(310051,ae),(310052,U)]⟩) ⟨0,(([AN,AM,AL].take (i64.wrap (Int.tmod x.n 4)).toNat).drop (0:Int).toNat),p2,(([AN,AM,AL].take (i64.wrap (Int.tmod x.n 4)).toNat).drop (0:Int).toNat).length,[],none,0,none,[],none,0,none,1⟩ ?_;rintro _ a ⟨R,f,k,l,g,p,q,A,d,o,n,t,c⟩ C ⟨L,e,M,P,I⟩ hr;refine WC.nD hr [1,2,4,5,6] [1,2,5,310051,310052] (λ(_:Unit)=>⟨[],EX x R f g d c,tr,[]⟩) ?_ ?_
 .refine sr<|ν z<|Ε (Y0.VC z)<|Ε (n' 1 yv z z z)<|Ε (P' underlying31 (al.mono (mx S C)) z)<|eb hr z (Z' z z) z (λbj hr=>?_) (λbj hr=>?_)
  .refine Ν ?_;intro _ hr;refine oB ⟨a,f,k,l,g,p,q,A,d,o,n,t,c⟩ ⟨hr,C,L,e,M,P,I⟩ (Æ z) (w4 z z z z)
  refine Ν ?_;intro hr;refine oB ⟨a,f,k,l,g,p,q,A,d,o,n,t,c⟩ ⟨hr,C,L,e,M,P,I⟩ (Æ z) (w4 z z z z)
 intro ao _ hr y _;refine o'<|Y'<|sr<|Ο z<|WC.nB hr [1,2,4,5,6] [1,2,5,310051,310052] (λ(m:Int)=>⟨[(7,i' m)],EW x R f g d c m,tr,[]⟩) ?_
 intro aG m hr D _;refine o'<|fL [ff,ff,ff,ff,ff,ff,ff,ff,ff,ff,ff,ff,ff] eL İ λhb=>cn (λ_ s=>Y0.Vv z)<|cn (λ_ s=>n' 5 eC z z z) ?_
 refine æ ?_;intro _ _ _ _ _ _ _ _ _ B hr _;refine ko (φ:=λG v=>∃p3 T,v=.agg ([i' (i64.wrap (c+m)),δ p3 B T]).toArray/\sl c' G p3 T B) (λ_=>z) (λv G1 G2 s h=>?_) (λu G' s hu=>?_) ?_
 .obtain⟨p3,T,rfl,aA⟩:=h;exact⟨_,_,z,aA.mono s⟩
 .obtain⟨⟨j,i,aM,ar⟩,_⟩:=(show(fT c' B) G'.m (u 55)/\True from hu);simp only[ς,aM];exact⟨_,me (vs:=#[(0,i' (i64.wrap (c+m))),(1,δ j B i)]) (v:=.agg ([i' (i64.wrap (c+m)),δ j B i]).toArray) z z (λ_=>İ),j,i,z,ar⟩
 refine lr (λ_=>z) z194<|γ.yD (λbA bs bt X1 W aJ aE aC=>?_)
 obtain⟨b4,rfl,aU⟩:=aJ;obtain⟨p3,T,rfl,aA⟩:=aE;obtain⟨j,i,rfl,ar⟩:=aC;refine pY aU (mu (show WL _ _ _ _ _ _ (St w0 G0 X1.m _)from ?_));refine gu 8 ou z<|t'<|Γ<|b'<|o' ?_
 refine æ ?_;intro hr;refine I' hr z (λbk hr=>?_) (λbk hr=>?_)
 .refine Ν ?_;intro _ _ aj a8 hr;obtain⟨aT,hr⟩:=hr;have N:=mx (mx (mx y D) W) aj;refine jV (r:=ZM) 310052 z z vN vX z ĳ z z (P.mono N) z (by rw[aw];rfl) I a8 aT λp5 aF a3 bc au bi a0=>Ε (Y0.Vu z)<|rp 5 ([δ k f l,δ p g q,.slice p5 (d++[(Zo.mk (i64.wrap (c+m)) B)]).length aF,i' c]).toArray z wC z z z (show 2<4 by decide) z z ?_
  refine æ ?_;intro hr;refine N' ⟨bc,i64.wrap (R+1),f,k,l,g,p,q,A,(d++[(Zo.mk (i64.wrap (c+m)) B)]),p5,aF,a3,i64.wrap ((i64.wrap (c+m))+1)⟩ hr ⟨(mx (mx (mx (mx (mx C y) D) W) aj) au),(L.mono (mx N au)),(e.mono (mx N au)),M,bi,a0⟩ (Æ z) (w5 z z z z z)
 refine Ν ?_;intro _ _ ak a6 hr;obtain⟨aZ,hr⟩:=hr;have O:=mx (mx (mx y D) W) ak;refine jV (r:=ZM) 310051 z z vN vX z ĳ z z (e.mono O) z (by rw[aw];rfl) M a6 aZ λp7 aK aS bh aq a9 aX=>Ε (Y0.Vt z)<|rp 5 ([δ k f l,.slice p7 (g++[(Zo.mk (i64.wrap (c+m)) B)]).length aK,δ o d n,i' c]).toArray z wC z z z (show 1<4 by decide) z z ?_
 refine æ ?_;intro hr;refine N' ⟨bh,i64.wrap (R+1),f,k,l,(g++[(Zo.mk (i64.wrap (c+m)) B)]),p7,aK,aS,d,o,n,t,i64.wrap ((i64.wrap (c+m))+1)⟩ hr ⟨(mx (mx (mx (mx (mx C y) D) W) ak) aq),(L.mono (mx O aq)),a9,aX,(P.mono (mx O aq)),I⟩ (Æ z) (w5 z z z z z)
instance Wx{n A g r}:SpcM ((Bl n A g)) r (∀{m l},Cr 202 #[δ m n l,i' A,i' g] (λG=>sl ZM G m l n) (λG v=>v=.bool r)):=.mk λhr {m l}=>by
 refine Ν ?_;intro F i _ _ hr e;refine WC.mC hr [0,1,2] [] [] [] (λ(k:Int)=>⟨k,[(7,i' k)],tr,[]⟩) (λ(_:Unit)=>⟨(.inr ()),[],tr,[]⟩) 0 ?_;intro _ f k d _ hr;refine o'<|sr<|ν z<|ν z<|Ε (P' vN (e.mono d) z)<|kD z<|nx<|I' hr z (λE hr=>?_) (λE hr=>?_)
 .exact q'<|b'<|o'<|Y'<|o'<|fL [ff,ff,ff,ff,ff,ff,ff,ff,ff,ff,ff,ff,ff,ff,ff,ff,ff,ff,ff,ff,ff,ff,ff,ff,ff,ff,ff,ff,ff,ff,ff,ff,ff,ff,ff,ff,ff,ff,ff,ff] eL İ λh=>fN z<|fN z<|oE hr λa t hr=>cn (λ_ c=>kp vN ou ((e.mono d).mono c) z z t)<|cn (λ_ c=>Y0.Vx z)<|cn (λ_ c=>nI eC z (zC (T' (T' (sd (n2 (iQ e t))) d) c)))<|Η
 exact Η
instance nP{c r}:SpcM ((AV c)) r (Cr 260 #[.int .u8 c] (λG=>True) (λG v=>v=.bool r)):=.mk λhr=>by
 refine Ν ?_;intro _ _ _ _ _ hr _;refine È (Q7 z z) z<|È (Q7 z z) z<|sf z z z<|Θ z<|Ο z<|m' (Ö hr z z)
instance iZ'{e r}:SpcM ((FW e)) r (Cr 203 #[.string e] (λG=>True) (λG v=>v=.bool r)):=.mk λhr=>by
 refine æ ?_;intro k h _ hr _;refine WC.nB hr [0] [] (λ(_:Unit)=>⟨[],RF e,tr,[]⟩) ?_;intro f _ hr I _;refine o'<|sr<|Ο z<|WC.mC hr [0] [] [] [] (λ(g:Int)=>⟨g,[(3,i' g)],tr,[]⟩) (λ(_:Unit)=>⟨(.inr ()),[],tr,[]⟩) 1 ?_
 intro _ d g c _ hr;refine o'<|sr<|ν z<|ν z<|Ε (Y0.CX xV z)<|kD z<|nx<|I' hr z (λH hr=>?_) (λH hr=>?_)
 .refine q'<|b'<|o'<|Y'<|sr<|ν z<|ν z<|oA hr λn hr=>Ε (Y0.sE (s:=e) xV z z n)<|oE hr λt m hr=>H' z z (x' IT z) (nP.h m) z (trivial) ?_
  cases t
  .exact Η
  exact Ε (k8 z)<|ν z<|ig z<|È (Q7 z z) z<|È (Q7 z z) z<|È (Q7 z z) z<|È (Q7 z z) z<|yx z<|ο z<|ν z<|nT z<|ο z<|nx<|tM z<|Η
 exact Η
instance iR'{j r}:SpcM ((Fu j)) r (∀{d c i h f e},Cr 116 #[.agg ((ts j d c i h f e)).toArray] (λG=>D1 G d c i h f e j) (λG v=>v=.bool r)):=.mk λhr {d c i h f e}=>by
 refine J' (args:=[_]) (N:=96) func116 z z z (λJ C au K=>?_);obtain⟨k,p,m⟩:=K;refine sr<|jU 1 z z z λu=>dQ z<|nr<|Ε (Y0.Vs z)<|Ε (n' 1 ot z z z)<|Ε (P' BY k z)<|Ο z<|WC.nD hr [1,3] [1] (λ(_:Unit)=>⟨[],Qx j,tr,[]⟩) ?_ ?_
 .refine sr<|ν z<|eb hr z (vJ z z) z (λal hr=>?_) (λal hr=>?_)
  .refine ν z<|fz z<|Θ z<|ν z<|fz z<|Θ z<|ν z<|re z<|Θ z<|ν z<|re z<|Θ z<|nx<|n1 z<|sr<|Ο z<|m'<|a' (Ö hr z z)
  refine ν z<|gy z z (Y0.Vv z) z<|gy z z (n' 1 eC z z z) z<|eb hr (rV z z) (Z' z z) z (λai hr=>?_) (λai hr=>?_)
  .refine ο z<|ν z<|fz z<|Θ z<|ν z<|re z<|Θ z<|ν z<|re z<|Θ z<|nx<|n1 z<|sr<|Ο z<|m'<|a' (Ö hr z z)
  refine ο z<|ν z<|gy z z (Y0.Vv z) z<|gy z z (n' 1 eC z z z) z<|eb hr (rV z z) (vJ z z) z (λam hr=>?_) (λam hr=>?_)
  .refine ο z<|ν z<|re z<|Θ z<|ν z<|re z<|Θ z<|nx<|n1 z<|sr<|Ο z<|m'<|a' (Ö hr z z)
  refine ο z<|ν z<|gy z z (Y0.Vt z) z<|gy z z (n' 1 l1 z z z) z<|kS z<|gy z z (Y0.Vv z) z<|gy z z (n' 1 eC z z z) z<|oE hr λad Y hr=>H' (rV z z) z (x' Ac z) (Wx.h Y) z (p) ?_
  cases ad
  .refine gy z z (k8 z) z<|ο z<|ν z<|re z<|Θ z<|nx<|n1 z<|sr<|Ο z<|m'<|a' (Ö hr z z)
  refine gy z z (k8 z) z<|ο z<|ν z<|gy z z (Y0.Vu z) z<|gy z z (n' 1 l1 z z z) z<|kS z<|gy z z (Y0.Vv z) z<|gy z z (n' 1 eC z z z) z<|oE hr λar a hr=>H' (rV z z) z (x' Ac z) (Wx.h a) z (m)<|gy z z (k8 z) z<|ο z<|nx<|kh hr z (λaj hr=>?_) (λaj hr=>?_)
  .refine sr<|Ο z<|m'<|a' (Ö hr z z)
  refine q'<|pN ⟨C,()⟩ ⟨hr,mr,trivial⟩ (Æ z) (w1 z)
 intro E _ hr l _;refine o'<|sr<|Ο z<|WC.mD hr [1,3] [1] [1] [1] (λ(x:Int)=>⟨x,[(4,i' x)],tr,[]⟩) (λ(_:Unit)=>⟨(.inr ()),[],tr,[]⟩) 0 ?_ ?_
 .intro _ A x n _ hr;refine o'<|sr<|ν z<|ν z<|kD z<|nx<|I' hr z (λaf hr=>?_) (λaf hr=>?_)
  .refine q'<|b'<|o'<|Y'<|o'<|sr<|Ο z<|WC.mD hr [1,3,4] [1] [1,3,4] [1] (λ(F:Int)=>⟨F,[(5,i' F)],tr,[]⟩) (λ(_:Unit)=>⟨(.inr ()),[],tr,[]⟩) 0 ?_ ?_
   .intro _ L F s _ hr;refine o'<|sr<|ν z<|ν z<|kD z<|nx<|I' hr z (λak hr=>?_) (λak hr=>?_)
    .refine q'<|b'<|o'<|Y'<|o'<|fL [ff,ff,ff,ff,ff,ff,ff,ff,ff,ff] eL İ λZ=>cn (λ_ g=>Y0.Vs z)<|cn (λ_ g=>n' 1 ot z z z)<|fN z<|oE hr λx4 U hr=>cn (λ_ g=>kp BY yC ((k.mono (mx (mx l n) s)).mono g) z z U)<|cn (λ_ g=>nI Du z (AtK.str (T' (T' (iQ k U) (mx (mx l n) s)) g)))<|cn (λ_ g=>Y0.Vs z)<|cn (λ_ g=>n' 1 ot z z z)<|fN z<|oE hr λx5 W hr=>cn (λ_ g=>kp BY yC ((k.mono (mx (mx l n) s)).mono g) z z W)<|cn (λ_ g=>nI Du z (AtK.str (T' (T' (iQ k W) (mx (mx l n) s)) g)))<|pL Z<|Ε (Y0.uD xV z z)<|t'<|Γ<|b'<|I' hr z (λag hr=>?_) (λag hr=>?_)
     .refine sr<|Ο z<|m'<|g'<|a'<|a'<|g'<|mT<|a'<|g'<|a'<|a'<|g'<|mT<|a' (Ö hr z z)
     refine q'<|E'<|b'<|w'<|ν z<|iP z<|dQ z<|t'<|N' ⟨L,i64.wrap (F+1)⟩ hr ⟨s,trivial⟩ (Æ z) (w1 z)
    refine nK<|p'<|p'<|K'<|oB ⟨L,()⟩ ⟨hr,s,trivial⟩ (Æ z) (w1 z)
   intro O _ hr I _;refine b'<|sr<|Ε (Y0.Vs z)<|Ε (n' 1 ot z z z)<|ν z<|oE hr λx3 S hr=>Ε (kp BY yC (k.mono (mx (mx l n) I)) z z S)<|Ε (nI Du z (AtK.str (T' (iQ k S) (mx (mx l n) I))))<|oE hr λaq X hr=>H' z z (x' IB z) (iZ'.h X) z (trivial)<|Ε (k8 z)<|nx<|kh hr z (λae hr=>?_) (λae hr=>?_)
   .refine sr<|Ο z<|m'<|g'<|a'<|a'<|g'<|mT<|a' (Ö hr z z)
   refine q'<|E'<|b'<|w'<|ν z<|iP z<|dQ z<|t'<|N' ⟨O,i64.wrap (x+1)⟩ hr ⟨(mx n I),trivial⟩ (Æ z) (w1 z)
  refine nK<|p'<|p'<|K'<|oB ⟨A,()⟩ ⟨hr,n,trivial⟩ (f1 z) (w1 z)
 intro D _ hr t _;refine b'<|o'<|sr<|Ο z<|WC.mD hr [1] [1] [] [] (λ(y:Int)=>⟨y,[(6,i' y)],tr,[]⟩) (λ(_:Unit)=>⟨(.inr ()),[],tr,[]⟩) 0 ?_ ?_
 .intro _ B y o _ hr;refine o'<|sr<|ν z<|Ε (Y0.Vt z)<|Ε (n' 1 l1 z z z)<|Ε (P' vN (p.mono (mx (mx l t) o)) z)<|kD z<|nx<|I' hr z (λao hr=>?_) (λao hr=>?_)
  .refine q'<|b'<|o'<|Y'<|sr<|Ο z<|WC.mD hr [1,6] [1] [1,6] [1] (λ(H:Int)=>⟨H,[(7,i' H)],tr,[]⟩) (λ(_:Unit)=>⟨(.inr ()),[],tr,[]⟩) 0 ?_ ?_
   .intro _ M H q _ hr;refine o'<|sr<|ν z<|Ε (Y0.Vu z)<|Ε (n' 1 l1 z z z)<|Ε (P' vN (m.mono (mx (mx (mx l t) o) q)) z)<|kD z<|nx<|I' hr z (λah hr=>?_) (λah hr=>?_)
    .refine q'<|b'<|o'<|Y'<|o'<|fL [ff,ff,ff,ff,ff,ff,ff,ff,ff,ff,ff,ff] eL İ λZ=>cn (λ_ g=>Y0.Vt z)<|cn (λ_ g=>n' 1 l1 z z z)<|fN z<|oE hr λx1 V hr=>cn (λ_ g=>kp vN ou ((p.mono (mx (mx (mx l t) o) q)).mono g) z z V)<|cn (λ_ g=>Y0.Vx z)<|cn (λ_ g=>nI eC z (zC (T' (T' (sd (n2 (iQ p V))) (mx (mx (mx l t) o) q)) g)))<|cn (λ_ g=>Y0.Vu z)<|cn (λ_ g=>n' 1 l1 z z z)<|fN z<|oE hr λx2 T hr=>cn (λ_ g=>kp vN ou ((m.mono (mx (mx (mx l t) o) q)).mono g) z z T)<|cn (λ_ g=>Y0.Vx z)<|cn (λ_ g=>nI eC z (zC (T' (T' (sd (n2 (iQ m T))) (mx (mx (mx l t) o) q)) g)))<|pL Z<|Ε (eM z z)<|t'<|Γ<|b'<|I' hr z (λan hr=>?_) (λan hr=>?_)
     .refine sr<|Ο z<|m'<|g'<|a'<|a'<|g'<|mT<|g'<|a'<|a'<|g'<|mT<|a' (Ö hr z z)
     refine q'<|E'<|b'<|w'<|ν z<|iP z<|dQ z<|t'<|N' ⟨M,i64.wrap (H+1)⟩ hr ⟨q,trivial⟩ (Æ z) (w1 z)
    refine nK<|p'<|p'<|K'<|oB ⟨M,()⟩ ⟨hr,q,trivial⟩ (Æ z) (w1 z)
   intro P _ hr R _;refine E'<|b'<|w'<|ν z<|iP z<|dQ z<|t'<|N' ⟨P,i64.wrap (y+1)⟩ hr ⟨(mx o R),trivial⟩ (Æ z) (w1 z)
  refine nK<|p'<|p'<|K'<|oB ⟨B,()⟩ ⟨hr,o,trivial⟩ fn (wk ln)
 intro Q _ hr ap _;refine b'<|sr<|Ο z<|m' (Ö hr z z)
instance mf{E r}:SpcM ((Ft E)) r (∀{B y},Cr 117 #[δ B E y] (λG=>sl ZM G B y E) (fT (Rp.sl c') r)):=.mk λhr {B y}=>by
 refine Ν ?_;intro Q P x p1 u _ S hr _;refine WC.mC (hH:=by exact⟨S,la⟩) hr [0] [] [] [] (λ(⟨c,g,d,f,D⟩:(Ŀ (Ŀ Za))×ŀ Addr×Nat×ŀ Ow×Int)=>⟨(c,D),[(3,δ g c d),(4,i' D)],λn=>sq n g d c/\Tok 1 50 (δ g c d) c.length f,[(1003,f)]⟩) (λ(⟨i,k,j,l⟩:(Ŀ (Ŀ Za))×ŀ Addr×Nat×ŀ Ow)=>⟨i,[(3,δ k i j)],λp=>sq p k j i/\Tok 1 50 (δ k i j) i.length l,[(1003,l)]⟩) ⟨[],p1,0,none,0⟩ ?_;rintro _ n ⟨c,g,d,f,D⟩ h ⟨s,o⟩ hr;refine Ν ?_;intro _ A _ _ _ _ _ _ _ _ _ q V hr _;refine oA hr λL hr=>jV (r:=(Rp.sl c')) 1003 z z jT jB z ĳ z z (s.mono q) z (by rw[x];rfl) o V L λp4 O M T C Z J=>dQ z<|t'<|E'<|b'<|w'<|ν z<|iP z<|dQ z<|t'<|N' ⟨T,(c++[A.p]),p4,O,M,i64.wrap (D+1)⟩ hr ⟨(mx (mx h q) C),Z,J⟩ (Æ z) (w1 z)
instance ja'{Q r}:SpcM ((LC Q)) r (∀{m o C B p s},Cr 62 #[.agg ((ts Q m o C B p s)).toArray] (λG=>D1 G m o C B p s Q) (l9 r)):=.mk λhr {m o C B p s}=>by
 refine æ ?_;intro _ _ _ _ _ _ _ _ _ hr _;refine o' ?_;refine æ ?_;intro _ hr _;refine kh hr z (λy hr=>?_) (λy hr=>?_)
 .exact Η
 refine q'<|b'<|o'<|fL [ff,ff,ff,ff,ff,ff,ff,ff,ff,ff,ff,tt] eL İ λhb=>?_
 refine æ ?_;intro K _ R hr _;refine oE hr λA X hr=>mm (f:=74) (φ:=l9 A) (λ_=>z) (λv n Z c h=>?_) (λu E c a=>?_) ?_
 .obtain⟨l,k,j,g,rfl,e,d⟩:=h;exact⟨_,_,_,_,z,e.mono c,d.mono c⟩
 .obtain⟨⟨O,P,V,t⟩,⟨L,M,U,x⟩,_⟩:=(show(fT (Rp.sl c') R) E.m (u 17)/\(fT (Rp.sl c') K) E.m (u 14)/\True from a);exact⟨_,_,_,λ_=>x' Yp z,gW'.h X,(by simp only[V,U]<;>rfl),⟨x,t⟩⟩
 refine γ.ns (kk:=18) (φ:=u9 A.1) İ (λ_=>z) (λv n Z c h=>?_) (λu E c a=>?_) ?_
 .obtain⟨p1,af,p2,q,rfl,S,T⟩:=h;exact⟨_,_,_,_,z,S.mono c,T.mono c⟩
 .obtain⟨⟨l,k,j,g,D,e,d⟩,_,_,_⟩:=(show(l9 A) E.m (u 18)/\True/\True/\True from a);exact⟨_,_,D,(by simp only[ς,D]<;>rfl),z,l,k,j,g,z,e,d⟩
 refine γ.ti (d0:=19) (post0:=u9 A.1) (d1:=18) (post1:=l9 A) (d2:=17) (post2:=fT (Rp.sl c') R) (d3:=14) (post3:=fT (Rp.sl c') K) (λY W am an ap N F I H J=>?_);obtain⟨p1,af,p2,q,rfl,S,T⟩:=F;obtain⟨l,k,j,g,rfl,e,d⟩:=I;obtain⟨O,P,rfl,t⟩:=H;obtain⟨L,M,rfl,x⟩:=J;refine lR z<|gu 2 py z<|dQ z<|t'<|Γ<|b'<|m' ?_
 obtain rfl:_=r:=hr;exact ur z (kJ (i:=2) lJ z z z) z ⟨_,_,_,_,z,S,T⟩
instance Wr{e r}:SpcM ((Bn e)) r (∀{g f d c j h n m},Cr 25 #[.agg ((tu e g f d c j h n m)).toArray] (λG=>sl ZQ G g f e.c.l/\sl (Rp.int .u8) G d c e.c.iT/\sl (gf .i8 5) G j h e.p.t/\sl tW G n m e.l) (u9 r)):=.mk λhr {g f d c j h n m}=>Η
instance jl'{r}:SpcM ((U9)) r (Cr 121 #[] (λG=>True) (fT (gf .i64 8) r)):=.mk λhr=>Η
instance oG{r}:SpcM ((Fh)) r (Cl 122 #[] [] (λG=>True) (λG L v=>∃m g c,L=[(7000,c)]/\v=δ m r g/\Β (gf .i64 8) 71 G (δ m r g) r c)):=.mk λhr=>by
 refine ry (args:=[]) (N:=3) func122 z z z λn k h o=>sr<|dQ z<|nr<|Ε (me (vs:=#[(0,i' 1),(1,i' 1),(2,i' 1),(3,i' 1),(4,i' 1),(5,i' 1),(6,i' 1),(7,i' 1)]) (v:=.agg (Ø (ε (ε (ε (ε (ε (ε (ε (ε (λ_=>0) 0 1) 1 1) 2 1) 3 1) 4 1) 5 1) 6 1) 7 1)).toArray) z z (λ_=>İ))<|WL.qZ (e:=71) (r:=(gf .i64 8)) (vs:=#[(0,.agg (Ø (ε (ε (ε (ε (ε (ε (ε (ε (λ_=>0) 0 1) 1 1) 2 1) 3 1) 4 1) 5 1) 6 1) 7 1)).toArray)]) (cs:=(Ø (ε (ε (ε (ε (ε (ε (ε (ε (λ_=>0) 0 1) 1 1) 2 1) 3 1) 4 1) 5 1) 6 1) 7 1))++([])) ([ε (ε (ε (ε (ε (ε (ε (ε (λ_=>0) 0 1) 1 1) 2 1) 3 1) 4 1) 5 1) 6 1) 7 1]:Ŀ (Fin 8->Int)) 4002 z z z z z ĳ (λ_=>İ) ⟨Ø (ε (ε (ε (ε (ε (ε (ε (ε (λ_=>0) 0 1) 1 1) 2 1) 3 1) 4 1) 5 1) 6 1) 7 1),[],z,z,z⟩ λp d l=>Ο z<|m' ?_
 obtain rfl:_=r:=hr;refine mV (S':=St n k k [(7000,d)]) ?_ ?_
 .intro w f;have f:=f.Ý (i:=4002) (j:=7000) z (by rw[h];rfl);exact f.weaken (lc z ln)
 exact j' z z ⟨_,_,_,z,z,l⟩
instance gL'{r}:SpcM ((EU)) r (Cr 123 #[] (λG=>True) (fT (gf .i64 8) r)):=.mk λhr=>by
 refine Ν ?_;intro K P g hr _;have a:=tS (w0:=K);refine oE hr λO M hr=>mW z z (x' zY z) (oG.h M) z (trivial) ln a (λp t m d s=>?_);obtain⟨I,H,B,rfl,rfl,F⟩:=s;refine mw (λw x=>x.Ý (i:=7000) (j:=4003) z (by rw[g];rfl))<|Ο z<|o'<|sr<|Ο z<|nJ (X:=(Ŀ (Fin 8->Int))×ŀ Addr×Nat×ŀ Ow×Int×Mem) hr (λ⟨k,q,l,c,A,f⟩=>⟨(k,A),[(1,δ q k l),(2,i' A)],Mem.le t f/\Β (gf .i64 8) 71 f (δ q k l) k c,St K P f [(4001,c)]⟩) (λ(⟨v,u,y,h,n⟩:(Ŀ (Fin 8->Int))×ŀ Addr×Nat×ŀ Ow×Mem)=>⟨v,[(1,δ u v y)],Mem.le t n/\Β (gf .i64 8) 71 n (δ u v y) v h,St K P n [(4001,h)]⟩) ⟨O,I,H,B,7,t⟩ z (Æ z) ⟨mr,F⟩ ?_ ?_ ?_
 .intro w x;have x:=x.Ý (i:=4003) (j:=4001) z (by rw[g];rfl);exact x.weaken (lc z ln)
 .rintro _ ⟨k,q,l,c,A,f⟩ ⟨o,C⟩ hr;exact Η
 rintro⟨v,u,y,h,n⟩ ⟨hr,W,R⟩;refine Ν ?_;intro hr;obtain rfl:_=r:=hr;refine uB (r:=(gf .i64 8)) (e:=71) 4001 R z (by rw[g];rfl) λD J Z E Y=>j' z z ⟨_,_,z,E⟩
instance jn'{c d r}:SpcM ((VT c d)) r (Cr 209 #[.int .u8 c,i' d] (λG=>True) (λG v=>v=.bool r)):=.mk λhr=>Η
instance iu{i r}:SpcM ((Ju i)) r (Cr 124 #[.int .u8 i] (λG=>True) (fT (gf .i64 8) r)):=.mk λhr=>by
 refine Ν ?_;intro D k L q hr _;refine WC.mB hr [0,3] [] [3] [] (λ(⟨j,c⟩:Int×(Fin 8->Int))=>⟨(j,c),[(4,i' j)],tr,[(3,ú q (Ø c) 71)]⟩) (λ(d:(Fin 8->Int))=>⟨d,[],tr,[(3,ú q (Ø d) 71)]⟩) ⟨0,(λ_=>0)⟩ ?_;intro p d hr P _;refine b'<|o'<|fL [ff,ff,ff] eL İ λv=>cn (λ_ m=>y' 3 lK z z (Zz _ _ _))<|γ.nw (r:=(gf .i64 8)) (e:=71) ([d]:Ŀ (Fin 8->Int)) (λ_=>z) z ĳ (λu U m E=>?_) ?_
 .exact⟨#[(0,.agg (Ø d).toArray)],(Ø d)++([]),z,z,λ_=>by kernel_rfl,⟨Ø d,[],z,z,z⟩⟩
 refine Ν ?_;intro _ hr _;refine γ.nF (λg V a T o n=>?_);obtain⟨y,B,rfl,l⟩:=o;refine WL.kM n (λZ Y R t C W=>?_);subst t;refine mu (show WL _ _ _ _ _ _ (St D k a.m _)from ?_);refine oA hr λF hr=>WL.hM (r:=(gf .i64 8)) (e:=71) 16 z z tH od z ĳ z z C z l F λp1 s f M=>dQ z<|t'<|Γ<|b'<|m' ?_
 obtain rfl:_=r:=hr;refine uB (r:=(gf .i64 8)) (e:=71) 16 M z (by rw[L];rfl) λaf h S H Q=>j' z z ⟨_,_,z,H⟩
instance hJ'{f r}:SpcM ((xD f)) r (Cr 66 #[.int .u8 f] (λG=>True) (fT (gf .i64 8) r)):=.mk λhr=>by
 refine æ ?_;intro H n d hr _;have g:=tS (w0:=H);refine I' hr z (λL hr=>?_) (λL hr=>?_)
 .exact Η
 refine sr<|Ε (eM z z)<|Ο z<|I' hr z (λF hr=>?_) (λF hr=>?_)
 .refine sr<|oE hr λt o hr=>mW z z (x' zY z) (oG.h o) z (trivial) ln g (λp v k U l=>?_)
  obtain⟨Y,Z,P,rfl,rfl,A⟩:=l;refine mw (λw a=>a.Ý (i:=7000) (j:=4010) z (by rw[d];rfl))<|pX (r:=(gf .i64 8)) (e:=71) 4010 A z (by rw[d];rfl) λq x R s Q=>Ο z<|m'<|g'<|a' ?_
  obtain rfl:_=r:=hr;exact j' z z ⟨_,_,z,s⟩
 refine WC.nD hr [0,4] [] (λ(c:Bool)=>⟨[(11,.bool c)],EV f c,tr,[]⟩) ?_ ?_
 .refine sr<|Ε (eM z z)<|Ο z<|I' hr z (λJ hr=>?_) (λJ hr=>?_)
  .exact Η
  exact Η
 intro m c hr M _;refine kh hr z (λC hr=>?_) (λC hr=>?_)
 .exact Η
 refine sr<|Ε (eM z z)<|Ο z<|I' hr z (λE hr=>?_) (λE hr=>?_)
 .refine Ν ?_;intro _;refine nb (e:=71) (r:=(gf .i64 8)) (vs:=#[(0,.agg (Ø (ε (ε (ε (ε (ε (ε (ε (ε (λ_=>0) 0 2) 1 3) 2 1) 3 1) 4 1) 5 1) 6 1) 7 1)).toArray)]) (cs:=(Ø (ε (ε (ε (ε (ε (ε (ε (ε (λ_=>0) 0 2) 1 3) 2 1) 3 1) 4 1) 5 1) 6 1) 7 1))++([])) ([ε (ε (ε (ε (ε (ε (ε (ε (λ_=>0) 0 2) 1 3) 2 1) 3 1) 4 1) 5 1) 6 1) 7 1]:Ŀ (Fin 8->Int)) z z z z z ĳ (λ_=>İ) ⟨Ø (ε (ε (ε (ε (ε (ε (ε (ε (λ_=>0) 0 2) 1 3) 2 1) 3 1) 4 1) 5 1) 6 1) 7 1),[],z,z,z⟩ (key:=999) z (by rw[d];rfl) λp1 h S I=>?_;exact Η
 refine Ν ?_;intro _ hr;refine nb (e:=71) (r:=(gf .i64 8)) (vs:=#[(0,.agg (Ø (ε (ε (ε (ε (ε (ε (ε (ε (λ_=>0) 0 1) 1 1) 2 0) 3 0) 4 0) 5 0) 6 0) 7 0)).toArray),(1,.agg (Ø (ε (ε (ε (ε (ε (ε (ε (ε (λ_=>0) 0 1) 1 0) 2 2) 3 1) 4 1) 5 1) 6 1) 7 1)).toArray)]) (cs:=(Ø (ε (ε (ε (ε (ε (ε (ε (ε (λ_=>0) 0 1) 1 1) 2 0) 3 0) 4 0) 5 0) 6 0) 7 0))++((Ø (ε (ε (ε (ε (ε (ε (ε (ε (λ_=>0) 0 1) 1 0) 2 2) 3 1) 4 1) 5 1) 6 1) 7 1))++([]))) ([ε (ε (ε (ε (ε (ε (ε (ε (λ_=>0) 0 1) 1 1) 2 0) 3 0) 4 0) 5 0) 6 0) 7 0,ε (ε (ε (ε (ε (ε (ε (ε (λ_=>0) 0 1) 1 0) 2 2) 3 1) 4 1) 5 1) 6 1) 7 1]:Ŀ (Fin 8->Int)) z z z z z ĳ (λ_=>İ) ⟨Ø (ε (ε (ε (ε (ε (ε (ε (ε (λ_=>0) 0 1) 1 1) 2 0) 3 0) 4 0) 5 0) 6 0) 7 0),(Ø (ε (ε (ε (ε (ε (ε (ε (ε (λ_=>0) 0 1) 1 0) 2 2) 3 1) 4 1) 5 1) 6 1) 7 1))++([]),z,z,⟨Ø (ε (ε (ε (ε (ε (ε (ε (ε (λ_=>0) 0 1) 1 0) 2 2) 3 1) 4 1) 5 1) 6 1) 7 1),[],z,z,z⟩⟩ (key:=999) z (by rw[d];rfl) λp2 u T K=>Ο z<|m'<|g'<|a' ?_
 obtain rfl:_=r:=hr;exact j' z z ⟨_,_,z,K⟩
instance gH'{c F r}:SpcM ((Bm c F)) r (∀{m k e d h g q p u x n o},Cr 26 #[.agg ((tu c m k e d h g q p)).toArray,.agg ((Ä F u x n o)).toArray] (λG=>sl ZQ G m k c.c.l/\sl (Rp.int .u8) G e d c.c.iT/\sl (gf .i8 5) G h g c.p.t/\sl tW G q p c.l/\sq G u x F.eqs/\sq G n o F.neqs) (λG v=>∃L P M Q,v=.agg ([i' r.kind,δ L r.p P,δ M r.o Q]).toArray/\sl c' G L P r.p/\sv G M Q r.o)):=.mk λhr {m k e d h g q p u x n o}=>by
 refine J' (args:=[_,_]) (N:=29) func26 z z z (λw0 W au Y=>?_);obtain⟨al,aa,K,an,ad,ab⟩:=Y;refine sr<|jU 2 z z z λb1=>jU 3 z z z λb2=>W' 4 z z54 z λb3=>nr<|Ε (Y0.YW z)<|Ε (n' 2 zV z z z)<|Ε (yb z z ĳ)<|Ε (pJ GP BE z)<|Ε (me (vs:=#[(0,i' (i64.wrap (Int.tmod c.kind 12)))]) (v:=.agg ([i' (i64.wrap (Int.tmod c.kind 12)),.slice none 0 0,.slice none 0 0]).toArray) z z (λ_=>İ))<|W' 5 z z54 z λb4=>gu 5 ov z<|nx<|WC.nD hr [2,4,5] [2,4] (λ(⟨f,j,l,t,s⟩:Zc×ŀ Addr×Nat×ŀ Addr×Nat)=>⟨[],EY c f,λy=>sl c' y j l f.p/\sv y t s f.o,[(5,ú b4 ([i' f.kind,δ j f.p l,δ t f.o s]) 54)]⟩) ?_ ?_
 .refine sr<|Ε (Y0.ME z)<|Ε (n' 5 eC z z z)<|oE hr λar R hr=>H' z z (x' Yj z) (gm'.h R) z (trivial)<|nx<|kh hr z (λa hr=>?_) (λa hr=>?_)
  .refine w'<|Ε (Y0.YX z)<|Ε (R' ([δ h c.p.t g]).toArray 2 BI z z z (UZ ([.int .u8 c.fY,.int .u8 c.c.n,δ m c.c.l k,δ e c.c.iT d,.int .u8 c.kind]) ([δ h c.p.t g]) ([.int .u8 c.o,δ q c.l p,i' c.id,i' c.Κ])))<|Ε (rA z)<|Ε (n' 3 eC z z z)<|Ε (Y0.min2 z z)<|oE hr λO T hr=>gW z z (x' Yk z) (gF'.h T) z (K) (λap ai I B=>?_)
   obtain⟨D,E,rfl,S⟩:=B;exact Ε (Y0.VE z)<|rp 5 ([i' (i64.wrap (Int.tmod c.kind 12)),δ D O E,.slice none 0 0]).toArray z kV z z z (show 1<3 by decide) z z<|Η
  exact Η
 rintro y ⟨f,j,l,t,s⟩ hr ak ⟨A,H⟩;refine o'<|sr<|Ε (Y0.ME z)<|Ε (n' 5 eC z z z)<|Ε (eM z z)<|nx<|I' hr z (λaj hr=>?_) (λaj hr=>?_)
 .refine w'<|Ε (Y0.YY z)<|Ε (n' 2 zV z z z)<|oE hr λaf Z hr=>gW z z (x' Yl z) (hJ'.h Z) z (trivial) (λam aq J C=>?_)
  obtain⟨X,V,rfl,U⟩:=C;refine Ε (Y0.VF z)<|rp 5 ([i' f.kind,δ j f.p l,δ X af V]).toArray z DI z z z (show 2<3 by decide) z z<|nr<|Ε (y' 5 oS z z z)<|gu 4 ov z<|nx<|m' ?_
  obtain rfl:_=r:=hr;exact j' z (kJ (i:=4) oS z z z) ⟨_,_,_,_,z,(A.mono J),U⟩
 refine q'<|b'<|sr<|Ε (y' 5 oS z z z)<|gu 4 ov z<|nx<|m' ?_
 obtain rfl:_=r:=hr;exact j' z (kJ (i:=4) oS z z z) ⟨_,_,_,_,z,A,H⟩
instance jb'{L U x l p r}:SpcM ((LQ L U x l p)) r (∀{H F},Cr 143 #[δ H L F,i' U,i' x,i' l,i' p] (λG=>sl ZQ G H F L) (fT (Rp.sl c') r)):=.mk λhr {H F}=>by
 refine Ν ?_;intro w0 Z I p1 E _ e hr _;refine WC.mC (hH:=by exact⟨e,la⟩) hr [0,1,2,3,4] [] [] [] (λ(⟨c,g,f,d,K⟩:(Ŀ (Ŀ Za))×ŀ Addr×Nat×ŀ Ow×Int)=>⟨(c,K),[(11,δ g c f),(12,i' K)],λo=>sq o g f c/\Tok 1 50 (δ g c f) c.length d,[(1011,d)]⟩) (λ(⟨i,k,j,m⟩:(Ŀ (Ŀ Za))×ŀ Addr×Nat×ŀ Ow)=>⟨i,[(11,δ k i j)],λA=>sq A k j i/\Tok 1 50 (δ k i j) i.length m,[(1011,m)]⟩) ⟨[],p1,0,none,0⟩ ?_;rintro _ o ⟨c,g,f,d,K⟩ h ⟨q,n⟩ hr;refine Ν ?_;intro _ _ _ _ _ _ _ _ _ _ _ t _ B _ _ _ _ _ y u hr _;refine oA hr λV hr=>jV (r:=(Rp.sl c')) 1011 z z jT jB z ĳ z z (q.mono (mx B y)) z (by rw[I];rfl) n u V λp3 Y R a J s Q=>dQ z<|t'<|E'<|b'<|w'<|ν z<|iP z<|dQ z<|t'<|N' ⟨a,(c++[t]),p3,Y,R,i64.wrap (K+1)⟩ hr ⟨(mx (mx (mx h B) y) J),s,Q⟩ (Æ z) (w1 z)
instance gI'{I L V r}:SpcM ((xE I L V)) r (∀{E C},Cr 144 #[δ E I C,i' L,i' V] (λG=>sq G E C I) (fT (Rp.sl c') r)):=.mk λhr {E C}=>by
 refine Ν ?_;intro w0 G0 o p1 y _ A hr _;refine WC.mC (hH:=by exact⟨A,la⟩) hr [0,1,2] [] [] [] (λ(⟨c,h,f,g,B⟩:(Ŀ (Ŀ Za))×ŀ Addr×Nat×ŀ Ow×Int)=>⟨(c,B),[(7,δ h c f),(8,i' B)],λq=>sq q h f c/\Tok 1 50 (δ h c f) c.length g,[(1007,g)]⟩) (λ(⟨i,k,j,m⟩:(Ŀ (Ŀ Za))×ŀ Addr×Nat×ŀ Ow)=>⟨i,[(7,δ k i j)],λv=>sq v k j i/\Tok 1 50 (δ k i j) i.length m,[(1007,m)]⟩) ⟨[],p1,0,none,0⟩ ?_;rintro _ q ⟨c,h,f,g,B⟩ d ⟨p,n⟩ hr;refine o'<|sr<|ν z<|ν z<|kD z<|nx<|I' hr z (λK hr=>?_) (λK hr=>?_)
 .refine æ ?_;intro hr;refine I' hr z (λs hr=>?_) (λs hr=>?_)
  .refine Ν ?_;intro _ _ x _ _ _ t J hr;refine oA hr λW hr=>jV (r:=(Rp.sl c')) 1007 z z jT jB z ĳ z z (p.mono (mx x t)) z (by rw[o];rfl) n J W λp4 Z Q af F N R=>dQ z<|t'<|E'<|b'<|w'<|ν z<|iP z<|dQ z<|t'<|N' ⟨af,(c++[[]]),p4,Z,Q,i64.wrap (B+1)⟩ hr ⟨(mx (mx (mx d x) t) F),N,R⟩ (Æ z) (w1 z)
  refine Ν ?_;intro D _ _ _ _ _ _ _ _ _ u a hr _;refine oA hr λS hr=>jV (r:=(Rp.sl c')) 1007 z z jT jB z ĳ z z (p.mono u) z (by rw[o];rfl) n a S λp7 l U e H Y O=>dQ z<|t'<|E'<|b'<|w'<|ν z<|iP z<|dQ z<|t'<|N' ⟨e,(c++[D]),p7,l,U,i64.wrap (B+1)⟩ hr ⟨(mx (mx d u) H),Y,O⟩ (Æ z) (w1 z)
 exact Η
instance Wo{g i r}:SpcM ((tY g i)) r (∀{e d},Cr 145 #[δ e g d,i' i] (λG=>sl (Rp.int .i8) G e d g) (λG v=>v=i' r)):=.mk λhr {e d}=>by
 refine J' (args:=[_,_]) (N:=16) func145 z z z (λm o l h=>?_);have c:=h;refine sr<|Ο z<|o'<|sr<|ν z<|Ε (P' Nt c z)<|Ε (eM z z)<|nx<|I' hr z (λk hr=>?_) (λk hr=>?_)
 .refine sr<|Ο z<|m'<|a' (Ö hr z z)
 refine q'<|b'<|sr<|ν z<|ν z<|ν z<|Ε (P' Nt c z)<|oA hr λj hr=>Ε (yb z z j)<|oE hr λn f hr=>Ε (kp Nt ta c z z f)<|Ε (nI sS z (zC (iQ c f)))<|Ε (pJ underlying196 BE z)<|Ο z<|m' (Ö hr z z)
instance hK'{H r}:SpcM ((xz H)) r (Cr 220 #[.agg ((DU H)).toArray] (λG=>True) (eB r)):=.mk λhr=>by
 refine J' (args:=[_]) (N:=49) func220 z z z λw0 G0 t k=>sr<|jU 1 z z z λQ=>W' 2 z D4 z λW=>nx<|o'<|fL [ff,ff,ff,ff,ff,ff,ff,ff,ff,ff] eL İ λE=>cn (λ_ c=>Y0.ZzT z) ?_
 refine æ ?_;intro u _ _ hr _;refine lr (λ_=>z) D3<|lr (λ_=>z) D3<|γ.tj (λv x y B a D M n K C=>?_)
 obtain⟨p,q,rfl,l⟩:=K;obtain⟨m,f,rfl,j⟩:=C;refine vW M (λX g h=>?_);subst g;replace n:=G6 n ĳ h;refine vW n (λO i s=>?_);subst i;refine mu (show WL _ _ _ _ _ _ (St w0 G0 a.m _)from ?_);refine gu 3 wA z<|gu 4 wA z<|t'<|Γ<|b'<|WC.nA hr [1,2,3,4] [1,2,3] (λ(⟨o,d,e⟩:Zg×ŀ Addr×Nat)=>⟨[],Ru H u o,λA=>su A d e o.υ,[(4,ú X (ζ o d e) 118)]⟩)
instance jm'{v1 k1 r}:SpcM ((Mt v1 k1)) r (∀{aq am},Cr 146 #[δ aq v1 am,i' k1] (λG=>sl (Rp.int .i8) G aq am v1) (λG v=>∃zk zu,v=.agg (zk).toArray/\É Z3 8 G zk zu r)):=.mk λhr {aq am}=>by
 refine Ν ?_;intro w0 M _ a d hr _;refine nJ (X:=Int×(Ŀ Zl)×Ŀ Value×Unit×Mem) hr (λ⟨i2,ar,ai,af,ap⟩=>⟨(i2,ar),[(0,δ aq v1 am),(1,i' k1),(4,iK a),(5,iK d),(6,i' i2)],Mem.le M ap/\É Z3 8 ap ai af ar,St w0 M ap [(4,ú a (jy) 225),(5,ú d (ai) 225)]⟩) (λ(⟨aB,al,az,N⟩:(Ŀ Zl)×Ŀ Value×Unit×Mem)=>⟨aB,[(0,δ aq v1 am),(1,i' k1),(4,iK a),(5,iK d)],Mem.le M N/\É Z3 8 N al az aB,St w0 M N [(4,ú a (jy) 225),(5,ú d (al) 225)]⟩) ⟨0,(List.replicate 8 (Zl.mk (Zf.mk (Zg.mk false []) (Zg.mk false [])) (Zf.mk (Zg.mk false []) (Zg.mk false [])))),jy,(),M⟩ z (Æ z) ⟨mr,(show É Z3 8 M jy () _ from zN (G:=M) (r:=Z3) (n:=8) (zc:=[.bool false,.slice none 0 0,.bool false,.slice none 0 0,.bool false,.slice none 0 0,.bool false,.slice none 0 0]) (z:=(Zl.mk (Zf.mk (Zg.mk false []) (Zg.mk false [])) (Zf.mk (Zg.mk false []) (Zg.mk false [])))) ⟨[.bool false,.slice none 0 0,.bool false,.slice none 0 0],[.bool false,.slice none 0 0,.bool false,.slice none 0 0],z,⟨[.bool false,.slice none 0 0],[.bool false,.slice none 0 0],z,⟨[.bool false],[.slice none 0 0],z,z,⟨_,z,(X' _ _)⟩⟩,⟨[.bool false],[.slice none 0 0],z,z,⟨_,z,(X' _ _)⟩⟩⟩,⟨[.bool false,.slice none 0 0],[.bool false,.slice none 0 0],z,⟨[.bool false],[.slice none 0 0],z,z,⟨_,z,(X' _ _)⟩⟩,⟨[.bool false],[.slice none 0 0],z,z,⟨_,z,(X' _ _)⟩⟩⟩⟩)⟩ (w2 z z) ?_ ?_
 .rintro _ ⟨i2,ar,ai,af,ap⟩ ⟨aC,aw⟩ hr;refine o'<|sr<|ν z<|kD z<|nx<|I' hr z (λa8 hr=>?_) (λa8 hr=>?_)
  .refine Ν ?_;intro D _ _ aj k t A y ae ah H ba P q B s x ac ag hr _;refine oE hr λx2 aR hr=>Ε (rB zO ke z z (rE (aw.mono (mx aj P)) aR))<|WL.u5 (cs':=[.bool D.num.neg,δ k D.num.υ t,.bool D.den.neg,δ A D.den.υ y,.bool H.num.neg,δ q H.num.υ B,.bool H.den.neg,δ s H.den.υ x]) (z':=(Zl.mk D H)) 5 z ke z ĳ (aw.mono (mx aj P)) z z z z ⟨(Τ D k t A y),(Τ H q B s x),z,⟨(ζ D.num k t),(ζ D.den A y),z,⟨[.bool D.num.neg],[δ k D.num.υ t],z,z,⟨_,z,(ae.mono P)⟩⟩,⟨[.bool D.den.neg],[δ A D.den.υ y],z,z,⟨_,z,(ah.mono P)⟩⟩⟩,⟨(ζ H.num q B),(ζ H.den s x),z,⟨[.bool H.num.neg],[δ q H.num.υ B],z,z,⟨_,z,ac⟩⟩,⟨[.bool H.den.neg],[δ s H.den.υ x],z,z,⟨_,z,ag⟩⟩⟩⟩ aR λd2 bc=>t'<|E' ?_
   refine æ ?_;intro hr;refine N' ⟨i64.wrap (i2+1),ar.set i2.toNat (Zl.mk D H),d2,af,ba⟩ hr ⟨(mx (mx aC aj) P),bc⟩ (Æ z) (w2 z z)
  refine nK<|p'<|p'<|K'<|oB ⟨ar,ai,af,ap⟩ ⟨hr,aC,aw⟩ (Æ z) (w2 z z)
 rintro⟨aB,al,az,N⟩ ⟨hr,aA,aZ⟩;refine b'<|o'<|sr<|Ο z<|nJ (X:=Int×(Ŀ Zl)×Ŀ Value×Unit×Mem) hr (λ⟨i1,au,ad,ak,ao⟩=>⟨(i1,au),[(0,δ aq v1 am),(1,i' k1),(4,iK a),(5,iK d),(7,i' i1)],Mem.le N ao/\É Z3 8 ao ad ak au,St w0 M ao [(4,ú a (jy) 225),(5,ú d (ad) 225)]⟩) (λ(⟨aN,ax,aO,ab⟩:(Ŀ Zl)×Ŀ Value×Unit×Mem)=>⟨aN,[(4,iK a),(5,iK d)],Mem.le N ab/\É Z3 8 ab ax aO aN,St w0 M ab [(4,ú a (jy) 225),(5,ú d (ax) 225)]⟩) ⟨0,aB,al,az,N⟩ z (Æ z) ⟨mr,aZ⟩ (w2 z z) ?_ ?_
 .rintro _ ⟨i1,au,ad,ak,ao⟩ ⟨W,ay⟩ hr;refine o'<|sr<|ν z<|kD z<|nx<|I' hr z (λa6 hr=>?_) (λa6 hr=>?_)
  .refine Ν ?_;intro aT hr _;refine Ε (me (vs:=#[(0,.int .i8 (i8.wrap aT)),(1,.int .i8 3)]) (v:=.agg ([.int .i8 (i8.wrap aT),.int .i8 3,.int .u8 0]).toArray) z z (λ_=>İ))<|oE hr λE a1 hr=>gW z z (x' IH z) (hK'.h a1) z (trivial) (λbl bq Y aI=>?_)
   obtain⟨l,o,m,p,rfl,U,R⟩:=aI;refine W' 8 z D4 z λb3=>gu 8 wB z<|nx<|fL [tt,ff,ff,ff,ff,ff,ff,ff,ff,ff,ff] eL İ λhb=>uA z (k' z) ?_
   refine æ ?_;intro aS hr _;refine cn (λ_ F=>me (vs:=#[(0,.int .i8 (i8.wrap (i64.wrap (BitVec.ofInt i64.bits aS &&& BitVec.ofInt i64.bits 7).toNat))),(1,.int .i8 2)]) (v:=.agg ([.int .i8 (i8.wrap (i64.wrap (BitVec.ofInt i64.bits aS &&& BitVec.ofInt i64.bits 7).toNat)),.int .i8 2,.int .u8 0]).toArray) z z (λ_=>İ)) ?_;refine æ ?_;intro aJ hr _;refine oE hr λC a2 hr=>mm (f:=205) (φ:=eB C) (λ_=>z) (λv G1 G2 F h=>?_) (λu G' F hu=>?_) ?_
   .obtain⟨j,c,e,g,rfl,K,L⟩:=h;exact⟨_,_,_,_,z,K.mono F,L.mono F⟩
   .obtain⟨⟨T,S,Q,O,aP,I,J⟩,_⟩:=(show(eB aJ) G'.m (u 40)/\True from hu);exact⟨_,_,_,λ_=>x' IC z,gX'.h a2,(by simp only[aP]<;>rfl),⟨(U.mono F),(R.mono F),I,J⟩⟩
   refine Ν ?_;intro a9 V j c e g K L _ _ _ _ _ _ hr;refine oE hr λx1 aU hr=>Ε (rB zO ke z z (rE (ay.mono (mx Y V)) aU))<|WL.u5 (cs':=[.bool E.num.neg,δ l E.num.υ o,.bool E.den.neg,δ m E.den.υ p,.bool C.num.neg,δ j C.num.υ c,.bool C.den.neg,δ e C.den.υ g]) (z':=(Zl.mk E C)) 5 z ke z ĳ (ay.mono (mx Y V)) z z z z ⟨(Τ E l o m p),(Τ C j c e g),z,⟨(ζ E.num l o),(ζ E.den m p),z,⟨[.bool E.num.neg],[δ l E.num.υ o],z,z,⟨_,z,(U.mono V)⟩⟩,⟨[.bool E.den.neg],[δ m E.den.υ p],z,z,⟨_,z,(R.mono V)⟩⟩⟩,⟨(ζ C.num j c),(ζ C.den e g),z,⟨[.bool C.num.neg],[δ j C.num.υ c],z,z,⟨_,z,K⟩⟩,⟨[.bool C.den.neg],[δ e C.den.υ g],z,z,⟨_,z,L⟩⟩⟩⟩ aU λd1 a7=>t'<|Γ ?_
   refine æ ?_;intro hr;refine N' ⟨i64.wrap (i1+1),au.set i1.toNat (Zl.mk E C),d1,ak,a9⟩ hr ⟨(mx (mx W Y) V),a7⟩ (Æ z) (w2 z z)
  refine nK<|p'<|p'<|K'<|oB ⟨au,ad,ak,ao⟩ ⟨hr,W,ay⟩ (Æ z) (w2 z z)
 rintro⟨aN,ax,aO,ab⟩ ⟨hr,bd,Z⟩;refine b'<|sr<|Ε (y' 5 mR z z (lL Z))<|A' 4 z l5 z z z (lL (show É Z3 8 ab jy () _ from zN (G:=ab) (r:=Z3) (n:=8) (zc:=[.bool false,.slice none 0 0,.bool false,.slice none 0 0,.bool false,.slice none 0 0,.bool false,.slice none 0 0]) (z:=(Zl.mk (Zf.mk (Zg.mk false []) (Zg.mk false [])) (Zf.mk (Zg.mk false []) (Zg.mk false [])))) ⟨[.bool false,.slice none 0 0,.bool false,.slice none 0 0],[.bool false,.slice none 0 0,.bool false,.slice none 0 0],z,⟨[.bool false,.slice none 0 0],[.bool false,.slice none 0 0],z,⟨[.bool false],[.slice none 0 0],z,z,⟨_,z,(X' _ _)⟩⟩,⟨[.bool false],[.slice none 0 0],z,z,⟨_,z,(X' _ _)⟩⟩⟩,⟨[.bool false,.slice none 0 0],[.bool false,.slice none 0 0],z,⟨[.bool false],[.slice none 0 0],z,z,⟨_,z,(X' _ _)⟩⟩,⟨[.bool false],[.slice none 0 0],z,z,⟨_,z,(X' _ _)⟩⟩⟩⟩)) (lL Z) (É.one Z)<|nx<|m' ?_
 obtain rfl:_=r:=hr;exact j' z (kJ (i:=4) mR z z (lL Z)) ⟨_,_,z,Z⟩
set_option maxHeartbeats 2000000 in
instance hM'{g r}:SpcM ((Ei g)) r (∀{U S Q T},Cr 81 #[.agg ((DS g U S Q T)).toArray] (λG=>sl ZQ G U S g.l/\sl (Rp.int .i8) G Q T g.v) (OW r)):=.mk λhr {U S Q T}=>by
 refine J' (args:=[_]) (N:=122) func81 z z z (λw0 G0 b0 cv=>?_);obtain⟨bu,O⟩:=cv;refine sr<|jU 1 z z z λb1=>W' 2 z H5 z λb2=>nr<|Ε (Y0.ZzQ z)<|Ε (n' 1 yv z z z)<|oE hr λbi ci hr=>gW z z (x' Ip z) (jb'.h ci) z (bu) (λc7 db av bo=>?_)
 obtain⟨bD,bw,rfl,a9⟩:=bo;refine dQ z<|nr<|Ε (Y0.ZzP z)<|Ε (n' 1 zV z z z)<|Ε (yb z z ĳ)<|Ε (pJ GP BE z)<|iP z<|Ε (me (vs:=#[(0,i' (i64.wrap (1+(i64.wrap (Int.tmod g.kind 13)))))]) (v:=.agg ([i' (i64.wrap (1+(i64.wrap (Int.tmod g.kind 13)))),.slice none 0 0,i' 0,i' 0,i' 0,.slice none 0 0,.slice none 0 0,.slice none 0 0,.slice none 0 0]).toArray) z z (λ_=>İ))<|W' 4 z H5 z λb3=>gu 4 td z<|nx<|o'<|fL [ff,ff,ff,ff,ff,ff,ff,ff,ff] eL İ λhb=>?_
 refine æ ?_;intro aM hr _;refine oE hr λX bX hr=>ko (φ:=λG v=>∃p1 ax,v=.pointer (some ⟨pb p1,po p1+(0:Int).toNat*1,none⟩)/\sq G p1 ax aM) (λ_=>z) (λv G1 G2 j h=>?_) (λu G' j a=>?_) ?_
 .obtain⟨p1,ax,rfl,bh⟩:=h;exact⟨_,_,z,bh.mono j⟩
 .obtain⟨⟨a8,a5,bJ,aI⟩,_⟩:=(show(fT (Rp.sl c') aM) G'.m (u 18)/\True from a);simp only[ς,bJ];exact⟨_,kp jT kV aI z z bX,a8,a5,z,aI⟩
 refine ko (φ:=fT c' X) (λ_=>z) (λv G1 G2 j h=>?_) (λu G' j a=>?_) ?_
 .obtain⟨p4,bz,rfl,be⟩:=h;exact⟨_,_,z,be.mono j⟩
 .obtain⟨⟨p1,ax,bL,bh⟩,_,_⟩:=(show(λG v=>∃p1 ax,v=.pointer (some ⟨pb p1,po p1+(0:Int).toNat*1,none⟩)/\sq G p1 ax aM) G'.m (u 19)/\True/\True from a);obtain⟨p3,cH,cC,cO⟩:=yd (iQ bh bX);simp only[ς,bL];exact⟨_,nI mH z (cC),p3,cH,z,cO⟩
 refine cu (λ_ _ j=>Y0.Vw z)<|cu (λ_ _ j=>n' 1 sR z z z)<|oE hr λq cr hr=>γ.vR (f:=145) (c:=i' q) (λ_=>z) (λu G' j a=>?_) ?_
 .obtain⟨_,_,_,_⟩:=(show True/\True/\True/\True from a);exact⟨_,_,_,λ_=>x' z6 z,Wo.h cr,z,((O.mono av).mono j)⟩
 refine cu (λ_ _ j=>Y0.and z z)<|ko (φ:=fT c' X) (λ_=>z) (λv G1 G2 j h=>?_) (λu G' j a=>?_) ?_
 .obtain⟨p5,ad,rfl,a2⟩:=h;exact⟨_,_,z,a2.mono j⟩
 .obtain⟨⟨p4,bz,bH,be⟩,_,_,_⟩:=(show(fT c' X) G'.m (u 20)/\True/\True/\True from a);simp only[ς,bH];exact⟨_,rz z,p4,bz,z,be⟩
 refine γ.ti (d0:=5) (post0:=fT c' X) (d1:=20) (post1:=fT c' X) (d2:=19) (post2:=λG v=>∃p1 ax,v=.pointer (some ⟨pb p1,po p1+(0:Int).toNat*1,none⟩)/\sq G p1 ax aM) (d3:=18) (post3:=fT (Rp.sl c') aM) (λc2 c4 c3 c5 bd V bm bp bs bt=>?_);obtain⟨p5,ad,rfl,a2⟩:=bm;obtain⟨p4,bz,rfl,be⟩:=bp;obtain⟨p1,ax,rfl,bh⟩:=bs;obtain⟨a8,a5,rfl,aI⟩:=bt;refine dQ z<|t'<|Γ<|b'<|o'<|sr<|Ε (zD z)<|Ε (n' 4 eC z z z)<|nx<|Y'<|WC.nD hr [1,2,3,4,5,6,26] [1,2,4] (λ(aW:Bool)=>⟨[(27,.bool aW)],xg g bi X q aW,tr,[]⟩) ?_ ?_
 .refine sr<|Ε (eM z z)<|Ο z<|I' hr z (λcl hr=>?_) (λcl hr=>?_)
  .exact Η
  refine sr<|Ε (eM z z)<|Ο z<|I' hr z (λcc hr=>?_) (λcc hr=>?_)
  .exact Η
  exact Η
 intro aO aW hr C _;refine kh hr z (λcV hr=>?_) (λcV hr=>?_)
 .refine Ν ?_;intro hr;obtain rfl:_=r:=hr;exact j' z (kJ (i:=2) BJ z z z) ⟨_,_,_,_,_,_,_,_,_,_,z,(a2.mono C),(X' (gf .i64 8) _),(X' (Rp.sl c') _),(X' (Rp.int .i64) _),(X' (Rp.arr Z3 8) _)⟩
 refine sr<|Ε (eM z z)<|Ο z<|I' hr z (λcL hr=>?_) (λcL hr=>?_)
 .refine Ν ?_;intro _ _ _ _ _ _ _ _ cy _ _ bK _ _ ch hr _;obtain rfl:_=r:=hr;exact j' z (kJ (i:=2) BJ z z z) ⟨_,_,_,_,_,_,_,_,_,_,z,(X' c' _),(cy.mono bK),ch,(X' (Rp.int .i64) _),(X' (Rp.arr Z3 8) _)⟩
 refine sr<|Ε (eM z z)<|Ο z<|I' hr z (λcP hr=>?_) (λcP hr=>?_)
 .refine Ν ?_;intro _ hr _;obtain rfl:_=r:=hr;exact j' z (kJ (i:=2) BJ z z z) ⟨_,_,_,_,_,_,_,_,_,_,z,(X' c' _),(X' (gf .i64 8) _),(X' (Rp.sl c') _),(X' (Rp.int .i64) _),(X' (Rp.arr Z3 8) _)⟩
 refine sr<|Ε (eM z z)<|Ο z<|I' hr z (λcJ hr=>?_) (λcJ hr=>?_)
 .refine Ν ?_;intro hr;obtain rfl:_=r:=hr;exact j' z (kJ (i:=2) BJ z z z) ⟨_,_,_,_,_,_,_,_,_,_,z,(X' c' _),(X' (gf .i64 8) _),(X' (Rp.sl c') _),(X' (Rp.int .i64) _),(X' (Rp.arr Z3 8) _)⟩
 refine WC.nD hr [1,2,3,4,5,6,26] [1,2,4] (λ(aV:Bool)=>⟨[(69,.bool aV)],JA g bi X q aV,tr,[]⟩) ?_ ?_
 .refine sr<|Ε (eM z z)<|Ο z<|I' hr z (λco hr=>?_) (λco hr=>?_)
  .exact Η
  exact Η
 intro aN aV hr ai _;refine kh hr z (λcS hr=>?_) (λcS hr=>?_)
 .refine o'<|sr<|Ο z<|WC.mD (hH:=by exact⟨(X' _ _),(X' _ _),(X' _ _),(X' _ _),la,(X' _ _),la⟩) hr [1,2,4,5,6] [1,2] [2,4,5] [2] (λ(⟨aF,m,af,Z,Y,K,L,M,I,y,A,H,B,x,t,E,D,R,s,ar,al,ap⟩:Int×Int×(Ŀ Za)×ŀ Addr×Nat×Int×Int×Int×(Ŀ (Fin 8->Int))×ŀ Addr×Nat×(Ŀ (Ŀ Za))×ŀ Addr×Nat×(Ŀ Int)×ŀ Addr×Nat×ŀ Ow×(Ŀ (Ŀ Zl))×ŀ Addr×Nat×ŀ Ow)=>⟨(aF,m,af,K,L,M,I,H,t,s),[(7,i' aF)],λaj=>sl c' aj Z Y af/\sv aj y A I/\sq aj B x H/\sl (Rp.int .i64) aj E D t/\Tok 1 3 (δ E t D) t.length R/\sl (Rp.arr Z3 8) aj ar al s/\Tok 64 225 (δ ar s al) s.length ap,[(4,ú b3 ([i' m,δ Z af Y,i' K,i' L,i' M,δ y I A,δ B H x,δ E t D,δ ar s al]) 89),(310047,R),(310048,ap)]⟩) (λ(⟨W,aT,aR,aU,aQ,aY,aZ,aJ,az,aB,aG,aA,aC,ag,am,ao,aE,ah,aq,ak,aD⟩:Int×(Ŀ Za)×ŀ Addr×Nat×Int×Int×Int×(Ŀ (Fin 8->Int))×ŀ Addr×Nat×(Ŀ (Ŀ Za))×ŀ Addr×Nat×(Ŀ Int)×ŀ Addr×Nat×ŀ Ow×(Ŀ (Ŀ Zl))×ŀ Addr×Nat×ŀ Ow)=>⟨(W,aT,aQ,aY,aZ,aJ,aG,ag,ah),[],λaw=>sl c' aw aR aU aT/\sv aw az aB aJ/\sq aw aA aC aG/\sl (Rp.int .i64) aw am ao ag/\Tok 1 3 (δ am ag ao) ag.length aE/\sl (Rp.arr Z3 8) aw aq ak ah/\Tok 64 225 (δ aq ah ak) ah.length aD,[(4,ú b3 ([i' W,δ aR aT aU,i' aQ,i' aY,i' aZ,δ az aJ aB,δ aA aG aC,δ am ag ao,δ aq ah ak]) 89),(310047,aE),(310048,aD)]⟩) ⟨0,i64.wrap (1+(i64.wrap (Int.tmod g.kind 13))),[],none,0,0,0,0,[],none,0,[],none,0,[],none,0,none,[],none,0,none⟩ ?_ ?_
  .rintro _ aj ⟨aF,m,af,Z,Y,K,L,M,I,y,A,H,B,x,t,E,D,R,s,ar,al,ap⟩ ab ⟨bl,aP,aX,aS,aH,bj,a1⟩ hr;refine o' ?_;refine æ ?_;intro hr;refine I' hr z (λcG hr=>?_) (λcG hr=>?_)
   .refine q'<|b'<|o'<|Y'<|o'<|fL [ff,ff,ff,ff,ff,ff,ff] eL İ λhb=>cn (λ_ j=>zG z)<|cn (λ_ j=>n' 4 q6 z z z) ?_
    refine æ ?_;intro J hr _;refine tO (r:=(Rp.arr Z3 8)) (e:=225) ([J]:Ŀ (Ŀ Zl)) (λ_=>z) z ĳ (λu G' j a=>?_) ?_
    .obtain⟨⟨k,F,bv,an⟩,_⟩:=(show(λG v=>∃k F,v=.agg (k).toArray/\É Z3 8 G k F J) G'.m (u 83)/\True from a);simp only[ς,bv];exact⟨#[(0,.agg (k).toArray)],k++([]),z,z,wj (n:=64) (lL an) (λ_=>(λ_=>İ)),⟨k,[],z,an,z⟩⟩
    refine γ.tg (d:=84) (post:=λG v=>∃p6 bZ,v=.slice p6 1 1/\jq (Rp.arr Z3 8) G (.slice p6 1 1) bZ [J]) (d':=83) (post':=λG v=>∃k F,v=.agg (k).toArray/\É Z3 8 G k F J) (λcW cZ da o a6 a7=>?_);obtain⟨p6,bZ,rfl,cD⟩:=a6;obtain⟨k,F,rfl,an⟩:=a7;refine oA hr λb9 hr=>jV (r:=(Rp.arr Z3 8)) 310048 z z uw B7 z ĳ z z (bj.mono o) z (by rw[b0];rfl) a1 cD b9 λp7 a3 bx cI p b4 bA=>Ε (zG z)<|rp 4 ([i' m,δ Z af Y,i' K,i' L,i' M,δ y I A,δ B H x,δ E t D,.slice p7 (s++[J]).length a3]).toArray z DJ z z z (show 8<9 by decide) z z<|t' ?_
    refine æ ?_;intro hr;refine I' hr z (λcM hr=>?_) (λcM hr=>?_)
    .refine WC.pZ (Bt:=λ_=>True) (l:=iw [0,1,2,3,4,5,6,7,8,9,10,12,11,13,14,15] _) (FI İ) (λ_ _ _ _ _=>trivial) [tt,ff,ff,ff,ff,ff,ff,ff,ff,ff,ff,tt] eL İ λhb=>uA z (k' z)<|cn (λ_ j=>Y0.VO z)<|cn (λ_ j=>n' 4 sV z z z)<|cn (λ_ j=>Y0.Vw z)<|cn (λ_ j=>n' 1 sR z z z)<|fN z ?_
     obtain⟨ae,bQ,hr⟩:=hr;have N1:=mx (mx (mx (mx (mx (mx av V) C) ai) ab) o) p;refine uy z (λ_=>x' z6 z) (Wo.h bQ) z (λG' j=>((O.mono N1).mono j))<|cn (λ_ j=>Y0.and z z)<|cn (λ_ j=>yb z z ĳ)<|cn (λ_ j=>Y0.sub z z)<|tO (r:=(Rp.int .i64)) (e:=3) ([i64.wrap ((Int.tmod (i64.wrap (BitVec.ofInt i64.bits ae &&& BitVec.ofInt i64.bits 127).toNat) 3)-1)]:Ŀ Int) (λ_=>z) z ĳ (λu G' j a=>?_) ?_
     .exact⟨#[(0,i' (i64.wrap ((Int.tmod (i64.wrap (BitVec.ofInt i64.bits ae &&& BitVec.ofInt i64.bits 127).toNat) 3)-1)))],[i' (i64.wrap ((Int.tmod (i64.wrap (BitVec.ofInt i64.bits ae &&& BitVec.ofInt i64.bits 127).toNat) 3)-1))]++([]),z,z,λ_=>by kernel_rfl,⟨[i' (i64.wrap ((Int.tmod (i64.wrap (BitVec.ofInt i64.bits ae &&& BitVec.ofInt i64.bits 127).toNat) 3)-1))],[],z,z,z⟩⟩
     refine γ.sB (λ_=>z) (λ_=>Y0.VI z)<|γ.pz (d:=100) (post:=λG v=>∃p8 b6,v=.slice p8 1 1/\jq (Rp.int .i64) G (.slice p8 1 1) b6 [i64.wrap ((Int.tmod (i64.wrap (BitVec.ofInt i64.bits ae &&& BitVec.ofInt i64.bits 127).toNat) 3)-1)]) (λcX dc aa ba=>?_)
     obtain⟨p8,b6,rfl,cA⟩:=ba;obtain⟨cm,hr⟩:=hr;have N2:=mx (mx o p) aa;refine jV (r:=(Rp.int .i64)) 310047 z z zB Nn z ĳ z z (aS.mono N2) z (by rw[b0];rfl) aH cA cm λp9 b5 cb b7 P cF ck=>rp 4 ([i' m,δ p5 X ad,i' K,i' L,i' M,δ y I A,δ B H x,δ E t D,.slice p7 (s++[J]).length a3]).toArray z kV z z z (show 1<9 by decide) z z<|Ε (Y0.VO z)<|rp 4 ([i' m,δ p5 X ad,i' K,i' L,i' M,δ y I A,δ B H x,.slice p9 (t++[i64.wrap ((Int.tmod (i64.wrap (BitVec.ofInt i64.bits ae &&& BitVec.ofInt i64.bits 127).toNat) 3)-1)]).length b5,.slice p7 (s++[J]).length a3]).toArray z DH z z z (show 7<9 by decide) z z<|t'<|Γ<|E' ?_
     refine æ ?_;intro hr;refine N' ⟨b7,i64.wrap (aF+1),m,X,p5,ad,K,L,M,I,y,A,H,B,x,(t++[i64.wrap ((Int.tmod (i64.wrap (BitVec.ofInt i64.bits ae &&& BitVec.ofInt i64.bits 127).toNat) 3)-1)]),p9,b5,cb,(s++[J]),p7,a3,bx⟩ hr ⟨(mx (mx (mx (mx ab o) p) aa) P),(a2.mono (mx (mx (mx (mx (mx (mx C ai) ab) o) p) aa) P)),(aP.mono (mx N2 P)),(aX.mono (mx N2 P)),cF,ck,(b4.mono (mx aa P)),bA⟩ (Æ z) (w5 z z z z z)
    refine Ν ?_;intro hr;refine N' ⟨cI,i64.wrap (aF+1),m,af,Z,Y,K,L,M,I,y,A,H,B,x,t,E,D,R,(s++[J]),p7,a3,bx⟩ hr ⟨(mx (mx ab o) p),(bl.mono (mx o p)),(aP.mono (mx o p)),(aX.mono (mx o p)),(aS.mono (mx o p)),aH,b4,bA⟩ (Æ z) (w5 z z z z z)
   refine nK<|p'<|p'<|K'<|oB ⟨aj,m,af,Z,Y,K,L,M,I,y,A,H,B,x,t,E,D,R,s,ar,al,ap⟩ ⟨hr,ab,bl,aP,aX,aS,aH,bj,a1⟩ (Æ z) (w4 z z z z)
  rintro aw ⟨W,aT,aR,aU,aQ,aY,aZ,aJ,az,aB,aG,aA,aC,ag,am,ao,aE,ah,aq,ak,aD⟩ hr bG ⟨bN,bf,bk,bg,cT,bc,cE⟩;refine æ ?_;intro hr;refine I' hr z (λcN hr=>?_) (λcN hr=>?_)
  .refine Ν ?_;intro hr;obtain rfl:_=r:=hr;exact j' z (kJ (i:=2) BJ z z z) ⟨_,_,_,_,_,_,_,_,_,_,z,(a2.mono (mx (mx C ai) bG)),bf,bk,bg,bc⟩
  refine Ν ?_;intro hr;obtain rfl:_=r:=hr;exact j' z (kJ (i:=2) BJ z z z) ⟨_,_,_,_,_,_,_,_,_,_,z,bN,bf,bk,bg,bc⟩
 refine sr<|Ε (eM z z)<|Ο z<|I' hr z (λcK hr=>?_) (λcK hr=>?_)
 .refine Ν ?_;intro _ _ _ _ _ bP hr _;obtain rfl:_=r:=hr;exact j' z (kJ (i:=2) BJ z z z) ⟨_,_,_,_,_,_,_,_,_,_,z,(X' c' _),(X' (gf .i64 8) _),bP,(X' (Rp.int .i64) _),(X' (Rp.arr Z3 8) _)⟩
 refine o'<|sr<|Ε (eM z z)<|Ο z<|I' hr z (λcp hr=>?_) (λcp hr=>?_)
 .refine q'<|b'<|I' hr z (λce hr=>?_) (λce hr=>?_)
  .refine Ν ?_;intro hr;obtain rfl:_=r:=hr;exact j' z (kJ (i:=2) BJ z z z) ⟨_,_,_,_,_,_,_,_,_,_,z,(X' c' _),(X' (gf .i64 8) _),(X' (Rp.sl c') _),(X' (Rp.int .i64) _),(X' (Rp.arr Z3 8) _)⟩
  refine Ν ?_;intro hr;obtain rfl:_=r:=hr;exact j' z (kJ (i:=2) BJ z z z) ⟨_,_,_,_,_,_,_,_,_,_,z,(X' c' _),(X' (gf .i64 8) _),(X' (Rp.sl c') _),(X' (Rp.int .i64) _),(X' (Rp.arr Z3 8) _)⟩
 refine w'<|Ε (eM z z)<|Ο z<|I' hr z (λcx hr=>?_) (λcx hr=>?_)
 .refine Ν ?_;intro hr;obtain rfl:_=r:=hr;exact j' z (kJ (i:=2) BJ z z z) ⟨_,_,_,_,_,_,_,_,_,_,z,(X' c' _),(X' (gf .i64 8) _),(X' (Rp.sl c') _),(X' (Rp.int .i64) _),(X' (Rp.arr Z3 8) _)⟩
 refine Ν ?_;intro hr;obtain rfl:_=r:=hr;exact j' z (kJ (i:=2) BJ z z z) ⟨_,_,_,_,_,_,_,_,_,_,z,(X' c' _),(X' (gf .i64 8) _),(X' (Rp.sl c') _),(X' (Rp.int .i64) _),(X' (Rp.arr Z3 8) _)⟩
instance gq'{I r}:SpcM ((AW I)) r (∀{A B p q y C K F},Cr 35 #[.agg ((tu I A B p q y C K F)).toArray] (λG=>sl ZQ G A B I.c.l/\sl (Rp.int .u8) G p q I.c.iT/\sl (gf .i8 5) G y C I.p.t/\sl tW G K F I.l) (fT yP r)):=.mk λhr {A B p q y C K F}=>by
 refine Ν ?_;intro w0 G0 _ T _ _ _ _ _ b1 p1 U _ av hr _;refine WC.mC (hH:=by exact⟨av,la⟩) hr [1] [1] [] [] (λ(⟨x,t,u,s,a⟩:(Ŀ Zk)×ŀ Addr×Nat×ŀ Ow×Int)=>⟨(x,a),[(3,δ t x u),(4,i' a)],λv=>sl yP v t u x/\Tok 9 89 (δ t x u) x.length s,[(1003,s)]⟩) (λ(⟨S,M,O,J⟩:(Ŀ Zk)×ŀ Addr×Nat×ŀ Ow)=>⟨S,[(3,δ M S O)],λQ=>sl yP Q M O S/\Tok 9 89 (δ M S O) S.length J,[(1003,J)]⟩) ⟨[],p1,0,none,0⟩ ?_;rintro _ v ⟨x,t,u,s,a⟩ m ⟨V,E⟩ hr;refine Ν ?_;intro _ _ _ _ _ _ _ _ _ _ _ _ _ _ _ ai hr al;refine oE hr λc aj hr=>gW z z (x' Yr z) (hM'.h aj) z (⟨ai,al⟩) (λaI aM L R=>?_);obtain⟨o,n,l,k,j,i,h,g,d,f,rfl,Z,D,W,H,Y⟩:=R;refine nb (e:=89) (r:=yP) (vs:=#[(0,.agg ((jY c o n l k j i h g d f)).toArray)]) (cs:=(jY c o n l k j i h g d f)++([])) ([c]:Ŀ Zk) z z z z z ĳ (λ_=>İ) ⟨(jY c o n l k j i h g d f),[],z,⟨[i' c.kind],[δ o c.p n,i' c.n,i' c.d,i' c.r,δ l c.o k,δ j c.l i,δ h c.s g,δ d c.b f],z,z,⟨[δ o c.p n],[i' c.n,i' c.d,i' c.r,δ l c.o k,δ j c.l i,δ h c.s g,δ d c.b f],z,⟨_,z,Z⟩,⟨[i' c.n],[i' c.d,i' c.r,δ l c.o k,δ j c.l i,δ h c.s g,δ d c.b f],z,z,⟨[i' c.d],[i' c.r,δ l c.o k,δ j c.l i,δ h c.s g,δ d c.b f],z,z,⟨[i' c.r],[δ l c.o k,δ j c.l i,δ h c.s g,δ d c.b f],z,z,⟨[δ l c.o k],[δ j c.l i,δ h c.s g,δ d c.b f],z,⟨_,z,D⟩,⟨[δ j c.l i],[δ h c.s g,δ d c.b f],z,⟨_,z,W⟩,⟨[δ h c.s g],[δ d c.b f],z,⟨_,z,H⟩,⟨_,z,Y⟩⟩⟩⟩⟩⟩⟩⟩⟩,z⟩ (key:=999) z (by rw[T];rfl) (λp2 aN P ax=>?_);refine oA hr λX hr=>jV (r:=yP) 1003 z z M7 Nq z ĳ z z (V.mono (mx L P)) z (by rw[T];rfl) E ax X λp3 ar af an N aw ah=>dQ z<|t'<|E'<|b'<|w'<|ν z<|iP z<|dQ z<|t'<|N' ⟨an,(x++[c]),p3,ar,af,i64.wrap (a+1)⟩ hr ⟨(mx (mx (mx m L) P) N),aw,ah⟩ (Æ z) (w2 z z)
instance my{b1 a r}:SpcM ((Sp b1 a)) r (∀{aw ao Z i I K Y N av aq},Cr 12 #[.agg ((fS b1 aw ao)).toArray,.agg ((tu a Z i I K Y N av aq)).toArray] (λG=>sl Zr G aw ao b1.t/\sl ZQ G Z i a.c.l/\sl (Rp.int .u8) G I K a.c.iT/\sl (gf .i8 5) G Y N a.p.t/\sl tW G av aq a.l) (Ç r)):=.mk λhr {aw ao Z i I K Y N av aq}=>by
 refine æ ?_;intro w0 G0 _ _ _ M _ P _ A R _ _ _ hr V;refine o' ?_;refine æ ?_;intro hr;refine I' hr z (λa0 hr=>?_) (λa0 hr=>?_)
 .refine sr<|Ε (y' 3 xT z z z)<|oE hr λbh aK hr=>gW z z (x' O8 z) (Wr.h aK) z (⟨P,A,R,V⟩) (λbe bg p ad=>?_)
  obtain⟨aS,aT,aG,aO,rfl,J,F⟩:=ad;refine W' 7 z rK z λb5=>gu 7 py z<|nx<|o'<|fL [ff,ff,ff,ff,ff,ff,ff,ff,tt,tt,ff] eL İ λhb=>cn (λ_ d=>y' 2 uu z z z) ?_
  refine æ ?_;intro q hr _;refine oE hr λt aP hr=>mm (f:=27) (φ:=Ç t) (λ_=>z) (λv U W d h=>?_) (λu l d m=>?_) ?_
  .obtain⟨x,B,rfl,o⟩:=h;exact⟨_,_,z,o.mono d⟩
  .obtain⟨⟨e,j,k,g,aB,E,D⟩,_⟩:=(show(λG v=>∃e j k g,v=.agg ([i' q.kind,δ e q.p j,δ k q.o g]).toArray/\sl c' G e j q.p/\sv G k g q.o) l.m (u 24)/\True from m);exact⟨_,_,_,λ_=>x' Ag z,Cf.h aP,(by simp only[aB]<;>rfl),⟨((M.mono p).mono d),(J.mono d),(F.mono d),E,D⟩⟩
  refine ko (φ:=Ç t) (λ_=>z) (λv U W d h=>?_) (λu l d m=>?_) ?_
  .obtain⟨p1,T,rfl,L⟩:=h;exact⟨_,_,z,L.mono d⟩
  .obtain⟨⟨x,B,aC,o⟩,_,_⟩:=(show(Ç t) l.m (u 25)/\True/\True from m);simp only[ς,aC];exact⟨_,k' z,x,B,z,o⟩
  refine ko (φ:=kI t.1) (λ_=>z) (λv U W d h=>?_) (λu l d m=>?_) ?_
  .obtain⟨p2,aX,rfl,ap⟩:=h;exact⟨_,_,z,ap.mono d⟩
  .obtain⟨⟨p1,T,s,L⟩,_,_,_⟩:=(show(Ç t) l.m (u 19)/\True/\True/\True from m);simp only[ς,s];exact⟨_,O' z z,p1,T,z,L⟩
  refine nh (c:=i' t.2.1) (λ_=>z) (λu l d m=>?_) ?_
  .obtain⟨_,⟨p1,T,s,L⟩,_,_,_⟩:=(show True/\(Ç t) l.m (u 19)/\True/\True/\True from m);simp only[ς,s];exact O' z z
  refine nh (c:=i' t.2.2) (λ_=>z) (λu l d m=>?_) ?_
  .obtain⟨_,⟨p1,T,s,L⟩,_,_,_⟩:=(show True/\(Ç t) l.m (u 19)/\True/\True/\True from m);simp only[ς,s];exact O' z z
  refine lr (λ_=>z) z26<|yg (λbi a5 bb a6 bc X1 aN au ag ae aj ak=>?_)
  obtain⟨b6,rfl,aI⟩:=au;obtain⟨p2,aX,rfl,ap⟩:=ag;obtain⟨p1,T,rfl,L⟩:=ae;obtain⟨x,B,rfl,o⟩:=aj;obtain⟨e,j,k,g,rfl,E,D⟩:=ak;refine pY aI (mu (show WL _ _ _ _ _ _ (St w0 G0 X1.m _)from ?_));exact Η
 refine q'<|b'<|o'<|fL [ff,ff,ff,ff,ff,ff,ff,ff,ff,ff,tt,ff] eL İ λhb=>?_
 refine æ ?_;intro aE hr _;refine oE hr λH aQ hr=>mm (f:=36) (φ:=jn H) (λ_=>z) (λv U W d h=>?_) (λu l d m=>?_) ?_
 .obtain⟨y,C,rfl,n⟩:=h;exact⟨_,_,z,n.mono d⟩
 .obtain⟨⟨ar,am,aD,Q⟩,_⟩:=(show(fT yP aE) l.m (u 42)/\True from m);exact⟨_,_,_,λ_=>x' Jc z,Nh.h aQ,(by simp only[aD]<;>rfl),⟨(M.mono d),Q⟩⟩
 refine ko (φ:=jn H) (λ_=>z) (λv U W d h=>?_) (λu l d m=>?_) ?_
 .obtain⟨p3,X,rfl,S⟩:=h;exact⟨_,_,z,S.mono d⟩
 .obtain⟨⟨y,C,aA,n⟩,_,_⟩:=(show(jn H) l.m (u 45)/\True/\True from m);simp only[ς,aA];exact⟨_,k' z,y,C,z,n⟩
 refine ko (φ:=kI H.1) (λ_=>z) (λv U W d h=>?_) (λu l d m=>?_) ?_
 .obtain⟨p4,aU,rfl,an⟩:=h;exact⟨_,_,z,an.mono d⟩
 .obtain⟨⟨p3,X,O,S⟩,_,_,_⟩:=(show(jn H) l.m (u 37)/\True/\True/\True from m);simp only[ς,O];exact⟨_,O' z z,p3,X,z,S⟩
 refine nh (c:=i' H.2) (λ_=>z) (λu l d m=>?_) ?_
 .obtain⟨_,⟨p3,X,O,S⟩,_,_,_⟩:=(show True/\(jn H) l.m (u 37)/\True/\True/\True from m);simp only[ς,O];exact O' z z
 refine lr (λ_=>z) z26<|yg (λbj bd a3 ba a4 X2 aM ax ah af al ac=>?_)
 obtain⟨b7,rfl,aH⟩:=ax;obtain⟨p4,aU,rfl,an⟩:=ah;obtain⟨p3,X,rfl,S⟩:=af;obtain⟨y,C,rfl,n⟩:=al;obtain⟨ar,am,rfl,Q⟩:=ac;refine pY aH (mu (show WL _ _ _ _ _ _ (St w0 G0 X2.m _)from ?_));exact Η
instance hN'{Z W r}:SpcM ((LG Z W)) r (∀{S R},Cr 20 #[.agg ((fS Z S R)).toArray,i' W] (λG=>sl Zr G S R Z.t) (λG v=>∃J E x u P O K L,v=.tuple #[.agg ((fA r.1 J E x u P O K L)).toArray,.bool r.2]/\sq G J E r.1.k.eqs/\sq G x u r.1.k.neqs/\sl c' G P O r.1.q.p/\sv G K L r.1.q.o)):=.mk λhr {S R}=>by refine Ν ?_;intro w0 V _ i a hr _;refine WC.mA hr [1,2,4] [2] [4] [] (λ(⟨g,q,e,f,c,d,m,j,n,k⟩:Int×Zb×ŀ Addr×Nat×ŀ Addr×Nat×ŀ Addr×Nat×ŀ Addr×Nat)=>⟨(g,q),[(6,i' g)],λs=>sq s e f q.k.eqs/\sq s c d q.k.neqs/\sl c' s m j q.q.p/\sv s n k q.q.o,[(4,ú a (fA q e f c d m j n k) 56)]⟩) (λ(⟨B,p,o,l,h,C,A,y,F⟩:Zb×ŀ Addr×Nat×ŀ Addr×Nat×ŀ Addr×Nat×ŀ Addr×Nat)=>⟨(.inr B),[],λI=>sq I p o B.k.eqs/\sq I l h B.k.neqs/\sl c' I C A B.q.p/\sv I y F B.q.o,[(4,ú a (fA B p o l h C A y F) 56)]⟩) ⟨0,(Zb.mk 0 (Zd.mk 0 [] []) (Zc.mk 0 [] []) 0 0 0 false),none,0,none,0,none,0,none,0⟩
instance Wy{k n r}:SpcM ((FU k n)) r (∀{i h},Cr 162 #[δ i k h,i' n] (λG=>sq G i h k) (λG v=>v=.bool r)):=.mk λhr {i h}=>by refine Ν ?_;intro s f _ hr _;refine WC.mA hr [0,1] [] [] [] (λ(j:Int)=>⟨j,[(5,i' j)],tr,[]⟩) (λ(_:Unit)=>⟨(.inr ()),[],tr,[]⟩) 0
instance Nv{c r}:SpcM ((FR c)) r (Cr 163 #[i' c] (λG=>True) (λG v=>v=.bool r)):=.mk λhr=>Η
instance ic'{k r}:SpcM ((J1 k)) r (∀{i e h f d c j g},Cr 237 #[.agg ((wJ k i e h f d c j g)).toArray] (λG=>su G i e k.lo.num.υ/\su G h f k.lo.den.υ/\su G d c k.hi.num.υ/\su G j g k.hi.den.υ) (λG v=>v=.bool r)):=.mk λhr {i e h f d c j g}=>Η
instance Wz{u r}:SpcM ((vx u)) r (∀{i f j g},Cr 238 #[.agg ((Τ u i f j g)).toArray] (λG=>su G i f u.num.υ/\su G j g u.den.υ) (λG v=>v=.bool r)):=.mk λhr {i f j g}=>Η
instance lx{x E r}:SpcM ((FQ x E)) r (∀{p n},Cr 164 #[δ p x n,i' E] (λG=>sl (Rp.arr Z3 8) G p n x) (λG v=>v=.bool r)):=.mk λhr {p n}=>by
 refine J' (args:=[_,_]) (N:=55) func164 z z z (λP s aw af=>?_);have e:=af;refine sr<|Ο z<|o'<|sr<|ν z<|Ε (P' uw e z)<|Ε (vJ z z)<|nx<|I' hr z (λar hr=>?_) (λar hr=>?_)
 .exact (show False from hr).elim
 refine q'<|b'<|o'<|sr<|Ο z<|WC.mD hr [0,1] [] [] [] (λ(u:Int)=>⟨u,[(5,i' u)],tr,[]⟩) (λ(_:Unit)=>⟨(.inr ()),[],tr,[]⟩) 0 ?_ ?_
 .intro _ f u d _ hr;refine o'<|sr<|ν z<|ν z<|Ε (P' uw (e.mono d) z)<|kD z<|nx<|I' hr z (λan hr=>?_) (λan hr=>?_)
  .refine q'<|b'<|o'<|Y'<|sr<|Ο z<|WC.mD hr [0,1,5] [] [0,1,5] [] (λ(y:Int)=>⟨y,[(6,i' y)],tr,[]⟩) (λ(_:Unit)=>⟨(.inr ()),[],tr,[]⟩) 0 ?_ ?_
   .intro _ k y c _ hr;refine o'<|sr<|ν z<|kD z<|nx<|I' hr z (λaq hr=>?_) (λaq hr=>?_)
    .refine q'<|b'<|o'<|Y'<|sr<|ν z<|ν z<|ν z<|oE hr λx1 B hr=>Ε (kp uw l5 (e.mono (mx d c)) z z B)<|oE hr λx2 T hr=>Ε (uF zO ke z z (uG (iQ e B) T)) ?_
     obtain⟨L,F,K,I,H,O,J,M,ao,h,j,i,g⟩:=Pz (T' (AtK.arr (iQ e B) T) (mx d c));refine Ε (nL _ r5 z z ao)<|oE hr λal ah hr=>H' z z (x' IK z) (ic'.h ah) z (⟨h,j,i,g⟩) ?_
     cases al
     .refine Ε (k8 z)<|ν z<|nT z<|È (Q7 z z) z<|È (Q7 z z) z<|È (Q7 z z) z<|È (Q7 z z) z<|È (Q7 z z) z<|È (Q7 z z) z<|È (Q7 z z) z<|È (Q7 z z) z<|È (Q7 z z) z<|È (Q7 z z) z<|È (Q7 z z) z<|È (Q7 z z) z<|È (Q7 z z) z<|È (Q7 z z) z<|È (Q7 z z) z<|È (Q7 z z) z<|È (Q7 z z) z<|È (Q7 z z) z<|È (Q7 z z) z<|È (Q7 z z) z<|sf z z z<|Θ z<|nx<|n1 z<|sr<|Ο z<|m'<|g'<|a'<|a'<|g'<|mT<|g'<|a'<|a'<|g'<|mT<|a' (Ö hr z z)
     refine Ε (k8 z)<|ν z<|kS z<|kS z<|eb hr (rV z z) (vP z z) z (λap hr=>?_) (λap hr=>?_)
     .refine kS z<|kS z<|kS z<|kS z<|oE hr λx3 A hr=>gy z z (kp uw l5 (e.mono (mx d c)) z z A) z<|oE hr λx4 a hr=>gy z z (uF zO ke z z (uG (iQ e A) a)) z<|gy z z (Y0.UI z) z ?_
      obtain⟨V,ac,S,W,ai,l,m⟩:=Zvu (T' (sd (n2 (AtK.arr (iQ e A) a))) (mx d c));refine gy z z (nL _ rX z z ai) z<|oE hr λaj X hr=>H' (rV z z) z (x' Ae z) (Wz.h X) z (⟨l,m⟩) ?_
      cases aj
      .refine gy z z (k8 z) z<|kS z<|XS z<|gy z z (h' z z) z<|gy z z (h' z z) z<|ο z<|nx<|n1 z<|sr<|Ο z<|m'<|g'<|a'<|a'<|g'<|mT<|g'<|a'<|a'<|g'<|mT<|a' (Ö hr z z)
      refine gy z z (k8 z) z<|kS z<|kS z<|kS z<|kS z<|oE hr λx5 C hr=>gy z z (kp uw l5 (e.mono (mx d c)) z z C) z<|oE hr λx6 Y hr=>gy z z (uF zO ke z z (uG (iQ e C) Y)) z<|gy z z (Y0.UJ z) z ?_
      obtain⟨ab,U,R,Z,ak,o,q⟩:=Zvu (T' (xX (n2 (AtK.arr (iQ e C) Y))) (mx d c));refine gy z z (nL _ rX z z ak) z<|oE hr λav ae hr=>H' (rV z z) z (x' Ae z) (Wz.h ae) z (⟨o,q⟩)<|gy z z (k8 z) z<|gy z z (f' z z) z<|gy z z (h' z z) z<|ο z<|nx<|kh hr z (λam hr=>?_) (λam hr=>?_)
      .refine sr<|Ο z<|m'<|g'<|a'<|a'<|g'<|mT<|g'<|a'<|a'<|g'<|mT<|a' (Ö hr z z)
      refine q'<|E'<|b'<|w'<|ν z<|iP z<|dQ z<|t'<|N' ⟨k,i64.wrap (y+1)⟩ hr ⟨c,trivial⟩ (Æ z) (wk ln)
     refine kS z<|XS z<|sk z z z<|È (Q7 z z) z<|È (Q7 z z) z<|È (Q7 z z) z<|È (Q7 z z) z<|È (Q7 z z) z<|È (Q7 z z) z<|È (Q7 z z) z<|È (Q7 z z) z<|È (Q7 z z) z<|sk z z z<|gy z z (f' z z) z<|ο z<|nx<|tM z<|q'<|E'<|b'<|w'<|ν z<|iP z<|dQ z<|t'<|N' ⟨k,i64.wrap (y+1)⟩ hr ⟨c,trivial⟩ (Æ z) (wk ln)
    refine nK<|p'<|p'<|K'<|oB ⟨k,()⟩ ⟨hr,c,trivial⟩ (Æ z) (wk ln)
   intro t _ hr Q _;refine E'<|b'<|w'<|ν z<|iP z<|dQ z<|t'<|N' ⟨t,i64.wrap (u+1)⟩ hr ⟨(mx d Q),trivial⟩ (Æ z) (wk ln)
  refine nK<|p'<|p'<|K'<|oB ⟨f,()⟩ ⟨hr,d,trivial⟩ fn (wk ln)
 intro D _ hr au _;refine b'<|sr<|Ο z<|m' (Ö hr z z)
instance iS'{k r}:SpcM ((Lr k)) r (∀{i h},Cr 165 #[δ i k h] (λG=>sl (Rp.int .i64) G i h k) (λG v=>v=.bool r)):=.mk λhr {i h}=>by refine Ν ?_;intro p f _ hr _;refine WC.mA hr [0] [] [] [] (λ(j:Int)=>⟨j,[(3,i' j)],tr,[]⟩) (λ(_:Unit)=>⟨(.inr ()),[],tr,[]⟩) 0
set_option maxHeartbeats 2000000 in
instance iT'{l c r}:SpcM ((FP l c)) r (∀{j k i h t s n u y q o x p m},Cr 92 #[.agg ((Ä l j k i h)).toArray,.agg ((jY c t s n u y q o x p m)).toArray] (λG=>sq G j k l.eqs/\sq G i h l.neqs/\sl c' G t s c.p/\sv G n u c.o/\sq G y q c.l/\sl (Rp.int .i64) G o x c.s/\sl (Rp.arr Z3 8) G p m c.b) (λG v=>v=.bool r)):=.mk λhr {j k i h t s n u y q o x p m}=>by
 refine J' (args:=[_,_]) (N:=314) func92 z z z (λX O bA a0=>?_);obtain⟨R,L,M,P,B,E,C⟩:=a0;refine sr<|jU 2 z z z λT=>jU 3 z z z λQ=>Ο z<|o'<|sr<|Ε (y' 2 lJ z z z)<|oE hr λbB az hr=>H' z z (x' Yt z) (gz'.h az) z (⟨R,L⟩)<|Ε (k8 z)<|nx<|kh hr z (λbt hr=>?_) (λbt hr=>?_)
 .exact (show False from hr).elim
 refine q'<|b'<|o'<|fL [ff,ff,ff,ff,ff,ff,ff,ff,ff,ff,ff,ff,ff,ff,ff,ff,ff,ff,ff,ff,ff,ff,ff,ff] eL İ λhb=>cn (λ_ d=>Y0.VI z)<|cn (λ_ d=>n' 3 mH z z z)<|cn (λ_ d=>P' Q' (M.mono d) z)<|cn (λ_ d=>eM z z)<|cn (λ_ d=>Y0.VN z)<|cn (λ_ d=>n' 3 js z z z)<|cn (λ_ d=>P' jT (B.mono d) z)<|cn (λ_ d=>eM z z)<|cn (λ_ d=>Y0.VM z)<|cn (λ_ d=>n' 3 sW z z z)<|cn (λ_ d=>P' tH (P.mono d) z)<|cn (λ_ d=>eM z z)<|cn (λ_ d=>Y0.VO z)<|cn (λ_ d=>n' 3 sV z z z)<|cn (λ_ d=>P' zB (E.mono d) z)<|cn (λ_ d=>eM z z)<|cn (λ_ d=>zG z)<|cn (λ_ d=>n' 3 q6 z z z)<|cn (λ_ d=>P' uw (C.mono d) z)<|cn (λ_ d=>eM z z)<|cn (λ_ d=>rz z)<|cn (λ_ d=>rz z)<|cn (λ_ d=>rz z)<|cn (λ_ d=>rz z)<|pL hb<|dQ z<|t'<|Γ<|b'<|WC.nD hr [2,3,5,6,7,8,9] [2,3] (λ(A:Bool)=>⟨[(10,.bool A)],wY l c A,tr,[]⟩) ?_ ?_
 .refine w'<|Ε (zF z)<|Ε (n' 3 eC z z z)<|eb hr z (eM z z) z (λap hr=>?_) (λap hr=>?_)
  .refine ν z<|gy z z (xY z) z<|gy z z (n' 3 eC z z z) z<|eb hr (rV z z) (eM z z) z (λaV hr=>?_) (λaV hr=>?_)
   .refine Θ z<|ν z<|gy z z (zJ z) z<|gy z z (n' 3 eC z z z) z<|gy z z (eM z z) z<|Θ z<|dQ z<|t'<|pN ⟨O,decide (c.r=0)⟩ ⟨hr,mr,trivial⟩ (Æ z) (w2 z z)
   refine Θ z<|ν z<|fz z<|ο z<|dQ z<|t'<|pN ⟨O,false⟩ ⟨hr,mr,trivial⟩ (Æ z) (w2 z z)
  refine ν z<|fz z<|ο z<|ν z<|fz z<|ο z<|dQ z<|t'<|pN ⟨O,false⟩ ⟨hr,mr,trivial⟩ (Æ z) (w2 z z)
 intro F A hr e _;refine sr<|Ε (Y0.VI z)<|Ε (n' 3 mH z z z)<|Ε (rA z)<|Ε (n' 2 eC z z z)<|oE hr λS aA hr=>H' z z (x' z7 z) (Ww.h aA) z ((M.mono e))<|Ο z<|o'<|sr<|Ε (zD z)<|Ε (n' 3 eC z z z)<|nx<|Y'<|WC.nD hr [2,3,5,6,7,8,9,10,11,54] [2,3] (λ(K:Bool)=>⟨[(55,.bool K)],AI l c A S K,tr,[]⟩) ?_ ?_
 .refine sr<|Ε (eM z z)<|Ο z<|I' hr z (λaL hr=>?_) (λaL hr=>?_)
  .refine q'<|pN ⟨F,decide (c.kind=1)⟩ ⟨hr,mr,trivial⟩ (f11 z z z z z z z z z z z) (w2 z z)
  refine sr<|Ε (eM z z)<|Ο z<|I' hr z (λaH hr=>?_) (λaH hr=>?_)
  .refine q'<|pN ⟨F,decide (c.kind=2)⟩ ⟨hr,mr,trivial⟩ (f11 z z z z z z z z z z z) (w2 z z)
  refine w'<|Ε (eM z z)<|dQ z<|t'<|pN ⟨F,decide (c.kind=10)⟩ ⟨hr,mr,trivial⟩ (f11 z z z z z z z z z z z) (w2 z z)
 intro I K hr g _;refine kh hr z (λbg hr=>?_) (λbg hr=>?_)
 .refine sr<|eb hr z (nN (k' z) (Ē Value.bool (M6 _))) z (λbs hr=>?_) (λbs hr=>?_)
  .refine ν z<|eb hr (rV z z) (k' z) z (λbi hr=>?_) (λbi hr=>?_)
   .refine Θ z<|ν z<|eb hr (rV z z) (k' z) z (λbl hr=>?_) (λbl hr=>?_)
    .refine Θ z<|ν z<|eb hr (rV z z) (k' z) z (λbr hr=>?_) (λbr hr=>?_)
     .refine Θ z<|ν z<|eb hr (rV z z) (k' z) z (λbp hr=>?_) (λbp hr=>?_)
      .refine Θ z<|ν z<|kS z<|Θ z<|Ο z<|m'<|g'<|a' (Ö hr z z)
      refine Θ z<|ν z<|sk z z z<|ο z<|Ο z<|m'<|g'<|a' (Ö hr z z)
     refine Θ z<|ν z<|sk z z z<|ο z<|ν z<|sk z z z<|ο z<|Ο z<|m'<|g'<|a' (Ö hr z z)
    refine Θ z<|ν z<|sk z z z<|ο z<|ν z<|sk z z z<|ο z<|ν z<|sk z z z<|ο z<|Ο z<|m'<|g'<|a' (Ö hr z z)
   refine Θ z<|ν z<|sk z z z<|ο z<|ν z<|sk z z z<|ο z<|ν z<|sk z z z<|ο z<|ν z<|sk z z z<|ο z<|Ο z<|m'<|g'<|a' (Ö hr z z)
  refine ν z<|sk z z z<|ο z<|ν z<|sk z z z<|ο z<|ν z<|sk z z z<|ο z<|ν z<|sk z z z<|ο z<|ν z<|sk z z z<|ο z<|Ο z<|m'<|g'<|a' (Ö hr z z)
 refine WC.nD hr [2,3,5,6,7,8,9,10,11,54] [2,3] (λ(J:Bool)=>⟨[(75,.bool J)],EJ l c A S J,tr,[]⟩) ?_ ?_
 .refine sr<|Ε (eM z z)<|Ο z<|I' hr z (λa2 hr=>?_) (λa2 hr=>?_)
  .refine q'<|pN ⟨I,decide (c.kind=3)⟩ ⟨hr,mr,trivial⟩ (f11 z z z z z z z z z z z) (w2 z z)
  refine w'<|Ε (eM z z)<|dQ z<|t'<|pN ⟨I,decide (c.kind=9)⟩ ⟨hr,mr,trivial⟩ (f11 z z z z z z z z z z z) (w2 z z)
 intro H J hr f _;refine kh hr z (λbm hr=>?_) (λbm hr=>?_)
 .refine sr<|eb hr z (k' z) z (λbn hr=>?_) (λbn hr=>?_)
  .refine ν z<|eb hr (rV z z) (k' z) z (λbq hr=>?_) (λbq hr=>?_)
   .refine Θ z<|ν z<|eb hr (rV z z) (k' z) z (λbc hr=>?_) (λbc hr=>?_)
    .refine Θ z<|ν z<|eb hr (rV z z) (k' z) z (λbd hr=>?_) (λbd hr=>?_)
     .refine Θ z<|ν z<|eb hr (rV z z) (k' z) z (λaO hr=>?_) (λaO hr=>?_)
      .refine Θ z<|ν z<|kS z<|Θ z<|Ο z<|m'<|g'<|a' (Ö hr z z)
      refine Θ z<|ν z<|sk z z z<|ο z<|Ο z<|m'<|g'<|a' (Ö hr z z)
     refine Θ z<|ν z<|sk z z z<|ο z<|ν z<|sk z z z<|ο z<|Ο z<|m'<|g'<|a' (Ö hr z z)
    refine Θ z<|ν z<|sk z z z<|ο z<|ν z<|sk z z z<|ο z<|ν z<|sk z z z<|ο z<|Ο z<|m'<|g'<|a' (Ö hr z z)
   refine Θ z<|ν z<|sk z z z<|ο z<|ν z<|sk z z z<|ο z<|ν z<|sk z z z<|ο z<|ν z<|sk z z z<|ο z<|Ο z<|m'<|g'<|a' (Ö hr z z)
  refine ν z<|sk z z z<|ο z<|ν z<|sk z z z<|ο z<|ν z<|sk z z z<|ο z<|ν z<|sk z z z<|ο z<|ν z<|sk z z z<|ο z<|Ο z<|m'<|g'<|a' (Ö hr z z)
 refine sr<|Ε (eM z z)<|Ο z<|I' hr z (λbe hr=>?_) (λbe hr=>?_)
 .refine sr<|eb hr z (k' z) z (λag hr=>?_) (λag hr=>?_)
  .refine ν z<|eb hr (rV z z) (k' z) z (λaD hr=>?_) (λaD hr=>?_)
   .refine Θ z<|ν z<|eb hr (rV z z) (k' z) z (λa3 hr=>?_) (λa3 hr=>?_)
    .refine Θ z<|ν z<|eb hr (rV z z) (nN (k' z) (Ē Value.bool (M6 _))) z (λav hr=>?_) (λav hr=>?_)
     .refine Θ z<|ν z<|gy z z (Y0.VM z) z<|gy z z (n' 3 sW z z z) z<|oE hr λbh aR hr=>H' (rV z z) z (x' Is z) (fK'.h aR) z ((P.mono (mx (mx e g) f))) ?_
      cases bh
      .refine Θ z<|ν z<|nT z<|ο z<|ν z<|ig z<|ο z<|Ο z<|m'<|g'<|a' (Ö hr z z)
      refine Θ z<|ν z<|gy z z (Y0.VN z) z<|gy z z (n' 3 js z z z) z<|gy z z (P' jT (B.mono (mx (mx e g) f)) z) z<|eb hr (rV z z) (BR z z) z (λaW hr=>?_) (λaW hr=>?_)
      .refine Θ z<|ν z<|gy z z (Y0.VN z) z<|gy z z (n' 3 js z z z) z<|gy z z (rA z) z<|gy z z (n' 2 eC z z z) z<|oE hr λbz ac hr=>H' (rV z z) z (x' z8 z) (Wy.h ac) z ((B.mono (mx (mx e g) f)))<|Θ z<|Ο z<|m'<|g'<|a' (Ö hr z z)
      refine Θ z<|ν z<|ig z<|ο z<|Ο z<|m'<|g'<|a' (Ö hr z z)
     refine Θ z<|ν z<|fz z<|ο z<|ν z<|nT z<|ο z<|ν z<|ig z<|ο z<|Ο z<|m'<|g'<|a' (Ö hr z z)
    refine Θ z<|ν z<|sk z z z<|ο z<|ν z<|fz z<|ο z<|ν z<|nT z<|ο z<|ν z<|ig z<|ο z<|Ο z<|m'<|g'<|a' (Ö hr z z)
   refine Θ z<|ν z<|sk z z z<|ο z<|ν z<|sk z z z<|ο z<|ν z<|fz z<|ο z<|ν z<|nT z<|ο z<|ν z<|ig z<|ο z<|Ο z<|m'<|g'<|a' (Ö hr z z)
  refine ν z<|sk z z z<|ο z<|ν z<|sk z z z<|ο z<|ν z<|sk z z z<|ο z<|ν z<|fz z<|ο z<|ν z<|nT z<|ο z<|ν z<|ig z<|ο z<|Ο z<|m'<|g'<|a' (Ö hr z z)
 refine sr<|Ε (eM z z)<|Ο z<|I' hr z (λbo hr=>?_) (λbo hr=>?_)
 .refine sr<|eb hr z (k' z) z (λan hr=>?_) (λan hr=>?_)
  .refine ν z<|eb hr (rV z z) (k' z) z (λaB hr=>?_) (λaB hr=>?_)
   .refine Θ z<|ν z<|eb hr (rV z z) (k' z) z (λY hr=>?_) (λY hr=>?_)
    .refine Θ z<|ν z<|eb hr (rV z z) (k' z) z (λaG hr=>?_) (λaG hr=>?_)
     .refine Θ z<|ν z<|eb hr (rV z z) (k' z) z (λaf hr=>?_) (λaf hr=>?_)
      .refine Θ z<|ν z<|gy z z (zJ z) z<|gy z z (n' 3 eC z z z) z<|eb hr (rV z z) (eM z z) z (λar hr=>?_) (λar hr=>?_)
       .refine Θ z<|ν z<|gy z z (xY z) z<|gy z z (n' 3 eC z z z) z<|eb hr (rV z z) (vP z z) z (λaI hr=>?_) (λaI hr=>?_)
        .refine Θ z<|ν z<|gy z z (xY z) z<|gy z z (n' 3 eC z z z) z<|gy z z (rA z) z<|gy z z (n' 2 eC z z z) z<|eb hr (rV z z) (BR z z) z (λaa hr=>?_) (λaa hr=>?_)
         .refine Θ z<|ν z<|gy z z (zF z) z<|gy z z (n' 3 eC z z z) z<|oE hr λbE aQ hr=>H' (rV z z) z (x' wN z) (Nv.h aQ) z (trivial)<|Θ z<|Ο z<|m'<|g'<|a' (Ö hr z z)
         refine Θ z<|ν z<|fz z<|ο z<|Ο z<|m'<|g'<|a' (Ö hr z z)
        refine Θ z<|ν z<|ig z<|ο z<|ν z<|fz z<|ο z<|Ο z<|m'<|g'<|a' (Ö hr z z)
       refine Θ z<|ν z<|fz z<|ο z<|ν z<|ig z<|ο z<|ν z<|fz z<|ο z<|Ο z<|m'<|g'<|a' (Ö hr z z)
      refine Θ z<|ν z<|fz z<|ο z<|ν z<|fz z<|ο z<|ν z<|ig z<|ο z<|ν z<|fz z<|ο z<|Ο z<|m'<|g'<|a' (Ö hr z z)
     refine Θ z<|ν z<|sk z z z<|ο z<|ν z<|fz z<|ο z<|ν z<|fz z<|ο z<|ν z<|ig z<|ο z<|ν z<|fz z<|ο z<|Ο z<|m'<|g'<|a' (Ö hr z z)
    refine Θ z<|ν z<|sk z z z<|ο z<|ν z<|sk z z z<|ο z<|ν z<|fz z<|ο z<|ν z<|fz z<|ο z<|ν z<|ig z<|ο z<|ν z<|fz z<|ο z<|Ο z<|m'<|g'<|a' (Ö hr z z)
   refine Θ z<|ν z<|sk z z z<|ο z<|ν z<|sk z z z<|ο z<|ν z<|sk z z z<|ο z<|ν z<|fz z<|ο z<|ν z<|fz z<|ο z<|ν z<|ig z<|ο z<|ν z<|fz z<|ο z<|Ο z<|m'<|g'<|a' (Ö hr z z)
  refine ν z<|sk z z z<|ο z<|ν z<|sk z z z<|ο z<|ν z<|sk z z z<|ο z<|ν z<|sk z z z<|ο z<|ν z<|fz z<|ο z<|ν z<|fz z<|ο z<|ν z<|ig z<|ο z<|ν z<|fz z<|ο z<|Ο z<|m'<|g'<|a' (Ö hr z z)
 refine sr<|Ε (eM z z)<|Ο z<|I' hr z (λbk hr=>?_) (λbk hr=>?_)
 .refine sr<|eb hr z (k' z) z (λa5 hr=>?_) (λa5 hr=>?_)
  .refine ν z<|eb hr (rV z z) (k' z) z (λaj hr=>?_) (λaj hr=>?_)
   .refine Θ z<|ν z<|eb hr (rV z z) (k' z) z (λa1 hr=>?_) (λa1 hr=>?_)
    .refine Θ z<|ν z<|eb hr (rV z z) (k' z) z (λa4 hr=>?_) (λa4 hr=>?_)
     .refine Θ z<|ν z<|eb hr (rV z z) (k' z) z (λak hr=>?_) (λak hr=>?_)
      .refine Θ z<|ν z<|gy z z (zF z) z<|gy z z (n' 3 eC z z z) z<|oE hr λba ae hr=>H' (rV z z) z (x' wN z) (Nv.h ae) z (trivial) ?_
       cases ba
       .refine Θ z<|ν z<|fz z<|ο z<|ν z<|ig z<|ο z<|ν z<|ig z<|ο z<|Ο z<|m'<|g'<|a' (Ö hr z z)
       refine Θ z<|ν z<|gy z z (zJ z) z<|gy z z (n' 3 eC z z z) z<|eb hr (rV z z) (vP z z) z (λaC hr=>?_) (λaC hr=>?_)
       .refine Θ z<|ν z<|gy z z (zJ z) z<|gy z z (n' 3 eC z z z) z<|gy z z (xY z) z<|gy z z (n' 3 eC z z z) z<|eb hr (rV z z) (BR z z) z (λaY hr=>?_) (λaY hr=>?_)
        .refine Θ z<|ν z<|gy z z (xY z) z<|gy z z (n' 3 eC z z z) z<|gy z z (zF z) z<|gy z z (n' 3 eC z z z) z<|gy z z (BR z z) z<|Θ z<|Ο z<|m'<|g'<|a' (Ö hr z z)
        refine Θ z<|ν z<|ig z<|ο z<|Ο z<|m'<|g'<|a' (Ö hr z z)
       refine Θ z<|ν z<|ig z<|ο z<|ν z<|ig z<|ο z<|Ο z<|m'<|g'<|a' (Ö hr z z)
      refine Θ z<|ν z<|fz z<|ο z<|ν z<|fz z<|ο z<|ν z<|ig z<|ο z<|ν z<|ig z<|ο z<|Ο z<|m'<|g'<|a' (Ö hr z z)
     refine Θ z<|ν z<|sk z z z<|ο z<|ν z<|fz z<|ο z<|ν z<|fz z<|ο z<|ν z<|ig z<|ο z<|ν z<|ig z<|ο z<|Ο z<|m'<|g'<|a' (Ö hr z z)
    refine Θ z<|ν z<|sk z z z<|ο z<|ν z<|sk z z z<|ο z<|ν z<|fz z<|ο z<|ν z<|fz z<|ο z<|ν z<|ig z<|ο z<|ν z<|ig z<|ο z<|Ο z<|m'<|g'<|a' (Ö hr z z)
   refine Θ z<|ν z<|sk z z z<|ο z<|ν z<|sk z z z<|ο z<|ν z<|sk z z z<|ο z<|ν z<|fz z<|ο z<|ν z<|fz z<|ο z<|ν z<|ig z<|ο z<|ν z<|ig z<|ο z<|Ο z<|m'<|g'<|a' (Ö hr z z)
  refine ν z<|sk z z z<|ο z<|ν z<|sk z z z<|ο z<|ν z<|sk z z z<|ο z<|ν z<|sk z z z<|ο z<|ν z<|fz z<|ο z<|ν z<|fz z<|ο z<|ν z<|ig z<|ο z<|ν z<|ig z<|ο z<|Ο z<|m'<|g'<|a' (Ö hr z z)
 refine sr<|Ε (eM z z)<|Ο z<|I' hr z (λbb hr=>?_) (λbb hr=>?_)
 .refine sr<|eb hr z (k' z) z (λal hr=>?_) (λal hr=>?_)
  .refine ν z<|eb hr (rV z z) (k' z) z (λab hr=>?_) (λab hr=>?_)
   .refine Θ z<|ν z<|eb hr (rV z z) (k' z) z (λah hr=>?_) (λah hr=>?_)
    .refine Θ z<|ν z<|eb hr (rV z z) (k' z) z (λaT hr=>?_) (λaT hr=>?_)
     .refine Θ z<|ν z<|eb hr (rV z z) (nN (k' z) (Ē Value.bool (M6 _))) z (λau hr=>?_) (λau hr=>?_)
      .refine Θ z<|ν z<|gy z z (zG z) z<|gy z z (n' 3 q6 z z z) z<|gy z z (rA z) z<|gy z z (n' 2 eC z z z) z<|oE hr λbD aX hr=>H' (rV z z) z (x' Aa z) (lx.h aX) z ((C.mono (mx (mx e g) f)))<|Θ z<|Ο z<|m'<|g'<|a' (Ö hr z z)
      refine Θ z<|ν z<|ig z<|ο z<|Ο z<|m'<|g'<|a' (Ö hr z z)
     refine Θ z<|ν z<|sk z z z<|ο z<|ν z<|ig z<|ο z<|Ο z<|m'<|g'<|a' (Ö hr z z)
    refine Θ z<|ν z<|sk z z z<|ο z<|ν z<|sk z z z<|ο z<|ν z<|ig z<|ο z<|Ο z<|m'<|g'<|a' (Ö hr z z)
   refine Θ z<|ν z<|sk z z z<|ο z<|ν z<|sk z z z<|ο z<|ν z<|sk z z z<|ο z<|ν z<|ig z<|ο z<|Ο z<|m'<|g'<|a' (Ö hr z z)
  refine ν z<|sk z z z<|ο z<|ν z<|sk z z z<|ο z<|ν z<|sk z z z<|ο z<|ν z<|sk z z z<|ο z<|ν z<|ig z<|ο z<|Ο z<|m'<|g'<|a' (Ö hr z z)
 refine sr<|Ε (eM z z)<|Ο z<|I' hr z (λbj hr=>?_) (λbj hr=>?_)
 .refine sr<|eb hr z (nN (k' z) (Ē Value.bool (M6 _))) z (λay hr=>?_) (λay hr=>?_)
  .refine ν z<|eb hr (rV z z) (k' z) z (λao hr=>?_) (λao hr=>?_)
   .refine Θ z<|ν z<|eb hr (rV z z) (k' z) z (λaP hr=>?_) (λaP hr=>?_)
    .refine Θ z<|ν z<|eb hr (rV z z) (nN (k' z) (Ē Value.bool (M6 _))) z (λaw hr=>?_) (λaw hr=>?_)
     .refine Θ z<|ν z<|gy z z (zG z) z<|gy z z (n' 3 q6 z z z) z<|gy z z (rA z) z<|gy z z (n' 2 eC z z z) z<|oE hr λa a7 hr=>H' (rV z z) z (x' Aa z) (lx.h a7) z ((C.mono (mx (mx e g) f))) ?_
      cases a
      .refine Θ z<|ν z<|re z<|ο z<|ν z<|fz z<|ο z<|Ο z<|m'<|g'<|a' (Ö hr z z)
      refine Θ z<|ν z<|gy z z (Y0.VO z) z<|gy z z (n' 3 sV z z z) z<|gy z z (P' zB (E.mono (mx (mx e g) f)) z) z<|gy z z (zG z) z<|gy z z (n' 3 q6 z z z) z<|gy z z (P' uw (C.mono (mx (mx e g) f)) z) z<|eb hr (rV z z) (eM z z) z (λZ hr=>?_) (λZ hr=>?_)
      .refine Θ z<|ν z<|gy z z (Y0.VO z) z<|gy z z (n' 3 sV z z z) z<|oE hr λbC ax hr=>H' (rV z z) z (x' It z) (iS'.h ax) z ((E.mono (mx (mx e g) f)))<|Θ z<|Ο z<|m'<|g'<|a' (Ö hr z z)
      refine Θ z<|ν z<|fz z<|ο z<|Ο z<|m'<|g'<|a' (Ö hr z z)
     refine Θ z<|ν z<|ig z<|ο z<|ν z<|re z<|ο z<|ν z<|fz z<|ο z<|Ο z<|m'<|g'<|a' (Ö hr z z)
    refine Θ z<|ν z<|sk z z z<|ο z<|ν z<|ig z<|ο z<|ν z<|re z<|ο z<|ν z<|fz z<|ο z<|Ο z<|m'<|g'<|a' (Ö hr z z)
   refine Θ z<|ν z<|sk z z z<|ο z<|ν z<|sk z z z<|ο z<|ν z<|ig z<|ο z<|ν z<|re z<|ο z<|ν z<|fz z<|ο z<|Ο z<|m'<|g'<|a' (Ö hr z z)
  refine ν z<|sk z z z<|ο z<|ν z<|sk z z z<|ο z<|ν z<|sk z z z<|ο z<|ν z<|ig z<|ο z<|ν z<|re z<|ο z<|ν z<|fz z<|ο z<|Ο z<|m'<|g'<|a' (Ö hr z z)
 refine sr<|Ε (eM z z)<|Ο z<|I' hr z (λbf hr=>?_) (λbf hr=>?_)
 .refine sr<|eb hr z (k' z) z (λaZ hr=>?_) (λaZ hr=>?_)
  .refine ν z<|eb hr (rV z z) (k' z) z (λaN hr=>?_) (λaN hr=>?_)
   .refine Θ z<|ν z<|eb hr (rV z z) (k' z) z (λam hr=>?_) (λam hr=>?_)
    .refine Θ z<|ν z<|eb hr (rV z z) (k' z) z (λaK hr=>?_) (λaK hr=>?_)
     .refine Θ z<|ν z<|eb hr (rV z z) (nN (k' z) (Ē Value.bool (M6 _))) z (λa6 hr=>?_) (λa6 hr=>?_)
      .refine Θ z<|ν z<|gy z z (Y0.VN z) z<|gy z z (n' 3 js z z z) z<|gy z z (P' jT (B.mono (mx (mx e g) f)) z) z<|eb hr (rV z z) (BR z z) z (λaU hr=>?_) (λaU hr=>?_)
       .refine Θ z<|ν z<|gy z z (Y0.VN z) z<|gy z z (n' 3 js z z z) z<|gy z z (rA z) z<|gy z z (n' 2 eC z z z) z<|oE hr λbw W hr=>H' (rV z z) z (x' z8 z) (Wy.h W) z ((B.mono (mx (mx e g) f)))<|Θ z<|Ο z<|m'<|g'<|a' (Ö hr z z)
       refine Θ z<|ν z<|ig z<|ο z<|Ο z<|m'<|g'<|a' (Ö hr z z)
      refine Θ z<|ν z<|nT z<|ο z<|ν z<|ig z<|ο z<|Ο z<|m'<|g'<|a' (Ö hr z z)
     refine Θ z<|ν z<|sk z z z<|ο z<|ν z<|nT z<|ο z<|ν z<|ig z<|ο z<|Ο z<|m'<|g'<|a' (Ö hr z z)
    refine Θ z<|ν z<|sk z z z<|ο z<|ν z<|sk z z z<|ο z<|ν z<|nT z<|ο z<|ν z<|ig z<|ο z<|Ο z<|m'<|g'<|a' (Ö hr z z)
   refine Θ z<|ν z<|sk z z z<|ο z<|ν z<|sk z z z<|ο z<|ν z<|sk z z z<|ο z<|ν z<|nT z<|ο z<|ν z<|ig z<|ο z<|Ο z<|m'<|g'<|a' (Ö hr z z)
  refine ν z<|sk z z z<|ο z<|ν z<|sk z z z<|ο z<|ν z<|sk z z z<|ο z<|ν z<|sk z z z<|ο z<|ν z<|nT z<|ο z<|ν z<|ig z<|ο z<|Ο z<|m'<|g'<|a' (Ö hr z z)
 refine WC.nD hr [3,5,6,7,8,9] [3] (λ(D:Bool)=>⟨[(283,.bool D)],EI c D,tr,[]⟩) ?_ ?_
 .refine sr<|Ε (eM z z)<|Ο z<|I' hr z (λaq hr=>?_) (λaq hr=>?_)
  .refine q'<|pN ⟨H,decide (c.kind=12)⟩ ⟨hr,mr,trivial⟩ (Æ z) (w1 z)
  refine w'<|Ε (eM z z)<|dQ z<|t'<|pN ⟨H,decide (c.kind=13)⟩ ⟨hr,mr,trivial⟩ (Æ z) (w1 z)
 intro U D hr bu _;refine kh hr z (λaM hr=>?_) (λaM hr=>?_)
 .refine sr<|eb hr z (k' z) z (λaE hr=>?_) (λaE hr=>?_)
  .refine ν z<|eb hr (rV z z) (k' z) z (λaJ hr=>?_) (λaJ hr=>?_)
   .refine Θ z<|ν z<|eb hr (rV z z) (k' z) z (λaF hr=>?_) (λaF hr=>?_)
    .refine Θ z<|ν z<|eb hr (rV z z) (k' z) z (λad hr=>?_) (λad hr=>?_)
     .refine Θ z<|ν z<|eb hr (rV z z) (k' z) z (λai hr=>?_) (λai hr=>?_)
      .refine Θ z<|ν z<|gy z z (xY z) z<|gy z z (n' 3 eC z z z) z<|eb hr (rV z z) (eM z z) z (λa8 hr=>?_) (λa8 hr=>?_)
       .refine Θ z<|ν z<|gy z z (zJ z) z<|gy z z (n' 3 eC z z z) z<|eb hr (rV z z) (eM z z) z (λaS hr=>?_) (λaS hr=>?_)
        .refine Θ z<|ν z<|gy z z (zF z) z<|gy z z (n' 3 eC z z z) z<|oE hr λbx V hr=>H' (rV z z) z (x' wN z) (Nv.h V) z (trivial)<|Θ z<|Ο z<|m'<|g'<|a' (Ö hr z z)
        refine Θ z<|ν z<|fz z<|ο z<|Ο z<|m'<|g'<|a' (Ö hr z z)
       refine Θ z<|ν z<|fz z<|ο z<|ν z<|fz z<|ο z<|Ο z<|m'<|g'<|a' (Ö hr z z)
      refine Θ z<|ν z<|fz z<|ο z<|ν z<|fz z<|ο z<|ν z<|fz z<|ο z<|Ο z<|m'<|g'<|a' (Ö hr z z)
     refine Θ z<|ν z<|sk z z z<|ο z<|ν z<|fz z<|ο z<|ν z<|fz z<|ο z<|ν z<|fz z<|ο z<|Ο z<|m'<|g'<|a' (Ö hr z z)
    refine Θ z<|ν z<|sk z z z<|ο z<|ν z<|sk z z z<|ο z<|ν z<|fz z<|ο z<|ν z<|fz z<|ο z<|ν z<|fz z<|ο z<|Ο z<|m'<|g'<|a' (Ö hr z z)
   refine Θ z<|ν z<|sk z z z<|ο z<|ν z<|sk z z z<|ο z<|ν z<|sk z z z<|ο z<|ν z<|fz z<|ο z<|ν z<|fz z<|ο z<|ν z<|fz z<|ο z<|Ο z<|m'<|g'<|a' (Ö hr z z)
  refine ν z<|sk z z z<|ο z<|ν z<|sk z z z<|ο z<|ν z<|sk z z z<|ο z<|ν z<|sk z z z<|ο z<|ν z<|fz z<|ο z<|ν z<|fz z<|ο z<|ν z<|fz z<|ο z<|Ο z<|m'<|g'<|a' (Ö hr z z)
 refine q'<|E'<|b'<|sr<|Ο z<|m' (Ö hr z z)
instance iK'{p d r}:SpcM ((KE p d)) r (∀{J M L O n m i o h k l g j f},Cr 166 #[.agg ([i' p.kind,δ J p.p M,δ L p.o O]).toArray,.agg ((jY d n m i o h k l g j f)).toArray] (λG=>sl c' G J M p.p/\sv G L O p.o/\sl c' G n m d.p/\sv G i o d.o/\sq G h k d.l/\sl (Rp.int .i64) G l g d.s/\sl (Rp.arr Z3 8) G j f d.b) (λG v=>v=.tuple #[i' r.1,i' r.2])):=.mk λhr {J M L O n m i o h k l g j f}=>by
 refine J' (args:=[_,_]) (N:=87) func166 z z z (λU E av W=>?_);obtain⟨Y,I,Q,V,Z,X,K⟩:=W;refine sr<|jU 2 z z z λb1=>jU 3 z z z λq=>dQ z<|Ο z<|WC.nB hr [3] [3] (λ(⟨u,e⟩:Bool×Bool)=>⟨[(6,.bool u),(7,.bool e)],yQ d u e,tr,[]⟩) ?_
 rintro A ⟨u,e⟩ hr P _;refine o'<|Y'<|WC.nB hr [3,6,7] [3] (λ(H:Bool)=>⟨[(19,.bool H)],JJ d u e H,tr,[]⟩) ?_
 intro t H hr T _;refine kh hr z (λa hr=>?_) (λa hr=>?_)
 .exact Η
 refine WC.nB hr [3,7] [3] (λ(D:Bool)=>⟨[(30,.bool D)],Eh d e D,tr,[]⟩) ?_;intro y D hr R _;refine kh hr z (λc hr=>?_) (λc hr=>?_)
 .exact Η
 refine WC.nB hr [3,7] [3] (λ(F:Bool)=>⟨[(42,.bool F)],JI d e F,tr,[]⟩) ?_;intro s F hr S _;refine kh hr z (λB hr=>?_) (λB hr=>?_)
 .exact Η
 refine WC.nC hr [3,7] [3] (λ(C:Bool)=>⟨[(53,.bool C)],Ew d e C,tr,[]⟩) ?_;refine w'<|eb hr z (nN (k' z) (Ē Value.bool (M6 _))) z (λx hr=>?_) (λx hr=>?_)
 .exact Η
 exact ν z<|nT z<|È (Q7 z z) z<|È (Q7 z z) z<|È (Q7 z z) z<|sk z z z<|Η
instance jc'{p n r}:SpcM ((F0 p n)) r (∀{i l g k},Cr 239 #[δ i p l,δ g n k] (λG=>sv G i l p/\sv G g k n) (λG v=>v=.bool r)):=.mk λhr {i l g k}=>by refine Ν ?_;intro x h _ _ _ _ hr _;refine WC.mA hr [0,1] [] [] [] (λ(o:Int)=>⟨o,[(5,i' o)],tr,[]⟩) (λ(_:Unit)=>⟨(.inr ()),[],tr,[]⟩) 0
instance iy'{t n i r}:SpcM ((Km t n i)) r (∀{q s p o I H C K J A O L B y D M F P},Cr 167 #[.agg ((Ä t q s p o)).toArray,.agg ([i' n.kind,δ I n.p H,δ C n.o K]).toArray,.agg ((jY i J A O L B y D M F P)).toArray] (λG=>sq G q s t.eqs/\sq G p o t.neqs/\sl c' G I H n.p/\sv G C K n.o/\sl c' G J A i.p/\sv G O L i.o/\sq G B y i.l/\sl (Rp.int .i64) G D M i.s/\sl (Rp.arr Z3 8) G F P i.b) (λG v=>v=.bool r)):=.mk λhr {q s p o I H C K J A O L B y D M F P}=>by
 refine æ ?_;intro _ _ _ _ _ _ _ _ _ _ _ _ _ _ _ _ _ _ _ _ _ _ _ _ hr _;refine I' hr z (λS hr=>?_) (λS hr=>?_)
 .exact Η
 refine sr<|Ε (eM z z)<|Ο z<|I' hr z (λaw hr=>?_) (λaw hr=>?_)
 .refine o'<|fL [ff,ff,ff,ff,ff,ff,ff,ff,ff,ff,ff,ff,ff,ff,ff,ff,ff,ff] eL İ λhb=>cn (λ_ c=>zD z)<|cn (λ_ c=>n' 5 eC z z z)<|zK hr z (λ_ c=>eM z z) (λE hr=>?_) (λE hr=>?_)
  .refine Ν ?_;intro _;refine È (Q7 z z) z ?_;exact Η
  refine Ν ?_;intro _ _ hr;refine oE hr λV T hr=>qM (post:=eB V) (λ_=>(rV z z)) (λ_ _=>x' D9 z) (GW.h T) z (λG' c=>trivial) (λv a d c h=>?_) ?_
  .obtain⟨j,l,k,m,rfl,g,e⟩:=h;exact⟨_,_,_,_,z,g.mono c,e.mono c⟩
  refine oE hr λZ U hr=>mm (f:=133) (φ:=fT c' Z) (λ_=>(rV z z)) (λv a d c h=>?_) (λu G' c hu=>?_) ?_
  .obtain⟨ae,al,rfl,Q⟩:=h;exact⟨_,_,z,Q.mono c⟩
  .obtain⟨⟨j,l,k,m,X,g,e⟩,_⟩:=(show(eB V) G'.m (u 46)/\True from hu);exact⟨_,_,_,λ_=>x' Ii z,gC'.h U,(by simp only[X]<;>rfl),⟨g,e⟩⟩
  exact Η
 refine sr<|Ε (eM z z)<|Ο z<|I' hr z (λN hr=>?_) (λN hr=>?_)
 .exact Η
 refine sr<|Ε (eM z z)<|Ο z<|I' hr z (λau hr=>?_) (λau hr=>?_)
 .exact Η
 refine sr<|Ε (eM z z)<|Ο z<|I' hr z (λR hr=>?_) (λR hr=>?_)
 .exact Η
 refine sr<|Ε (eM z z)<|Ο z<|I' hr z (λx hr=>?_) (λx hr=>?_)
 .exact Η
 refine sr<|Ε (eM z z)<|Ο z<|I' hr z (λW hr=>?_) (λW hr=>?_)
 .exact Η
 refine sr<|Ε (eM z z)<|Ο z<|I' hr z (λaz hr=>?_) (λaz hr=>?_)
 .refine sr<|Ε (zD z)<|Ε (n' 5 eC z z z)<|eb hr z (eM z z) z (λY hr=>?_) (λY hr=>?_)
  .refine Ν ?_;intro hr;refine È (Q7 z z) z<|È (Q7 z z) z<|È (Q7 z z) z<|sf z z z<|Θ z<|Ο z<|m'<|g'<|a' (Ö hr z z)
  refine Ν ?_;intro _ hr;refine È (Q7 z z) z<|È (Q7 z z) z<|È (Q7 z z) z<|sf z z z<|Θ z<|Ο z<|m'<|g'<|a' (Ö hr z z)
 exact Η
instance iz'{c J r}:SpcM ((Kp c J)) r (∀{h g f e l n o m U X L M S Q W Y P R},Cr 93 #[.agg ((fA c h g f e l n o m)).toArray,.agg ((jY J U X L M S Q W Y P R)).toArray] (λG=>sq G h g c.k.eqs/\sq G f e c.k.neqs/\sl c' G l n c.q.p/\sv G o m c.q.o/\sl c' G U X J.p/\sv G L M J.o/\sq G S Q J.l/\sl (Rp.int .i64) G W Y J.s/\sl (Rp.arr Z3 8) G P R J.b) (DY r)):=.mk λhr {h g f e l n o m U X L M S Q W Y P R}=>by
 refine J' (args:=[_,_]) (N:=46) func93 z z z (λw0 G0 an a=>?_);obtain⟨E,B,H,F,O,Z,T,K,V⟩:=a;refine sr<|jU 2 z z z λb1=>jU 3 z z z λb2=>W' 4 z D6 z λb3=>nr<|Ε (Y0.MG z)<|Ε (R' ([i' c.q.kind,δ l c.q.p n,δ o c.q.o m]).toArray 2 oS z z z (UZ ([i' c.id,i' c.k.n,δ h c.k.eqs g,δ f c.k.neqs e]) ([i' c.q.kind,δ l c.q.p n,δ o c.q.o m]) ([i' c.η,i' c.low,i' c.high,.bool c.done])))<|Ε (y' 3 BJ z z z)<|oE hr λA ae hr=>H' z z (x' Iu z) (iK'.h ae) z (⟨H,F,O,Z,T,K,V⟩)<|ν z<|lR z<|lR z<|dQ z<|Ο z<|WC.nB hr [2,4,5,6] [4] (λ(⟨d,q,p,k,j,v,u,t,x⟩:Zb×ŀ Addr×Nat×ŀ Addr×Nat×ŀ Addr×Nat×ŀ Addr×Nat)=>⟨[],EA A d,λI=>sq I q p d.k.eqs/\sq I k j d.k.neqs/\sl c' I v u d.q.p/\sv I t x d.q.o,[(2,ú b1 (fA d q p k j v u t x) 56)]⟩) ?_
 rintro I ⟨d,q,p,k,j,v,u,t,x⟩ hr al ⟨y,s,D,C⟩;refine sr<|Ε (Y0.MI z)<|Ε (n' 2 eC z z z)<|ν z<|Ε (Y0.max2 z z)<|Ε (Y0.MI z)<|rp 2 ([i' d.id,i' d.k.n,δ q d.k.eqs p,δ k d.k.neqs j,i' d.q.kind,δ v d.q.p u,δ t d.q.o x,i' d.η,i' (if d.low<A.1 then A.1 else d.low),i' d.high,.bool d.done]).toArray z je z z z (show 8<11 by decide) z z<|nx<|o'<|sr<|ν z<|eb hr z (vP z z) z (λai hr=>?_) (λai hr=>?_)
 .exact Η
 refine ν z<|nT z<|È (Q7 z z) z<|È (Q7 z z) z<|È (Q7 z z) z<|È (Q7 z z) z<|sk z z z<|ο z<|nx<|tM z<|q'<|b'<|sr<|Ε (y' 2 xU z z z)<|gu 4 kW z<|nx<|m' ?_
 obtain rfl:_=r:=hr;exact j' z (kJ (i:=4) xU z z z) ⟨_,_,_,_,_,_,_,_,z,y,s,D,C⟩
instance iU'{Q ak aa L r}:SpcM ((K9 Q ak aa L)) r (∀{M P V W},Cr 44 #[.agg ((fS Q M P)).toArray,i' ak,δ V aa W,i' L] (λG=>sl Zr G M P Q.t/\sl yP G V W aa) (jn r)):=.mk λhr {M P V W}=>by
 refine æ ?_;intro w0 G0 ax bQ _ _ b1 b2 o bS Y h g d f s q u t aD aA _ _ b3 hr _;refine o'<|sr<|ν z<|Ε (k8 z)<|nx<|kh hr z (λcG hr=>?_) (λcG hr=>?_)
 .exact Η
 refine q'<|b'<|WC.nB hr [1,2,3,4,8,10] [4,10] (λ(⟨a,aR,aS⟩:Ze×ŀ Addr×Nat)=>⟨[],QB Q ak aa L o a,λaY=>sl Zr aY aR aS a.t,[(8,ú b2 (fS a aR aS) 26)]⟩) ?_
 rintro aY ⟨a,aR,aS⟩ hr F bK;refine o'<|sr<|Ο z<|WC.mB (hH:=by exact bK) hr [1,2,3,4,8,10] [4,10] [1,2,3,4,8,10] [4,10] (λ(⟨aN,a2,aI,aF⟩:Int×Ze×ŀ Addr×Nat)=>⟨(aN,a2),[(12,i' aN)],λa1=>sl Zr a1 aI aF a2.t,[(8,ú b2 (fS a2 aI aF) 26)]⟩) (λ(⟨aH,ah,af⟩:Ze×ŀ Addr×Nat)=>⟨(.inr aH),[],λaW=>sl Zr aW ah af aH.t,[(8,ú b2 (fS aH ah af) 26)]⟩) ⟨0,a,aR,aS⟩ ?_
 rintro aW ⟨aH,ah,af⟩ hr ad cH;refine Ν ?_;intro b4 hr;refine WC.mC (hH:=by exact⟨(X' _ _),la⟩) hr [1,2,3,4,8,10,13] [4,8,10] [8,13] [8] (λ(⟨X,R,ac,ab,Z,x⟩:Int×(Ŀ Zb)×ŀ Addr×Nat×ŀ Ow×Int)=>⟨(X,R,x),[(14,i' X)],λaL=>sl Zr aL ac ab R/\Tok 11 56 (δ ac R ab) R.length Z,[(13,ú b4 ([δ ac R ab,i' x]) 26),(310130,Z)]⟩) (λ(⟨i,aP,aO,aT,aJ⟩:(Ŀ Zb)×ŀ Addr×Nat×ŀ Ow×Int)=>⟨(i,aJ),[],λbl=>sl Zr bl aP aO i/\Tok 11 56 (δ aP i aO) i.length aT,[(13,ú b4 ([δ aP i aO,i' aJ]) 26),(310130,aT)]⟩) ⟨0,[],none,0,none,Q.next⟩ ?_;rintro _ aL ⟨X,R,ac,ab,Z,x⟩ U ⟨bm,a6⟩ hr;refine Ν ?_;intro _ x1 _ _ bq _ bv _ bg _ bd _ bH _ bI _ bN _ bL _ _ _ _ bt _ bi bF b5 hr bM;refine WC.mD (hH:=by exact⟨bt,bi,bF,bM⟩) hr [1,2,3,4,8,10,13,14,15] [4,8,10,13,310130] [1,2,3,4,8,10,13,14,15] [4,8,10,13,310130] (λ(⟨aQ,O,I,H,E,C,am,ap,an,aq⟩:Int×Zb×ŀ Addr×Nat×ŀ Addr×Nat×ŀ Addr×Nat×ŀ Addr×Nat)=>⟨(aQ,O),[(16,i' aQ)],λe=>sq e I H O.k.eqs/\sq e E C O.k.neqs/\sl c' e am ap O.q.p/\sv e an aq O.q.o,[(15,ú b5 (fA O I H E C am ap an aq) 56)]⟩) (λ(⟨p,S,T,J,K,au,al,ar,ao⟩:Zb×ŀ Addr×Nat×ŀ Addr×Nat×ŀ Addr×Nat×ŀ Addr×Nat)=>⟨p,[],λaz=>sq az S T p.k.eqs/\sq az J K p.k.neqs/\sl c' az au al p.q.p/\sv az ar ao p.q.o,[(15,ú b5 (fA p S T J K au al ar ao) 56)]⟩) ⟨0,x1,bq,bv,bg,bd,bH,bI,bN,bL⟩ ?_ ?_
 .rintro _ e ⟨aQ,O,I,H,E,C,am,ap,an,aq⟩ ai ⟨av,aj,aX,aU⟩ hr;refine Ν ?_;intro _ hr;obtain⟨c8,ca,hr⟩:=hr;have N1:=mx (mx (mx F ad) U) ai;refine H' (rV z z) z (x' D8 z) (Ez _ _ _ _ _ _ _ _ _ _ _ ca) z (⟨av,aj,(aD.mono N1),(aA.mono N1)⟩)<|Θ z<|nx<|kh hr z (λct hr=>?_) (λct hr=>?_)
  .refine q'<|b'<|o'<|Y'<|fL [ff,ff,ff,ff,ff] eL İ λhb=>cn (λ_ ag=>y' 15 xU z z z)<|fN z<|fN z<|oE hr λx2 bP hr=>cn (λ_ ag=>kp M7 td ((ax.mono (mx (mx (mx (mx Y F) ad) U) ai)).mono ag) z z bP) ?_
   obtain⟨cQ,cN,cP,c0,cK,cJ,c3,cZ,cT,c2,cm,b6,b7,cg,bY,b8⟩:=QF (T' (iQ ax bP) (mx (mx (mx (mx Y F) ad) U) ai));refine cn (λ_ ag=>nL _ BJ z z (λj v hv=>ag _ _ _ (cm j v hv)))<|pL hb<|oE hr λcv ci hr=>gW z z (x' Yu z) (iz'.h ci) z (⟨av,aj,aX,aU,b6,b7,cg,bY,b8⟩) (λcL cD bG bu=>?_)
   obtain⟨bh,bj,a7,a5,bB,bC,bz,bE,rfl,bf,a3,bD,bx⟩:=bu;refine gu 15 kW z<|t'<|Γ<|E'<|b'<|w'<|ν z<|iP z<|dQ z<|t'<|N' ⟨cD,i64.wrap (aQ+1),cv,bh,bj,a7,a5,bB,bC,bz,bE⟩ hr ⟨(mx ai bG),bf,a3,bD,bx⟩ (f10 z z z z z z z z z z) (w6 z z z z z z)
  exact Η
 rintro az ⟨p,S,T,J,K,au,al,ar,ao⟩ hr bn ⟨aV,aM,a8,a4⟩;refine b'<|WC.nD hr [1,2,3,4,8,10,13,14,15] [4,8,10,13,310130] (λ(⟨c,m,n,l,k,B,A,D,y⟩:Zb×ŀ Addr×Nat×ŀ Addr×Nat×ŀ Addr×Nat×ŀ Addr×Nat)=>⟨[],EO X R x c,λN=>sq N m n c.k.eqs/\sq N l k c.k.neqs/\sl c' N B A c.q.p/\sv N D y c.q.o,[(15,ú b5 (fA c m n l k B A D y) 56)]⟩) ?_ ?_
 .refine sr<|Ε (Y0.MF z)<|Ε (n' 15 eC z z z)<|ν z<|Ε (eM z z)<|nx<|I' hr z (λcB hr=>?_) (λcB hr=>?_)
  .exact Η
  exact Η
 rintro N ⟨c,m,n,l,k,B,A,D,y⟩ hr bp ⟨be,bc,bA,bw⟩;refine Ν ?_;intro _ _ bo cx hr;refine oA hr λb0 hr=>jV (r:=Zr) 310130 z z uv np z ĳ z z (bm.mono (mx (mx bn bp) bo)) z (by rw[bQ];rfl) a6 cx b0 λp2 bT ck cy bO cA cb=>Ε (Y0.Z7 z)<|rp 13 ([.slice p2 (R++[c]).length bT,i' x]).toArray z tb z z z (show 0<2 by decide) z z<|t'<|E'<|b'<|w'<|ν z<|iP z<|dQ z<|t'<|N' ⟨cy,i64.wrap (X+1),(R++[c]),p2,bT,ck,x⟩ hr ⟨(mx (mx (mx (mx U bn) bp) bo) bO),cA,cb⟩ (Æ z) (w5 z z z z z)
instance hQ'{b1 a r}:SpcM ((LD b1 a)) r (∀{ap ai U V H J T X ao ak},Cr 13 #[.agg ((fS b1 ap ai)).toArray,.agg ((tu a U V H J T X ao ak)).toArray] (λG=>sl Zr G ap ai b1.t/\sl ZQ G U V a.c.l/\sl (Rp.int .u8) G H J a.c.iT/\sl (gf .i8 5) G T X a.p.t/\sl tW G ao ak a.l) (Ç r)):=.mk λhr {ap ai U V H J T X ao ak}=>by
 refine æ ?_;intro w0 G0 _ _ _ K _ L _ s Q _ _ _ hr S;refine o' ?_;refine æ ?_;intro hr;refine I' hr z (λaU hr=>?_) (λaU hr=>?_)
 .refine sr<|Ε (y' 3 xT z z z)<|oE hr λa7 aE hr=>gW z z (x' O8 z) (Wr.h aE) z (⟨L,s,Q,S⟩) (λa4 a6 o Z=>?_)
  obtain⟨aM,aN,aA,aJ,rfl,I,D⟩:=Z;refine W' 7 z rK z λb5=>gu 7 py z<|nx<|o'<|fL [ff,ff,ff,ff,ff,ff,ff] eL İ λN=>cn (λ_ d=>y' 2 uu z z z) ?_
  refine æ ?_;intro p hr _;refine oE hr λE aK hr=>mm (f:=43) (φ:=qC E) (λ_=>z) (λv G1 G2 d h=>?_) (λu B d O=>?_) ?_
  .obtain⟨m,l,rfl,C⟩:=h;exact⟨_,_,z,C.mono d⟩
  .obtain⟨⟨e,j,k,g,av,A,y⟩,_⟩:=(show(λG v=>∃e j k g,v=.agg ([i' p.kind,δ e p.p j,δ k p.o g]).toArray/\sl c' G e j p.p/\sv G k g p.o) B.m (u 21)/\True from O);exact⟨_,_,_,λ_=>x' Pa z,Rr 5 _ _ _ _ _ _ _ _ _ _ _ _ _ _ aK,(by simp only[av]<;>rfl),⟨((K.mono o).mono d),(I.mono d),(D.mono d),A,y⟩⟩
  refine lr (λ_=>z) yH<|γ.yD (λa8 aY a3 X1 aH an ad ae=>?_)
  obtain⟨b6,rfl,aC⟩:=an;obtain⟨m,l,rfl,C⟩:=ad;obtain⟨e,j,k,g,rfl,A,y⟩:=ae;refine pY aC (mu (show WL _ _ _ _ _ _ (St w0 G0 X1.m _)from ?_));refine gu 8 s9 z<|t'<|Γ<|b'<|o' ?_
  refine æ ?_;intro hr;refine I' hr z (λaP hr=>?_) (λaP hr=>?_)
  .refine o'<|WC.jA [(8,ú b6 (ox E m l) 100)] (lc z ln) [ff,tt,tt] eL İ λN=>cn (λ_ d=>y' 2 uu z z z)<|nM z (Y0.Vo z)<|nM z (n' 8 Ds z z z)<|ye N<|oc (λw q=>q.weaken (lc z ln))<|gu 4 yB z<|n5<|eY.y0 (λw q=>q.weaken (lc z ln)) z (rz z) z<|eY.y0 (λw q=>q.weaken (lc z ln)) z (rz z) z<|wb (λw q=>q.weaken (lc z ln))<|Γ<|b'<|m'<|a'<|a' ?_
   obtain rfl:_=r:=hr;exact WE.Dp z (kJ (i:=4) uu z z z) z z ⟨_,_,z,(K.mono (mx o aH))⟩
  refine q'<|b'<|o'<|WC.jA [(8,ú b6 (ox E m l) 100)] (lc z ln) [ff,ff,tt,tt] eL İ λN=>?_
  refine æ ?_;intro hr;refine nM z (n' 8 eC z z z)<|ye N<|oc (λw q=>q.weaken (lc z ln))<|gu 4 yB z<|n5<|eY.y0 (λw q=>q.weaken (lc z ln)) z (rz z) z<|eY.y0 (λw q=>q.weaken (lc z ln)) z (rz z) z<|wb (λw q=>q.weaken (lc z ln))<|Γ<|b'<|m'<|a' ?_
  obtain rfl:_=r:=hr;exact WE.Dp z (kJ (i:=4) uu z z z) z z ⟨_,_,z,C⟩
 refine q'<|b'<|o'<|fL [ff,ff,ff,ff,ff,ff,ff,ff,ff,ff,tt,ff] eL İ λN=>?_
 refine æ ?_;intro ay hr _;refine oE hr λF aI hr=>mm (f:=44) (φ:=jn F) (λ_=>z) (λv G1 G2 d h=>?_) (λu B d O=>?_) ?_
 .obtain⟨x,t,rfl,n⟩:=h;exact⟨_,_,z,n.mono d⟩
 .obtain⟨⟨am,al,au,M⟩,_⟩:=(show(fT yP ay) B.m (u 38)/\True from O);exact⟨_,_,_,λ_=>x' Yc z,iU'.h aI,(by simp only[au]<;>rfl),⟨(K.mono d),M⟩⟩
 refine ko (φ:=jn F) (λ_=>z) (λv G1 G2 d h=>?_) (λu B d O=>?_) ?_
 .obtain⟨p1,W,rfl,R⟩:=h;exact⟨_,_,z,R.mono d⟩
 .obtain⟨⟨x,t,aw,n⟩,_,_⟩:=(show(jn F) B.m (u 41)/\True/\True from O);simp only[ς,aw];exact⟨_,k' z,x,t,z,n⟩
 refine ko (φ:=kI F.1) (λ_=>z) (λv G1 G2 d h=>?_) (λu B d O=>?_) ?_
 .obtain⟨p2,aR,rfl,aj⟩:=h;exact⟨_,_,z,aj.mono d⟩
 .obtain⟨⟨p1,W,P,R⟩,_,_,_⟩:=(show(jn F) B.m (u 33)/\True/\True/\True from O);simp only[ς,P];exact⟨_,O' z z,p1,W,z,R⟩
 refine nh (c:=i' F.2) (λ_=>z) (λu B d O=>?_) ?_
 .obtain⟨_,⟨p1,W,P,R⟩,_,_,_⟩:=(show True/\(jn F) B.m (u 33)/\True/\True/\True from O);simp only[ς,P];exact O' z z
 refine lr (λ_=>z) z26<|yg (λa9 a1 aW aX a2 X2 aG aq af Y ab aa=>?_)
 obtain⟨b7,rfl,aB⟩:=aq;obtain⟨p2,aR,rfl,aj⟩:=af;obtain⟨p1,W,rfl,R⟩:=Y;obtain⟨x,t,rfl,n⟩:=ab;obtain⟨am,al,rfl,M⟩:=aa;refine pY aB (mu (show WL _ _ _ _ _ _ (St w0 G0 X2.m _)from ?_));exact Η
instance qe{c r}:SpcM ((La c)) r (∀{h i f d s t u q},Cr 61 #[.agg ((fA c h i f d s t u q)).toArray] (λG=>sq G h i c.k.eqs/\sq G f d c.k.neqs/\sl c' G s t c.q.p/\sv G u q c.q.o) (fT xh r)):=.mk λhr {h i f d s t u q}=>by
 refine Ν ?_;intro w0 G0 _ Y _ S _ L _ _ b1 p1 _ E X aF W I au ak M hr _;refine WC.mC (hH:=by exact⟨(X.mono I),la⟩) hr [1,4] [1] [] [] (λ(⟨o,y,x,A,a⟩:(Ŀ Zc)×ŀ Addr×Nat×ŀ Ow×Int)=>⟨(o,a),[(3,δ y o x),(5,i' a)],λK=>sl xh K y x o/\Tok 3 54 (δ y o x) o.length A,[(1003,A)]⟩) (λ(⟨B,D,C,F⟩:(Ŀ Zc)×ŀ Addr×Nat×ŀ Ow)=>⟨B,[(3,δ D B C)],λR=>sl xh R D C B/\Tok 3 54 (δ D B C) B.length F,[(1003,F)]⟩) ⟨[],p1,0,none,0⟩ ?_;rintro _ K ⟨o,y,x,A,a⟩ k ⟨O,J⟩ hr;refine o' ?_;refine æ ?_;intro hr;refine I' hr z (λaJ hr=>?_) (λaJ hr=>?_)
 .refine q'<|b'<|o'<|Y'<|fL [tt,ff,ff,ff,ff,ff,ff] eL İ λhb=>uA z (k' z)<|cn (λ_ H=>Y0.BA z)<|cn (λ_ H=>R' ((Ä c.k h i f d)).toArray 1 lJ z z z (UZ ([i' c.id]) ((Ä c.k h i f d)) ([i' c.q.kind,δ s c.q.p t,δ u c.q.o q,i' c.η,i' c.low,i' c.high,.bool c.done])))<|fN z<|fN z<|oE hr λx1 N hr=>cn (λ_ H=>kp M5 ov ((M.mono k).mono H) z z N) ?_
  obtain⟨aO,aR,aP,aT,ay,ax,ao⟩:=Jx (T' (iQ M N) k);refine cn (λ_ H=>nL _ oS z z (λj v hv=>H _ _ _ (ay j v hv)))<|pL hb<|oE hr λg ar hr=>gW z z (x' Ya z) (fL'.h ar) z (⟨(S.mono (mx (mx E I) k)),(L.mono (mx (mx E I) k)),ax,ao⟩) (λaN aW Q U=>?_)
  obtain⟨ap,al,ag,af,p,m,l,n,rfl,av,ah,V,Z⟩:=U;refine Ε (Y0.yh underlying94 z oS z z)<|nb (e:=54) (r:=xh) (vs:=#[(0,.agg ([i' g.q.kind,δ p g.q.p m,δ l g.q.o n]).toArray)]) (cs:=[i' g.q.kind,δ p g.q.p m,δ l g.q.o n]++([])) ([g.q]:Ŀ Zc) z z z z z ĳ (λ_=>İ) ⟨[i' g.q.kind,δ p g.q.p m,δ l g.q.o n],[],z,⟨[i' g.q.kind],[δ p g.q.p m,δ l g.q.o n],z,z,⟨[δ p g.q.p m],[δ l g.q.o n],z,⟨_,z,V⟩,⟨_,z,Z⟩⟩⟩,z⟩ (key:=999) z (by rw[Y];rfl) (λp2 aV P aE=>?_)
  refine oA hr λam hr=>jV (r:=xh) 1003 z z M5 Np z ĳ z z (O.mono (mx Q P)) z (by rw[Y];rfl) J aE am λp3 T aj aH ab aD an=>dQ z<|t'<|Γ<|E'<|b'<|w'<|ν z<|iP z<|dQ z<|t'<|N' ⟨aH,(o++[g.q]),p3,T,aj,i64.wrap (a+1)⟩ hr ⟨(mx (mx (mx k Q) P) ab),aD,an⟩ (Æ z) (w2 z z)
 exact Η
instance gf'{i r}:SpcM ((LH i)) r (∀{Q S},Cr 22 #[δ Q i S] (λG=>sl xa G Q S i) (kI r)):=.mk λhr {Q S}=>by
 refine Ν ?_;intro w0 G0 O _ W av R B V X U j hr _;refine WC.mC hr [0,2,3] [2] [2,3] [2] (λ(⟨a,s,n,l⟩:Int×Ze×ŀ Addr×Nat)=>⟨(a,s),[(4,i' a)],λt=>sl Zr t n l s.t,[(3,ú j (fS s n l) 26)]⟩) (λ(⟨F,y,A⟩:Ze×ŀ Addr×Nat)=>⟨F,[],λH=>sl Zr H y A F.t,[(3,ú j (fS F y A) 26)]⟩) ⟨0,av,V,X⟩ ?_;rintro _ t ⟨a,s,n,l⟩ k x hr;refine o'<|sr<|ν z<|ν z<|Ε (P' underlying22 (O.mono (mx B k)) z)<|eb hr z (Z' z z) z (λaz hr=>?_) (λaz hr=>?_)
 .refine æ ?_;intro hr;refine I' hr z (λN hr=>?_) (λN hr=>?_)
  .refine q'<|b'<|o'<|Y'<|fL [ff,ff,ff,ff,ff,ff,ff,ff,tt,tt] eL İ λhb=>cn (λ_ e=>y' 3 uu z z z)<|fN z<|fN z ?_
   refine æ ?_;intro _ _ _ _ _ _ _ _ _ _ _ _ _ _ _ _ _ _ _ _ _ _ _ _ _ _ _ f hr _;refine ko (φ:=Ç f) (λ_=>z) (λv I K e h=>?_) (λu C e E=>?_) ?_
   .obtain⟨T,D,rfl,q⟩:=h;exact⟨_,_,z,q.mono e⟩
   .obtain⟨⟨p,o,Y,g⟩,_⟩:=(show(Ç f) C.m (u 22)/\True from E);simp only[ς,Y];exact⟨_,k' z,p,o,z,g⟩
   refine ko (φ:=kI f.1) (λ_=>z) (λv I K e h=>?_) (λu C e E=>?_) ?_
   .obtain⟨p2,ah,rfl,P⟩:=h;exact⟨_,_,z,P.mono e⟩
   .obtain⟨⟨T,D,m,q⟩,_,_⟩:=(show(Ç f) C.m (u 16)/\True/\True from E);simp only[ς,m];exact⟨_,O' z z,T,D,z,q⟩
   refine nh (c:=i' f.2.1) (λ_=>z) (λu C e E=>?_) ?_
   .obtain⟨_,⟨T,D,m,q⟩,_,_⟩:=(show True/\(Ç f) C.m (u 16)/\True/\True from E);simp only[ς,m];exact O' z z
   refine nh (c:=i' f.2.2) (λ_=>z) (λu C e E=>?_) ?_
   .obtain⟨_,⟨T,D,m,q⟩,_,_⟩:=(show True/\(Ç f) C.m (u 16)/\True/\True from E);simp only[ς,m];exact O' z z
   refine zP (d:=23) (post:=kI f.1) (d':=16) (post':=Ç f) (d'':=22) (post'':=Ç f) (λaI aG aK ar Z J L M=>?_);obtain⟨p2,ah,rfl,P⟩:=J;obtain⟨T,D,rfl,q⟩:=L;obtain⟨p,o,rfl,g⟩:=M;exact gu 3 yB z<|Η
  exact Η
 exact Η
instance jr'{t r}:SpcM ((Ld t)) r (∀{q s},Cr 24 #[.agg ((fS t q s)).toArray] (λG=>sl Zr G q s t.t) (λG v=>v=.bool r)):=.mk λhr {q s}=>by
 refine æ ?_;intro w0 Y _ K hr _;refine WC.nB hr [1] [1] (λ(_:Unit)=>⟨[],QD t,tr,[]⟩) ?_;intro U _ hr E _;refine o'<|sr<|Ο z<|WC.mC hr [1] [1] [] [] (λ(C:Int)=>⟨C,[(3,i' C)],tr,[]⟩) (λ(_:Unit)=>⟨(.inr ()),[],tr,[]⟩) 0 ?_
 intro _ P C u _ hr;refine o' ?_;refine æ ?_;intro hr;refine I' hr z (λa6 hr=>?_) (λa6 hr=>?_)
 .refine q' ?_;refine æ ?_;intro c _ _ h _ i _ f _ d _ l _ m _ o _ n _ _ _ _ D _ x _ O hr _;refine WC.nD hr [1,3,4] [1,4] (λ(_:Unit)=>⟨[],AJ t C c,tr,[]⟩) ?_ ?_
  .refine o'<|fL [ff,ff,ff,ff,ff,ff,ff,ff,ff,ff,ff,ff,ff,ff,ff,ff,ff,ff,ff,ff,ff,ff,ff] eL İ λQ=>cn (λ_ e=>Y0.MF z)<|cn (λ_ e=>n' 4 eC z z z)<|zK hr z (λ_ e=>Z' z z) (λj hr=>?_) (λj hr=>?_)
   .refine Ν ?_;intro _;refine È (Q7 z z) z ?_;exact Η
   refine Ν ?_;intro _ hr;refine È (Q7 z z) z<|sf z z z<|Θ z<|ν z<|fz z<|Θ z<|ν z<|fz z<|Θ z<|ν z<|fz z<|Θ z<|ν z<|fz z<|Θ z<|t'<|Γ<|b'<|n1 z<|sr<|Ο z<|m'<|a'<|g'<|a'<|a'<|g'<|mT<|a' (Ö hr z z)
  intro J _ hr g _;refine æ ?_;intro _ L k _ _ _ _ _ _ _ _ p Z _ _ _ hr _;refine WC.nD hr [1,3,4] [1,4] (λ(_:Unit)=>⟨[],QC t C c,tr,[]⟩) ?_ ?_
  .refine Ν ?_;intro _ hr;refine oE hr λa A hr=>H' (rV z z) z (x' D8 z) (Ez _ _ _ _ _ _ _ _ _ _ _ A) z (⟨p,Z,(D.mono (mx g k)),(x.mono (mx g k))⟩) ?_;cases a
   .exact Η
   exact Η
  intro I _ hr y _;refine Ν ?_;intro F H _ B N _ hr _;refine WC.mA hr [1,3,4,6] [1,4] [1,3] [1] (λ(W:Int)=>⟨W,[(7,i' W)],tr,[]⟩) (λ(_:Unit)=>⟨(.inr ()),[],tr,[]⟩) 0
 exact Η
end Go.Proofs.YtepbagkffgddlaaGreat

namespace Go.Proofs.YtepbagkffgddlaaGreat
open Go.IntKind (i8 i16 i32 i64 u8 u16 u32 u64)
open Go.Proofs.Tryz
open Go Go.EL Go.RowKit Go.Proofs
set_option maxHeartbeats 4000000
set_option maxRecDepth 20000
end Go.Proofs.YtepbagkffgddlaaGreat

namespace Go.EL
open Go.IntKind (i8 i16 i32 i64 u8 u16 u32 u64)
open Go Go.RowKit
def Cd:Ó:=[⟨ü 1,ε (λ_=>0) (0:Int).toNat 1⟩]
def zR:Zd:=⟨1,[Cd],[]⟩
theorem YN:ψ Cd:=ψ.of (by decide +kernel)
theorem rl:Ñ zR where
 ok:={
  n:=ĳ
  eqs:=⟨ĳ,λp hp=>by
   rw[đ.1 (show p∈[Cd]from hp)];exact⟨YN,by decide +kernel,ĳ,by decide +kernel,by decide +kernel⟩,ū _ _⟩
  neqs:=⟨ĳ,λp hp=>absurd hp ĝ,List.Pairwise.nil⟩ }
 n3:=ĳ
theorem Ce:(Ms 0).ω (Cd,0):=⟨ĳ,_,(xS (n:=1) ĳ).1,rfl⟩
abbrev q4:Zc:=⟨4,[],[]⟩
abbrev q5:Zc:=⟨5,[],[]⟩
def jX:Zd:=(Χ zR).1
def gS:Ze:=⟨[⟨1,jX,q4,0,0,-1,false⟩],2⟩
def uH:Ze:=⟨[⟨1,jX,q4,0,0,-1,false⟩,⟨2,jX,q5,0,0,-1,false⟩],3⟩
theorem YO:gR q4≠gR q5:=by intro e;have:=Ē ByteArray.toList e;revert this;decide +kernel
theorem GA:q4∈ë 5:=đ.2 rfl
theorem U1:q5∈ë 6:=đ.2 rfl
theorem YP:gM jX q4≠gM jX q5:=λe=>YO (Vy rl.canon.ok rl.canon.ok e).2
theorem Vn:il gS jX q4=(gS,1):=by
 unfold il;have:eT gS.t (gM jX q4)=some ⟨1,jX,q4,0,0,-1,false⟩:=by unfold eT gS;exact List.find?_cons_of_pos (ă rfl)
 rw[this]
theorem Mx:gI jC zR q4=(gS,1,0):=by unfold gI;rw[ą (AG GA rl.ok),AF GA];rfl
theorem ZzG:gI gS zR q4=(gS,1,0):=by unfold gI;rw[ą (AG GA rl.ok),AF GA];show((il gS jX q4).1,(il gS jX q4).2,0)=_;rw[Vn]
theorem My:gI gS zR q5=(uH,2,0):=by
 unfold gI;rw[ą (AG U1 rl.ok),AF U1];have a:ij 4 gS jX q4=(gS,1):=Vn;have e:ij 5 gS jX q5=il (ij 4 gS jX q4).1 jX q5:=rfl;have c:il gS jX q5=(uH,2):=by
  unfold il;have:eT gS.t (gM jX q5)=none:=by unfold eT gS;exact(List.find?_cons_of_neg (by rw[Ě];exact YP)).trans rfl
  rw[this];rfl
 show((ij 5 gS jX q5).1,(ij 5 gS jX q5).2,0)=_;rw[e,a,c]
theorem ZzH:gI gS zR ⟨11,[],[]⟩=(⟨[],0⟩,0,1):=rfl
theorem vG:ì gS:=by have:=(Lg y5 rl (fb.nil 4) (by rw[Mx])).ok;rwa [Mx]at this
theorem ZzF:ì uH:=by have:=(Lg vG rl (fb.nil 5) (by rw[My])).ok;rwa [My]at this
abbrev Cc:Zk:=⟨5,[],1,0,0,[],[],[],[]⟩
abbrev sy(n:Int):Zk:=⟨12,[],n,0,0,[],[],[],[]⟩
theorem Pk:jX.n=1:=rl.Vh
theorem ZzI:ib gS 1 [Cc] 3=(⟨[⟨1,jX,q4,4,0,-1,true⟩],2⟩,0):=by
 rw[uO (rfl) ĳ (by
  show([Cc].all (ã jX))=true;unfold ã;rw[Pk];decide +kernel)]
 show(Ze.mk [stepT jX 1 [Cc] 3 ⟨1,jX,q4,0,0,-1,false⟩] 2,(0:Int))=_;unfold stepT;rw[ą rfl];rfl
theorem ZzJ:ib gS 2 [] 3=(⟨[],0⟩,380):=yj rfl
theorem ZzK:ib gS 1 [] 13=(⟨[],0⟩,1):=sH rfl ĳ
theorem ZzL:ib uH 2 [sy 5,sy 7] 0=(⟨[⟨1,jX,q4,0,0,-1,false⟩,⟨2,jX,q5,1,0,5,false⟩],3⟩,0):=by
 rw[uO (rfl) ĳ (by
  show([sy 5,sy 7].all (ã jX))=true;unfold ã;rw[Pk];decide +kernel)]
 show(Ze.mk [stepT jX 2 [sy 5,sy 7] 0 ⟨1,jX,q4,0,0,-1,false⟩,stepT jX 2 [sy 5,sy 7] 0 ⟨2,jX,q5,0,0,-1,false⟩] 3,(0:Int))=_;unfold stepT;rw[ą rfl,ą rfl];rfl
end Go.EL

namespace Go.EL
open Go.IntKind (i8 i16 i32 i64 u8 u16 u32 u64)
open Go Go.RowKit
theorem YM:Ë Cc:=.B1 1 0 ĳ ĳ
theorem VB{n:Int}(h:0<=n/\n<=7):Ë (sy n):=.zL 12 n ĳ h
theorem Zok:JP.ω true:=by
 have w1:=Bg y5 ĳ rl (fb.nil 4);rw[Mx]at w1;have w2:=Bg vG ĳ rl (fb.nil 4);rw[ZzG]at w2;have w3:=A2 vG ĳ 1 (l:=[Cc]) ĳ (λc a=>by rw[đ.1 a];exact YM) 3;rw[ZzI]at w3;have w4:=Bg vG ĳ rl (fb.nil 11);rw[ZzH]at w4;have w5:=A2 vG ĳ 2 (l:=[]) ĳ (λc a=>absurd a ĝ) 3;rw[ZzJ]at w5;have w6:=A2 vG ĳ 1 (l:=[]) ĳ (λc a=>absurd a ĝ) 13;rw[ZzK]at w6;have m:=(Fz (B:=⟨[⟨1,jX,q4,4,0,-1,true⟩],2⟩) ĳ 1).1;have w8:=Zrz vG.wI ĳ;have j:=Bg vG ĳ rl (fb.nil 5);rw[My]at j;have d:=A2 ZzF ĳ 2 (l:=[sy 5,sy 7]) ĳ (λc a=>by
  rcases Ď.1 a with a|a
  .rw[a];exact VB ĳ
  rw[đ.1 a];exact VB ĳ) 0
 rw[ZzL]at d;have f:=(Fz (B:=⟨[⟨1,jX,q4,0,0,-1,false⟩,⟨2,jX,q5,1,0,5,false⟩],3⟩) ĳ 2).1;have g:(AQ jC).ω true:=by
  rcases GB (SZ y5.wH)with h|h
  .exact h.2
  exact absurd (y5.valid ĳ) h.1
 have i:=Zvt y5 ĳ;have k:(Jo (Cd,0) (gS,1,0)).ω true:=by refine⟨_,rfl,_,j,Cq.wp.no (λe=>e rfl) ⟨_,d,_,f,Cq.wp.yes rfl (Cq.wp.yes rfl (Cq.wp.yes rfl (Cq.wp.yes rfl (Cq.wp.no ĳ ⟨jC,rfl,true,g,jC,rfl,_,i,?_⟩))))⟩⟩;rfl
 refine⟨_,Ce,jC,rfl,_,rfl,_,w1,_,rfl,_,w2,_,w3,_,rfl,_,w4,_,w5,_,w6,_,m,?_⟩;exact Cq.wp.no (λe=>e rfl) (Cq.wp.no (λe=>e rfl) (Cq.wp.no (λe=>e rfl) (Cq.wp.no (λe=>e rfl) (Cq.wp.no (λe=>e rfl) (Cq.wp.no (λe=>e rfl) (Cq.wp.no (λe=>e rfl) ⟨true,w8,Cq.wp.yes rfl (Cq.wp.yes rfl (Cq.wp.no (λe=>e rfl) (Cq.wp.no (λe=>e rfl) k)))⟩))))))
end Go.EL

namespace Go.EL
open Go.IntKind (i8 i16 i32 i64 u8 u16 u32 u64)
open Go Go.RowKit
structure vj where
 Γ:Int
 part:Int
 hQ:Int
abbrev Q1:Rp vj:=Rp.via (Rp.pair (Rp.int .u8) (Rp.pair (Rp.int .u8) (Rp.int .i64))) (λx=>(x.Γ,x.part,x.hQ))
theorem ZrE{G:Mem}{K:Nat->Value->Prop}{o:Nat}{x:vj}(h:AtK Q1 G K o x):(∀(j:Nat) (u:Value),([.int .u8 x.Γ,.int .u8 x.part,.int .i64 x.hQ]).toArray[j]?=some u->K (o+j) u):=by obtain⟨c,h,f⟩:=h;obtain⟨k,d1,d,a,i⟩:=h;subst d;replace a:_=([.int .u8 _]:Ŀ Value):=a;subst a;obtain⟨l,d3,e,h3,k3⟩:=i;subst e;replace h3:_=([.int .u8 _]:Ŀ Value):=h3;subst h3;replace k3:_=([.int .i64 _]:Ŀ Value):=k3;subst k3;exact λj u g=>f j u (by simpa using g)
def ZH(d:Bool)(c:(Ŀ Zb))(a:Int):Cq Bool:=
 Cq.bind (AQ (Ze.mk c a)) λe=>Cq.bind (Ld (Ze.mk c a)) λf=>if e=f then(Cq.ret d)else(Cq.ret false)
def PB(k:(Ŀ Zv))(c:vj):Cq Bool:=
 Cq.bind (JP) λd=>if(!d)=true then(Cq.ret false)else(Cq.bind (LH k) λa=>Cq.é (([]++a.t).length<=small) (if 0<(([]++a.t).length:Int)then(Cq.é ((([]++a.t).length:Int)≠0) (if(Int.tmod c.part 9)=0 then(Cq.Γ ([]++a.t) (Int.tmod (i64.wrap c.Γ) (([]++a.t).length:Int)) λg=>ZH d (([]++a.t).set (Int.tmod (i64.wrap c.Γ) (([]++a.t).length:Int)).toNat (Zb.mk c.hQ g.k g.q g.η g.low g.high g.done)) a.next)else(if(Int.tmod c.part 9)=1 then(Cq.Γ ([]++a.t) (Int.tmod (i64.wrap c.Γ) (([]++a.t).length:Int)) λh=>ZH d (([]++a.t).set (Int.tmod (i64.wrap c.Γ) (([]++a.t).length:Int)).toNat (Zb.mk h.id h.k h.q c.hQ h.low h.high h.done)) a.next)else(if(Int.tmod c.part 9)=2 then(Cq.Γ ([]++a.t) (Int.tmod (i64.wrap c.Γ) (([]++a.t).length:Int)) λe=>Cq.Γ (([]++a.t).set (Int.tmod (i64.wrap c.Γ) (([]++a.t).length:Int)).toNat (Zb.mk e.id e.k e.q e.η c.hQ e.high e.done)) (Int.tmod (i64.wrap c.Γ) (([]++a.t).length:Int)) λi=>ZH d ((([]++a.t).set (Int.tmod (i64.wrap c.Γ) (([]++a.t).length:Int)).toNat (Zb.mk e.id e.k e.q e.η c.hQ e.high e.done)).set (Int.tmod (i64.wrap c.Γ) (([]++a.t).length:Int)).toNat (Zb.mk i.id i.k i.q i.η i.low c.hQ i.done)) a.next)else(if(Int.tmod c.part 9)=3 then(Cq.é (0<=(0:Int)/\(0:Int)<=(Int.tmod (i64.wrap c.Γ) (([]++a.t).length:Int))/\(Int.tmod (i64.wrap c.Γ) (([]++a.t).length:Int))<=(([]++a.t).length:Int)) (Cq.é (0<=i64.wrap ((Int.tmod (i64.wrap c.Γ) (([]++a.t).length:Int))+1)/\(i64.wrap ((Int.tmod (i64.wrap c.Γ) (([]++a.t).length:Int))+1))<=(([]++a.t).length:Int)/\(([]++a.t).length:Int)<=(([]++a.t).length:Int)) (Cq.é ((((([]++a.t).take (Int.tmod (i64.wrap c.Γ) (([]++a.t).length:Int)).toNat).drop (0:Int).toNat)++((([]++a.t).take (([]++a.t).length:Int).toNat).drop (i64.wrap ((Int.tmod (i64.wrap c.Γ) (([]++a.t).length:Int))+1)).toNat)).length<=small) (ZH d (((([]++a.t).take (Int.tmod (i64.wrap c.Γ) (([]++a.t).length:Int)).toNat).drop (0:Int).toNat)++((([]++a.t).take (([]++a.t).length:Int).toNat).drop (i64.wrap ((Int.tmod (i64.wrap c.Γ) (([]++a.t).length:Int))+1)).toNat)) a.next))))else(if(Int.tmod c.part 9)=4 then(Cq.Γ ([]++a.t) (Int.tmod (i64.wrap c.Γ) (([]++a.t).length:Int)) λf=>ZH d (([]++a.t).set (Int.tmod (i64.wrap c.Γ) (([]++a.t).length:Int)).toNat (Zb.mk f.id f.k (Zc.mk c.hQ f.q.p f.q.o) f.η f.low f.high f.done)) a.next)else(if(Int.tmod c.part 9)=5 then(Cq.Γ ([]++a.t) (Int.tmod (i64.wrap c.Γ) (([]++a.t).length:Int)) λn=>Cq.Γ ([]++a.t) (Int.tmod (i64.wrap c.Γ) (([]++a.t).length:Int)) λp=>Cq.bind (Ar 2 n.k.neqs p.k.eqs) λl=>Cq.Γ ([]++a.t) (Int.tmod (i64.wrap c.Γ) (([]++a.t).length:Int)) λj=>ZH d (([]++a.t).set (Int.tmod (i64.wrap c.Γ) (([]++a.t).length:Int)).toNat (Zb.mk j.id l.1 j.q j.η j.low j.high j.done)) a.next)else(if(Int.tmod c.part 9)=6 then(Cq.Γ ([]++a.t) (Int.tmod (i64.wrap c.Γ) (([]++a.t).length:Int)) λm=>Cq.é ((([]++a.t)++[m]).length<=small) (ZH d (([]++a.t)++[m]) a.next))else(if(Int.tmod c.part 9)=7 then(ZH d ([]++a.t) c.hQ)else(ZH d ([]++a.t) a.next))))))))))else(ZH d ([]++a.t) a.next)))
end Go.EL

namespace Go.EL
open Go.IntKind (i8 i16 i32 i64 u8 u16 u32 u64)
open Go Go.RowKit
theorem C6{eqs neqs:Ŀ Ó}(c:∀p∈eqs,ψ p)(hi:∀p∈neqs,ψ p):Ñ (gK 2 eqs neqs).1\/(gK 2 eqs neqs).1=hK:=by
 have h:=(Su (n:=2) c hi).2;unfold gK at h⊢;rw[ą (by decide:(1:Int)<=2/\(2:Int)<=4)]at h⊢;split
 .rename_i a;rw[ą a]at h;split
  .exact .inr rfl
  rename_i h2;rw[ā h2]at h;split
  .exact .inr rfl
  rename_i h3;rw[ā h3]at h;exact .inl ⟨h rfl,by show(2:Int)<=3;decide⟩
 exact .inr rfl
theorem tz{T:Ŀ Zb}(c:∀t∈T,hW t)(next:Int):(ZH true T next).ω true:=by
 have a:=GB (SZ (B:=⟨T,next⟩) c);have h2:=GB (Zwp (B:=⟨T,next⟩) c);rcases a with ⟨p,a⟩|⟨p,a⟩<;>rcases h2 with ⟨q,h2⟩|⟨q,h2⟩
 .exact⟨_,a,_,h2,Cq.wp.yes rfl rfl⟩
 .exact absurd p q
 .exact absurd q p
 exact⟨_,a,_,h2,Cq.wp.yes rfl rfl⟩
theorem ra{T:Ŀ Zb}(d:∀t∈T,hW t){u:Zb}(c:hW u)(j:Nat):∀t∈T.set j u,hW t:=λt a=>by
 rcases List.mem_or_eq_of_mem_set a with h|h
 .exact d t h
 rw[h];exact c
theorem ZpR{l:Ŀ Zv}(h:∀x∈l,kf x){z:vj}(G:0<=z.Γ/\z.Γ<=255):(PB l z).ω true:=by
 obtain⟨B,F,m,I⟩:=Zvv h;have a:=m.wH;refine⟨true,Zok,Cq.wp.no ĳ ⟨B,F,by show B.t.length<=small;simp only[small];omega,?_⟩⟩;simp only[ķ];by_cases i:0<(B.t.length:Int)
 .obtain⟨j,g,e⟩:∃j:Nat,j<B.t.length/\Int.tmod (i64.wrap z.Γ) (B.t.length:Int)=(j:Int):=by
   refine⟨(z.Γ % (B.t.length:Int)).toNat,?_,?_⟩
   .have:=Int.emod_lt_of_pos z.Γ i;have:=abG z.Γ (show(B.t.length:Int)≠0 by omega);omega
   rw[wrap64 ŉ,ŏ G.1];have:=abG z.Γ (show(B.t.length:Int)≠0 by omega);omega
  have hi:=Λ g;have d:=a _ (Ă g);have f:=(m.can _ (Ă g)).ck.1.ok;have same:∀u:Zb,u.k=B.t[j].k->u.q=B.t[j].q->hW u:=λu c h2=>⟨c ▸ d.xk,h2 ▸ d.xq⟩;have w1:i64.wrap ((j:Int)+1)=((j+1:Nat):Int):=χ ŉ;simp only[e,w1];refine Cq.wp.yes i ⟨by show(B.t.length:Int)≠0;omega,?_⟩;by_cases c0:Int.tmod z.part 9=0
  .refine Cq.wp.yes c0 ⟨_,hi,tz ?_ _⟩;exact ra a (by exact same _ rfl rfl) _
  refine Cq.wp.no c0 ?_;by_cases q:Int.tmod z.part 9=1
  .refine Cq.wp.yes q ⟨_,hi,tz ?_ _⟩;exact ra a (by exact same _ rfl rfl) _
  refine Cq.wp.no q ?_;by_cases r:Int.tmod z.part 9=2
  .refine Cq.wp.yes r ⟨_,hi,_,⟨ŉ,List.getElem?_set_self (by simpa using g)⟩,tz ?_ _⟩;refine ra (ra a ?_ _) ?_ _<;>exact same _ rfl rfl
  refine Cq.wp.no r ?_;by_cases s:Int.tmod z.part 9=3
  .refine Cq.wp.yes s ⟨⟨ŉ,ŉ,ŉ⟩,⟨ŉ,ŉ,ŉ⟩,?_,tz (λt k=>?_) _⟩
   .simp only[small,Ā,ľ,Č];omega
   rcases Ħ.1 k with c|c
   .exact a t (œ (aaR c))
   exact a t (œ (aaR c))
  refine Cq.wp.no s ?_;by_cases v:Int.tmod z.part 9=4
  .refine Cq.wp.yes v ⟨_,hi,tz ?_ _⟩;exact ra a (by exact⟨d.xk,d.xq.p,d.xq.o⟩) _
  refine Cq.wp.no v ?_;by_cases y:Int.tmod z.part 9=5
  .have D:∀p∈B.t[j].k.eqs,ψ p:=λp hp=>(f.eqs.hU p hp).1;have E:∀p∈B.t[j].k.neqs,ψ p:=λp hp=>(f.neqs.hU p hp).1;have J:=f.eqs.len;have K:=f.neqs.len;have H:=RL (n:=2) (eqs:=B.t[j].k.neqs) (neqs:=B.t[j].k.eqs) ŉ ŉ E D;refine Cq.wp.yes y ⟨_,hi,_,hi,_,H,_,hi,tz ?_ _⟩;exact ra a (by exact⟨C6 E D,d.xq⟩) _
  refine Cq.wp.no y ?_;by_cases A:Int.tmod z.part 9=6
  .refine Cq.wp.yes A ⟨_,hi,by simp only[small,Ā,Ę,ĺ];omega,tz (λt k=>?_) _⟩;rcases Ħ.1 k with c|c
   .exact a t c
   rw[đ.1 c];exact d
  refine Cq.wp.no A ?_;by_cases C:Int.tmod z.part 9=7
  .exact Cq.wp.yes C (tz a _)
  exact Cq.wp.no C (tz a _)
 exact Cq.wp.no i (tz a _)
end Go.EL

namespace Go.Proofs.YtepbagkffgddlaaGreat
open Go.IntKind (i8 i16 i32 i64 u8 u16 u32 u64)
open Go.Proofs.Tryz
open Go Go.EL Go.RowKit Go.Proofs
def Db(x:vj):Prop:=((Lit.int .u8 x.Γ).wf=true)/\((Lit.int .u8 x.part).wf=true)/\((Lit.int .i64 x.hQ).wf=true)
theorem uT(W:World):ý prog W 62 Q1 (Db):=by have h:=ý.struct (W:=W) underlying62 İ (Þ.cons rfl İ (ý.int underlying5) (Þ.cons rfl İ (ý.int underlying5) (Þ.last rfl İ (ý.int underlying3)))) (λ(x:vj)=>(x.Γ,x.part,x.hQ)) (λy=>⟨y.1,y.2.1,y.2.2⟩) (λ_=>rfl);exact h
set_option maxRecDepth 100000 in
theorem ZyA{W:World}{base:Nat}{v:Value}{H:Type}{enc:TypeId×Value->H}{b:Nat}{d:DataW H}{ps:Ŀ MemPlace}(a:Value.okWide prog W .any base 62 v)(h:DataW.Trod enc prog W b (λ_=>true) true 62 v d ps):∃x:vj,v=.agg ([.int .u8 x.Γ,.int .u8 x.part,.int .i64 x.hQ]).toArray/\Db x:=by obtain⟨cs,x,rfl,h2,h3⟩:=Zt4 underlying62 (uT W) a h;exact⟨x,by rw[Zyd h2 (by rfl) (ZrE (K:=λj u=>cs[j]?=some u) (Zyb h2))],h3⟩
end Go.Proofs.YtepbagkffgddlaaGreat

namespace Go.EL
open Go.IntKind (i8 i16 i32 i64 u8 u16 u32 u64)
open Go Go.RowKit Go.Proofs Go.MapKept
theorem Δ.yc{P:Program}{G:Mem}{α:Type}{r:Rp α}{t e:TypeId}{n cap sz:Nat}{p:ŀ Addr}{xs:Ŀ α}{hi:Int}(d:(P.info? e).map (·.size)=some sz)(_:sz=r.size)(j:P.underlying t=some (.slice e))(h:Δ r G (.slice p n cap) xs)(k:0<=(0:Int)/\(0:Int)<=hi/\hi<=(xs.length:Int)):
  ∃q,Δ r G (.slice q ((xs.take hi.toNat).drop (0:Int).toNat).length ((xs.take hi.toNat).drop (0:Int).toNat).length) ((xs.take hi.toNat).drop (0:Int).toNat)/\∀k2 k3 w,(Instr.slice t (.slice p n cap) none (some (.int k2 hi)) (some (.int k3 hi))).run P w=.ok (.slice q ((xs.take hi.toNat).drop (0:Int).toNat).length ((xs.take hi.toNat).drop (0:Int).toNat).length) w:=by
 have l:((xs.take hi.toNat).drop (0:Int).toNat).length=hi.toNat:=ab0
 rw[l]
 have m:n=xs.length:=by obtain⟨p',c,cs,a,_⟩:=h;cases a;rfl
 have i:n<=cap/\cap<=9223372036854775807:=by obtain⟨p',c,cs,a,h2,_⟩:=h;cases a;exact h2
 have f:∀k2 k3 w,(Instr.sliceBounds true n cap none (some (.int k2 hi)) (some (.int k3 hi))).run P w=.ok (0,hi.toNat,hi.toNat) w:=λk2 k3 w=>by have a:0<=hi/\hi<=(cap:Int):=ŉ;simp[Instr.sliceBounds,Instr.sliceBound,asIntOf,a];intro h;omega
 obtain⟨q,a,h2⟩:=Sf (k2:=.i64) (k3:=.i64) j d h k default
 refine⟨q,h2,λk2 k3 w=>?_⟩
 have g:∀k2 k3 w,(Instr.slice t (.slice p n cap) none (some (.int k2 hi)) (some (.int k3 hi))).run P w=.ok (.slice (if hi.toNat=0 then p else p.map (·.add (0*sz))) hi.toNat hi.toNat) w:=λk2 k3 w=>by simp[Instr.slice,ē j,f,run_sizeOf d]
 rw[g]at a
 have:=Ē (λz:Result Value=>match z with|.ok (.slice q _ _) _=>q|_=>none) a
 have:(if hi.toNat=0 then p else p.map (·.add (0*sz)))=q:=this
 rw[g,this]
theorem Y0.yc{P:Program}{N:Nat}{dst:ŀ Nat}{ty:TypeId}{pos:String}{af:Array Edge}{g:ŀ (Nat×Bool)}{S:Ξ}{F:Fr}{t e:TypeId}{x d f:Operand}{k2 k3:IntKind}{hi:Int}{u v:Value}(i:P.underlying t=some (.slice e))(h:∀w,(Instr.slice t u none (some (.int k2 hi)) (some (.int k3 hi))).run P w=.ok v w)(j:F.ev x=some u)(h2:F.ev d=some (.int k2 hi))(h3:F.ev f=some (.int k3 hi)):
  Y0 P N ⟨dst,.slice t x none (some d) (some f),ty,pos,af,g⟩ F S v:=λa w c _=>by
 simp only[execOp,c.ev j,c.ev h2,c.ev h3,ŗ,Ğ]
 simp[Instr.sliceAt,ē i,h w]
end Go.EL
namespace Go.Proofs.YtepbagkffgddlaaGreat
open Go.IntKind (i8 i16 i32 i64 u8 u16 u32 u64)
open Go.Proofs.Tryz
open Go Go.EL Go.RowKit Go.Proofs
set_option maxHeartbeats 4000000
theorem Y0.Y3:fB 62 0 0:=fD underlying62 rfl rfl (λ_ _ _=>İ)
theorem Y0.Y4:fB 62 1 1:=fD underlying62 rfl rfl (λ_ _ _=>İ)
theorem Y0.zA:fB 62 2 2:=fD underlying62 rfl rfl (λ_ _ _=>İ)
theorem Zk5(ag:(Ŀ Zv))(m:vj)(aj:ŀ Addr)(ai:Nat)(r:Bool)(hr:(PB ag m).ω r):iC prog 4 #[.slice aj ag.length ai,.agg ([.int .u8 m.Γ,.int .u8 m.part,.int .i64 m.hQ]).toArray] (λG=>Δ xa G (.slice aj ag.length ai) ag) (λG v=>v=.bool r):=by
 refine iC.enter (args:=[_,_]) (N:=140) func4 rfl rfl rfl (λw0 G0 Q br=>?_);have aV:=br;refine sr ?_;refine WL.box 3 Zh rfl rfl (λb1=>?_);refine sg rfl rfl<|nr ?_
 obtain⟨bj,bF,hr⟩:=hr;refine WL.gg Zh rfl (YC.of E9 rfl) (dR'.h bF) rfl (trivial) ?_;refine sg rfl rfl<|nx<|WC.seq<|sr<|mv rfl rfl<|yy (Y0.not rfl) rfl ?_
 refine nx ?_;refine WC.cond (b:=!bj) rfl (λaX=>?_) (λaX=>?_)
 .replace hr:=hr.pos aX;refine sr<|sg rfl rfl<|nx<|WC.ret ?_
  replace hr:_=r:=hr;refine WE.gC ?_;subst hr;exact WE.ja rfl rfl rfl
 replace hr:=hr.neg (Ů.1 aX);refine WC.skip<|WE.then<|sr<|mv rfl rfl ?_
 obtain⟨q,bG,hr⟩:=hr;refine WL.call Zh rfl (YC.of X5 rfl) (gf'.h bG) rfl (aV) (λcR bZ aa az=>?_);obtain⟨cB,cA,rfl,bk⟩:=az;refine WL.alloc 6 Zh z26 rfl (λb2=>?_);refine WL.fg 6 Zh yB rfl rfl rfl rfl rfl (Ć.1 rfl) ?_;refine nr ?_;refine WL.qZ (e:=56) (r:=Zr) (vs:=#[]) (cs:=[]) ([]:Ŀ Zb) 4013 Zh rfl rfl rfl rfl ĳ (λ_=>İ) (rfl) (λp1 cG cb=>?_);refine yy (Y0.Z7 rfl) rfl<|yy (Y0.î 6 jc rfl rfl rfl) rfl ?_
 obtain⟨bs,hr⟩:=hr;refine WL.hM (r:=Zr) (e:=56) 4013 Zh rfl underlying24 np rfl ĳ rfl rfl cb rfl bk bs (λp2 R cH x=>?_);refine yy (Y0.Z7 rfl) rfl ?_;refine WL.eW 6 ([.slice p2 ([]++q.t).length R,.int .i64 q.next]).toArray Zh tb rfl rfl rfl (show 0<2 by decide) rfl rfl ?_;refine nx ?_;refine WC.q9 hr (λ(⟨X,ac,ab,P,aE⟩:(Ŀ Zb)×ŀ Addr×Nat×Int×Mem)=>⟨[(5,.bool bj),(6,.pointer (some ⟨b2,0,none⟩))],ZH bj X P,Mem.le bZ aE/\Δ Zr aE (.slice ac X.length ab) X,St w0 G0 aE [(6,some ⟨b2,.cells ([.slice ac X.length ab,.int .i64 P]:Ŀ Value).toArray 26 (0,0),0⟩)]⟩) ?_ ?_
 .skip;refine sr<|yy (Y0.Z7 rfl) rfl<|yy (Y0.î 6 jc rfl rfl rfl) rfl<|yy (Y0.nv underlying24 x rfl) rfl<|yy (Y0.gtr rfl rfl) rfl<|nx ?_
  refine WC.Ê (p:=0<(([]++q.t).length:Int)) rfl (λaY=>?_) (λaY=>?_)
  .replace hr:=hr.pos aY;refine sr<|yy (Y0.Y3 rfl) rfl<|yy (Y0.î 3 zV rfl rfl rfl) rfl<|yy (Y0.conv underlying5 underlying3 rfl) rfl<|yy (Y0.Z7 rfl) rfl<|yy (Y0.î 6 jc rfl rfl rfl) rfl ?_
   refine yy (Y0.nv underlying24 x rfl) rfl ?_;obtain⟨b7,hr⟩:=hr;refine yy (Y0.rem rfl rfl b7) rfl ?_;generalize Int.tmod (i64.wrap m.Γ) (([]++q.t).length:Int)=Y at hr⊢;refine sg rfl rfl<|nr<|yy (Y0.Y4 rfl) rfl<|yy (Y0.î 3 zV rfl rfl rfl) rfl<|yy (Y0.rem rfl rfl ĳ) rfl<|nx ?_
   refine WC.block<|sr<|yy (Y0.eql rfl rfl) rfl<|sg rfl rfl<|nx ?_
   refine WC.Ê (p:=(Int.tmod m.part 9)=0) rfl (λaZ=>?_) (λaZ=>?_)
   .replace hr:=hr.pos aZ;refine WC.region<|yy (Y0.Z7 rfl) rfl<|yy (Y0.î 6 jc rfl rfl rfl) rfl<|mv rfl rfl<|yy (Y0.zA rfl) rfl<|yy (Y0.î 3 eC rfl rfl rfl) rfl ?_
    obtain⟨x1,bv,hr⟩:=hr;refine yy (Y0.gT underlying24 kW x rfl rfl bv) rfl<|yy (Y0.MF rfl) rfl ?_
    refine WL.jN (r:=Zr) (e:=56) (off:=0) (cs':=[.int .i64 m.hQ]) (i:=Y) (z:=x1) (z':=(Zb.mk m.hQ x1.k x1.q x1.η x1.low x1.high x1.done)) 4013 Zh je rfl (Ĩ rfl) x rfl rfl rfl rfl (Ć.1 rfl) (Rp.xL (Rp.xG (off:=0) (Ĩ rfl) (Rp.whole rfl))) bv (λc1 bO=>?_);refine WL.nil<|WE.inBlock ?_
    refine WE.eO (r:=Zr) (e:=56) 4013 bO rfl (by rw[Q];rfl) (λc2 b0 aR aM cv=>?_);refine WE.jH ⟨(([]++q.t).set Y.toNat (Zb.mk m.hQ x1.k x1.q x1.η x1.low x1.high x1.done)),p2,R,q.next,b0⟩ ⟨hr,aR,(by first|exact aM|simpa only[ħ]using aM)⟩ (Fr.Zi rfl (Fr.Zi rfl (Fr.Zq _))) ?_
    .intro w D;exact D.weaken (Lo.Zi (by first|rfl|(simp only[ħ];rfl)) (Lo.Zq _))
   replace hr:=hr.neg aZ;refine sr<|yy (Y0.eql rfl rfl) rfl<|sg rfl rfl<|nx ?_
   refine WC.Ê (p:=(Int.tmod m.part 9)=1) rfl (λa9=>?_) (λa9=>?_)
   .replace hr:=hr.pos a9;refine WC.region<|yy (Y0.Z7 rfl) rfl<|yy (Y0.î 6 jc rfl rfl rfl) rfl<|mv rfl rfl<|yy (Y0.zA rfl) rfl<|yy (Y0.î 3 eC rfl rfl rfl) rfl ?_
    obtain⟨x2,bw,hr⟩:=hr;refine yy (Y0.gT underlying24 kW x rfl rfl bw) rfl<|yy (Y0.MH rfl) rfl ?_
    refine WL.jN (r:=Zr) (e:=56) (off:=7) (cs':=[.int .i64 m.hQ]) (i:=Y) (z:=x2) (z':=(Zb.mk x2.id x2.k x2.q m.hQ x2.low x2.high x2.done)) 4013 Zh je rfl (Ĩ rfl) x rfl rfl rfl rfl (Ć.1 rfl) (Rp.xL (Rp.oP (off:=6) (Rp.oP (off:=3) (Rp.oP (off:=0) (Rp.xG (off:=0) (Ĩ rfl) (Rp.whole rfl)))))) bw (λc3 bP=>?_);refine WL.nil<|WE.inBlock ?_
    refine WE.eO (r:=Zr) (e:=56) 4013 bP rfl (by rw[Q];rfl) (λc4 b3 aS aN cw=>?_);refine WE.jH ⟨(([]++q.t).set Y.toNat (Zb.mk x2.id x2.k x2.q m.hQ x2.low x2.high x2.done)),p2,R,q.next,b3⟩ ⟨hr,aS,(by first|exact aN|simpa only[ħ]using aN)⟩ (Fr.Zi rfl (Fr.Zi rfl (Fr.Zq _))) ?_
    .intro w D;exact D.weaken (Lo.Zi (by first|rfl|(simp only[ħ];rfl)) (Lo.Zq _))
   replace hr:=hr.neg a9;refine sr<|yy (Y0.eql rfl rfl) rfl<|sg rfl rfl<|nx ?_
   refine WC.Ê (p:=(Int.tmod m.part 9)=2) rfl (λba=>?_) (λba=>?_)
   .replace hr:=hr.pos ba;refine WC.jA [(3,some ⟨b1,.cells ([.int .u8 m.Γ,.int .u8 m.part,.int .i64 m.hQ]).toArray 62 (0,0),0⟩),(6,some ⟨b2,.cells ([.slice p2 ([]++q.t).length R,.int .i64 q.next]).toArray 26 (0,0),0⟩)] (Lo.Zi rfl (Lo.Zi rfl (Lo.Zq _))) [false,false,false,true,true,true,false,false,true,true,false,false] eL İ (λhb=>?_);refine cn (λ_ f=>Y0.Z7 rfl)<|cn (λ_ f=>Y0.î 6 jc rfl rfl rfl)<|cn (λ_ f=>Y0.move rfl) ?_
    refine γ.fQ Zh (Y0.Z7 rfl) ?_;refine γ.fQ Zh (Y0.î 6 jc rfl rfl rfl) ?_;refine γ.fQ Zh (Y0.move rfl) ?_;refine cn (λ_ f=>Y0.zA rfl)<|cn (λ_ f=>Y0.î 3 eC rfl rfl rfl) ?_
    refine γ.fQ Zh (Y0.zA rfl) ?_;refine γ.fQ Zh (Y0.î 3 eC rfl rfl rfl) ?_;obtain⟨x3,bx,hr⟩:=hr;refine cn (λ_ f=>Y0.gT underlying24 kW (x.mono f) rfl rfl bx)<|cn (λ_ f=>Y0.MI rfl) ?_
    refine γ.iM hb ?_;refine eY.one (λw D=>D.weaken (Lo.Zi rfl (Lo.Zi rfl (Lo.Zq _)))) ?_;refine WL.jN (r:=Zr) (e:=56) (off:=8) (cs':=[.int .i64 m.hQ]) (i:=Y) (z:=x3) (z':=(Zb.mk x3.id x3.k x3.q x3.η m.hQ x3.high x3.done)) 4013 Zh je rfl (Ĩ rfl) x rfl rfl rfl rfl (Ć.1 rfl) (Rp.xL (Rp.oP (off:=7) (Rp.oP (off:=4) (Rp.oP (off:=1) (Rp.oP (off:=0) (Rp.xG (off:=0) (Ĩ rfl) (Rp.whole rfl))))))) bx (λc5 aO=>?_);refine eY.back ?_;obtain⟨x4,bz,hr⟩:=hr;refine eY.y0 (λw D=>D.weaken (Lo.Zi rfl (Lo.Zi rfl (Lo.Zq _)))) Zh (Y0.gT underlying24 kW aO rfl rfl bz) rfl ?_;refine eY.y0 (λw D=>D.weaken (Lo.Zi rfl (Lo.Zi rfl (Lo.Zq _)))) Zh (Y0.MJ rfl) rfl ?_;refine eY.one (λw D=>D.weaken (Lo.Zi rfl (Lo.Zi rfl (Lo.Zq _)))) ?_;refine WL.jN (r:=Zr) (e:=56) (off:=9) (cs':=[.int .i64 m.hQ]) (i:=Y) (z:=x4) (z':=(Zb.mk x4.id x4.k x4.q x4.η x4.low m.hQ x4.done)) 4013 Zh je rfl (Ĩ rfl) aO rfl rfl rfl rfl (Ć.1 rfl) (Rp.xL (Rp.oP (off:=8) (Rp.oP (off:=5) (Rp.oP (off:=2) (Rp.oP (off:=1) (Rp.oP (off:=0) (Rp.xG (off:=0) (Ĩ rfl) (Rp.whole rfl)))))))) bz (λc6 bQ=>?_);refine eY.back ?_;refine eY.nil (λw D=>D.weaken (Lo.Zi rfl (Lo.Zi rfl (Lo.Zq _)))) ?_;refine WE.nx ?_;refine WE.inBlock ?_;refine WE.eO (r:=Zr) (e:=56) 4013 bQ rfl (by rw[Q];rfl) (λc7 b4 aT aP cx=>?_);refine WE.jH ⟨((([]++q.t).set Y.toNat (Zb.mk x3.id x3.k x3.q x3.η m.hQ x3.high x3.done)).set Y.toNat (Zb.mk x4.id x4.k x4.q x4.η x4.low m.hQ x4.done)),p2,R,q.next,b4⟩ ⟨hr,aT,(by first|exact aP|simpa only[ħ]using aP)⟩ (Fr.Zi rfl (Fr.Zi rfl (Fr.Zq _))) ?_
    .intro w D;exact D.weaken (Lo.Zi (by first|rfl|(simp only[ħ];rfl)) (Lo.Zq _))
   replace hr:=hr.neg ba;refine sr<|yy (Y0.eql rfl rfl) rfl<|sg rfl rfl<|nx ?_
   refine WC.Ê (p:=(Int.tmod m.part 9)=3) rfl (λbb=>?_) (λbb=>?_)
   .replace hr:=hr.pos bb;refine WC.eO (r:=Zr) (e:=56) 4013 x rfl (by rw[Q];rfl) (λc8 cW V aQ cz=>?_);refine WC.jA [] (Lo.Zq _) [false,false,false,false,false,false,false,false,false,false] eL İ (λhb=>?_);refine cn (λ_ f=>Y0.Z7 rfl)<|cn (λ_ f=>Y0.î 6 jc rfl rfl rfl)<|cn (λ_ f=>Y0.move rfl)<|cn (λ_ f=>Y0.move rfl) ?_
    obtain⟨b8,hr⟩:=hr;obtain⟨p3,cc,cd⟩:=Δ.yc (r:=Zr) kW rfl underlying24 aQ b8;refine cn (λ_ f=>Y0.yc underlying24 (cd _ _) rfl rfl rfl)<|cn (λ_ f=>Y0.Z7 rfl)<|cn (λ_ f=>Y0.î 6 jc rfl rfl rfl)<|cn (λ_ f=>Y0.move rfl)<|cn (λ_ f=>Y0.add rfl rfl) ?_
    obtain⟨b9,hr⟩:=hr;obtain⟨p4,cX,ce,cg⟩:=Δ.cut (r:=Zr) (some (.int .i64 (i64.wrap (Y+1)))) none kW rfl underlying24 aQ (.inr ⟨_,rfl⟩) (.inl ⟨rfl,rfl⟩) b9;refine cn (λ_ f=>Y0.BV underlying24 cg rfl rfl) ?_;refine γ.iM hb ?_;obtain⟨bt,hr⟩:=hr;refine eY.one (λw D=>D.weaken (Lo.Zq _)) ?_;refine WL.pM (r:=Zr) 2078 Zh rfl underlying24 np rfl ĳ rfl rfl cc rfl (by rw[Q];rfl) Tok.full ce bt (λp5 bN cJ b5 W ch cI=>?_);refine eY.back ?_;refine eY.y0 (λw D=>(D.weaken (Lo.Zq _)).eI (Mem.le_trans aa V) W) Zh (Y0.Z7 rfl) rfl ?_;refine eY.eW (λw D=>(D.weaken (Lo.Zq _)).eI (Mem.le_trans aa V) W) 6 ([.slice p5 (((([]++q.t).take Y.toNat).drop (0:Int).toNat)++((([]++q.t).take (([]++q.t).length:Int).toNat).drop (i64.wrap (Y+1)).toNat)).length bN,.int .i64 q.next]).toArray Zh tb rfl rfl rfl (show 0<2 by decide) rfl rfl ?_;refine eY.nil (λw D=>(D.weaken (Lo.Zq _)).eI (Mem.le_trans aa V) W) ?_;refine WE.nx ?_;refine WE.inBlock ?_;refine WE.jH ⟨(((([]++q.t).take Y.toNat).drop (0:Int).toNat)++((([]++q.t).take (([]++q.t).length:Int).toNat).drop (i64.wrap (Y+1)).toNat)),p5,bN,q.next,b5⟩ ⟨hr,(Mem.le_trans V W),ch⟩ (Fr.Zi rfl (Fr.Zi rfl (Fr.Zq _))) ?_
    .intro w D;exact D.weaken (Lo.Zi rfl (Lo.Zq _))
   replace hr:=hr.neg bb;refine sr<|yy (Y0.eql rfl rfl) rfl<|sg rfl rfl<|nx ?_
   refine WC.Ê (p:=(Int.tmod m.part 9)=4) rfl (λbc=>?_) (λbc=>?_)
   .replace hr:=hr.pos bc;refine WC.region<|yy (Y0.Z7 rfl) rfl<|yy (Y0.î 6 jc rfl rfl rfl) rfl<|mv rfl rfl<|yy (Y0.zA rfl) rfl<|yy (Y0.î 3 eC rfl rfl rfl) rfl ?_
    obtain⟨Z,bA,hr⟩:=hr;refine yy (Y0.gT underlying24 kW x rfl rfl bA) rfl<|yy (Y0.MG rfl) rfl<|yy (Y0.ME rfl) rfl ?_
    refine WL.jN (r:=Zr) (e:=56) (off:=4) (cs':=[.int .i64 m.hQ]) (i:=Y) (z:=Z) (z':=(Zb.mk Z.id Z.k (Zc.mk m.hQ Z.q.p Z.q.o) Z.η Z.low Z.high Z.done)) 4013 Zh je rfl (Ĩ rfl) x rfl rfl rfl rfl (Ć.1 rfl) (Rp.xL (Rp.oP (off:=3) (Rp.oP (off:=0) (Rp.xG (off:=0) (Ĩ rfl) (Rp.xL (Rp.xG (off:=0) (Ĩ rfl) (Rp.whole rfl))))))) bA (λc9 bR=>?_);refine WL.nil<|WE.inBlock ?_
    refine WE.eO (r:=Zr) (e:=56) 4013 bR rfl (by rw[Q];rfl) (λcK b6 aU ar bS=>?_);refine WE.jH ⟨(([]++q.t).set Y.toNat (Zb.mk Z.id Z.k (Zc.mk m.hQ Z.q.p Z.q.o) Z.η Z.low Z.high Z.done)),p2,R,q.next,b6⟩ ⟨hr,aU,(by first|exact ar|simpa only[ħ]using ar)⟩ (Fr.Zi rfl (Fr.Zi rfl (Fr.Zq _))) ?_
    .intro w D;exact D.weaken (Lo.Zi (by first|rfl|(simp only[ħ];rfl)) (Lo.Zq _))
   replace hr:=hr.neg bc;refine sr<|yy (Y0.eql rfl rfl) rfl<|sg rfl rfl<|nx ?_
   refine WC.Ê (p:=(Int.tmod m.part 9)=5) rfl (λbd=>?_) (λbd=>?_)
   .replace hr:=hr.pos bd;refine WC.drawn [false,false,false,false,false,false,false,false,false,false,false,false,false,false,false,false,false,false,false,false,true] eL İ (λhb=>?_);refine cn (λ_ f=>Y0.Z7 rfl)<|cn (λ_ f=>Y0.î 6 jc rfl rfl rfl)<|cn (λ_ f=>Y0.move rfl)<|cn (λ_ f=>Y0.Z7 rfl)<|cn (λ_ f=>Y0.î 6 jc rfl rfl rfl) ?_
    refine cn (λ_ f=>Y0.move rfl) ?_;obtain⟨x6,bB,hr⟩:=hr;refine cn (λ_ f=>Y0.gT underlying24 kW (x.mono f) rfl rfl bB)<|cn (λ_ f=>Y0.BA rfl)<|cn (λ_ f=>Y0.GI rfl) ?_
    obtain⟨p6,cY,ci,cj⟩:=AtK.sl (AtK.snd (AtK.snd (AtK.via (AtK.fst (AtK.snd (AtK.via (Β.at x bB)))))));refine cn (λ_ f=>Y0.loadT js (x.mono f) (key:=4013) rfl rfl ci)<|cn (λ_ f=>Y0.Z7 rfl)<|cn (λ_ f=>Y0.î 6 jc rfl rfl rfl)<|cn (λ_ f=>Y0.move rfl) ?_
    obtain⟨x7,bC,hr⟩:=hr;refine cn (λ_ f=>Y0.gT underlying24 kW (x.mono f) rfl rfl bC)<|cn (λ_ f=>Y0.BA rfl)<|cn (λ_ f=>Y0.GH rfl) ?_
    obtain⟨p7,cZ,cl,cm⟩:=AtK.sl (AtK.fst (AtK.snd (AtK.via (AtK.fst (AtK.snd (AtK.via (Β.at x bC)))))));refine cn (λ_ f=>Y0.loadT js (x.mono f) (key:=4013) rfl rfl cl) ?_;obtain⟨a,bJ,hr⟩:=hr;refine γ.oa (post:=λG v=>∃l k j g,v=.tuple #[.agg ([.int .i64 a.1.n,.slice l a.1.eqs.length k,.slice j a.1.neqs.length g]).toArray,.int .i64 a.2]/\Δ (Rp.sl Zj) G (.slice l a.1.eqs.length k) a.1.eqs/\Δ (Rp.sl Zj) G (.slice j a.1.neqs.length g) a.1.neqs) (λ_=>Zh) (λ_ _=>YC.of O7 rfl) (Jt _ _ _ _ _ _ _ _ bJ) rfl (λG' f=>⟨(cj.mono f),(cm.mono f)⟩) (λv G1 G2 f h=>?_) ?_
    .obtain⟨l,k,j,g,rfl,C,B⟩:=h;exact⟨_,_,_,_,rfl,C.mono f,B.mono f⟩
    refine γ.tv (φ:=λG v=>∃p8 J p9 K,v=.tuple #[.agg ([.int .i64 a.1.n,.slice p8 a.1.eqs.length J,.slice p9 a.1.neqs.length K]).toArray,.int .i64 a.2]/\Δ (Rp.sl Zj) G (.slice p8 a.1.eqs.length J) a.1.eqs/\Δ (Rp.sl Zj) G (.slice p9 a.1.neqs.length K) a.1.neqs) (λ_=>Zh) (λv G1 G2 f h=>?_) (λu G' f hu=>?_) ?_
    .obtain⟨p8,J,p9,K,rfl,ao,ap⟩:=h;exact⟨_,_,_,_,rfl,ao.mono f,ap.mono f⟩
    .obtain⟨⟨l,k,j,g,bl,C,B⟩,_⟩:=(show(λG v=>∃l k j g,v=.tuple #[.agg ([.int .i64 a.1.n,.slice l a.1.eqs.length k,.slice j a.1.neqs.length g]).toArray,.int .i64 a.2]/\Δ (Rp.sl Zj) G (.slice l a.1.eqs.length k) a.1.eqs/\Δ (Rp.sl Zj) G (.slice j a.1.neqs.length g) a.1.neqs) G'.m (u 110)/\True from hu);simp only[ς,bl];exact⟨_,Y0.move rfl,l,k,j,g,rfl,C,B⟩
    refine γ.tv (φ:=λG v=>∃S L T O,v=.agg ([.int .i64 a.1.n,.slice S a.1.eqs.length L,.slice T a.1.neqs.length O]).toArray/\Δ (Rp.sl Zj) G (.slice S a.1.eqs.length L) a.1.eqs/\Δ (Rp.sl Zj) G (.slice T a.1.neqs.length O) a.1.neqs) (λ_=>Zh) (λv G1 G2 f h=>?_) (λu G' f hu=>?_) ?_
    .obtain⟨S,L,T,O,rfl,am,an⟩:=h;exact⟨_,_,_,_,rfl,am.mono f,an.mono f⟩
    .obtain⟨⟨p8,J,p9,K,ad,ao,ap⟩,_,_⟩:=(show(λG v=>∃p8 J p9 K,v=.tuple #[.agg ([.int .i64 a.1.n,.slice p8 a.1.eqs.length J,.slice p9 a.1.neqs.length K]).toArray,.int .i64 a.2]/\Δ (Rp.sl Zj) G (.slice p8 a.1.eqs.length J) a.1.eqs/\Δ (Rp.sl Zj) G (.slice p9 a.1.neqs.length K) a.1.neqs) G'.m (u 92)/\True/\True from hu);simp only[ς,ad];exact⟨_,Y0.extract rfl rfl,p8,J,p9,K,rfl,ao,ap⟩
    refine γ.nt (c:=.int .i64 a.2) (λ_=>Zh) (λu G' f hu=>?_) ?_
    .obtain⟨_,⟨p8,J,p9,K,ad,ao,ap⟩,_,_⟩:=(show True/\(λG v=>∃p8 J p9 K,v=.tuple #[.agg ([.int .i64 a.1.n,.slice p8 a.1.eqs.length J,.slice p9 a.1.neqs.length K]).toArray,.int .i64 a.2]/\Δ (Rp.sl Zj) G (.slice p8 a.1.eqs.length J) a.1.eqs/\Δ (Rp.sl Zj) G (.slice p9 a.1.neqs.length K) a.1.neqs) G'.m (u 92)/\True/\True from hu);simp only[ς,ad];exact Y0.extract rfl rfl
    refine γ.th (d:=111) (post:=λG v=>∃S L T O,v=.agg ([.int .i64 a.1.n,.slice S a.1.eqs.length L,.slice T a.1.neqs.length O]).toArray/\Δ (Rp.sl Zj) G (.slice S a.1.eqs.length L) a.1.eqs/\Δ (Rp.sl Zj) G (.slice T a.1.neqs.length O) a.1.neqs) (d':=92) (post':=λG v=>∃p8 J p9 K,v=.tuple #[.agg ([.int .i64 a.1.n,.slice p8 a.1.eqs.length J,.slice p9 a.1.neqs.length K]).toArray,.int .i64 a.2]/\Δ (Rp.sl Zj) G (.slice p8 a.1.eqs.length J) a.1.eqs/\Δ (Rp.sl Zj) G (.slice p9 a.1.neqs.length K) a.1.neqs) (d'':=110) (post'':=λG v=>∃l k j g,v=.tuple #[.agg ([.int .i64 a.1.n,.slice l a.1.eqs.length k,.slice j a.1.neqs.length g]).toArray,.int .i64 a.2]/\Δ (Rp.sl Zj) G (.slice l a.1.eqs.length k) a.1.eqs/\Δ (Rp.sl Zj) G (.slice j a.1.neqs.length g) a.1.neqs) (λcU cT cS cE U aC aB aA=>?_);obtain⟨S,L,T,O,rfl,am,an⟩:=aC;obtain⟨p8,J,p9,K,rfl,ao,ap⟩:=aB;obtain⟨l,k,j,g,rfl,C,B⟩:=aA;obtain⟨x8,bD,hr⟩:=hr;refine yy (Y0.gT underlying24 kW (x.mono U) rfl rfl bD) rfl<|yy (Y0.BA rfl) rfl ?_
    refine WL.jN (r:=Zr) (e:=56) (off:=1) (cs':=[.int .i64 a.1.n,.slice S a.1.eqs.length L,.slice T a.1.neqs.length O]) (i:=Y) (z:=x8) (z':=(Zb.mk x8.id a.1 x8.q x8.η x8.low x8.high x8.done)) 4013 Zh py rfl (Ĩ rfl) (x.mono U) rfl rfl rfl rfl (Ć.1 rfl) (Rp.xL (Rp.oP (off:=0) (Rp.xG (off:=0) (Ĩ rfl) (Rp.whole ⟨[.int .i64 a.1.n],[.slice S a.1.eqs.length L,.slice T a.1.neqs.length O],rfl,rfl,⟨[.slice S a.1.eqs.length L],[.slice T a.1.neqs.length O],rfl,⟨_,rfl,am⟩,⟨_,rfl,an⟩⟩⟩)))) bD (λcL bi=>?_);refine WL.nil ?_;refine WE.nx ?_;refine WE.inBlock ?_;refine WE.eO (r:=Zr) (e:=56) 4013 bi rfl (by rw[Q];rfl) (λcM bm aF au bT=>?_);refine WE.jH ⟨(([]++q.t).set Y.toNat (Zb.mk x8.id a.1 x8.q x8.η x8.low x8.high x8.done)),p2,R,q.next,bm⟩ ⟨hr,(Mem.le_trans U aF),(by first|exact au|simpa only[ħ]using au)⟩ (Fr.Zi rfl (Fr.Zi rfl (Fr.Zq _))) ?_
    .intro w D;exact D.weaken (Lo.Zi (by first|rfl|(simp only[ħ];rfl)) (Lo.Zq _))
   replace hr:=hr.neg bd;refine sr<|yy (Y0.eql rfl rfl) rfl<|sg rfl rfl<|nx ?_
   refine WC.Ê (p:=(Int.tmod m.part 9)=6) rfl (λbe=>?_) (λbe=>?_)
   .replace hr:=hr.pos be;refine WC.drawn [false,false,false,false,false,false,false,false] eL İ (λhb=>?_);refine cn (λ_ f=>Y0.Z7 rfl)<|cn (λ_ f=>Y0.î 6 jc rfl rfl rfl)<|cn (λ_ f=>Y0.Z7 rfl)<|cn (λ_ f=>Y0.î 6 jc rfl rfl rfl)<|cn (λ_ f=>Y0.move rfl) ?_
    obtain⟨n,bE,hr⟩:=hr;refine cn (λ_ f=>Y0.gT underlying24 kW (x.mono f) rfl rfl bE) ?_;obtain⟨A,y,t,s,I,H,F,E,cp,aq,ah,bh,bg⟩:=KF (Β.at x bE);refine cn (λ_ f=>Y0.sG _ xU (x.mono f) (key:=4013) rfl rfl rfl ĳ cp) ?_;refine γ.CY (r:=Zr) (e:=56) ([n]:Ŀ Zb) (λ_=>Zh) rfl ĳ (λu G' f hu=>?_) ?_
    .exact⟨#[(0,.agg ([.int .i64 n.id,.int .i64 n.k.n,.slice A n.k.eqs.length y,.slice t n.k.neqs.length s,.int .i64 n.q.kind,.slice I n.q.p.length H,.slice F n.q.o.length E,.int .i64 n.η,.int .i64 n.low,.int .i64 n.high,.bool n.done]).toArray)],[.int .i64 n.id,.int .i64 n.k.n,.slice A n.k.eqs.length y,.slice t n.k.neqs.length s,.int .i64 n.q.kind,.slice I n.q.p.length H,.slice F n.q.o.length E,.int .i64 n.η,.int .i64 n.low,.int .i64 n.high,.bool n.done]++([]),rfl,rfl,λ_=>by kernel_rfl,⟨[.int .i64 n.id,.int .i64 n.k.n,.slice A n.k.eqs.length y,.slice t n.k.neqs.length s,.int .i64 n.q.kind,.slice I n.q.p.length H,.slice F n.q.o.length E,.int .i64 n.η,.int .i64 n.low,.int .i64 n.high,.bool n.done],[],rfl,⟨[.int .i64 n.id],[.int .i64 n.k.n,.slice A n.k.eqs.length y,.slice t n.k.neqs.length s,.int .i64 n.q.kind,.slice I n.q.p.length H,.slice F n.q.o.length E,.int .i64 n.η,.int .i64 n.low,.int .i64 n.high,.bool n.done],rfl,rfl,⟨[.int .i64 n.k.n,.slice A n.k.eqs.length y,.slice t n.k.neqs.length s],[.int .i64 n.q.kind,.slice I n.q.p.length H,.slice F n.q.o.length E,.int .i64 n.η,.int .i64 n.low,.int .i64 n.high,.bool n.done],rfl,⟨[.int .i64 n.k.n],[.slice A n.k.eqs.length y,.slice t n.k.neqs.length s],rfl,rfl,⟨[.slice A n.k.eqs.length y],[.slice t n.k.neqs.length s],rfl,⟨_,rfl,(aq.mono f)⟩,⟨_,rfl,(ah.mono f)⟩⟩⟩,⟨[.int .i64 n.q.kind,.slice I n.q.p.length H,.slice F n.q.o.length E],[.int .i64 n.η,.int .i64 n.low,.int .i64 n.high,.bool n.done],rfl,⟨[.int .i64 n.q.kind],[.slice I n.q.p.length H,.slice F n.q.o.length E],rfl,rfl,⟨[.slice I n.q.p.length H],[.slice F n.q.o.length E],rfl,⟨_,rfl,(bh.mono f)⟩,⟨_,rfl,(bg.mono f)⟩⟩⟩,⟨[.int .i64 n.η],[.int .i64 n.low,.int .i64 n.high,.bool n.done],rfl,rfl,⟨[.int .i64 n.low],[.int .i64 n.high,.bool n.done],rfl,rfl,⟨[.int .i64 n.high],[.bool n.done],rfl,rfl,rfl⟩⟩⟩⟩⟩⟩,rfl⟩⟩
    refine γ.pz (d:=124) (post:=λG v=>∃bf aK,v=.slice bf 1 1/\jq Zr G (.slice bf 1 1) aK [n]) (λcV cF ae aD=>?_);obtain⟨bf,aK,rfl,bK⟩:=aD;obtain⟨bu,hr⟩:=hr;refine WL.hM (r:=Zr) (e:=56) 4013 Zh rfl underlying24 np rfl ĳ rfl rfl (x.mono ae) rfl bK bu (λbL aL ca bM=>?_);refine yy (Y0.Z7 rfl) rfl ?_;refine WL.eW 6 ([.slice bL (([]++q.t)++[n]).length aL,.int .i64 q.next]).toArray Zh tb rfl rfl rfl (show 0<2 by decide) rfl rfl ?_;refine WL.nil ?_;refine WE.nx ?_;refine WE.inBlock ?_;refine WE.eO (r:=Zr) (e:=56) 4013 bM rfl (by rw[Q];rfl) (λcN bn aG av bU=>?_);refine WE.jH ⟨(([]++q.t)++[n]),bL,aL,q.next,bn⟩ ⟨hr,(Mem.le_trans ae aG),(by first|exact av|simpa only[ħ]using av)⟩ (Fr.Zi rfl (Fr.Zi rfl (Fr.Zq _))) ?_
    .intro w D;exact D.weaken (Lo.Zi (by first|rfl|(simp only[ħ];rfl)) (Lo.Zq _))
   replace hr:=hr.neg be;refine sr<|yy (Y0.eql rfl rfl) rfl<|sg rfl rfl<|nx ?_
   refine WC.Ê (p:=(Int.tmod m.part 9)=7) rfl (λal=>?_) (λal=>?_)
   .replace hr:=hr.pos al;refine WC.region<|yy (Y0.zA rfl) rfl<|yy (Y0.î 3 eC rfl rfl rfl) rfl<|yy (Y0.xR rfl) rfl ?_
    refine WL.eW 6 ([.slice p2 ([]++q.t).length R,.int .i64 m.hQ]).toArray Zh je rfl rfl rfl (show 1<2 by decide) rfl rfl ?_;refine WL.nil<|WE.inBlock ?_
    refine WE.eO (r:=Zr) (e:=56) 4013 x rfl (by rw[Q];rfl) (λcO bo aH aw bV=>?_);refine WE.jH ⟨([]++q.t),p2,R,m.hQ,bo⟩ ⟨hr,aH,(by first|exact aw|simpa only[ħ]using aw)⟩ (Fr.Zi rfl (Fr.Zi rfl (Fr.Zq _))) ?_
    .intro w D;exact D.weaken (Lo.Zi (by first|rfl|(simp only[ħ];rfl)) (Lo.Zq _))
   replace hr:=hr.neg al;refine WC.skip<|WE.inBlock ?_
   refine WE.eO (r:=Zr) (e:=56) 4013 x rfl (by rw[Q];rfl) (λcP bp aI ax bW=>?_);refine WE.jH ⟨([]++q.t),p2,R,q.next,bp⟩ ⟨hr,aI,(by first|exact ax|simpa only[ħ]using ax)⟩ (Fr.Zi rfl (Fr.Zi rfl (Fr.Zq _))) ?_
   .intro w D;exact D.weaken (Lo.Zi (by first|rfl|(simp only[ħ];rfl)) (Lo.Zq _))
  replace hr:=hr.neg aY;refine WC.skip ?_;refine WE.eO (r:=Zr) (e:=56) 4013 x rfl (by rw[Q];rfl) (λcQ bq aJ ay bX=>?_);refine WE.jH ⟨([]++q.t),p2,R,q.next,bq⟩ ⟨hr,aJ,(by first|exact ay|simpa only[ħ]using ay)⟩ (Fr.Zi rfl (Fr.Zi rfl (Fr.Zq _))) ?_
  .intro w D;exact D.weaken (Lo.Zi (by first|rfl|(simp only[ħ];rfl)) (Lo.Zq _))
 rintro⟨X,ac,ab,P,aE⟩ ⟨hr,bY,ak⟩;refine WC.seq ?_;refine WC.drawn [false,false,false] eL İ (λhb=>?_);refine cn (λ_ f=>Y0.eK 6 uu rfl rfl rfl) ?_;obtain⟨cC,bH,hr⟩:=hr;refine γ.gg Zh (λ_=>YC.of O6 rfl) (oZ.h bH) rfl (λG' f=>(ak.mono f)) ?_;refine cn (λ_ f=>Y0.eK 6 uu rfl rfl rfl) ?_;refine γ.l6 hb ?_;obtain⟨cD,bI,hr⟩:=hr;refine WL.gg Zh rfl (YC.of X6 rfl) (jr'.h bI) rfl (ak) ?_;refine WL.kO (p:=cC=cD) Zh (Y0.Ca underlying4 rfl rfl) rfl (λaW=>?_) (λaW=>?_)
 .replace hr:=hr.pos aW;refine mv rfl rfl<|gy rfl rfl (Y0.move rfl) rfl<|yy (Y0.om rfl rfl) rfl<|sg rfl rfl<|WL.nil ?_
  refine WE.nx ?_;refine WE.then<|WC.ret ?_
  replace hr:_=r:=hr;subst hr;exact WE.ja rfl rfl rfl
 replace hr:=hr.neg aW;refine mv rfl rfl<|sk rfl rfl rfl<|yy (Y0.eU rfl rfl) rfl<|sg rfl rfl<|WL.nil ?_
 refine WE.nx ?_;refine WE.then<|WC.ret ?_
 replace hr:_=r:=hr;subst hr;exact WE.ja rfl rfl rfl
end Go.Proofs.YtepbagkffgddlaaGreat

