/- The law TaskReady holds for every input: a part of its proof (fY the code does, plain models, and fY they return). No condition. -/
import Derived.Test.YtepbagkffgddlaaGreatXR9gb
import Derived.Test.YtepbagkffgddlaaGreatXR9e
set_option linter.unusedVariables false
set_option linter.unusedSimpArgs false
namespace Go.Proofs.YtepbagkffgddlaaGreat
open Go.IntKind (i8 i16 i32 i64 u8 u16 u32 u64)
open Go.Proofs.Tryz
open Go Go.EL Go.RowKit Go.Proofs
set_option maxHeartbeats 4000000
set_option maxRecDepth 20000
instance iQ'{k n r}:SpcM ((K6 k n)) r (∀{f c d e m l},Cr 120 #[.agg ((Υ k f c d e)).toArray,ε m n l] (λG=>su G f c k.num.χ/\su G d e k.den.χ/\sl c' G m l n) (fS c' r)):=.mk λhr {f c d e m l}=>Ζ
instance gF'{H K F O r}:SpcM ((A5 H K F O)) r (∀{s t},Cr 65 #[.agg ([ε s H.t t]).toArray,i' K,i' F,i' O] (λG=>sl (gf .i8 5) G s t H.t) (fS c' r)):=.mk λhr {s t}=>by
 refine Ξ ?_;intro w0 G0 ay b1 p1 an M aP hr E;refine WC.mC hr [1,2,3,4] [4] [] [] (λ(⟨q,m,p,o⟩:(Ŀ Za)×ŀ Addr×Nat×Int)=>⟨(q,o),[(9,ε m q p),(10,i' o)],λQ=>sl c' Q m p q,[]⟩) (λ(⟨W,Y,L⟩:(Ŀ Za)×ŀ Addr×Nat)=>⟨W,[(9,ε Y W L)],λah=>sl c' ah Y L W,[]⟩) ⟨[],p1,0,0⟩ ?_;rintro _ Q ⟨q,m,p,o⟩ n ad hr;refine WC.nB hr [1,2,3,4,9,10] [4] (λ(_:Unit)=>⟨[],QW H K F q o,tr,[]⟩) ?_;intro T _ hr I _;refine Ξ ?_;intro U hr;refine WC.mB hr [1,2,3,4,9,10,11] [4] [1,2,3,4,9,10,11] [4] (λ(⟨y,l,P⟩:Int×Int×(Fin 8->Int))=>⟨(y,l,P),[(12,i' y),(13,i' l)],tr,[(11,ú U (Ö P) 145)]⟩) (λ(J:(Fin 8->Int))=>⟨J,[],tr,[(11,ú U (Ö J) 145)]⟩) ⟨F,0,(λ_=>0)⟩ ?_;intro am J hr S _;refine b'<|fA [tt,ff,ff,ff,ff,ff,ff,ff,ff,ff,ff,ff] eL İ λhb=>uw z (k' z)<|cn (λ_ j=>Y0.Vt z)<|cn (λ_ j=>n' 4 C6 z z z)<|fM z ?_
 obtain⟨x1,x,hr⟩:=hr;have a:=mx (mx (mx M n) I) S;refine cn (λ_ j=>kd fY' wz ((E.mono a).mono j) z z x)<|cn (λ_ j=>VT underlying197 s6 z z ĳ)<|cn (λ_ j=>mX sL z (GF (T' (T' (iK E x) a) j) ĳ))<|cn (λ_ j=>xM z z ĳ)<|cn (λ_ j=>pw VU dw' z)<|oE hr λu aE hr=>qB (post:=er u) (λ_=>z) (λ_ _=>x' DP z) (GD.h aE) z (λG' j=>trivial) (λv X G2 j h=>?_) ?_
 .obtain⟨ac,aa,V,Z,rfl,B,A⟩:=h;exact⟨_,_,_,_,z,B.mono j,A.mono j⟩
 refine oE hr λk aF hr=>qB (post:=er k) (λ_=>z) (λ_ _=>x' DP z) (GD.h aF) z (λG' j=>trivial) (λv X G2 j h=>?_) ?_
 .obtain⟨c,g,f,i,rfl,D,C⟩:=h;exact⟨_,_,_,_,z,D.mono j,C.mono j⟩
 refine cu (λ_ _ j=>y' 11 Gw z z (U' _ _ _))<|BH (d:=67) (post:=er k) (d':=66) (post':=er u) (λa4 a5 ba af al ai=>?_)
 obtain⟨c,g,f,i,rfl,D,C⟩:=al;obtain⟨ac,aa,V,Z,rfl,B,A⟩:=ai;refine Δ (l4 (vs:=#[(0,.agg ((Υ k c g f i)).toArray),(1,.agg (Ö J).toArray)]) (v:=.agg (((Υ k c g f i):Ŀ Value)++(Ö J)).toArray) z z (λ_=>İ))<|mY (e:=147) (r:=c') (vs:=#[(0,.agg (((Υ k c g f i):Ŀ Value)++(Ö J)).toArray)]) (cs:=(((Υ k c g f i):Ŀ Value)++(Ö J))++([])) ([(Za.mk k J)]:Ŀ Za) z z z z z ĳ (λ_=>İ) ⟨((Υ k c g f i):Ŀ Value)++(Ö J),[],z,⟨(Υ k c g f i),Ö J,z,⟨(η k.num c g),(η k.den f i),z,⟨[.bool k.num.neg],[ε c k.num.χ g],z,z,⟨_,z,D⟩⟩,⟨[.bool k.den.neg],[ε f k.den.χ i],z,z,⟨_,z,C⟩⟩⟩,z⟩,z⟩ (key:=999) z (by rw[ay];rfl) (λp2 bc R aQ=>?_)
 refine oE hr λbb aK hr=>gR z z (x' HW z) (iQ'.h aK) z (⟨(B.mono R),(A.mono R),aQ⟩) (λa0 a9 N ak=>?_);obtain⟨aZ,a6,rfl,aD⟩:=ak;refine oE hr λaM aC hr=>gR z z (x' zK z) (Wz.h aC) z (⟨(ad.mono (mx (mx (mx (mx I S) af) R) N)),aD⟩) (λa3 aT ar aj=>?_);obtain⟨aI,aH,rfl,aG⟩:=aj;have N2:=mx (mx (mx (mx (mx (mx n I) S) af) R) N) ar;exact Ζ
instance iY'{x r}:SpcM ((FL x)) r (∀{Y V F H},Cr 63 #[.agg ((Oz x Y V F H)).toArray] (λG=>sl vO G Y V x.l/\sl (Rp.int .u8) G F H x.iQ) (DG r)):=.mk λhr {Y V F H}=>by
 refine Ξ ?_;intro w0 G0 _ aw al b1 b2 _ aH S bb hr _;obtain⟨bg,hr⟩:=hr;refine WL.slice3 (r:=Rp.str) z z BG yf z bb z z z bg λp2 bd=>?_;refine è ?_;intro b3 hr;refine WC.mC (hH:=by exact⟨bd,(X' _ _),kV,(X' _ _),kV⟩) hr [1,2,4,5] [1,2] [2,5] [2] (λ(⟨R,f,k,l,g,p,q,A,d,o,n,t,c⟩:Int×(Ŀ Ĳ)×ŀ Addr×Nat×(Ŀ Zo)×ŀ Addr×Nat×ŀ Ow×(Ŀ Zo)×ŀ Addr×Nat×ŀ Ow×Int)=>⟨(R,f,g,d,c),[(6,i' R)],λa=>sl Rp.str a k l f/\sl vN a p q g/\Tok 2 194 (ε p g q) g.length A/\sl vN a o n d/\Tok 2 194 (ε o d n) d.length t,[(5,ú b3 ([ε k f l,ε p g q,ε o d n,i' c]) 129),(310051,A),(310052,t)]⟩) (λ(⟨ac,ag,af,J,X,Z,ae,E,K,Q,U,ah⟩:(Ŀ Ĳ)×ŀ Addr×Nat×(Ŀ Zo)×ŀ Addr×Nat×ŀ Ow×(Ŀ Zo)×ŀ Addr×Nat×ŀ Ow×Int)=>⟨(ac,J,E,ah),[],λap=>sl Rp.str ap ag af ac/\sl vN ap X Z J/\Tok 2 194 (ε X J Z) J.length ae/\sl vN ap K Q E/\Tok 2 194 (ε K E Q) E.length U,[(5,ú b3 ([ε ag ac af,ε X J Z,ε K E Q,i' ah]) 129),(310051,ae),(310052,U)]⟩) ⟨0,(([Ay,Ax,Aw].take (i64.wrap (Int.tmod x.n 4)).toNat).drop (0:Int).toNat),p2,(([Ay,Ax,Aw].take (i64.wrap (Int.tmod x.n 4)).toNat).drop (0:Int).toNat).length,[],none,0,none,[],none,0,none,1⟩ ?_;rintro _ a ⟨R,f,k,l,g,p,q,A,d,o,n,t,c⟩ C ⟨L,e,M,P,I⟩ hr;refine WC.nD hr [1,2,4,5,6] [1,2,5,310051,310052] (λ(_:Unit)=>⟨[],EH x R f g d c,tr,[]⟩) ?_ ?_
 .refine sr<|ν z<|Δ (Y0.Vs z)<|Δ (n' 1 ya z z z)<|Δ (P' fd' (al.mono (mx S C)) z)<|dE hr z (Z' z z) z (λbj hr=>?_) (λbj hr=>?_)
  .refine Ξ ?_;intro _ hr;refine og ⟨a,f,k,l,g,p,q,A,d,o,n,t,c⟩ ⟨hr,C,L,e,M,P,I⟩ (Æ z) (w4 z z z z)
  refine Ξ ?_;intro hr;refine og ⟨a,f,k,l,g,p,q,A,d,o,n,t,c⟩ ⟨hr,C,L,e,M,P,I⟩ (Æ z) (w4 z z z z)
 intro ao _ hr y _;refine o'<|Y'<|sr<|Ρ z<|WC.nB hr [1,2,4,5,6] [1,2,5,310051,310052] (λ(m:Int)=>⟨[(7,i' m)],EG x R f g d c m,tr,[]⟩) ?_
 intro aG m hr D _;refine o'<|fA [ff,ff,ff,ff,ff,ff,ff,ff,ff,ff,ff,ff,ff] eL İ λhb=>cn (λ_ s=>BZ z)<|cn (λ_ s=>n' 5 eN z z z) ?_
 refine è ?_;intro _ _ _ _ _ _ _ _ _ B hr _;refine jr (φ:=λG v=>∃p3 T,v=.agg ([i' (i64.wrap (c+m)),ε p3 B T]).toArray/\sl c' G p3 T B) (λ_=>z) (λv G1 G2 s h=>?_) (λu G' s hu=>?_) ?_
 .obtain⟨p3,T,rfl,aA⟩:=h;exact⟨_,_,z,aA.mono s⟩
 .obtain⟨⟨j,i,aM,ar⟩,_⟩:=(show(fS c' B) G'.m (u 55)/\True from hu);simp only[ς,aM];exact⟨_,l4 (vs:=#[(0,i' (i64.wrap (c+m))),(1,ε j B i)]) (v:=.agg ([i' (i64.wrap (c+m)),ε j B i]).toArray) z z (λ_=>İ),j,i,z,ar⟩
 refine kI (λ_=>z) z194<|GM (λbA bs bt X1 W aJ aE aC=>?_)
 obtain⟨b4,rfl,aU⟩:=aJ;obtain⟨p3,T,rfl,aA⟩:=aE;obtain⟨j,i,rfl,ar⟩:=aC;refine om aU (lG (show WL _ _ _ _ _ _ (St w0 G0 X1.m _)from ?_));refine gp 8 n9 z<|t'<|Θ<|b'<|o' ?_
 refine è ?_;intro hr;refine I' hr z (λbk hr=>?_) (λbk hr=>?_)
 .refine Ξ ?_;intro _ _ aj a8 hr;obtain⟨aT,hr⟩:=hr;have N:=mx (mx (mx y D) W) aj;refine jN (r:=vN) 310052 z z vH vR z ĳ z z (P.mono N) z (by rw[aw];rfl) I a8 aT λp5 aF a3 bc au bi a0=>Δ (GN z)<|ra 5 ([ε k f l,ε p g q,.slice p5 (d++[(Zo.mk (i64.wrap (c+m)) B)]).length aF,i' c]).toArray z wv z z z (show 2<4 by decide) z z ?_
  refine è ?_;intro hr;refine N' ⟨bc,i64.wrap (R+1),f,k,l,g,p,q,A,(d++[(Zo.mk (i64.wrap (c+m)) B)]),p5,aF,a3,i64.wrap ((i64.wrap (c+m))+1)⟩ hr ⟨(mx (mx (mx (mx (mx C y) D) W) aj) au),(L.mono (mx N au)),(e.mono (mx N au)),M,bi,a0⟩ (Æ z) (w5 z z z z z)
 refine Ξ ?_;intro _ _ ak a6 hr;obtain⟨aZ,hr⟩:=hr;have O:=mx (mx (mx y D) W) ak;refine jN (r:=vN) 310051 z z vH vR z ĳ z z (e.mono O) z (by rw[aw];rfl) M a6 aZ λp7 aK aS bh aq a9 aX=>Δ (GO z)<|ra 5 ([ε k f l,.slice p7 (g++[(Zo.mk (i64.wrap (c+m)) B)]).length aK,ε o d n,i' c]).toArray z wv z z z (show 1<4 by decide) z z ?_
 refine è ?_;intro hr;refine N' ⟨bh,i64.wrap (R+1),f,k,l,(g++[(Zo.mk (i64.wrap (c+m)) B)]),p7,aK,aS,d,o,n,t,i64.wrap ((i64.wrap (c+m))+1)⟩ hr ⟨(mx (mx (mx (mx (mx C y) D) W) ak) aq),(L.mono (mx O aq)),a9,aX,(P.mono (mx O aq)),I⟩ (Æ z) (w5 z z z z z)
instance We{n A g r}:SpcM ((A7 n A g)) r (∀{m l},Cr 202 #[ε m n l,i' A,i' g] (λG=>sl vN G m l n) (λG v=>v=.bool r)):=.mk λhr {m l}=>by
 refine Ξ ?_;intro F i _ _ hr e;refine WC.mC hr [0,1,2] [] [] [] (λ(k:Int)=>⟨k,[(7,i' k)],tr,[]⟩) (λ(_:Unit)=>⟨(.inr ()),[],tr,[]⟩) 0 ?_;intro _ f k d _ hr;refine o'<|sr<|ν z<|ν z<|Δ (P' vH (e.mono d) z)<|kv z<|nx<|I' hr z (λE hr=>?_) (λE hr=>?_)
 .exact q'<|b'<|o'<|Y'<|o'<|fA [ff,ff,ff,ff,ff,ff,ff,ff,ff,ff,ff,ff,ff,ff,ff,ff,ff,ff,ff,ff,ff,ff,ff,ff,ff,ff,ff,ff,ff,ff,ff,ff,ff,ff,ff,ff,ff,ff,ff,ff] eL İ λh=>fM z<|fM z<|oE hr λa t hr=>cn (λ_ c=>kd vH n9 ((e.mono d).mono c) z z t)<|cn (λ_ c=>MV z)<|cn (λ_ c=>mX eN z (zg (T' (T' (rZ (nE (iK e t))) d) c)))<|Ζ
 exact Ζ
instance nG{c r}:SpcM ((AD c)) r (Cr 260 #[.int .u8 c] (λG=>True) (λG v=>v=.bool r)):=.mk λhr=>by
 refine Ξ ?_;intro _ _ _ _ _ hr _;refine Å (M' z z) z<|Å (M' z z) z<|sf z z z<|Ι z<|Ρ z<|m' (Õ hr z z)
instance iZ'{e r}:SpcM ((FM e)) r (Cr 203 #[.string e] (λG=>True) (λG v=>v=.bool r)):=.mk λhr=>by
 refine è ?_;intro k h _ hr _;refine WC.nB hr [0] [] (λ(_:Unit)=>⟨[],QY e,tr,[]⟩) ?_;intro f _ hr I _;refine o'<|sr<|Ρ z<|WC.mC hr [0] [] [] [] (λ(g:Int)=>⟨g,[(3,i' g)],tr,[]⟩) (λ(_:Unit)=>⟨(.inr ()),[],tr,[]⟩) 1 ?_
 intro _ d g c _ hr;refine o'<|sr<|ν z<|ν z<|Δ (Y0.CF xG z)<|kv z<|nx<|I' hr z (λH hr=>?_) (λH hr=>?_)
 .refine q'<|b'<|o'<|Y'<|sr<|ν z<|ν z<|oA hr λn hr=>Δ (eJ' (s:=e) xG z z n)<|oE hr λt m hr=>H' z z (x' IB z) (nG.h m) z (trivial) ?_
  cases t
  .exact Ζ
  exact Δ (kU z)<|ν z<|ia z<|Å (M' z z) z<|Å (M' z z) z<|Å (M' z z) z<|Å (M' z z) z<|yc z<|ο z<|ν z<|nK z<|ο z<|nx<|tG z<|Ζ
 exact Ζ
instance iR'{j r}:SpcM ((E9 j)) r (∀{d c i h f e},Cr 116 #[.agg ((tl j d c i h f e)).toArray] (λG=>DJ G d c i h f e j) (λG v=>v=.bool r)):=.mk λhr {d c i h f e}=>by
 refine J' (args:=[_]) (N:=96) func116 z z z (λJ C au K=>?_);obtain⟨k,p,m⟩:=K;refine sr<|jM 1 z z z λu=>Þ z<|nr<|Δ (GP z)<|Δ (n' 1 n5 z z z)<|Δ (P' BG k z)<|Ρ z<|WC.nD hr [1,3] [1] (λ(_:Unit)=>⟨[],Qr j,tr,[]⟩) ?_ ?_
 .refine sr<|ν z<|dE hr z (uo z z) z (λal hr=>?_) (λal hr=>?_)
  .refine ν z<|fK z<|Ι z<|ν z<|fK z<|Ι z<|ν z<|qT z<|Ι z<|ν z<|qT z<|Ι z<|nx<|nR z<|sr<|Ρ z<|m'<|a' (Õ hr z z)
  refine ν z<|gy z z (BZ z) z<|gy z z (n' 1 eN z z z) z<|dE hr (C' z z) (Z' z z) z (λai hr=>?_) (λai hr=>?_)
  .refine ο z<|ν z<|fK z<|Ι z<|ν z<|qT z<|Ι z<|ν z<|qT z<|Ι z<|nx<|nR z<|sr<|Ρ z<|m'<|a' (Õ hr z z)
  refine ο z<|ν z<|gy z z (BZ z) z<|gy z z (n' 1 eN z z z) z<|dE hr (C' z z) (uo z z) z (λam hr=>?_) (λam hr=>?_)
  .refine ο z<|ν z<|qT z<|Ι z<|ν z<|qT z<|Ι z<|nx<|nR z<|sr<|Ρ z<|m'<|a' (Õ hr z z)
  refine ο z<|ν z<|gy z z (GO z) z<|gy z z (n' 1 lU z z z) z<|kq z<|gy z z (BZ z) z<|gy z z (n' 1 eN z z z) z<|oE hr λad Y hr=>H' (C' z z) z (x' zT z) (We.h Y) z (p) ?_
  cases ad
  .refine gy z z (kU z) z<|ο z<|ν z<|qT z<|Ι z<|nx<|nR z<|sr<|Ρ z<|m'<|a' (Õ hr z z)
  refine gy z z (kU z) z<|ο z<|ν z<|gy z z (GN z) z<|gy z z (n' 1 lU z z z) z<|kq z<|gy z z (BZ z) z<|gy z z (n' 1 eN z z z) z<|oE hr λar a hr=>H' (C' z z) z (x' zT z) (We.h a) z (m)<|gy z z (kU z) z<|ο z<|nx<|kc hr z (λaj hr=>?_) (λaj hr=>?_)
  .refine sr<|Ρ z<|m'<|a' (Õ hr z z)
  refine q'<|pA ⟨C,()⟩ ⟨hr,mr,trivial⟩ (Æ z) (w1 z)
 intro E _ hr l _;refine o'<|sr<|Ρ z<|WC.mD hr [1,3] [1] [1] [1] (λ(x:Int)=>⟨x,[(4,i' x)],tr,[]⟩) (λ(_:Unit)=>⟨(.inr ()),[],tr,[]⟩) 0 ?_ ?_
 .intro _ A x n _ hr;refine o'<|sr<|ν z<|ν z<|kv z<|nx<|I' hr z (λaf hr=>?_) (λaf hr=>?_)
  .refine q'<|b'<|o'<|Y'<|o'<|sr<|Ρ z<|WC.mD hr [1,3,4] [1] [1,3,4] [1] (λ(F:Int)=>⟨F,[(5,i' F)],tr,[]⟩) (λ(_:Unit)=>⟨(.inr ()),[],tr,[]⟩) 0 ?_ ?_
   .intro _ L F s _ hr;refine o'<|sr<|ν z<|ν z<|kv z<|nx<|I' hr z (λak hr=>?_) (λak hr=>?_)
    .refine q'<|b'<|o'<|Y'<|o'<|fA [ff,ff,ff,ff,ff,ff,ff,ff,ff,ff] eL İ λZ=>cn (λ_ g=>GP z)<|cn (λ_ g=>n' 1 n5 z z z)<|fM z<|oE hr λx4 U hr=>cn (λ_ g=>kd BG yf ((k.mono (mx (mx l n) s)).mono g) z z U)<|cn (λ_ g=>mX C7 z (AtK.str (T' (T' (iK k U) (mx (mx l n) s)) g)))<|cn (λ_ g=>GP z)<|cn (λ_ g=>n' 1 n5 z z z)<|fM z<|oE hr λx5 W hr=>cn (λ_ g=>kd BG yf ((k.mono (mx (mx l n) s)).mono g) z z W)<|cn (λ_ g=>mX C7 z (AtK.str (T' (T' (iK k W) (mx (mx l n) s)) g)))<|pz Z<|Δ (Y0.uz xG z z)<|t'<|Θ<|b'<|I' hr z (λag hr=>?_) (λag hr=>?_)
     .refine sr<|Ρ z<|m'<|g'<|a'<|a'<|g'<|mM<|a'<|g'<|a'<|a'<|g'<|mM<|a' (Õ hr z z)
     refine q'<|E'<|b'<|w'<|ν z<|iM z<|Þ z<|t'<|N' ⟨L,i64.wrap (F+1)⟩ hr ⟨s,trivial⟩ (Æ z) (w1 z)
    refine nw<|p'<|p'<|K'<|og ⟨L,()⟩ ⟨hr,s,trivial⟩ (Æ z) (w1 z)
   intro O _ hr I _;refine b'<|sr<|Δ (GP z)<|Δ (n' 1 n5 z z z)<|ν z<|oE hr λx3 S hr=>Δ (kd BG yf (k.mono (mx (mx l n) I)) z z S)<|Δ (mX C7 z (AtK.str (T' (iK k S) (mx (mx l n) I))))<|oE hr λaq X hr=>H' z z (x' Ik z) (iZ'.h X) z (trivial)<|Δ (kU z)<|nx<|kc hr z (λae hr=>?_) (λae hr=>?_)
   .refine sr<|Ρ z<|m'<|g'<|a'<|a'<|g'<|mM<|a' (Õ hr z z)
   refine q'<|E'<|b'<|w'<|ν z<|iM z<|Þ z<|t'<|N' ⟨O,i64.wrap (x+1)⟩ hr ⟨(mx n I),trivial⟩ (Æ z) (w1 z)
  refine nw<|p'<|p'<|K'<|og ⟨A,()⟩ ⟨hr,n,trivial⟩ (f1 z) (w1 z)
 intro D _ hr t _;refine b'<|o'<|sr<|Ρ z<|WC.mD hr [1] [1] [] [] (λ(y:Int)=>⟨y,[(6,i' y)],tr,[]⟩) (λ(_:Unit)=>⟨(.inr ()),[],tr,[]⟩) 0 ?_ ?_
 .intro _ B y o _ hr;refine o'<|sr<|ν z<|Δ (GO z)<|Δ (n' 1 lU z z z)<|Δ (P' vH (p.mono (mx (mx l t) o)) z)<|kv z<|nx<|I' hr z (λao hr=>?_) (λao hr=>?_)
  .refine q'<|b'<|o'<|Y'<|sr<|Ρ z<|WC.mD hr [1,6] [1] [1,6] [1] (λ(H:Int)=>⟨H,[(7,i' H)],tr,[]⟩) (λ(_:Unit)=>⟨(.inr ()),[],tr,[]⟩) 0 ?_ ?_
   .intro _ M H q _ hr;refine o'<|sr<|ν z<|Δ (GN z)<|Δ (n' 1 lU z z z)<|Δ (P' vH (m.mono (mx (mx (mx l t) o) q)) z)<|kv z<|nx<|I' hr z (λah hr=>?_) (λah hr=>?_)
    .refine q'<|b'<|o'<|Y'<|o'<|fA [ff,ff,ff,ff,ff,ff,ff,ff,ff,ff,ff,ff] eL İ λZ=>cn (λ_ g=>GO z)<|cn (λ_ g=>n' 1 lU z z z)<|fM z<|oE hr λx1 V hr=>cn (λ_ g=>kd vH n9 ((p.mono (mx (mx (mx l t) o) q)).mono g) z z V)<|cn (λ_ g=>MV z)<|cn (λ_ g=>mX eN z (zg (T' (T' (rZ (nE (iK p V))) (mx (mx (mx l t) o) q)) g)))<|cn (λ_ g=>GN z)<|cn (λ_ g=>n' 1 lU z z z)<|fM z<|oE hr λx2 T hr=>cn (λ_ g=>kd vH n9 ((m.mono (mx (mx (mx l t) o) q)).mono g) z z T)<|cn (λ_ g=>MV z)<|cn (λ_ g=>mX eN z (zg (T' (T' (rZ (nE (iK m T))) (mx (mx (mx l t) o) q)) g)))<|pz Z<|Δ (eB z z)<|t'<|Θ<|b'<|I' hr z (λan hr=>?_) (λan hr=>?_)
     .refine sr<|Ρ z<|m'<|g'<|a'<|a'<|g'<|mM<|g'<|a'<|a'<|g'<|mM<|a' (Õ hr z z)
     refine q'<|E'<|b'<|w'<|ν z<|iM z<|Þ z<|t'<|N' ⟨M,i64.wrap (H+1)⟩ hr ⟨q,trivial⟩ (Æ z) (w1 z)
    refine nw<|p'<|p'<|K'<|og ⟨M,()⟩ ⟨hr,q,trivial⟩ (Æ z) (w1 z)
   intro P _ hr R _;refine E'<|b'<|w'<|ν z<|iM z<|Þ z<|t'<|N' ⟨P,i64.wrap (y+1)⟩ hr ⟨(mx o R),trivial⟩ (Æ z) (w1 z)
  refine nw<|p'<|p'<|K'<|og ⟨B,()⟩ ⟨hr,o,trivial⟩ fn (wk ln)
 intro Q _ hr ap _;refine b'<|sr<|Ρ z<|m' (Õ hr z z)
instance l7{E r}:SpcM ((Fz E)) r (∀{B y},Cr 117 #[ε B E y] (λG=>sl vN G B y E) (fS (Rp.sl c') r)):=.mk λhr {B y}=>by
 refine Ξ ?_;intro Q P x p1 u _ S hr _;refine WC.mC (hH:=by exact⟨S,kV⟩) hr [0] [] [] [] (λ(⟨c,g,d,f,D⟩:(Ŀ (Ŀ Za))×ŀ Addr×Nat×ŀ Ow×Int)=>⟨(c,D),[(3,ε g c d),(4,i' D)],λn=>sq n g d c/\Tok 1 50 (ε g c d) c.length f,[(1003,f)]⟩) (λ(⟨i,k,j,l⟩:(Ŀ (Ŀ Za))×ŀ Addr×Nat×ŀ Ow)=>⟨i,[(3,ε k i j)],λp=>sq p k j i/\Tok 1 50 (ε k i j) i.length l,[(1003,l)]⟩) ⟨[],p1,0,none,0⟩ ?_;rintro _ n ⟨c,g,d,f,D⟩ h ⟨s,o⟩ hr;refine Ξ ?_;intro _ A _ _ _ _ _ _ _ _ _ q V hr _;refine oA hr λL hr=>jN (r:=(Rp.sl c')) 1003 z z jL js z ĳ z z (s.mono q) z (by rw[x];rfl) o V L λp4 O M T C Z J=>Þ z<|t'<|E'<|b'<|w'<|ν z<|iM z<|Þ z<|t'<|N' ⟨T,(c++[A.p]),p4,O,M,i64.wrap (D+1)⟩ hr ⟨(mx (mx h q) C),Z,J⟩ (Æ z) (w1 z)
instance ja'{Q r}:SpcM ((Lx Q)) r (∀{m o C B p s},Cr 62 #[.agg ((tl Q m o C B p s)).toArray] (λG=>DJ G m o C B p s Q) (lZ r)):=.mk λhr {m o C B p s}=>by
 refine è ?_;intro _ _ _ _ _ _ _ _ _ hr _;refine o' ?_;refine è ?_;intro _ hr _;refine kc hr z (λy hr=>?_) (λy hr=>?_)
 .exact Ζ
 refine q'<|b'<|o'<|fA [ff,ff,ff,ff,ff,ff,ff,ff,ff,ff,ff,tt] eL İ λhb=>?_
 refine è ?_;intro K _ R hr _;refine oE hr λA X hr=>mg (f:=74) (φ:=lZ A) (λ_=>z) (λv n Z c h=>?_) (λu E c a=>?_) ?_
 .obtain⟨l,k,j,g,rfl,e,d⟩:=h;exact⟨_,_,_,_,z,e.mono c,d.mono c⟩
 .obtain⟨⟨O,P,V,t⟩,⟨L,M,U,x⟩,_⟩:=(show(fS (Rp.sl c') R) E.m (u 17)/\(fS (Rp.sl c') K) E.m (u 14)/\True from a);exact⟨_,_,_,λ_=>x' X8 z,gW'.h X,(by simp only[V,U]<;>rfl),⟨x,t⟩⟩
 refine γ.nj (kk:=18) (φ:=u3 A.1) İ (λ_=>z) (λv n Z c h=>?_) (λu E c a=>?_) ?_
 .obtain⟨p1,af,p2,q,rfl,S,T⟩:=h;exact⟨_,_,_,_,z,S.mono c,T.mono c⟩
 .obtain⟨⟨l,k,j,g,D,e,d⟩,_,_,_⟩:=(show(lZ A) E.m (u 18)/\True/\True/\True from a);exact⟨_,_,D,(by simp only[ς,D]<;>rfl),z,l,k,j,g,z,e,d⟩
 refine γ.td (d0:=19) (post0:=u3 A.1) (d1:=18) (post1:=lZ A) (d2:=17) (post2:=fS (Rp.sl c') R) (d3:=14) (post3:=fS (Rp.sl c') K) (λY W am an ap N F I H J=>?_);obtain⟨p1,af,p2,q,rfl,S,T⟩:=F;obtain⟨l,k,j,g,rfl,e,d⟩:=I;obtain⟨O,P,rfl,t⟩:=H;obtain⟨L,M,rfl,x⟩:=J;refine lM z<|gp 2 tH z<|Þ z<|t'<|Θ<|b'<|m' ?_
 obtain rfl:_=r:=hr;exact um z (kD (i:=2) mZ z z z) z ⟨_,_,_,_,z,S,T⟩
instance V8{e r}:SpcM ((A9 e)) r (∀{g f d c j h n m},Cr 25 #[.agg ((tm e g f d c j h n m)).toArray] (λG=>sl vO G g f e.c.l/\sl (Rp.int .u8) G d c e.c.iQ/\sl (gf .i8 5) G j h e.p.t/\sl BI G n m e.l) (u3 r)):=.mk λhr {g f d c j h n m}=>Ζ
instance jl'{r}:SpcM ((Un)) r (Cr 121 #[] (λG=>True) (fS (gf .i64 8) r)):=.mk λhr=>Ζ
instance oo{r}:SpcM ((EX)) r (Cl 122 #[] [] (λG=>True) (λG L v=>∃m g c,L=[(7000,c)]/\v=ε m r g/\Γ (gf .i64 8) 71 G (ε m r g) r c)):=.mk λhr=>by
 refine rh (args:=[]) (N:=3) func122 z z z λn k h o=>sr<|Þ z<|nr<|Δ (l4 (vs:=#[(0,i' 1),(1,i' 1),(2,i' 1),(3,i' 1),(4,i' 1),(5,i' 1),(6,i' 1),(7,i' 1)]) (v:=.agg (Ö (ζ (ζ (ζ (ζ (ζ (ζ (ζ (ζ (λ_=>0) 0 1) 1 1) 2 1) 3 1) 4 1) 5 1) 6 1) 7 1)).toArray) z z (λ_=>İ))<|WL.sx (e:=71) (r:=(gf .i64 8)) (vs:=#[(0,.agg (Ö (ζ (ζ (ζ (ζ (ζ (ζ (ζ (ζ (λ_=>0) 0 1) 1 1) 2 1) 3 1) 4 1) 5 1) 6 1) 7 1)).toArray)]) (cs:=(Ö (ζ (ζ (ζ (ζ (ζ (ζ (ζ (ζ (λ_=>0) 0 1) 1 1) 2 1) 3 1) 4 1) 5 1) 6 1) 7 1))++([])) ([ζ (ζ (ζ (ζ (ζ (ζ (ζ (ζ (λ_=>0) 0 1) 1 1) 2 1) 3 1) 4 1) 5 1) 6 1) 7 1]:Ŀ (Fin 8->Int)) 4002 z z z z z ĳ (λ_=>İ) ⟨Ö (ζ (ζ (ζ (ζ (ζ (ζ (ζ (ζ (λ_=>0) 0 1) 1 1) 2 1) 3 1) 4 1) 5 1) 6 1) 7 1),[],z,z,z⟩ λp d l=>Ρ z<|m' ?_
 obtain rfl:_=r:=hr;refine mO (S':=St n k k [(7000,d)]) ?_ ?_
 .intro w f;have f:=f.Ý (i:=4002) (j:=7000) z (by rw[h];rfl);exact f.weaken (lc z ln)
 exact j' z z ⟨_,_,_,z,z,l⟩
instance gL'{r}:SpcM ((EE)) r (Cr 123 #[] (λG=>True) (fS (gf .i64 8) r)):=.mk λhr=>by
 refine Ξ ?_;intro K P g hr _;have a:=tM (w0:=K);refine oE hr λO M hr=>mP z z (x' zL z) (oo.h M) z (trivial) ln a (λp t m d s=>?_);obtain⟨I,H,B,rfl,rfl,F⟩:=s;refine mm (λw x=>x.Ý (i:=7000) (j:=4003) z (by rw[g];rfl))<|Ρ z<|o'<|sr<|Ρ z<|nv (X:=(Ŀ (Fin 8->Int))×ŀ Addr×Nat×ŀ Ow×Int×Mem) hr (λ⟨k,q,l,c,A,f⟩=>⟨(k,A),[(1,ε q k l),(2,i' A)],Mem.le t f/\Γ (gf .i64 8) 71 f (ε q k l) k c,St K P f [(4001,c)]⟩) (λ(⟨v,u,y,h,n⟩:(Ŀ (Fin 8->Int))×ŀ Addr×Nat×ŀ Ow×Mem)=>⟨v,[(1,ε u v y)],Mem.le t n/\Γ (gf .i64 8) 71 n (ε u v y) v h,St K P n [(4001,h)]⟩) ⟨O,I,H,B,7,t⟩ z (Æ z) ⟨mr,F⟩ ?_ ?_ ?_
 .intro w x;have x:=x.Ý (i:=4003) (j:=4001) z (by rw[g];rfl);exact x.weaken (lc z ln)
 .rintro _ ⟨k,q,l,c,A,f⟩ ⟨o,C⟩ hr;exact Ζ
 rintro⟨v,u,y,h,n⟩ ⟨hr,W,R⟩;refine Ξ ?_;intro hr;obtain rfl:_=r:=hr;refine ux (r:=(gf .i64 8)) (e:=71) 4001 R z (by rw[g];rfl) λD J Z E Y=>j' z z ⟨_,_,z,E⟩
instance jn'{c d r}:SpcM ((Vb c d)) r (Cr 209 #[.int .u8 c,i' d] (λG=>True) (λG v=>v=.bool r)):=.mk λhr=>Ζ
instance il{i r}:SpcM ((Js i)) r (Cr 124 #[.int .u8 i] (λG=>True) (fS (gf .i64 8) r)):=.mk λhr=>by
 refine Ξ ?_;intro D k L q hr _;refine WC.mB hr [0,3] [] [3] [] (λ(⟨j,c⟩:Int×(Fin 8->Int))=>⟨(j,c),[(4,i' j)],tr,[(3,ú q (Ö c) 71)]⟩) (λ(d:(Fin 8->Int))=>⟨d,[],tr,[(3,ú q (Ö d) 71)]⟩) ⟨0,(λ_=>0)⟩ ?_;intro p d hr P _;refine b'<|o'<|fA [ff,ff,ff] eL İ λv=>cn (λ_ m=>y' 3 zt z z (U' _ _ _))<|γ.nl (r:=(gf .i64 8)) (e:=71) ([d]:Ŀ (Fin 8->Int)) (λ_=>z) z ĳ (λu U m E=>?_) ?_
 .exact⟨#[(0,.agg (Ö d).toArray)],(Ö d)++([]),z,z,λ_=>by kernel_rfl,⟨Ö d,[],z,z,z⟩⟩
 refine Ξ ?_;intro _ hr _;refine γ.ns (λg V a T o n=>?_);obtain⟨y,B,rfl,l⟩:=o;refine WL.kG n (λZ Y R t C W=>?_);subst t;refine lG (show WL _ _ _ _ _ _ (St D k a.m _)from ?_);refine oA hr λF hr=>GG (r:=(gf .i64 8)) (e:=71) 16 z z tA nW z ĳ z z C z l F λp1 s f M=>Þ z<|t'<|Θ<|b'<|m' ?_
 obtain rfl:_=r:=hr;refine ux (r:=(gf .i64 8)) (e:=71) 16 M z (by rw[L];rfl) λaf h S H Q=>j' z z ⟨_,_,z,H⟩
instance hJ'{f r}:SpcM ((xj f)) r (Cr 66 #[.int .u8 f] (λG=>True) (fS (gf .i64 8) r)):=.mk λhr=>by
 refine è ?_;intro H n d hr _;have g:=tM (w0:=H);refine I' hr z (λL hr=>?_) (λL hr=>?_)
 .exact Ζ
 refine sr<|Δ (eB z z)<|Ρ z<|I' hr z (λF hr=>?_) (λF hr=>?_)
 .refine sr<|oE hr λt o hr=>mP z z (x' zL z) (oo.h o) z (trivial) ln g (λp v k U l=>?_)
  obtain⟨Y,Z,P,rfl,rfl,A⟩:=l;refine mm (λw a=>a.Ý (i:=7000) (j:=4010) z (by rw[d];rfl))<|pL (r:=(gf .i64 8)) (e:=71) 4010 A z (by rw[d];rfl) λq x R s Q=>Ρ z<|m'<|g'<|a' ?_
  obtain rfl:_=r:=hr;exact j' z z ⟨_,_,z,s⟩
 refine WC.nD hr [0,4] [] (λ(c:Bool)=>⟨[(11,.bool c)],EF f c,tr,[]⟩) ?_ ?_
 .refine sr<|Δ (eB z z)<|Ρ z<|I' hr z (λJ hr=>?_) (λJ hr=>?_)
  .exact Ζ
  exact Ζ
 intro m c hr M _;refine kc hr z (λC hr=>?_) (λC hr=>?_)
 .exact Ζ
 refine sr<|Δ (eB z z)<|Ρ z<|I' hr z (λE hr=>?_) (λE hr=>?_)
 .refine Ξ ?_;intro _;refine mY (e:=71) (r:=(gf .i64 8)) (vs:=#[(0,.agg (Ö (ζ (ζ (ζ (ζ (ζ (ζ (ζ (ζ (λ_=>0) 0 2) 1 3) 2 1) 3 1) 4 1) 5 1) 6 1) 7 1)).toArray)]) (cs:=(Ö (ζ (ζ (ζ (ζ (ζ (ζ (ζ (ζ (λ_=>0) 0 2) 1 3) 2 1) 3 1) 4 1) 5 1) 6 1) 7 1))++([])) ([ζ (ζ (ζ (ζ (ζ (ζ (ζ (ζ (λ_=>0) 0 2) 1 3) 2 1) 3 1) 4 1) 5 1) 6 1) 7 1]:Ŀ (Fin 8->Int)) z z z z z ĳ (λ_=>İ) ⟨Ö (ζ (ζ (ζ (ζ (ζ (ζ (ζ (ζ (λ_=>0) 0 2) 1 3) 2 1) 3 1) 4 1) 5 1) 6 1) 7 1),[],z,z,z⟩ (key:=999) z (by rw[d];rfl) λp1 h S I=>?_;exact Ζ
 refine Ξ ?_;intro _ hr;refine mY (e:=71) (r:=(gf .i64 8)) (vs:=#[(0,.agg (Ö (ζ (ζ (ζ (ζ (ζ (ζ (ζ (ζ (λ_=>0) 0 1) 1 1) 2 0) 3 0) 4 0) 5 0) 6 0) 7 0)).toArray),(1,.agg (Ö (ζ (ζ (ζ (ζ (ζ (ζ (ζ (ζ (λ_=>0) 0 1) 1 0) 2 2) 3 1) 4 1) 5 1) 6 1) 7 1)).toArray)]) (cs:=(Ö (ζ (ζ (ζ (ζ (ζ (ζ (ζ (ζ (λ_=>0) 0 1) 1 1) 2 0) 3 0) 4 0) 5 0) 6 0) 7 0))++((Ö (ζ (ζ (ζ (ζ (ζ (ζ (ζ (ζ (λ_=>0) 0 1) 1 0) 2 2) 3 1) 4 1) 5 1) 6 1) 7 1))++([]))) ([ζ (ζ (ζ (ζ (ζ (ζ (ζ (ζ (λ_=>0) 0 1) 1 1) 2 0) 3 0) 4 0) 5 0) 6 0) 7 0,ζ (ζ (ζ (ζ (ζ (ζ (ζ (ζ (λ_=>0) 0 1) 1 0) 2 2) 3 1) 4 1) 5 1) 6 1) 7 1]:Ŀ (Fin 8->Int)) z z z z z ĳ (λ_=>İ) ⟨Ö (ζ (ζ (ζ (ζ (ζ (ζ (ζ (ζ (λ_=>0) 0 1) 1 1) 2 0) 3 0) 4 0) 5 0) 6 0) 7 0),(Ö (ζ (ζ (ζ (ζ (ζ (ζ (ζ (ζ (λ_=>0) 0 1) 1 0) 2 2) 3 1) 4 1) 5 1) 6 1) 7 1))++([]),z,z,⟨Ö (ζ (ζ (ζ (ζ (ζ (ζ (ζ (ζ (λ_=>0) 0 1) 1 0) 2 2) 3 1) 4 1) 5 1) 6 1) 7 1),[],z,z,z⟩⟩ (key:=999) z (by rw[d];rfl) λp2 u T K=>Ρ z<|m'<|g'<|a' ?_
 obtain rfl:_=r:=hr;exact j' z z ⟨_,_,z,K⟩
instance gH'{c F r}:SpcM ((A8 c F)) r (∀{m k e d h g q p u x n o},Cr 26 #[.agg ((tm c m k e d h g q p)).toArray,.agg ((Ã F u x n o)).toArray] (λG=>sl vO G m k c.c.l/\sl (Rp.int .u8) G e d c.c.iQ/\sl (gf .i8 5) G h g c.p.t/\sl BI G q p c.l/\sq G u x F.eqs/\sq G n o F.δ) (λG v=>∃L P M Q,v=.agg ([i' r.kind,ε L r.p P,ε M r.o Q]).toArray/\sl c' G L P r.p/\sv G M Q r.o)):=.mk λhr {m k e d h g q p u x n o}=>by
 refine J' (args:=[_,_]) (N:=29) func26 z z z (λw0 W au Y=>?_);obtain⟨al,aa,K,an,ad,ab⟩:=Y;refine sr<|jM 2 z z z λb1=>jM 3 z z z λb2=>W' 4 z z54 z λb3=>nr<|Δ (Y0.ZAz z)<|Δ (n' 2 HI z z z)<|Δ (xM z z ĳ)<|Δ (pw Gt Bk z)<|Δ (l4 (vs:=#[(0,i' (i64.wrap (Int.tmod c.kind 12)))]) (v:=.agg ([i' (i64.wrap (Int.tmod c.kind 12)),.slice none 0 0,.slice none 0 0]).toArray) z z (λ_=>İ))<|W' 5 z z54 z λb4=>gp 5 oa z<|nx<|WC.nD hr [2,4,5] [2,4] (λ(⟨f,j,l,t,s⟩:Zc×ŀ Addr×Nat×ŀ Addr×Nat)=>⟨[],EI c f,λy=>sl c' y j l f.p/\sv y t s f.o,[(5,ú b4 ([i' f.kind,ε j f.p l,ε t f.o s]) 54)]⟩) ?_ ?_
 .refine sr<|Δ (Bz z)<|Δ (n' 5 eN z z z)<|oE hr λar R hr=>H' z z (x' XY z) (gm'.h R) z (trivial)<|nx<|kc hr z (λa hr=>?_) (λa hr=>?_)
  .refine w'<|Δ (Y0.Ys z)<|Δ (R' ([ε h c.p.t g]).toArray 2 Bp z z z (mK ([.int .u8 c.fY,.int .u8 c.c.n,ε m c.c.l k,ε e c.c.iQ d,.int .u8 c.kind]) ([ε h c.p.t g]) ([.int .u8 c.o,ε q c.l p,i' c.id,i' c.Λ])))<|Δ (rj z)<|Δ (n' 3 eN z z z)<|Δ (Y0.min2 z z)<|oE hr λO T hr=>gR z z (x' XZ z) (gF'.h T) z (K) (λap ai I B=>?_)
   obtain⟨D,E,rfl,S⟩:=B;exact Δ (GB z)<|ra 5 ([i' (i64.wrap (Int.tmod c.kind 12)),ε D O E,.slice none 0 0]).toArray z pD z z z (show 1<3 by decide) z z<|Ζ
  exact Ζ
 rintro y ⟨f,j,l,t,s⟩ hr ak ⟨A,H⟩;refine o'<|sr<|Δ (Bz z)<|Δ (n' 5 eN z z z)<|Δ (eB z z)<|nx<|I' hr z (λaj hr=>?_) (λaj hr=>?_)
 .refine w'<|Δ (Y0.Yt z)<|Δ (n' 2 HI z z z)<|oE hr λaf Z hr=>gR z z (x' X0 z) (hJ'.h Z) z (trivial) (λam aq J C=>?_)
  obtain⟨X,V,rfl,U⟩:=C;refine Δ (VW z)<|ra 5 ([i' f.kind,ε j f.p l,ε X af V]).toArray z Dn z z z (show 2<3 by decide) z z<|nr<|Δ (y' 5 re z z z)<|gp 4 oa z<|nx<|m' ?_
  obtain rfl:_=r:=hr;exact j' z (kD (i:=4) re z z z) ⟨_,_,_,_,z,(A.mono J),U⟩
 refine q'<|b'<|sr<|Δ (y' 5 re z z z)<|gp 4 oa z<|nx<|m' ?_
 obtain rfl:_=r:=hr;exact j' z (kD (i:=4) re z z z) ⟨_,_,_,_,z,A,H⟩
instance jb'{L U x l p r}:SpcM ((Lw L U x l p)) r (∀{H F},Cr 143 #[ε H L F,i' U,i' x,i' l,i' p] (λG=>sl vO G H F L) (fS (Rp.sl c') r)):=.mk λhr {H F}=>by
 refine Ξ ?_;intro w0 Z I p1 E _ e hr _;refine WC.mC (hH:=by exact⟨e,kV⟩) hr [0,1,2,3,4] [] [] [] (λ(⟨c,g,f,d,K⟩:(Ŀ (Ŀ Za))×ŀ Addr×Nat×ŀ Ow×Int)=>⟨(c,K),[(11,ε g c f),(12,i' K)],λo=>sq o g f c/\Tok 1 50 (ε g c f) c.length d,[(1011,d)]⟩) (λ(⟨i,k,j,m⟩:(Ŀ (Ŀ Za))×ŀ Addr×Nat×ŀ Ow)=>⟨i,[(11,ε k i j)],λA=>sq A k j i/\Tok 1 50 (ε k i j) i.length m,[(1011,m)]⟩) ⟨[],p1,0,none,0⟩ ?_;rintro _ o ⟨c,g,f,d,K⟩ h ⟨q,n⟩ hr;refine Ξ ?_;intro _ _ _ _ _ _ _ _ _ _ _ t _ B _ _ _ _ _ y u hr _;refine oA hr λV hr=>jN (r:=(Rp.sl c')) 1011 z z jL js z ĳ z z (q.mono (mx B y)) z (by rw[I];rfl) n u V λp3 Y R a J s Q=>Þ z<|t'<|E'<|b'<|w'<|ν z<|iM z<|Þ z<|t'<|N' ⟨a,(c++[t]),p3,Y,R,i64.wrap (K+1)⟩ hr ⟨(mx (mx (mx h B) y) J),s,Q⟩ (Æ z) (w1 z)
instance gI'{I L V r}:SpcM ((xl I L V)) r (∀{E C},Cr 144 #[ε E I C,i' L,i' V] (λG=>sq G E C I) (fS (Rp.sl c') r)):=.mk λhr {E C}=>by
 refine Ξ ?_;intro w0 G0 o p1 y _ A hr _;refine WC.mC (hH:=by exact⟨A,kV⟩) hr [0,1,2] [] [] [] (λ(⟨c,h,f,g,B⟩:(Ŀ (Ŀ Za))×ŀ Addr×Nat×ŀ Ow×Int)=>⟨(c,B),[(7,ε h c f),(8,i' B)],λq=>sq q h f c/\Tok 1 50 (ε h c f) c.length g,[(1007,g)]⟩) (λ(⟨i,k,j,m⟩:(Ŀ (Ŀ Za))×ŀ Addr×Nat×ŀ Ow)=>⟨i,[(7,ε k i j)],λv=>sq v k j i/\Tok 1 50 (ε k i j) i.length m,[(1007,m)]⟩) ⟨[],p1,0,none,0⟩ ?_;rintro _ q ⟨c,h,f,g,B⟩ d ⟨p,n⟩ hr;refine o'<|sr<|ν z<|ν z<|kv z<|nx<|I' hr z (λK hr=>?_) (λK hr=>?_)
 .refine è ?_;intro hr;refine I' hr z (λs hr=>?_) (λs hr=>?_)
  .refine Ξ ?_;intro _ _ x _ _ _ t J hr;refine oA hr λW hr=>jN (r:=(Rp.sl c')) 1007 z z jL js z ĳ z z (p.mono (mx x t)) z (by rw[o];rfl) n J W λp4 Z Q af F N R=>Þ z<|t'<|E'<|b'<|w'<|ν z<|iM z<|Þ z<|t'<|N' ⟨af,(c++[[]]),p4,Z,Q,i64.wrap (B+1)⟩ hr ⟨(mx (mx (mx d x) t) F),N,R⟩ (Æ z) (w1 z)
  refine Ξ ?_;intro D _ _ _ _ _ _ _ _ _ u a hr _;refine oA hr λS hr=>jN (r:=(Rp.sl c')) 1007 z z jL js z ĳ z z (p.mono u) z (by rw[o];rfl) n a S λp7 l U e H Y O=>Þ z<|t'<|E'<|b'<|w'<|ν z<|iM z<|Þ z<|t'<|N' ⟨e,(c++[D]),p7,l,U,i64.wrap (B+1)⟩ hr ⟨(mx (mx d u) H),Y,O⟩ (Æ z) (w1 z)
 exact Ζ
instance V6{g i r}:SpcM ((tU g i)) r (∀{e d},Cr 145 #[ε e g d,i' i] (λG=>sl (Rp.int .i8) G e d g) (λG v=>v=i' r)):=.mk λhr {e d}=>by
 refine J' (args:=[_,_]) (N:=16) func145 z z z (λm o l h=>?_);have c:=h;refine sr<|Ρ z<|o'<|sr<|ν z<|Δ (P' M6 c z)<|Δ (eB z z)<|nx<|I' hr z (λk hr=>?_) (λk hr=>?_)
 .refine sr<|Ρ z<|m'<|a' (Õ hr z z)
 refine q'<|b'<|sr<|ν z<|ν z<|ν z<|Δ (P' M6 c z)<|oA hr λj hr=>Δ (xM z z j)<|oE hr λn f hr=>Δ (kd M6 s6 c z z f)<|Δ (mX sL z (zg (iK c f)))<|Δ (pw VU Bk z)<|Ρ z<|m' (Õ hr z z)
instance hK'{H r}:SpcM ((xi H)) r (Cr 220 #[.agg ((DD H)).toArray] (λG=>True) (er r)):=.mk λhr=>by
 refine J' (args:=[_]) (N:=49) func220 z z z λw0 G0 t k=>sr<|jM 1 z z z λQ=>W' 2 z rl z λW=>nx<|o'<|fA [ff,ff,ff,ff,ff,ff,ff,ff,ff,ff] eL İ λE=>cn (λ_ c=>Y0.ZzF z) ?_
 refine è ?_;intro u _ _ hr _;refine kI (λ_=>z) vK<|kI (λ_=>z) vK<|GL (λv x y B a D M n K C=>?_)
 obtain⟨p,q,rfl,l⟩:=K;obtain⟨m,f,rfl,j⟩:=C;refine vQ M (λX g h=>?_);subst g;replace n:=GI n ĳ h;refine vQ n (λO i s=>?_);subst i;refine lG (show WL _ _ _ _ _ _ (St w0 G0 a.m _)from ?_);refine gp 3 vG z<|gp 4 vG z<|t'<|Θ<|b'<|WC.nA hr [1,2,3,4] [1,2,3] (λ(⟨o,d,e⟩:Zg×ŀ Addr×Nat)=>⟨[],Qw H u o,λA=>su A d e o.χ,[(4,ú X (η o d e) 118)]⟩)
instance jm'{v1 k1 r}:SpcM ((Mg v1 k1)) r (∀{aq am},Cr 146 #[ε aq v1 am,i' k1] (λG=>sl (Rp.int .i8) G aq am v1) (λG v=>∃zk zu,v=.agg (zk).toArray/\È iB 8 G zk zu r)):=.mk λhr {aq am}=>by
 refine Ξ ?_;intro w0 M _ a d hr _;refine nv (X:=Int×(Ŀ Zl)×Ŀ Value×Unit×Mem) hr (λ⟨i2,ar,ai,af,ap⟩=>⟨(i2,ar),[(0,ε aq v1 am),(1,i' k1),(4,iG a),(5,iG d),(6,i' i2)],Mem.le M ap/\È iB 8 ap ai af ar,St w0 M ap [(4,ú a (jq) 225),(5,ú d (ai) 225)]⟩) (λ(⟨aB,al,az,N⟩:(Ŀ Zl)×Ŀ Value×Unit×Mem)=>⟨aB,[(0,ε aq v1 am),(1,i' k1),(4,iG a),(5,iG d)],Mem.le M N/\È iB 8 N al az aB,St w0 M N [(4,ú a (jq) 225),(5,ú d (al) 225)]⟩) ⟨0,(List.replicate 8 (Zl.mk (Zf.mk (Zg.mk false []) (Zg.mk false [])) (Zf.mk (Zg.mk false []) (Zg.mk false [])))),jq,(),M⟩ z (Æ z) ⟨mr,(show È iB 8 M jq () _ from zA (G:=M) (r:=iB) (n:=8) (zc:=[.bool false,.slice none 0 0,.bool false,.slice none 0 0,.bool false,.slice none 0 0,.bool false,.slice none 0 0]) (z:=(Zl.mk (Zf.mk (Zg.mk false []) (Zg.mk false [])) (Zf.mk (Zg.mk false []) (Zg.mk false [])))) ⟨[.bool false,.slice none 0 0,.bool false,.slice none 0 0],[.bool false,.slice none 0 0,.bool false,.slice none 0 0],z,⟨[.bool false,.slice none 0 0],[.bool false,.slice none 0 0],z,⟨[.bool false],[.slice none 0 0],z,z,⟨_,z,(X' _ _)⟩⟩,⟨[.bool false],[.slice none 0 0],z,z,⟨_,z,(X' _ _)⟩⟩⟩,⟨[.bool false,.slice none 0 0],[.bool false,.slice none 0 0],z,⟨[.bool false],[.slice none 0 0],z,z,⟨_,z,(X' _ _)⟩⟩,⟨[.bool false],[.slice none 0 0],z,z,⟨_,z,(X' _ _)⟩⟩⟩⟩)⟩ (w2 z z) ?_ ?_
 .rintro _ ⟨i2,ar,ai,af,ap⟩ ⟨aC,aw⟩ hr;refine o'<|sr<|ν z<|kv z<|nx<|I' hr z (λa8 hr=>?_) (λa8 hr=>?_)
  .refine Ξ ?_;intro D _ _ aj k t A y ae ah H ba P q B s x ac ag hr _;refine oE hr λx2 aR hr=>Δ (rk zB jY z z (rn (aw.mono (mx aj P)) aR))<|B0 (cs':=[.bool D.num.neg,ε k D.num.χ t,.bool D.den.neg,ε A D.den.χ y,.bool H.num.neg,ε q H.num.χ B,.bool H.den.neg,ε s H.den.χ x]) (z':=(Zl.mk D H)) 5 z jY z ĳ (aw.mono (mx aj P)) z z z z ⟨(Υ D k t A y),(Υ H q B s x),z,⟨(η D.num k t),(η D.den A y),z,⟨[.bool D.num.neg],[ε k D.num.χ t],z,z,⟨_,z,(ae.mono P)⟩⟩,⟨[.bool D.den.neg],[ε A D.den.χ y],z,z,⟨_,z,(ah.mono P)⟩⟩⟩,⟨(η H.num q B),(η H.den s x),z,⟨[.bool H.num.neg],[ε q H.num.χ B],z,z,⟨_,z,ac⟩⟩,⟨[.bool H.den.neg],[ε s H.den.χ x],z,z,⟨_,z,ag⟩⟩⟩⟩ aR λd2 bc=>t'<|E' ?_
   refine è ?_;intro hr;refine N' ⟨i64.wrap (i2+1),ar.set i2.toNat (Zl.mk D H),d2,af,ba⟩ hr ⟨(mx (mx aC aj) P),bc⟩ (Æ z) (w2 z z)
  refine nw<|p'<|p'<|K'<|og ⟨ar,ai,af,ap⟩ ⟨hr,aC,aw⟩ (Æ z) (w2 z z)
 rintro⟨aB,al,az,N⟩ ⟨hr,aA,aZ⟩;refine b'<|o'<|sr<|Ρ z<|nv (X:=Int×(Ŀ Zl)×Ŀ Value×Unit×Mem) hr (λ⟨i1,au,ad,ak,ao⟩=>⟨(i1,au),[(0,ε aq v1 am),(1,i' k1),(4,iG a),(5,iG d),(7,i' i1)],Mem.le N ao/\È iB 8 ao ad ak au,St w0 M ao [(4,ú a (jq) 225),(5,ú d (ad) 225)]⟩) (λ(⟨aN,ax,aO,ab⟩:(Ŀ Zl)×Ŀ Value×Unit×Mem)=>⟨aN,[(4,iG a),(5,iG d)],Mem.le N ab/\È iB 8 ab ax aO aN,St w0 M ab [(4,ú a (jq) 225),(5,ú d (ax) 225)]⟩) ⟨0,aB,al,az,N⟩ z (Æ z) ⟨mr,aZ⟩ (w2 z z) ?_ ?_
 .rintro _ ⟨i1,au,ad,ak,ao⟩ ⟨W,ay⟩ hr;refine o'<|sr<|ν z<|kv z<|nx<|I' hr z (λa6 hr=>?_) (λa6 hr=>?_)
  .refine Ξ ?_;intro aT hr _;refine Δ (l4 (vs:=#[(0,.int .i8 (i8.wrap aT)),(1,.int .i8 3)]) (v:=.agg ([.int .i8 (i8.wrap aT),.int .i8 3,.int .u8 0]).toArray) z z (λ_=>İ))<|oE hr λE a1 hr=>gR z z (x' Ir z) (hK'.h a1) z (trivial) (λbl bq Y aI=>?_)
   obtain⟨l,o,m,p,rfl,U,R⟩:=aI;refine W' 8 z rl z λb3=>gp 8 jW z<|nx<|fA [tt,ff,ff,ff,ff,ff,ff,ff,ff,ff,ff] eL İ λhb=>uw z (k' z) ?_
   refine è ?_;intro aS hr _;refine cn (λ_ F=>l4 (vs:=#[(0,.int .i8 (i8.wrap (i64.wrap (BitVec.ofInt i64.bits aS &&& BitVec.ofInt i64.bits 7).toNat))),(1,.int .i8 2)]) (v:=.agg ([.int .i8 (i8.wrap (i64.wrap (BitVec.ofInt i64.bits aS &&& BitVec.ofInt i64.bits 7).toNat)),.int .i8 2,.int .u8 0]).toArray) z z (λ_=>İ)) ?_;refine è ?_;intro aJ hr _;refine oE hr λC a2 hr=>mg (f:=205) (φ:=er C) (λ_=>z) (λv G1 G2 F h=>?_) (λu G' F hu=>?_) ?_
   .obtain⟨j,c,e,g,rfl,K,L⟩:=h;exact⟨_,_,_,_,z,K.mono F,L.mono F⟩
   .obtain⟨⟨T,S,Q,O,aP,I,J⟩,_⟩:=(show(er aJ) G'.m (u 40)/\True from hu);exact⟨_,_,_,λ_=>x' Il z,gX'.h a2,(by simp only[aP]<;>rfl),⟨(U.mono F),(R.mono F),I,J⟩⟩
   refine Ξ ?_;intro a9 V j c e g K L _ _ _ _ _ _ hr;refine oE hr λx1 aU hr=>Δ (rk zB jY z z (rn (ay.mono (mx Y V)) aU))<|B0 (cs':=[.bool E.num.neg,ε l E.num.χ o,.bool E.den.neg,ε m E.den.χ p,.bool C.num.neg,ε j C.num.χ c,.bool C.den.neg,ε e C.den.χ g]) (z':=(Zl.mk E C)) 5 z jY z ĳ (ay.mono (mx Y V)) z z z z ⟨(Υ E l o m p),(Υ C j c e g),z,⟨(η E.num l o),(η E.den m p),z,⟨[.bool E.num.neg],[ε l E.num.χ o],z,z,⟨_,z,(U.mono V)⟩⟩,⟨[.bool E.den.neg],[ε m E.den.χ p],z,z,⟨_,z,(R.mono V)⟩⟩⟩,⟨(η C.num j c),(η C.den e g),z,⟨[.bool C.num.neg],[ε j C.num.χ c],z,z,⟨_,z,K⟩⟩,⟨[.bool C.den.neg],[ε e C.den.χ g],z,z,⟨_,z,L⟩⟩⟩⟩ aU λd1 a7=>t'<|Θ ?_
   refine è ?_;intro hr;refine N' ⟨i64.wrap (i1+1),au.set i1.toNat (Zl.mk E C),d1,ak,a9⟩ hr ⟨(mx (mx W Y) V),a7⟩ (Æ z) (w2 z z)
  refine nw<|p'<|p'<|K'<|og ⟨au,ad,ak,ao⟩ ⟨hr,W,ay⟩ (Æ z) (w2 z z)
 rintro⟨aN,ax,aO,ab⟩ ⟨hr,bd,Z⟩;refine b'<|sr<|Δ (y' 5 mJ z z (lE Z))<|A' 4 z lW z z z (lE (show È iB 8 ab jq () _ from zA (G:=ab) (r:=iB) (n:=8) (zc:=[.bool false,.slice none 0 0,.bool false,.slice none 0 0,.bool false,.slice none 0 0,.bool false,.slice none 0 0]) (z:=(Zl.mk (Zf.mk (Zg.mk false []) (Zg.mk false [])) (Zf.mk (Zg.mk false []) (Zg.mk false [])))) ⟨[.bool false,.slice none 0 0,.bool false,.slice none 0 0],[.bool false,.slice none 0 0,.bool false,.slice none 0 0],z,⟨[.bool false,.slice none 0 0],[.bool false,.slice none 0 0],z,⟨[.bool false],[.slice none 0 0],z,z,⟨_,z,(X' _ _)⟩⟩,⟨[.bool false],[.slice none 0 0],z,z,⟨_,z,(X' _ _)⟩⟩⟩,⟨[.bool false,.slice none 0 0],[.bool false,.slice none 0 0],z,⟨[.bool false],[.slice none 0 0],z,z,⟨_,z,(X' _ _)⟩⟩,⟨[.bool false],[.slice none 0 0],z,z,⟨_,z,(X' _ _)⟩⟩⟩⟩)) (lE Z) (È.one Z)<|nx<|m' ?_
 obtain rfl:_=r:=hr;exact j' z (kD (i:=4) mJ z z (lE Z)) ⟨_,_,z,Z⟩
set_option maxHeartbeats 2000000 in
instance hM'{g r}:SpcM ((D' g)) r (∀{U S Q T},Cr 81 #[.agg ((DB g U S Q T)).toArray] (λG=>sl vO G U S g.l/\sl (Rp.int .i8) G Q T g.v) (OD r)):=.mk λhr {U S Q T}=>by
 refine J' (args:=[_]) (N:=122) func81 z z z (λw0 G0 b0 cv=>?_);obtain⟨bu,O⟩:=cv;refine sr<|jM 1 z z z λb1=>W' 2 z HO z λb2=>nr<|Δ (Y0.ZzC z)<|Δ (n' 1 ya z z z)<|oE hr λbi ci hr=>gR z z (x' H7 z) (jb'.h ci) z (bu) (λc7 db av bo=>?_)
 obtain⟨bD,bw,rfl,a9⟩:=bo;refine Þ z<|nr<|Δ (Y0.ZzB z)<|Δ (n' 1 HI z z z)<|Δ (xM z z ĳ)<|Δ (pw Gt Bk z)<|iM z<|Δ (l4 (vs:=#[(0,i' (i64.wrap (1+(i64.wrap (Int.tmod g.kind 13)))))]) (v:=.agg ([i' (i64.wrap (1+(i64.wrap (Int.tmod g.kind 13)))),.slice none 0 0,i' 0,i' 0,i' 0,.slice none 0 0,.slice none 0 0,.slice none 0 0,.slice none 0 0]).toArray) z z (λ_=>İ))<|W' 4 z HO z λb3=>gp 4 s8 z<|nx<|o'<|fA [ff,ff,ff,ff,ff,ff,ff,ff,ff] eL İ λhb=>?_
 refine è ?_;intro aM hr _;refine oE hr λX bX hr=>jr (φ:=λG v=>∃p1 ax,v=.pointer (some ⟨pb p1,po p1+(0:Int).toNat*1,none⟩)/\sq G p1 ax aM) (λ_=>z) (λv G1 G2 j h=>?_) (λu G' j a=>?_) ?_
 .obtain⟨p1,ax,rfl,bh⟩:=h;exact⟨_,_,z,bh.mono j⟩
 .obtain⟨⟨a8,a5,bJ,aI⟩,_⟩:=(show(fS (Rp.sl c') aM) G'.m (u 18)/\True from a);simp only[ς,bJ];exact⟨_,kd jL pD aI z z bX,a8,a5,z,aI⟩
 refine jr (φ:=fS c' X) (λ_=>z) (λv G1 G2 j h=>?_) (λu G' j a=>?_) ?_
 .obtain⟨p4,bz,rfl,be⟩:=h;exact⟨_,_,z,be.mono j⟩
 .obtain⟨⟨p1,ax,bL,bh⟩,_,_⟩:=(show(λG v=>∃p1 ax,v=.pointer (some ⟨pb p1,po p1+(0:Int).toNat*1,none⟩)/\sq G p1 ax aM) G'.m (u 19)/\True/\True from a);obtain⟨p3,cH,cC,cO⟩:=xN (iK bh bX);simp only[ς,bL];exact⟨_,mX rf z (cC),p3,cH,z,cO⟩
 refine cu (λ_ _ j=>Wa z)<|cu (λ_ _ j=>n' 1 sK z z z)<|oE hr λq cr hr=>γ.vL (f:=145) (c:=i' q) (λ_=>z) (λu G' j a=>?_) ?_
 .obtain⟨_,_,_,_⟩:=(show True/\True/\True/\True from a);exact⟨_,_,_,λ_=>x' zO z,V6.h cr,z,((O.mono av).mono j)⟩
 refine cu (λ_ _ j=>Y0.and z z)<|jr (φ:=fS c' X) (λ_=>z) (λv G1 G2 j h=>?_) (λu G' j a=>?_) ?_
 .obtain⟨p5,ad,rfl,a2⟩:=h;exact⟨_,_,z,a2.mono j⟩
 .obtain⟨⟨p4,bz,bH,be⟩,_,_,_⟩:=(show(fS c' X) G'.m (u 20)/\True/\True/\True from a);simp only[ς,bH];exact⟨_,ri z,p4,bz,z,be⟩
 refine γ.td (d0:=5) (post0:=fS c' X) (d1:=20) (post1:=fS c' X) (d2:=19) (post2:=λG v=>∃p1 ax,v=.pointer (some ⟨pb p1,po p1+(0:Int).toNat*1,none⟩)/\sq G p1 ax aM) (d3:=18) (post3:=fS (Rp.sl c') aM) (λc2 c4 c3 c5 bd V bm bp bs bt=>?_);obtain⟨p5,ad,rfl,a2⟩:=bm;obtain⟨p4,bz,rfl,be⟩:=bp;obtain⟨p1,ax,rfl,bh⟩:=bs;obtain⟨a8,a5,rfl,aI⟩:=bt;refine Þ z<|t'<|Θ<|b'<|o'<|sr<|Δ (zj z)<|Δ (n' 4 eN z z z)<|nx<|Y'<|WC.nD hr [1,2,3,4,5,6,26] [1,2,4] (λ(aW:Bool)=>⟨[(27,.bool aW)],wS g bi X q aW,tr,[]⟩) ?_ ?_
 .refine sr<|Δ (eB z z)<|Ρ z<|I' hr z (λcl hr=>?_) (λcl hr=>?_)
  .exact Ζ
  refine sr<|Δ (eB z z)<|Ρ z<|I' hr z (λcc hr=>?_) (λcc hr=>?_)
  .exact Ζ
  exact Ζ
 intro aO aW hr C _;refine kc hr z (λcV hr=>?_) (λcV hr=>?_)
 .refine Ξ ?_;intro hr;obtain rfl:_=r:=hr;exact j' z (kD (i:=2) nS z z z) ⟨_,_,_,_,_,_,_,_,_,_,z,(a2.mono C),(X' (gf .i64 8) _),(X' (Rp.sl c') _),(X' (Rp.int .i64) _),(X' (Rp.arr iB 8) _)⟩
 refine sr<|Δ (eB z z)<|Ρ z<|I' hr z (λcL hr=>?_) (λcL hr=>?_)
 .refine Ξ ?_;intro _ _ _ _ _ _ _ _ cy _ _ bK _ _ ch hr _;obtain rfl:_=r:=hr;exact j' z (kD (i:=2) nS z z z) ⟨_,_,_,_,_,_,_,_,_,_,z,(X' c' _),(cy.mono bK),ch,(X' (Rp.int .i64) _),(X' (Rp.arr iB 8) _)⟩
 refine sr<|Δ (eB z z)<|Ρ z<|I' hr z (λcP hr=>?_) (λcP hr=>?_)
 .refine Ξ ?_;intro _ hr _;obtain rfl:_=r:=hr;exact j' z (kD (i:=2) nS z z z) ⟨_,_,_,_,_,_,_,_,_,_,z,(X' c' _),(X' (gf .i64 8) _),(X' (Rp.sl c') _),(X' (Rp.int .i64) _),(X' (Rp.arr iB 8) _)⟩
 refine sr<|Δ (eB z z)<|Ρ z<|I' hr z (λcJ hr=>?_) (λcJ hr=>?_)
 .refine Ξ ?_;intro hr;obtain rfl:_=r:=hr;exact j' z (kD (i:=2) nS z z z) ⟨_,_,_,_,_,_,_,_,_,_,z,(X' c' _),(X' (gf .i64 8) _),(X' (Rp.sl c') _),(X' (Rp.int .i64) _),(X' (Rp.arr iB 8) _)⟩
 refine WC.nD hr [1,2,3,4,5,6,26] [1,2,4] (λ(aV:Bool)=>⟨[(69,.bool aV)],I6 g bi X q aV,tr,[]⟩) ?_ ?_
 .refine sr<|Δ (eB z z)<|Ρ z<|I' hr z (λco hr=>?_) (λco hr=>?_)
  .exact Ζ
  exact Ζ
 intro aN aV hr ai _;refine kc hr z (λcS hr=>?_) (λcS hr=>?_)
 .refine o'<|sr<|Ρ z<|WC.mD (hH:=by exact⟨(X' _ _),(X' _ _),(X' _ _),(X' _ _),kV,(X' _ _),kV⟩) hr [1,2,4,5,6] [1,2] [2,4,5] [2] (λ(⟨aF,m,af,Z,Y,K,L,M,I,y,A,H,B,x,t,E,D,R,s,ar,al,ap⟩:Int×Int×(Ŀ Za)×ŀ Addr×Nat×Int×Int×Int×(Ŀ (Fin 8->Int))×ŀ Addr×Nat×(Ŀ (Ŀ Za))×ŀ Addr×Nat×(Ŀ Int)×ŀ Addr×Nat×ŀ Ow×(Ŀ (Ŀ Zl))×ŀ Addr×Nat×ŀ Ow)=>⟨(aF,m,af,K,L,M,I,H,t,s),[(7,i' aF)],λaj=>sl c' aj Z Y af/\sv aj y A I/\sq aj B x H/\sl (Rp.int .i64) aj E D t/\Tok 1 3 (ε E t D) t.length R/\sl (Rp.arr iB 8) aj ar al s/\Tok 64 225 (ε ar s al) s.length ap,[(4,ú b3 ([i' m,ε Z af Y,i' K,i' L,i' M,ε y I A,ε B H x,ε E t D,ε ar s al]) 89),(310047,R),(310048,ap)]⟩) (λ(⟨W,aT,aR,aU,aQ,aY,aZ,aJ,az,aB,aG,aA,aC,ag,am,ao,aE,ah,aq,ak,aD⟩:Int×(Ŀ Za)×ŀ Addr×Nat×Int×Int×Int×(Ŀ (Fin 8->Int))×ŀ Addr×Nat×(Ŀ (Ŀ Za))×ŀ Addr×Nat×(Ŀ Int)×ŀ Addr×Nat×ŀ Ow×(Ŀ (Ŀ Zl))×ŀ Addr×Nat×ŀ Ow)=>⟨(W,aT,aQ,aY,aZ,aJ,aG,ag,ah),[],λaw=>sl c' aw aR aU aT/\sv aw az aB aJ/\sq aw aA aC aG/\sl (Rp.int .i64) aw am ao ag/\Tok 1 3 (ε am ag ao) ag.length aE/\sl (Rp.arr iB 8) aw aq ak ah/\Tok 64 225 (ε aq ah ak) ah.length aD,[(4,ú b3 ([i' W,ε aR aT aU,i' aQ,i' aY,i' aZ,ε az aJ aB,ε aA aG aC,ε am ag ao,ε aq ah ak]) 89),(310047,aE),(310048,aD)]⟩) ⟨0,i64.wrap (1+(i64.wrap (Int.tmod g.kind 13))),[],none,0,0,0,0,[],none,0,[],none,0,[],none,0,none,[],none,0,none⟩ ?_ ?_
  .rintro _ aj ⟨aF,m,af,Z,Y,K,L,M,I,y,A,H,B,x,t,E,D,R,s,ar,al,ap⟩ ab ⟨bl,aP,aX,aS,aH,bj,a1⟩ hr;refine o' ?_;refine è ?_;intro hr;refine I' hr z (λcG hr=>?_) (λcG hr=>?_)
   .refine q'<|b'<|o'<|Y'<|o'<|fA [ff,ff,ff,ff,ff,ff,ff] eL İ λhb=>cn (λ_ j=>zo z)<|cn (λ_ j=>n' 4 qR z z z) ?_
    refine è ?_;intro J hr _;refine tI (r:=(Rp.arr iB 8)) (e:=225) ([J]:Ŀ (Ŀ Zl)) (λ_=>z) z ĳ (λu G' j a=>?_) ?_
    .obtain⟨⟨k,F,bv,an⟩,_⟩:=(show(λG v=>∃k F,v=.agg (k).toArray/\È iB 8 G k F J) G'.m (u 83)/\True from a);simp only[ς,bv];exact⟨#[(0,.agg (k).toArray)],k++([]),z,z,wb (n:=64) (lE an) (λ_=>(λ_=>İ)),⟨k,[],z,an,z⟩⟩
    refine BH (d:=84) (post:=λG v=>∃p6 bZ,v=.slice p6 1 1/\jo (Rp.arr iB 8) G (.slice p6 1 1) bZ [J]) (d':=83) (post':=λG v=>∃k F,v=.agg (k).toArray/\È iB 8 G k F J) (λcW cZ da o a6 a7=>?_);obtain⟨p6,bZ,rfl,cD⟩:=a6;obtain⟨k,F,rfl,an⟩:=a7;refine oA hr λb9 hr=>jN (r:=(Rp.arr iB 8)) 310048 z z ur BQ z ĳ z z (bj.mono o) z (by rw[b0];rfl) a1 cD b9 λp7 a3 bx cI p b4 bA=>Δ (zo z)<|ra 4 ([i' m,ε Z af Y,i' K,i' L,i' M,ε y I A,ε B H x,ε E t D,.slice p7 (s++[J]).length a3]).toArray z Dq z z z (show 8<9 by decide) z z<|t' ?_
    refine è ?_;intro hr;refine I' hr z (λcM hr=>?_) (λcM hr=>?_)
    .refine WC.pM (Bt:=λ_=>True) (l:=ir [0,1,2,3,4,5,6,7,8,9,10,12,11,13,14,15] _) (Fm İ) (λ_ _ _ _ _=>trivial) [tt,ff,ff,ff,ff,ff,ff,ff,ff,ff,ff,tt] eL İ λhb=>uw z (k' z)<|cn (λ_ j=>BE z)<|cn (λ_ j=>n' 4 sP z z z)<|cn (λ_ j=>Wa z)<|cn (λ_ j=>n' 1 sK z z z)<|fM z ?_
     obtain⟨ae,bQ,hr⟩:=hr;have N1:=mx (mx (mx (mx (mx (mx av V) C) ai) ab) o) p;refine uu z (λ_=>x' zO z) (V6.h bQ) z (λG' j=>((O.mono N1).mono j))<|cn (λ_ j=>Y0.and z z)<|cn (λ_ j=>xM z z ĳ)<|cn (λ_ j=>Gz z z)<|tI (r:=(Rp.int .i64)) (e:=3) ([i64.wrap ((Int.tmod (i64.wrap (BitVec.ofInt i64.bits ae &&& BitVec.ofInt i64.bits 127).toNat) 3)-1)]:Ŀ Int) (λ_=>z) z ĳ (λu G' j a=>?_) ?_
     .exact⟨#[(0,i' (i64.wrap ((Int.tmod (i64.wrap (BitVec.ofInt i64.bits ae &&& BitVec.ofInt i64.bits 127).toNat) 3)-1)))],[i' (i64.wrap ((Int.tmod (i64.wrap (BitVec.ofInt i64.bits ae &&& BitVec.ofInt i64.bits 127).toNat) 3)-1))]++([]),z,z,λ_=>by kernel_rfl,⟨[i' (i64.wrap ((Int.tmod (i64.wrap (BitVec.ofInt i64.bits ae &&& BitVec.ofInt i64.bits 127).toNat) 3)-1))],[],z,z,z⟩⟩
     refine γ.si (λ_=>z) (λ_=>GA z)<|Bx (d:=100) (post:=λG v=>∃p8 b6,v=.slice p8 1 1/\jo (Rp.int .i64) G (.slice p8 1 1) b6 [i64.wrap ((Int.tmod (i64.wrap (BitVec.ofInt i64.bits ae &&& BitVec.ofInt i64.bits 127).toNat) 3)-1)]) (λcX dc aa ba=>?_)
     obtain⟨p8,b6,rfl,cA⟩:=ba;obtain⟨cm,hr⟩:=hr;have N2:=mx (mx o p) aa;refine jN (r:=(Rp.int .i64)) 310047 z z zf M0 z ĳ z z (aS.mono N2) z (by rw[b0];rfl) aH cA cm λp9 b5 cb b7 P cF ck=>ra 4 ([i' m,ε p5 X ad,i' K,i' L,i' M,ε y I A,ε B H x,ε E t D,.slice p7 (s++[J]).length a3]).toArray z pD z z z (show 1<9 by decide) z z<|Δ (BE z)<|ra 4 ([i' m,ε p5 X ad,i' K,i' L,i' M,ε y I A,ε B H x,.slice p9 (t++[i64.wrap ((Int.tmod (i64.wrap (BitVec.ofInt i64.bits ae &&& BitVec.ofInt i64.bits 127).toNat) 3)-1)]).length b5,.slice p7 (s++[J]).length a3]).toArray z Dm z z z (show 7<9 by decide) z z<|t'<|Θ<|E' ?_
     refine è ?_;intro hr;refine N' ⟨b7,i64.wrap (aF+1),m,X,p5,ad,K,L,M,I,y,A,H,B,x,(t++[i64.wrap ((Int.tmod (i64.wrap (BitVec.ofInt i64.bits ae &&& BitVec.ofInt i64.bits 127).toNat) 3)-1)]),p9,b5,cb,(s++[J]),p7,a3,bx⟩ hr ⟨(mx (mx (mx (mx ab o) p) aa) P),(a2.mono (mx (mx (mx (mx (mx (mx C ai) ab) o) p) aa) P)),(aP.mono (mx N2 P)),(aX.mono (mx N2 P)),cF,ck,(b4.mono (mx aa P)),bA⟩ (Æ z) (w5 z z z z z)
    refine Ξ ?_;intro hr;refine N' ⟨cI,i64.wrap (aF+1),m,af,Z,Y,K,L,M,I,y,A,H,B,x,t,E,D,R,(s++[J]),p7,a3,bx⟩ hr ⟨(mx (mx ab o) p),(bl.mono (mx o p)),(aP.mono (mx o p)),(aX.mono (mx o p)),(aS.mono (mx o p)),aH,b4,bA⟩ (Æ z) (w5 z z z z z)
   refine nw<|p'<|p'<|K'<|og ⟨aj,m,af,Z,Y,K,L,M,I,y,A,H,B,x,t,E,D,R,s,ar,al,ap⟩ ⟨hr,ab,bl,aP,aX,aS,aH,bj,a1⟩ (Æ z) (w4 z z z z)
  rintro aw ⟨W,aT,aR,aU,aQ,aY,aZ,aJ,az,aB,aG,aA,aC,ag,am,ao,aE,ah,aq,ak,aD⟩ hr bG ⟨bN,bf,bk,bg,cT,bc,cE⟩;refine è ?_;intro hr;refine I' hr z (λcN hr=>?_) (λcN hr=>?_)
  .refine Ξ ?_;intro hr;obtain rfl:_=r:=hr;exact j' z (kD (i:=2) nS z z z) ⟨_,_,_,_,_,_,_,_,_,_,z,(a2.mono (mx (mx C ai) bG)),bf,bk,bg,bc⟩
  refine Ξ ?_;intro hr;obtain rfl:_=r:=hr;exact j' z (kD (i:=2) nS z z z) ⟨_,_,_,_,_,_,_,_,_,_,z,bN,bf,bk,bg,bc⟩
 refine sr<|Δ (eB z z)<|Ρ z<|I' hr z (λcK hr=>?_) (λcK hr=>?_)
 .refine Ξ ?_;intro _ _ _ _ _ bP hr _;obtain rfl:_=r:=hr;exact j' z (kD (i:=2) nS z z z) ⟨_,_,_,_,_,_,_,_,_,_,z,(X' c' _),(X' (gf .i64 8) _),bP,(X' (Rp.int .i64) _),(X' (Rp.arr iB 8) _)⟩
 refine o'<|sr<|Δ (eB z z)<|Ρ z<|I' hr z (λcp hr=>?_) (λcp hr=>?_)
 .refine q'<|b'<|I' hr z (λce hr=>?_) (λce hr=>?_)
  .refine Ξ ?_;intro hr;obtain rfl:_=r:=hr;exact j' z (kD (i:=2) nS z z z) ⟨_,_,_,_,_,_,_,_,_,_,z,(X' c' _),(X' (gf .i64 8) _),(X' (Rp.sl c') _),(X' (Rp.int .i64) _),(X' (Rp.arr iB 8) _)⟩
  refine Ξ ?_;intro hr;obtain rfl:_=r:=hr;exact j' z (kD (i:=2) nS z z z) ⟨_,_,_,_,_,_,_,_,_,_,z,(X' c' _),(X' (gf .i64 8) _),(X' (Rp.sl c') _),(X' (Rp.int .i64) _),(X' (Rp.arr iB 8) _)⟩
 refine w'<|Δ (eB z z)<|Ρ z<|I' hr z (λcx hr=>?_) (λcx hr=>?_)
 .refine Ξ ?_;intro hr;obtain rfl:_=r:=hr;exact j' z (kD (i:=2) nS z z z) ⟨_,_,_,_,_,_,_,_,_,_,z,(X' c' _),(X' (gf .i64 8) _),(X' (Rp.sl c') _),(X' (Rp.int .i64) _),(X' (Rp.arr iB 8) _)⟩
 refine Ξ ?_;intro hr;obtain rfl:_=r:=hr;exact j' z (kD (i:=2) nS z z z) ⟨_,_,_,_,_,_,_,_,_,_,z,(X' c' _),(X' (gf .i64 8) _),(X' (Rp.sl c') _),(X' (Rp.int .i64) _),(X' (Rp.arr iB 8) _)⟩
instance gq'{I r}:SpcM ((AE I)) r (∀{A B p q y C K F},Cr 35 #[.agg ((tm I A B p q y C K F)).toArray] (λG=>sl vO G A B I.c.l/\sl (Rp.int .u8) G p q I.c.iQ/\sl (gf .i8 5) G y C I.p.t/\sl BI G K F I.l) (fS rV r)):=.mk λhr {A B p q y C K F}=>by
 refine Ξ ?_;intro w0 G0 _ T _ _ _ _ _ b1 p1 U _ av hr _;refine WC.mC (hH:=by exact⟨av,kV⟩) hr [1] [1] [] [] (λ(⟨x,t,u,s,a⟩:(Ŀ Zj)×ŀ Addr×Nat×ŀ Ow×Int)=>⟨(x,a),[(3,ε t x u),(4,i' a)],λv=>sl rV v t u x/\Tok 9 89 (ε t x u) x.length s,[(1003,s)]⟩) (λ(⟨S,M,O,J⟩:(Ŀ Zj)×ŀ Addr×Nat×ŀ Ow)=>⟨S,[(3,ε M S O)],λQ=>sl rV Q M O S/\Tok 9 89 (ε M S O) S.length J,[(1003,J)]⟩) ⟨[],p1,0,none,0⟩ ?_;rintro _ v ⟨x,t,u,s,a⟩ m ⟨V,E⟩ hr;refine Ξ ?_;intro _ _ _ _ _ _ _ _ _ _ _ _ _ _ _ ai hr al;refine oE hr λc aj hr=>gR z z (x' Ya z) (hM'.h aj) z (⟨ai,al⟩) (λaI aM L R=>?_);obtain⟨o,n,l,k,j,i,h,g,d,f,rfl,Z,D,W,H,Y⟩:=R;refine mY (e:=89) (r:=rV) (vs:=#[(0,.agg ((jT c o n l k j i h g d f)).toArray)]) (cs:=(jT c o n l k j i h g d f)++([])) ([c]:Ŀ Zj) z z z z z ĳ (λ_=>İ) ⟨(jT c o n l k j i h g d f),[],z,⟨[i' c.kind],[ε o c.p n,i' c.n,i' c.d,i' c.r,ε l c.o k,ε j c.l i,ε h c.s g,ε d c.b f],z,z,⟨[ε o c.p n],[i' c.n,i' c.d,i' c.r,ε l c.o k,ε j c.l i,ε h c.s g,ε d c.b f],z,⟨_,z,Z⟩,⟨[i' c.n],[i' c.d,i' c.r,ε l c.o k,ε j c.l i,ε h c.s g,ε d c.b f],z,z,⟨[i' c.d],[i' c.r,ε l c.o k,ε j c.l i,ε h c.s g,ε d c.b f],z,z,⟨[i' c.r],[ε l c.o k,ε j c.l i,ε h c.s g,ε d c.b f],z,z,⟨[ε l c.o k],[ε j c.l i,ε h c.s g,ε d c.b f],z,⟨_,z,D⟩,⟨[ε j c.l i],[ε h c.s g,ε d c.b f],z,⟨_,z,W⟩,⟨[ε h c.s g],[ε d c.b f],z,⟨_,z,H⟩,⟨_,z,Y⟩⟩⟩⟩⟩⟩⟩⟩⟩,z⟩ (key:=999) z (by rw[T];rfl) (λp2 aN P ax=>?_);refine oA hr λX hr=>jN (r:=rV) 1003 z z ML M2 z ĳ z z (V.mono (mx L P)) z (by rw[T];rfl) E ax X λp3 ar af an N aw ah=>Þ z<|t'<|E'<|b'<|w'<|ν z<|iM z<|Þ z<|t'<|N' ⟨an,(x++[c]),p3,ar,af,i64.wrap (a+1)⟩ hr ⟨(mx (mx (mx m L) P) N),aw,ah⟩ (Æ z) (w2 z z)
instance mn{b1 a r}:SpcM ((Rq b1 a)) r (∀{aw ao Z i I K Y N av aq},Cr 12 #[.agg ((fX b1 aw ao)).toArray,.agg ((tm a Z i I K Y N av aq)).toArray] (λG=>sl gg G aw ao b1.t/\sl vO G Z i a.c.l/\sl (Rp.int .u8) G I K a.c.iQ/\sl (gf .i8 5) G Y N a.p.t/\sl BI G av aq a.l) (Ç r)):=.mk λhr {aw ao Z i I K Y N av aq}=>by
 refine è ?_;intro w0 G0 _ _ _ M _ P _ A R _ _ _ hr V;refine o' ?_;refine è ?_;intro hr;refine I' hr z (λa0 hr=>?_) (λa0 hr=>?_)
 .refine sr<|Δ (y' 3 xF z z z)<|oE hr λbh aK hr=>gR z z (x' OM z) (V8.h aK) z (⟨P,A,R,V⟩) (λbe bg p ad=>?_)
  obtain⟨aS,aT,aG,aO,rfl,J,F⟩:=ad;refine W' 7 z rB z λb5=>gp 7 tH z<|nx<|o'<|fA [ff,ff,ff,ff,ff,ff,ff,ff,tt,tt,ff] eL İ λhb=>cn (λ_ d=>y' 2 l6 z z z) ?_
  refine è ?_;intro q hr _;refine oE hr λt aP hr=>mg (f:=27) (φ:=Ç t) (λ_=>z) (λv U W d h=>?_) (λu l d m=>?_) ?_
  .obtain⟨x,B,rfl,o⟩:=h;exact⟨_,_,z,o.mono d⟩
  .obtain⟨⟨e,j,k,g,aB,E,D⟩,_⟩:=(show(λG v=>∃e j k g,v=.agg ([i' q.kind,ε e q.p j,ε k q.o g]).toArray/\sl c' G e j q.p/\sv G k g q.o) l.m (u 24)/\True from m);exact⟨_,_,_,λ_=>x' zX z,BX.h aP,(by simp only[aB]<;>rfl),⟨((M.mono p).mono d),(J.mono d),(F.mono d),E,D⟩⟩
  refine jr (φ:=Ç t) (λ_=>z) (λv U W d h=>?_) (λu l d m=>?_) ?_
  .obtain⟨p1,T,rfl,L⟩:=h;exact⟨_,_,z,L.mono d⟩
  .obtain⟨⟨x,B,aC,o⟩,_,_⟩:=(show(Ç t) l.m (u 25)/\True/\True from m);simp only[ς,aC];exact⟨_,k' z,x,B,z,o⟩
  refine jr (φ:=kC t.1) (λ_=>z) (λv U W d h=>?_) (λu l d m=>?_) ?_
  .obtain⟨p2,aX,rfl,ap⟩:=h;exact⟨_,_,z,ap.mono d⟩
  .obtain⟨⟨p1,T,s,L⟩,_,_,_⟩:=(show(Ç t) l.m (u 19)/\True/\True/\True from m);simp only[ς,s];exact⟨_,O' z z,p1,T,z,L⟩
  refine mi (c:=i' t.2.1) (λ_=>z) (λu l d m=>?_) ?_
  .obtain⟨_,⟨p1,T,s,L⟩,_,_,_⟩:=(show True/\(Ç t) l.m (u 19)/\True/\True/\True from m);simp only[ς,s];exact O' z z
  refine mi (c:=i' t.2.2) (λ_=>z) (λu l d m=>?_) ?_
  .obtain⟨_,⟨p1,T,s,L⟩,_,_,_⟩:=(show True/\(Ç t) l.m (u 19)/\True/\True/\True from m);simp only[ς,s];exact O' z z
  refine kI (λ_=>z) z26<|xQ (λbi a5 bb a6 bc X1 aN au ag ae aj ak=>?_)
  obtain⟨b6,rfl,aI⟩:=au;obtain⟨p2,aX,rfl,ap⟩:=ag;obtain⟨p1,T,rfl,L⟩:=ae;obtain⟨x,B,rfl,o⟩:=aj;obtain⟨e,j,k,g,rfl,E,D⟩:=ak;refine om aI (lG (show WL _ _ _ _ _ _ (St w0 G0 X1.m _)from ?_));exact Ζ
 refine q'<|b'<|o'<|fA [ff,ff,ff,ff,ff,ff,ff,ff,ff,ff,tt,ff] eL İ λhb=>?_
 refine è ?_;intro aE hr _;refine oE hr λH aQ hr=>mg (f:=36) (φ:=jh H) (λ_=>z) (λv U W d h=>?_) (λu l d m=>?_) ?_
 .obtain⟨y,C,rfl,n⟩:=h;exact⟨_,_,z,n.mono d⟩
 .obtain⟨⟨ar,am,aD,Q⟩,_⟩:=(show(fS rV aE) l.m (u 42)/\True from m);exact⟨_,_,_,λ_=>x' IX z,MU.h aQ,(by simp only[aD]<;>rfl),⟨(M.mono d),Q⟩⟩
 refine jr (φ:=jh H) (λ_=>z) (λv U W d h=>?_) (λu l d m=>?_) ?_
 .obtain⟨p3,X,rfl,S⟩:=h;exact⟨_,_,z,S.mono d⟩
 .obtain⟨⟨y,C,aA,n⟩,_,_⟩:=(show(jh H) l.m (u 45)/\True/\True from m);simp only[ς,aA];exact⟨_,k' z,y,C,z,n⟩
 refine jr (φ:=kC H.1) (λ_=>z) (λv U W d h=>?_) (λu l d m=>?_) ?_
 .obtain⟨p4,aU,rfl,an⟩:=h;exact⟨_,_,z,an.mono d⟩
 .obtain⟨⟨p3,X,O,S⟩,_,_,_⟩:=(show(jh H) l.m (u 37)/\True/\True/\True from m);simp only[ς,O];exact⟨_,O' z z,p3,X,z,S⟩
 refine mi (c:=i' H.2) (λ_=>z) (λu l d m=>?_) ?_
 .obtain⟨_,⟨p3,X,O,S⟩,_,_,_⟩:=(show True/\(jh H) l.m (u 37)/\True/\True/\True from m);simp only[ς,O];exact O' z z
 refine kI (λ_=>z) z26<|xQ (λbj bd a3 ba a4 X2 aM ax ah af al ac=>?_)
 obtain⟨b7,rfl,aH⟩:=ax;obtain⟨p4,aU,rfl,an⟩:=ah;obtain⟨p3,X,rfl,S⟩:=af;obtain⟨y,C,rfl,n⟩:=al;obtain⟨ar,am,rfl,Q⟩:=ac;refine om aH (lG (show WL _ _ _ _ _ _ (St w0 G0 X2.m _)from ?_));exact Ζ
instance hN'{Z W r}:SpcM ((Lz Z W)) r (∀{S R},Cr 20 #[.agg ((fX Z S R)).toArray,i' W] (λG=>sl gg G S R Z.t) (λG v=>∃J E x u P O K L,v=.tuple #[.agg ((eR r.1 J E x u P O K L)).toArray,.bool r.2]/\sq G J E r.1.k.eqs/\sq G x u r.1.k.δ/\sl c' G P O r.1.q.p/\sv G K L r.1.q.o)):=.mk λhr {S R}=>by refine Ξ ?_;intro w0 V _ i a hr _;refine WC.mA hr [1,2,4] [2] [4] [] (λ(⟨g,q,e,f,c,d,m,j,n,k⟩:Int×Ze×ŀ Addr×Nat×ŀ Addr×Nat×ŀ Addr×Nat×ŀ Addr×Nat)=>⟨(g,q),[(6,i' g)],λs=>sq s e f q.k.eqs/\sq s c d q.k.δ/\sl c' s m j q.q.p/\sv s n k q.q.o,[(4,ú a (eR q e f c d m j n k) 56)]⟩) (λ(⟨B,p,o,l,h,C,A,y,F⟩:Ze×ŀ Addr×Nat×ŀ Addr×Nat×ŀ Addr×Nat×ŀ Addr×Nat)=>⟨(.inr B),[],λI=>sq I p o B.k.eqs/\sq I l h B.k.δ/\sl c' I C A B.q.p/\sv I y F B.q.o,[(4,ú a (eR B p o l h C A y F) 56)]⟩) ⟨0,(Ze.mk 0 (Zb.mk 0 [] []) (Zc.mk 0 [] []) 0 0 0 false),none,0,none,0,none,0,none,0⟩
instance Wf{k n r}:SpcM ((FK k n)) r (∀{i h},Cr 162 #[ε i k h,i' n] (λG=>sq G i h k) (λG v=>v=.bool r)):=.mk λhr {i h}=>by refine Ξ ?_;intro s f _ hr _;refine WC.mA hr [0,1] [] [] [] (λ(j:Int)=>⟨j,[(5,i' j)],tr,[]⟩) (λ(_:Unit)=>⟨(.inr ()),[],tr,[]⟩) 0
instance M8{c r}:SpcM ((Fx c)) r (Cr 163 #[i' c] (λG=>True) (λG v=>v=.bool r)):=.mk λhr=>Ζ
instance ic'{k r}:SpcM ((JT k)) r (∀{i e h f d c j g},Cr 237 #[.agg ((wB k i e h f d c j g)).toArray] (λG=>su G i e k.lo.num.χ/\su G h f k.lo.den.χ/\su G d c k.hi.num.χ/\su G j g k.hi.den.χ) (λG v=>v=.bool r)):=.mk λhr {i e h f d c j g}=>Ζ
instance Wg{u r}:SpcM ((vl u)) r (∀{i f j g},Cr 238 #[.agg ((Υ u i f j g)).toArray] (λG=>su G i f u.num.χ/\su G j g u.den.χ) (λG v=>v=.bool r)):=.mk λhr {i f j g}=>Ζ
instance lg{x E r}:SpcM ((Fw x E)) r (∀{p n},Cr 164 #[ε p x n,i' E] (λG=>sl (Rp.arr iB 8) G p n x) (λG v=>v=.bool r)):=.mk λhr {p n}=>by
 refine J' (args:=[_,_]) (N:=55) func164 z z z (λP s aw af=>?_);have e:=af;refine sr<|Ρ z<|o'<|sr<|ν z<|Δ (P' ur e z)<|Δ (uo z z)<|nx<|I' hr z (λar hr=>?_) (λar hr=>?_)
 .exact (show False from hr).elim
 refine q'<|b'<|o'<|sr<|Ρ z<|WC.mD hr [0,1] [] [] [] (λ(u:Int)=>⟨u,[(5,i' u)],tr,[]⟩) (λ(_:Unit)=>⟨(.inr ()),[],tr,[]⟩) 0 ?_ ?_
 .intro _ f u d _ hr;refine o'<|sr<|ν z<|ν z<|Δ (P' ur (e.mono d) z)<|kv z<|nx<|I' hr z (λan hr=>?_) (λan hr=>?_)
  .refine q'<|b'<|o'<|Y'<|sr<|Ρ z<|WC.mD hr [0,1,5] [] [0,1,5] [] (λ(y:Int)=>⟨y,[(6,i' y)],tr,[]⟩) (λ(_:Unit)=>⟨(.inr ()),[],tr,[]⟩) 0 ?_ ?_
   .intro _ k y c _ hr;refine o'<|sr<|ν z<|kv z<|nx<|I' hr z (λaq hr=>?_) (λaq hr=>?_)
    .refine q'<|b'<|o'<|Y'<|sr<|ν z<|ν z<|ν z<|oE hr λx1 B hr=>Δ (kd ur lW (e.mono (mx d c)) z z B)<|oE hr λx2 T hr=>Δ (uB zB jY z z (uC (iK e B) T)) ?_
     obtain⟨L,F,K,I,H,O,J,M,ao,h,j,i,g⟩:=Pd (T' (AtK.arr (iK e B) T) (mx d c));refine Δ (ny _ rT z z ao)<|oE hr λal ah hr=>H' z z (x' Iu z) (ic'.h ah) z (⟨h,j,i,g⟩) ?_
     cases al
     .refine Δ (kU z)<|ν z<|nK z<|Å (M' z z) z<|Å (M' z z) z<|Å (M' z z) z<|Å (M' z z) z<|Å (M' z z) z<|Å (M' z z) z<|Å (M' z z) z<|Å (M' z z) z<|Å (M' z z) z<|Å (M' z z) z<|Å (M' z z) z<|Å (M' z z) z<|Å (M' z z) z<|Å (M' z z) z<|Å (M' z z) z<|Å (M' z z) z<|Å (M' z z) z<|Å (M' z z) z<|Å (M' z z) z<|Å (M' z z) z<|sf z z z<|Ι z<|nx<|nR z<|sr<|Ρ z<|m'<|g'<|a'<|a'<|g'<|mM<|g'<|a'<|a'<|g'<|mM<|a' (Õ hr z z)
     refine Δ (kU z)<|ν z<|kq z<|kq z<|dE hr (C' z z) (vJ z z) z (λap hr=>?_) (λap hr=>?_)
     .refine kq z<|kq z<|kq z<|kq z<|oE hr λx3 A hr=>gy z z (kd ur lW (e.mono (mx d c)) z z A) z<|oE hr λx4 a hr=>gy z z (uB zB jY z z (uC (iK e A) a)) z<|gy z z (eV' z) z ?_
      obtain⟨V,ac,S,W,ai,l,m⟩:=pB (T' (rZ (nE (AtK.arr (iK e A) a))) (mx d c));refine gy z z (ny _ mf z z ai) z<|oE hr λaj X hr=>H' (C' z z) z (x' zV z) (Wg.h X) z (⟨l,m⟩) ?_
      cases aj
      .refine gy z z (kU z) z<|kq z<|XA z<|gy z z (h' z z) z<|gy z z (h' z z) z<|ο z<|nx<|nR z<|sr<|Ρ z<|m'<|g'<|a'<|a'<|g'<|mM<|g'<|a'<|a'<|g'<|mM<|a' (Õ hr z z)
      refine gy z z (kU z) z<|kq z<|kq z<|kq z<|kq z<|oE hr λx5 C hr=>gy z z (kd ur lW (e.mono (mx d c)) z z C) z<|oE hr λx6 Y hr=>gy z z (uB zB jY z z (uC (iK e C) Y)) z<|gy z z (eW' z) z ?_
      obtain⟨ab,U,R,Z,ak,o,q⟩:=pB (T' (qH (nE (AtK.arr (iK e C) Y))) (mx d c));refine gy z z (ny _ mf z z ak) z<|oE hr λav ae hr=>H' (C' z z) z (x' zV z) (Wg.h ae) z (⟨o,q⟩)<|gy z z (kU z) z<|gy z z (f' z z) z<|gy z z (h' z z) z<|ο z<|nx<|kc hr z (λam hr=>?_) (λam hr=>?_)
      .refine sr<|Ρ z<|m'<|g'<|a'<|a'<|g'<|mM<|g'<|a'<|a'<|g'<|mM<|a' (Õ hr z z)
      refine q'<|E'<|b'<|w'<|ν z<|iM z<|Þ z<|t'<|N' ⟨k,i64.wrap (y+1)⟩ hr ⟨c,trivial⟩ (Æ z) (wk ln)
     refine kq z<|XA z<|sk z z z<|Å (M' z z) z<|Å (M' z z) z<|Å (M' z z) z<|Å (M' z z) z<|Å (M' z z) z<|Å (M' z z) z<|Å (M' z z) z<|Å (M' z z) z<|Å (M' z z) z<|sk z z z<|gy z z (f' z z) z<|ο z<|nx<|tG z<|q'<|E'<|b'<|w'<|ν z<|iM z<|Þ z<|t'<|N' ⟨k,i64.wrap (y+1)⟩ hr ⟨c,trivial⟩ (Æ z) (wk ln)
    refine nw<|p'<|p'<|K'<|og ⟨k,()⟩ ⟨hr,c,trivial⟩ (Æ z) (wk ln)
   intro t _ hr Q _;refine E'<|b'<|w'<|ν z<|iM z<|Þ z<|t'<|N' ⟨t,i64.wrap (u+1)⟩ hr ⟨(mx d Q),trivial⟩ (Æ z) (wk ln)
  refine nw<|p'<|p'<|K'<|og ⟨f,()⟩ ⟨hr,d,trivial⟩ fn (wk ln)
 intro D _ hr au _;refine b'<|sr<|Ρ z<|m' (Õ hr z z)
instance iS'{k r}:SpcM ((K8 k)) r (∀{i h},Cr 165 #[ε i k h] (λG=>sl (Rp.int .i64) G i h k) (λG v=>v=.bool r)):=.mk λhr {i h}=>by refine Ξ ?_;intro p f _ hr _;refine WC.mA hr [0] [] [] [] (λ(j:Int)=>⟨j,[(3,i' j)],tr,[]⟩) (λ(_:Unit)=>⟨(.inr ()),[],tr,[]⟩) 0
set_option maxHeartbeats 2000000 in
instance iT'{l c r}:SpcM ((Fv l c)) r (∀{j k i h t s n u y q o x p m},Cr 92 #[.agg ((Ã l j k i h)).toArray,.agg ((jT c t s n u y q o x p m)).toArray] (λG=>sq G j k l.eqs/\sq G i h l.δ/\sl c' G t s c.p/\sv G n u c.o/\sq G y q c.l/\sl (Rp.int .i64) G o x c.s/\sl (Rp.arr iB 8) G p m c.b) (λG v=>v=.bool r)):=.mk λhr {j k i h t s n u y q o x p m}=>by
 refine J' (args:=[_,_]) (N:=314) func92 z z z (λX O bA a0=>?_);obtain⟨R,L,M,P,B,E,C⟩:=a0;refine sr<|jM 2 z z z λT=>jM 3 z z z λQ=>Ρ z<|o'<|sr<|Δ (y' 2 mZ z z z)<|oE hr λbB az hr=>H' z z (x' Yc z) (gz'.h az) z (⟨R,L⟩)<|Δ (kU z)<|nx<|kc hr z (λbt hr=>?_) (λbt hr=>?_)
 .exact (show False from hr).elim
 refine q'<|b'<|o'<|fA [ff,ff,ff,ff,ff,ff,ff,ff,ff,ff,ff,ff,ff,ff,ff,ff,ff,ff,ff,ff,ff,ff,ff,ff] eL İ λhb=>cn (λ_ d=>GA z)<|cn (λ_ d=>n' 3 rf z z z)<|cn (λ_ d=>P' Q' (M.mono d) z)<|cn (λ_ d=>eB z z)<|cn (λ_ d=>BM z)<|cn (λ_ d=>n' 3 jR z z z)<|cn (λ_ d=>P' jL (B.mono d) z)<|cn (λ_ d=>eB z z)<|cn (λ_ d=>V2 z)<|cn (λ_ d=>n' 3 sQ z z z)<|cn (λ_ d=>P' tA (P.mono d) z)<|cn (λ_ d=>eB z z)<|cn (λ_ d=>BE z)<|cn (λ_ d=>n' 3 sP z z z)<|cn (λ_ d=>P' zf (E.mono d) z)<|cn (λ_ d=>eB z z)<|cn (λ_ d=>zo z)<|cn (λ_ d=>n' 3 qR z z z)<|cn (λ_ d=>P' ur (C.mono d) z)<|cn (λ_ d=>eB z z)<|cn (λ_ d=>ri z)<|cn (λ_ d=>ri z)<|cn (λ_ d=>ri z)<|cn (λ_ d=>ri z)<|pz hb<|Þ z<|t'<|Θ<|b'<|WC.nD hr [2,3,5,6,7,8,9] [2,3] (λ(A:Bool)=>⟨[(10,.bool A)],wP l c A,tr,[]⟩) ?_ ?_
 .refine w'<|Δ (zn z)<|Δ (n' 3 eN z z z)<|dE hr z (eB z z) z (λap hr=>?_) (λap hr=>?_)
  .refine ν z<|gy z z (xI z) z<|gy z z (n' 3 eN z z z) z<|dE hr (C' z z) (eB z z) z (λaV hr=>?_) (λaV hr=>?_)
   .refine Ι z<|ν z<|gy z z (zv z) z<|gy z z (n' 3 eN z z z) z<|gy z z (eB z z) z<|Ι z<|Þ z<|t'<|pA ⟨O,decide (c.r=0)⟩ ⟨hr,mr,trivial⟩ (Æ z) (w2 z z)
   refine Ι z<|ν z<|fK z<|ο z<|Þ z<|t'<|pA ⟨O,false⟩ ⟨hr,mr,trivial⟩ (Æ z) (w2 z z)
  refine ν z<|fK z<|ο z<|ν z<|fK z<|ο z<|Þ z<|t'<|pA ⟨O,false⟩ ⟨hr,mr,trivial⟩ (Æ z) (w2 z z)
 intro F A hr e _;refine sr<|Δ (GA z)<|Δ (n' 3 rf z z z)<|Δ (rj z)<|Δ (n' 2 eN z z z)<|oE hr λS aA hr=>H' z z (x' zP z) (Wd.h aA) z ((M.mono e))<|Ρ z<|o'<|sr<|Δ (zj z)<|Δ (n' 3 eN z z z)<|nx<|Y'<|WC.nD hr [2,3,5,6,7,8,9,10,11,54] [2,3] (λ(K:Bool)=>⟨[(55,.bool K)],Ag l c A S K,tr,[]⟩) ?_ ?_
 .refine sr<|Δ (eB z z)<|Ρ z<|I' hr z (λaL hr=>?_) (λaL hr=>?_)
  .refine q'<|pA ⟨F,decide (c.kind=1)⟩ ⟨hr,mr,trivial⟩ (f11 z z z z z z z z z z z) (w2 z z)
  refine sr<|Δ (eB z z)<|Ρ z<|I' hr z (λaH hr=>?_) (λaH hr=>?_)
  .refine q'<|pA ⟨F,decide (c.kind=2)⟩ ⟨hr,mr,trivial⟩ (f11 z z z z z z z z z z z) (w2 z z)
  refine w'<|Δ (eB z z)<|Þ z<|t'<|pA ⟨F,decide (c.kind=10)⟩ ⟨hr,mr,trivial⟩ (f11 z z z z z z z z z z z) (w2 z z)
 intro I K hr g _;refine kc hr z (λbg hr=>?_) (λbg hr=>?_)
 .refine sr<|dE hr z (l5 (k' z) (đ Value.bool (mS _))) z (λbs hr=>?_) (λbs hr=>?_)
  .refine ν z<|dE hr (C' z z) (k' z) z (λbi hr=>?_) (λbi hr=>?_)
   .refine Ι z<|ν z<|dE hr (C' z z) (k' z) z (λbl hr=>?_) (λbl hr=>?_)
    .refine Ι z<|ν z<|dE hr (C' z z) (k' z) z (λbr hr=>?_) (λbr hr=>?_)
     .refine Ι z<|ν z<|dE hr (C' z z) (k' z) z (λbp hr=>?_) (λbp hr=>?_)
      .refine Ι z<|ν z<|kq z<|Ι z<|Ρ z<|m'<|g'<|a' (Õ hr z z)
      refine Ι z<|ν z<|sk z z z<|ο z<|Ρ z<|m'<|g'<|a' (Õ hr z z)
     refine Ι z<|ν z<|sk z z z<|ο z<|ν z<|sk z z z<|ο z<|Ρ z<|m'<|g'<|a' (Õ hr z z)
    refine Ι z<|ν z<|sk z z z<|ο z<|ν z<|sk z z z<|ο z<|ν z<|sk z z z<|ο z<|Ρ z<|m'<|g'<|a' (Õ hr z z)
   refine Ι z<|ν z<|sk z z z<|ο z<|ν z<|sk z z z<|ο z<|ν z<|sk z z z<|ο z<|ν z<|sk z z z<|ο z<|Ρ z<|m'<|g'<|a' (Õ hr z z)
  refine ν z<|sk z z z<|ο z<|ν z<|sk z z z<|ο z<|ν z<|sk z z z<|ο z<|ν z<|sk z z z<|ο z<|ν z<|sk z z z<|ο z<|Ρ z<|m'<|g'<|a' (Õ hr z z)
 refine WC.nD hr [2,3,5,6,7,8,9,10,11,54] [2,3] (λ(J:Bool)=>⟨[(75,.bool J)],Er l c A S J,tr,[]⟩) ?_ ?_
 .refine sr<|Δ (eB z z)<|Ρ z<|I' hr z (λa2 hr=>?_) (λa2 hr=>?_)
  .refine q'<|pA ⟨I,decide (c.kind=3)⟩ ⟨hr,mr,trivial⟩ (f11 z z z z z z z z z z z) (w2 z z)
  refine w'<|Δ (eB z z)<|Þ z<|t'<|pA ⟨I,decide (c.kind=9)⟩ ⟨hr,mr,trivial⟩ (f11 z z z z z z z z z z z) (w2 z z)
 intro H J hr f _;refine kc hr z (λbm hr=>?_) (λbm hr=>?_)
 .refine sr<|dE hr z (k' z) z (λbn hr=>?_) (λbn hr=>?_)
  .refine ν z<|dE hr (C' z z) (k' z) z (λbq hr=>?_) (λbq hr=>?_)
   .refine Ι z<|ν z<|dE hr (C' z z) (k' z) z (λbc hr=>?_) (λbc hr=>?_)
    .refine Ι z<|ν z<|dE hr (C' z z) (k' z) z (λbd hr=>?_) (λbd hr=>?_)
     .refine Ι z<|ν z<|dE hr (C' z z) (k' z) z (λaO hr=>?_) (λaO hr=>?_)
      .refine Ι z<|ν z<|kq z<|Ι z<|Ρ z<|m'<|g'<|a' (Õ hr z z)
      refine Ι z<|ν z<|sk z z z<|ο z<|Ρ z<|m'<|g'<|a' (Õ hr z z)
     refine Ι z<|ν z<|sk z z z<|ο z<|ν z<|sk z z z<|ο z<|Ρ z<|m'<|g'<|a' (Õ hr z z)
    refine Ι z<|ν z<|sk z z z<|ο z<|ν z<|sk z z z<|ο z<|ν z<|sk z z z<|ο z<|Ρ z<|m'<|g'<|a' (Õ hr z z)
   refine Ι z<|ν z<|sk z z z<|ο z<|ν z<|sk z z z<|ο z<|ν z<|sk z z z<|ο z<|ν z<|sk z z z<|ο z<|Ρ z<|m'<|g'<|a' (Õ hr z z)
  refine ν z<|sk z z z<|ο z<|ν z<|sk z z z<|ο z<|ν z<|sk z z z<|ο z<|ν z<|sk z z z<|ο z<|ν z<|sk z z z<|ο z<|Ρ z<|m'<|g'<|a' (Õ hr z z)
 refine sr<|Δ (eB z z)<|Ρ z<|I' hr z (λbe hr=>?_) (λbe hr=>?_)
 .refine sr<|dE hr z (k' z) z (λag hr=>?_) (λag hr=>?_)
  .refine ν z<|dE hr (C' z z) (k' z) z (λaD hr=>?_) (λaD hr=>?_)
   .refine Ι z<|ν z<|dE hr (C' z z) (k' z) z (λa3 hr=>?_) (λa3 hr=>?_)
    .refine Ι z<|ν z<|dE hr (C' z z) (l5 (k' z) (đ Value.bool (mS _))) z (λav hr=>?_) (λav hr=>?_)
     .refine Ι z<|ν z<|gy z z (V2 z) z<|gy z z (n' 3 sQ z z z) z<|oE hr λbh aR hr=>H' (C' z z) z (x' Ia z) (fK'.h aR) z ((P.mono (mx (mx e g) f))) ?_
      cases bh
      .refine Ι z<|ν z<|nK z<|ο z<|ν z<|ia z<|ο z<|Ρ z<|m'<|g'<|a' (Õ hr z z)
      refine Ι z<|ν z<|gy z z (BM z) z<|gy z z (n' 3 jR z z z) z<|gy z z (P' jL (B.mono (mx (mx e g) f)) z) z<|dE hr (C' z z) (BB z z) z (λaW hr=>?_) (λaW hr=>?_)
      .refine Ι z<|ν z<|gy z z (BM z) z<|gy z z (n' 3 jR z z z) z<|gy z z (rj z) z<|gy z z (n' 2 eN z z z) z<|oE hr λbz ac hr=>H' (C' z z) z (x' zQ z) (Wf.h ac) z ((B.mono (mx (mx e g) f)))<|Ι z<|Ρ z<|m'<|g'<|a' (Õ hr z z)
      refine Ι z<|ν z<|ia z<|ο z<|Ρ z<|m'<|g'<|a' (Õ hr z z)
     refine Ι z<|ν z<|fK z<|ο z<|ν z<|nK z<|ο z<|ν z<|ia z<|ο z<|Ρ z<|m'<|g'<|a' (Õ hr z z)
    refine Ι z<|ν z<|sk z z z<|ο z<|ν z<|fK z<|ο z<|ν z<|nK z<|ο z<|ν z<|ia z<|ο z<|Ρ z<|m'<|g'<|a' (Õ hr z z)
   refine Ι z<|ν z<|sk z z z<|ο z<|ν z<|sk z z z<|ο z<|ν z<|fK z<|ο z<|ν z<|nK z<|ο z<|ν z<|ia z<|ο z<|Ρ z<|m'<|g'<|a' (Õ hr z z)
  refine ν z<|sk z z z<|ο z<|ν z<|sk z z z<|ο z<|ν z<|sk z z z<|ο z<|ν z<|fK z<|ο z<|ν z<|nK z<|ο z<|ν z<|ia z<|ο z<|Ρ z<|m'<|g'<|a' (Õ hr z z)
 refine sr<|Δ (eB z z)<|Ρ z<|I' hr z (λbo hr=>?_) (λbo hr=>?_)
 .refine sr<|dE hr z (k' z) z (λan hr=>?_) (λan hr=>?_)
  .refine ν z<|dE hr (C' z z) (k' z) z (λaB hr=>?_) (λaB hr=>?_)
   .refine Ι z<|ν z<|dE hr (C' z z) (k' z) z (λY hr=>?_) (λY hr=>?_)
    .refine Ι z<|ν z<|dE hr (C' z z) (k' z) z (λaG hr=>?_) (λaG hr=>?_)
     .refine Ι z<|ν z<|dE hr (C' z z) (k' z) z (λaf hr=>?_) (λaf hr=>?_)
      .refine Ι z<|ν z<|gy z z (zv z) z<|gy z z (n' 3 eN z z z) z<|dE hr (C' z z) (eB z z) z (λar hr=>?_) (λar hr=>?_)
       .refine Ι z<|ν z<|gy z z (xI z) z<|gy z z (n' 3 eN z z z) z<|dE hr (C' z z) (vJ z z) z (λaI hr=>?_) (λaI hr=>?_)
        .refine Ι z<|ν z<|gy z z (xI z) z<|gy z z (n' 3 eN z z z) z<|gy z z (rj z) z<|gy z z (n' 2 eN z z z) z<|dE hr (C' z z) (BB z z) z (λaa hr=>?_) (λaa hr=>?_)
         .refine Ι z<|ν z<|gy z z (zn z) z<|gy z z (n' 3 eN z z z) z<|oE hr λbE aQ hr=>H' (C' z z) z (x' wE z) (M8.h aQ) z (trivial)<|Ι z<|Ρ z<|m'<|g'<|a' (Õ hr z z)
         refine Ι z<|ν z<|fK z<|ο z<|Ρ z<|m'<|g'<|a' (Õ hr z z)
        refine Ι z<|ν z<|ia z<|ο z<|ν z<|fK z<|ο z<|Ρ z<|m'<|g'<|a' (Õ hr z z)
       refine Ι z<|ν z<|fK z<|ο z<|ν z<|ia z<|ο z<|ν z<|fK z<|ο z<|Ρ z<|m'<|g'<|a' (Õ hr z z)
      refine Ι z<|ν z<|fK z<|ο z<|ν z<|fK z<|ο z<|ν z<|ia z<|ο z<|ν z<|fK z<|ο z<|Ρ z<|m'<|g'<|a' (Õ hr z z)
     refine Ι z<|ν z<|sk z z z<|ο z<|ν z<|fK z<|ο z<|ν z<|fK z<|ο z<|ν z<|ia z<|ο z<|ν z<|fK z<|ο z<|Ρ z<|m'<|g'<|a' (Õ hr z z)
    refine Ι z<|ν z<|sk z z z<|ο z<|ν z<|sk z z z<|ο z<|ν z<|fK z<|ο z<|ν z<|fK z<|ο z<|ν z<|ia z<|ο z<|ν z<|fK z<|ο z<|Ρ z<|m'<|g'<|a' (Õ hr z z)
   refine Ι z<|ν z<|sk z z z<|ο z<|ν z<|sk z z z<|ο z<|ν z<|sk z z z<|ο z<|ν z<|fK z<|ο z<|ν z<|fK z<|ο z<|ν z<|ia z<|ο z<|ν z<|fK z<|ο z<|Ρ z<|m'<|g'<|a' (Õ hr z z)
  refine ν z<|sk z z z<|ο z<|ν z<|sk z z z<|ο z<|ν z<|sk z z z<|ο z<|ν z<|sk z z z<|ο z<|ν z<|fK z<|ο z<|ν z<|fK z<|ο z<|ν z<|ia z<|ο z<|ν z<|fK z<|ο z<|Ρ z<|m'<|g'<|a' (Õ hr z z)
 refine sr<|Δ (eB z z)<|Ρ z<|I' hr z (λbk hr=>?_) (λbk hr=>?_)
 .refine sr<|dE hr z (k' z) z (λa5 hr=>?_) (λa5 hr=>?_)
  .refine ν z<|dE hr (C' z z) (k' z) z (λaj hr=>?_) (λaj hr=>?_)
   .refine Ι z<|ν z<|dE hr (C' z z) (k' z) z (λa1 hr=>?_) (λa1 hr=>?_)
    .refine Ι z<|ν z<|dE hr (C' z z) (k' z) z (λa4 hr=>?_) (λa4 hr=>?_)
     .refine Ι z<|ν z<|dE hr (C' z z) (k' z) z (λak hr=>?_) (λak hr=>?_)
      .refine Ι z<|ν z<|gy z z (zn z) z<|gy z z (n' 3 eN z z z) z<|oE hr λba ae hr=>H' (C' z z) z (x' wE z) (M8.h ae) z (trivial) ?_
       cases ba
       .refine Ι z<|ν z<|fK z<|ο z<|ν z<|ia z<|ο z<|ν z<|ia z<|ο z<|Ρ z<|m'<|g'<|a' (Õ hr z z)
       refine Ι z<|ν z<|gy z z (zv z) z<|gy z z (n' 3 eN z z z) z<|dE hr (C' z z) (vJ z z) z (λaC hr=>?_) (λaC hr=>?_)
       .refine Ι z<|ν z<|gy z z (zv z) z<|gy z z (n' 3 eN z z z) z<|gy z z (xI z) z<|gy z z (n' 3 eN z z z) z<|dE hr (C' z z) (BB z z) z (λaY hr=>?_) (λaY hr=>?_)
        .refine Ι z<|ν z<|gy z z (xI z) z<|gy z z (n' 3 eN z z z) z<|gy z z (zn z) z<|gy z z (n' 3 eN z z z) z<|gy z z (BB z z) z<|Ι z<|Ρ z<|m'<|g'<|a' (Õ hr z z)
        refine Ι z<|ν z<|ia z<|ο z<|Ρ z<|m'<|g'<|a' (Õ hr z z)
       refine Ι z<|ν z<|ia z<|ο z<|ν z<|ia z<|ο z<|Ρ z<|m'<|g'<|a' (Õ hr z z)
      refine Ι z<|ν z<|fK z<|ο z<|ν z<|fK z<|ο z<|ν z<|ia z<|ο z<|ν z<|ia z<|ο z<|Ρ z<|m'<|g'<|a' (Õ hr z z)
     refine Ι z<|ν z<|sk z z z<|ο z<|ν z<|fK z<|ο z<|ν z<|fK z<|ο z<|ν z<|ia z<|ο z<|ν z<|ia z<|ο z<|Ρ z<|m'<|g'<|a' (Õ hr z z)
    refine Ι z<|ν z<|sk z z z<|ο z<|ν z<|sk z z z<|ο z<|ν z<|fK z<|ο z<|ν z<|fK z<|ο z<|ν z<|ia z<|ο z<|ν z<|ia z<|ο z<|Ρ z<|m'<|g'<|a' (Õ hr z z)
   refine Ι z<|ν z<|sk z z z<|ο z<|ν z<|sk z z z<|ο z<|ν z<|sk z z z<|ο z<|ν z<|fK z<|ο z<|ν z<|fK z<|ο z<|ν z<|ia z<|ο z<|ν z<|ia z<|ο z<|Ρ z<|m'<|g'<|a' (Õ hr z z)
  refine ν z<|sk z z z<|ο z<|ν z<|sk z z z<|ο z<|ν z<|sk z z z<|ο z<|ν z<|sk z z z<|ο z<|ν z<|fK z<|ο z<|ν z<|fK z<|ο z<|ν z<|ia z<|ο z<|ν z<|ia z<|ο z<|Ρ z<|m'<|g'<|a' (Õ hr z z)
 refine sr<|Δ (eB z z)<|Ρ z<|I' hr z (λbb hr=>?_) (λbb hr=>?_)
 .refine sr<|dE hr z (k' z) z (λal hr=>?_) (λal hr=>?_)
  .refine ν z<|dE hr (C' z z) (k' z) z (λab hr=>?_) (λab hr=>?_)
   .refine Ι z<|ν z<|dE hr (C' z z) (k' z) z (λah hr=>?_) (λah hr=>?_)
    .refine Ι z<|ν z<|dE hr (C' z z) (k' z) z (λaT hr=>?_) (λaT hr=>?_)
     .refine Ι z<|ν z<|dE hr (C' z z) (l5 (k' z) (đ Value.bool (mS _))) z (λau hr=>?_) (λau hr=>?_)
      .refine Ι z<|ν z<|gy z z (zo z) z<|gy z z (n' 3 qR z z z) z<|gy z z (rj z) z<|gy z z (n' 2 eN z z z) z<|oE hr λbD aX hr=>H' (C' z z) z (x' zR z) (lg.h aX) z ((C.mono (mx (mx e g) f)))<|Ι z<|Ρ z<|m'<|g'<|a' (Õ hr z z)
      refine Ι z<|ν z<|ia z<|ο z<|Ρ z<|m'<|g'<|a' (Õ hr z z)
     refine Ι z<|ν z<|sk z z z<|ο z<|ν z<|ia z<|ο z<|Ρ z<|m'<|g'<|a' (Õ hr z z)
    refine Ι z<|ν z<|sk z z z<|ο z<|ν z<|sk z z z<|ο z<|ν z<|ia z<|ο z<|Ρ z<|m'<|g'<|a' (Õ hr z z)
   refine Ι z<|ν z<|sk z z z<|ο z<|ν z<|sk z z z<|ο z<|ν z<|sk z z z<|ο z<|ν z<|ia z<|ο z<|Ρ z<|m'<|g'<|a' (Õ hr z z)
  refine ν z<|sk z z z<|ο z<|ν z<|sk z z z<|ο z<|ν z<|sk z z z<|ο z<|ν z<|sk z z z<|ο z<|ν z<|ia z<|ο z<|Ρ z<|m'<|g'<|a' (Õ hr z z)
 refine sr<|Δ (eB z z)<|Ρ z<|I' hr z (λbj hr=>?_) (λbj hr=>?_)
 .refine sr<|dE hr z (l5 (k' z) (đ Value.bool (mS _))) z (λay hr=>?_) (λay hr=>?_)
  .refine ν z<|dE hr (C' z z) (k' z) z (λao hr=>?_) (λao hr=>?_)
   .refine Ι z<|ν z<|dE hr (C' z z) (k' z) z (λaP hr=>?_) (λaP hr=>?_)
    .refine Ι z<|ν z<|dE hr (C' z z) (l5 (k' z) (đ Value.bool (mS _))) z (λaw hr=>?_) (λaw hr=>?_)
     .refine Ι z<|ν z<|gy z z (zo z) z<|gy z z (n' 3 qR z z z) z<|gy z z (rj z) z<|gy z z (n' 2 eN z z z) z<|oE hr λa a7 hr=>H' (C' z z) z (x' zR z) (lg.h a7) z ((C.mono (mx (mx e g) f))) ?_
      cases a
      .refine Ι z<|ν z<|qT z<|ο z<|ν z<|fK z<|ο z<|Ρ z<|m'<|g'<|a' (Õ hr z z)
      refine Ι z<|ν z<|gy z z (BE z) z<|gy z z (n' 3 sP z z z) z<|gy z z (P' zf (E.mono (mx (mx e g) f)) z) z<|gy z z (zo z) z<|gy z z (n' 3 qR z z z) z<|gy z z (P' ur (C.mono (mx (mx e g) f)) z) z<|dE hr (C' z z) (eB z z) z (λZ hr=>?_) (λZ hr=>?_)
      .refine Ι z<|ν z<|gy z z (BE z) z<|gy z z (n' 3 sP z z z) z<|oE hr λbC ax hr=>H' (C' z z) z (x' Ib z) (iS'.h ax) z ((E.mono (mx (mx e g) f)))<|Ι z<|Ρ z<|m'<|g'<|a' (Õ hr z z)
      refine Ι z<|ν z<|fK z<|ο z<|Ρ z<|m'<|g'<|a' (Õ hr z z)
     refine Ι z<|ν z<|ia z<|ο z<|ν z<|qT z<|ο z<|ν z<|fK z<|ο z<|Ρ z<|m'<|g'<|a' (Õ hr z z)
    refine Ι z<|ν z<|sk z z z<|ο z<|ν z<|ia z<|ο z<|ν z<|qT z<|ο z<|ν z<|fK z<|ο z<|Ρ z<|m'<|g'<|a' (Õ hr z z)
   refine Ι z<|ν z<|sk z z z<|ο z<|ν z<|sk z z z<|ο z<|ν z<|ia z<|ο z<|ν z<|qT z<|ο z<|ν z<|fK z<|ο z<|Ρ z<|m'<|g'<|a' (Õ hr z z)
  refine ν z<|sk z z z<|ο z<|ν z<|sk z z z<|ο z<|ν z<|sk z z z<|ο z<|ν z<|ia z<|ο z<|ν z<|qT z<|ο z<|ν z<|fK z<|ο z<|Ρ z<|m'<|g'<|a' (Õ hr z z)
 refine sr<|Δ (eB z z)<|Ρ z<|I' hr z (λbf hr=>?_) (λbf hr=>?_)
 .refine sr<|dE hr z (k' z) z (λaZ hr=>?_) (λaZ hr=>?_)
  .refine ν z<|dE hr (C' z z) (k' z) z (λaN hr=>?_) (λaN hr=>?_)
   .refine Ι z<|ν z<|dE hr (C' z z) (k' z) z (λam hr=>?_) (λam hr=>?_)
    .refine Ι z<|ν z<|dE hr (C' z z) (k' z) z (λaK hr=>?_) (λaK hr=>?_)
     .refine Ι z<|ν z<|dE hr (C' z z) (l5 (k' z) (đ Value.bool (mS _))) z (λa6 hr=>?_) (λa6 hr=>?_)
      .refine Ι z<|ν z<|gy z z (BM z) z<|gy z z (n' 3 jR z z z) z<|gy z z (P' jL (B.mono (mx (mx e g) f)) z) z<|dE hr (C' z z) (BB z z) z (λaU hr=>?_) (λaU hr=>?_)
       .refine Ι z<|ν z<|gy z z (BM z) z<|gy z z (n' 3 jR z z z) z<|gy z z (rj z) z<|gy z z (n' 2 eN z z z) z<|oE hr λbw W hr=>H' (C' z z) z (x' zQ z) (Wf.h W) z ((B.mono (mx (mx e g) f)))<|Ι z<|Ρ z<|m'<|g'<|a' (Õ hr z z)
       refine Ι z<|ν z<|ia z<|ο z<|Ρ z<|m'<|g'<|a' (Õ hr z z)
      refine Ι z<|ν z<|nK z<|ο z<|ν z<|ia z<|ο z<|Ρ z<|m'<|g'<|a' (Õ hr z z)
     refine Ι z<|ν z<|sk z z z<|ο z<|ν z<|nK z<|ο z<|ν z<|ia z<|ο z<|Ρ z<|m'<|g'<|a' (Õ hr z z)
    refine Ι z<|ν z<|sk z z z<|ο z<|ν z<|sk z z z<|ο z<|ν z<|nK z<|ο z<|ν z<|ia z<|ο z<|Ρ z<|m'<|g'<|a' (Õ hr z z)
   refine Ι z<|ν z<|sk z z z<|ο z<|ν z<|sk z z z<|ο z<|ν z<|sk z z z<|ο z<|ν z<|nK z<|ο z<|ν z<|ia z<|ο z<|Ρ z<|m'<|g'<|a' (Õ hr z z)
  refine ν z<|sk z z z<|ο z<|ν z<|sk z z z<|ο z<|ν z<|sk z z z<|ο z<|ν z<|sk z z z<|ο z<|ν z<|nK z<|ο z<|ν z<|ia z<|ο z<|Ρ z<|m'<|g'<|a' (Õ hr z z)
 refine WC.nD hr [3,5,6,7,8,9] [3] (λ(D:Bool)=>⟨[(283,.bool D)],Ep c D,tr,[]⟩) ?_ ?_
 .refine sr<|Δ (eB z z)<|Ρ z<|I' hr z (λaq hr=>?_) (λaq hr=>?_)
  .refine q'<|pA ⟨H,decide (c.kind=12)⟩ ⟨hr,mr,trivial⟩ (Æ z) (w1 z)
  refine w'<|Δ (eB z z)<|Þ z<|t'<|pA ⟨H,decide (c.kind=13)⟩ ⟨hr,mr,trivial⟩ (Æ z) (w1 z)
 intro U D hr bu _;refine kc hr z (λaM hr=>?_) (λaM hr=>?_)
 .refine sr<|dE hr z (k' z) z (λaE hr=>?_) (λaE hr=>?_)
  .refine ν z<|dE hr (C' z z) (k' z) z (λaJ hr=>?_) (λaJ hr=>?_)
   .refine Ι z<|ν z<|dE hr (C' z z) (k' z) z (λaF hr=>?_) (λaF hr=>?_)
    .refine Ι z<|ν z<|dE hr (C' z z) (k' z) z (λad hr=>?_) (λad hr=>?_)
     .refine Ι z<|ν z<|dE hr (C' z z) (k' z) z (λai hr=>?_) (λai hr=>?_)
      .refine Ι z<|ν z<|gy z z (xI z) z<|gy z z (n' 3 eN z z z) z<|dE hr (C' z z) (eB z z) z (λa8 hr=>?_) (λa8 hr=>?_)
       .refine Ι z<|ν z<|gy z z (zv z) z<|gy z z (n' 3 eN z z z) z<|dE hr (C' z z) (eB z z) z (λaS hr=>?_) (λaS hr=>?_)
        .refine Ι z<|ν z<|gy z z (zn z) z<|gy z z (n' 3 eN z z z) z<|oE hr λbx V hr=>H' (C' z z) z (x' wE z) (M8.h V) z (trivial)<|Ι z<|Ρ z<|m'<|g'<|a' (Õ hr z z)
        refine Ι z<|ν z<|fK z<|ο z<|Ρ z<|m'<|g'<|a' (Õ hr z z)
       refine Ι z<|ν z<|fK z<|ο z<|ν z<|fK z<|ο z<|Ρ z<|m'<|g'<|a' (Õ hr z z)
      refine Ι z<|ν z<|fK z<|ο z<|ν z<|fK z<|ο z<|ν z<|fK z<|ο z<|Ρ z<|m'<|g'<|a' (Õ hr z z)
     refine Ι z<|ν z<|sk z z z<|ο z<|ν z<|fK z<|ο z<|ν z<|fK z<|ο z<|ν z<|fK z<|ο z<|Ρ z<|m'<|g'<|a' (Õ hr z z)
    refine Ι z<|ν z<|sk z z z<|ο z<|ν z<|sk z z z<|ο z<|ν z<|fK z<|ο z<|ν z<|fK z<|ο z<|ν z<|fK z<|ο z<|Ρ z<|m'<|g'<|a' (Õ hr z z)
   refine Ι z<|ν z<|sk z z z<|ο z<|ν z<|sk z z z<|ο z<|ν z<|sk z z z<|ο z<|ν z<|fK z<|ο z<|ν z<|fK z<|ο z<|ν z<|fK z<|ο z<|Ρ z<|m'<|g'<|a' (Õ hr z z)
  refine ν z<|sk z z z<|ο z<|ν z<|sk z z z<|ο z<|ν z<|sk z z z<|ο z<|ν z<|sk z z z<|ο z<|ν z<|fK z<|ο z<|ν z<|fK z<|ο z<|ν z<|fK z<|ο z<|Ρ z<|m'<|g'<|a' (Õ hr z z)
 refine q'<|E'<|b'<|sr<|Ρ z<|m' (Õ hr z z)
instance iK'{p d r}:SpcM ((Ks p d)) r (∀{J M L O n m i o h k l g j f},Cr 166 #[.agg ([i' p.kind,ε J p.p M,ε L p.o O]).toArray,.agg ((jT d n m i o h k l g j f)).toArray] (λG=>sl c' G J M p.p/\sv G L O p.o/\sl c' G n m d.p/\sv G i o d.o/\sq G h k d.l/\sl (Rp.int .i64) G l g d.s/\sl (Rp.arr iB 8) G j f d.b) (λG v=>v=.tuple #[i' r.1,i' r.2])):=.mk λhr {J M L O n m i o h k l g j f}=>by
 refine J' (args:=[_,_]) (N:=87) func166 z z z (λU E av W=>?_);obtain⟨Y,I,Q,V,Z,X,K⟩:=W;refine sr<|jM 2 z z z λb1=>jM 3 z z z λq=>Þ z<|Ρ z<|WC.nB hr [3] [3] (λ(⟨u,e⟩:Bool×Bool)=>⟨[(6,.bool u),(7,.bool e)],yq d u e,tr,[]⟩) ?_
 rintro A ⟨u,e⟩ hr P _;refine o'<|Y'<|WC.nB hr [3,6,7] [3] (λ(H:Bool)=>⟨[(19,.bool H)],Jw d u e H,tr,[]⟩) ?_
 intro t H hr T _;refine kc hr z (λa hr=>?_) (λa hr=>?_)
 .exact Ζ
 refine WC.nB hr [3,7] [3] (λ(D:Bool)=>⟨[(30,.bool D)],D9 d e D,tr,[]⟩) ?_;intro y D hr R _;refine kc hr z (λc hr=>?_) (λc hr=>?_)
 .exact Ζ
 refine WC.nB hr [3,7] [3] (λ(F:Bool)=>⟨[(42,.bool F)],Jv d e F,tr,[]⟩) ?_;intro s F hr S _;refine kc hr z (λB hr=>?_) (λB hr=>?_)
 .exact Ζ
 refine WC.nC hr [3,7] [3] (λ(C:Bool)=>⟨[(53,.bool C)],D8 d e C,tr,[]⟩) ?_;refine w'<|dE hr z (l5 (k' z) (đ Value.bool (mS _))) z (λx hr=>?_) (λx hr=>?_)
 .exact Ζ
 exact ν z<|nK z<|Å (M' z z) z<|Å (M' z z) z<|Å (M' z z) z<|sk z z z<|Ζ
instance jc'{p n r}:SpcM ((FG p n)) r (∀{i l g k},Cr 239 #[ε i p l,ε g n k] (λG=>sv G i l p/\sv G g k n) (λG v=>v=.bool r)):=.mk λhr {i l g k}=>by refine Ξ ?_;intro x h _ _ _ _ hr _;refine WC.mA hr [0,1] [] [] [] (λ(o:Int)=>⟨o,[(5,i' o)],tr,[]⟩) (λ(_:Unit)=>⟨(.inr ()),[],tr,[]⟩) 0
instance iy'{t n i r}:SpcM ((J6 t n i)) r (∀{q s p o I H C K J A O L B y D M F P},Cr 167 #[.agg ((Ã t q s p o)).toArray,.agg ([i' n.kind,ε I n.p H,ε C n.o K]).toArray,.agg ((jT i J A O L B y D M F P)).toArray] (λG=>sq G q s t.eqs/\sq G p o t.δ/\sl c' G I H n.p/\sv G C K n.o/\sl c' G J A i.p/\sv G O L i.o/\sq G B y i.l/\sl (Rp.int .i64) G D M i.s/\sl (Rp.arr iB 8) G F P i.b) (λG v=>v=.bool r)):=.mk λhr {q s p o I H C K J A O L B y D M F P}=>by
 refine è ?_;intro _ _ _ _ _ _ _ _ _ _ _ _ _ _ _ _ _ _ _ _ _ _ _ _ hr _;refine I' hr z (λS hr=>?_) (λS hr=>?_)
 .exact Ζ
 refine sr<|Δ (eB z z)<|Ρ z<|I' hr z (λaw hr=>?_) (λaw hr=>?_)
 .refine o'<|fA [ff,ff,ff,ff,ff,ff,ff,ff,ff,ff,ff,ff,ff,ff,ff,ff,ff,ff] eL İ λhb=>cn (λ_ c=>zj z)<|cn (λ_ c=>n' 5 eN z z z)<|zw hr z (λ_ c=>eB z z) (λE hr=>?_) (λE hr=>?_)
  .refine Ξ ?_;intro _;refine Å (M' z z) z ?_;exact Ζ
  refine Ξ ?_;intro _ _ hr;refine oE hr λV T hr=>qB (post:=er V) (λ_=>(C' z z)) (λ_ _=>x' DP z) (GD.h T) z (λG' c=>trivial) (λv a d c h=>?_) ?_
  .obtain⟨j,l,k,m,rfl,g,e⟩:=h;exact⟨_,_,_,_,z,g.mono c,e.mono c⟩
  refine oE hr λZ U hr=>mg (f:=133) (φ:=fS c' Z) (λ_=>(C' z z)) (λv a d c h=>?_) (λu G' c hu=>?_) ?_
  .obtain⟨ae,al,rfl,Q⟩:=h;exact⟨_,_,z,Q.mono c⟩
  .obtain⟨⟨j,l,k,m,X,g,e⟩,_⟩:=(show(er V) G'.m (u 46)/\True from hu);exact⟨_,_,_,λ_=>x' H0 z,gC'.h U,(by simp only[X]<;>rfl),⟨g,e⟩⟩
  exact Ζ
 refine sr<|Δ (eB z z)<|Ρ z<|I' hr z (λN hr=>?_) (λN hr=>?_)
 .exact Ζ
 refine sr<|Δ (eB z z)<|Ρ z<|I' hr z (λau hr=>?_) (λau hr=>?_)
 .exact Ζ
 refine sr<|Δ (eB z z)<|Ρ z<|I' hr z (λR hr=>?_) (λR hr=>?_)
 .exact Ζ
 refine sr<|Δ (eB z z)<|Ρ z<|I' hr z (λx hr=>?_) (λx hr=>?_)
 .exact Ζ
 refine sr<|Δ (eB z z)<|Ρ z<|I' hr z (λW hr=>?_) (λW hr=>?_)
 .exact Ζ
 refine sr<|Δ (eB z z)<|Ρ z<|I' hr z (λaz hr=>?_) (λaz hr=>?_)
 .refine sr<|Δ (zj z)<|Δ (n' 5 eN z z z)<|dE hr z (eB z z) z (λY hr=>?_) (λY hr=>?_)
  .refine Ξ ?_;intro hr;refine Å (M' z z) z<|Å (M' z z) z<|Å (M' z z) z<|sf z z z<|Ι z<|Ρ z<|m'<|g'<|a' (Õ hr z z)
  refine Ξ ?_;intro _ hr;refine Å (M' z z) z<|Å (M' z z) z<|Å (M' z z) z<|sf z z z<|Ι z<|Ρ z<|m'<|g'<|a' (Õ hr z z)
 exact Ζ
instance iz'{c J r}:SpcM ((J9 c J)) r (∀{h g f e l n o m U X L M S Q W Y P R},Cr 93 #[.agg ((eR c h g f e l n o m)).toArray,.agg ((jT J U X L M S Q W Y P R)).toArray] (λG=>sq G h g c.k.eqs/\sq G f e c.k.δ/\sl c' G l n c.q.p/\sv G o m c.q.o/\sl c' G U X J.p/\sv G L M J.o/\sq G S Q J.l/\sl (Rp.int .i64) G W Y J.s/\sl (Rp.arr iB 8) G P R J.b) (u4 r)):=.mk λhr {h g f e l n o m U X L M S Q W Y P R}=>by
 refine J' (args:=[_,_]) (N:=46) func93 z z z (λw0 G0 an a=>?_);obtain⟨E,B,H,F,O,Z,T,K,V⟩:=a;refine sr<|jM 2 z z z λb1=>jM 3 z z z λb2=>W' 4 z yo z λb3=>nr<|Δ (Gv z)<|Δ (R' ([i' c.q.kind,ε l c.q.p n,ε o c.q.o m]).toArray 2 re z z z (mK ([i' c.id,i' c.k.n,ε h c.k.eqs g,ε f c.k.δ e]) ([i' c.q.kind,ε l c.q.p n,ε o c.q.o m]) ([i' c.υ,i' c.low,i' c.high,.bool c.done])))<|Δ (y' 3 nS z z z)<|oE hr λA ae hr=>H' z z (x' Ic z) (iK'.h ae) z (⟨H,F,O,Z,T,K,V⟩)<|ν z<|lM z<|lM z<|Þ z<|Ρ z<|WC.nB hr [2,4,5,6] [4] (λ(⟨d,q,p,k,j,v,u,t,x⟩:Ze×ŀ Addr×Nat×ŀ Addr×Nat×ŀ Addr×Nat×ŀ Addr×Nat)=>⟨[],Ef A d,λI=>sq I q p d.k.eqs/\sq I k j d.k.δ/\sl c' I v u d.q.p/\sv I t x d.q.o,[(2,ú b1 (eR d q p k j v u t x) 56)]⟩) ?_
 rintro I ⟨d,q,p,k,j,v,u,t,x⟩ hr al ⟨y,s,D,C⟩;refine sr<|Δ (BF z)<|Δ (n' 2 eN z z z)<|ν z<|Δ (V3 z z)<|Δ (BF z)<|ra 2 ([i' d.id,i' d.k.n,ε q d.k.eqs p,ε k d.k.δ j,i' d.q.kind,ε v d.q.p u,ε t d.q.o x,i' d.υ,i' (if d.low<A.1 then A.1 else d.low),i' d.high,.bool d.done]).toArray z jS z z z (show 8<11 by decide) z z<|nx<|o'<|sr<|ν z<|dE hr z (vJ z z) z (λai hr=>?_) (λai hr=>?_)
 .exact Ζ
 refine ν z<|nK z<|Å (M' z z) z<|Å (M' z z) z<|Å (M' z z) z<|Å (M' z z) z<|sk z z z<|ο z<|nx<|tG z<|q'<|b'<|sr<|Δ (y' 2 uv z z z)<|gp 4 rb z<|nx<|m' ?_
 obtain rfl:_=r:=hr;exact j' z (kD (i:=4) uv z z z) ⟨_,_,_,_,_,_,_,_,z,y,s,D,C⟩
instance iU'{Q ak aa L r}:SpcM ((Lb Q ak aa L)) r (∀{M P V W},Cr 44 #[.agg ((fX Q M P)).toArray,i' ak,ε V aa W,i' L] (λG=>sl gg G M P Q.t/\sl rV G V W aa) (jh r)):=.mk λhr {M P V W}=>by
 refine è ?_;intro w0 G0 ax bQ _ _ b1 b2 o bS Y h g d f s q u t aD aA _ _ b3 hr _;refine o'<|sr<|ν z<|Δ (kU z)<|nx<|kc hr z (λcG hr=>?_) (λcG hr=>?_)
 .exact Ζ
 refine q'<|b'<|WC.nB hr [1,2,3,4,8,10] [4,10] (λ(⟨a,aR,aS⟩:Zd×ŀ Addr×Nat)=>⟨[],Qf Q ak aa L o a,λaY=>sl gg aY aR aS a.t,[(8,ú b2 (fX a aR aS) 26)]⟩) ?_
 rintro aY ⟨a,aR,aS⟩ hr F bK;refine o'<|sr<|Ρ z<|WC.mB (hH:=by exact bK) hr [1,2,3,4,8,10] [4,10] [1,2,3,4,8,10] [4,10] (λ(⟨aN,a2,aI,aF⟩:Int×Zd×ŀ Addr×Nat)=>⟨(aN,a2),[(12,i' aN)],λa1=>sl gg a1 aI aF a2.t,[(8,ú b2 (fX a2 aI aF) 26)]⟩) (λ(⟨aH,ah,af⟩:Zd×ŀ Addr×Nat)=>⟨(.inr aH),[],λaW=>sl gg aW ah af aH.t,[(8,ú b2 (fX aH ah af) 26)]⟩) ⟨0,a,aR,aS⟩ ?_
 rintro aW ⟨aH,ah,af⟩ hr ad cH;refine Ξ ?_;intro b4 hr;refine WC.mC (hH:=by exact⟨(X' _ _),kV⟩) hr [1,2,3,4,8,10,13] [4,8,10] [8,13] [8] (λ(⟨X,R,ac,ab,Z,x⟩:Int×(Ŀ Ze)×ŀ Addr×Nat×ŀ Ow×Int)=>⟨(X,R,x),[(14,i' X)],λaL=>sl gg aL ac ab R/\Tok 11 56 (ε ac R ab) R.length Z,[(13,ú b4 ([ε ac R ab,i' x]) 26),(310130,Z)]⟩) (λ(⟨i,aP,aO,aT,aJ⟩:(Ŀ Ze)×ŀ Addr×Nat×ŀ Ow×Int)=>⟨(i,aJ),[],λbl=>sl gg bl aP aO i/\Tok 11 56 (ε aP i aO) i.length aT,[(13,ú b4 ([ε aP i aO,i' aJ]) 26),(310130,aT)]⟩) ⟨0,[],none,0,none,Q.next⟩ ?_;rintro _ aL ⟨X,R,ac,ab,Z,x⟩ U ⟨bm,a6⟩ hr;refine Ξ ?_;intro _ x1 _ _ bq _ bv _ bg _ bd _ bH _ bI _ bN _ bL _ _ _ _ bt _ bi bF b5 hr bM;refine WC.mD (hH:=by exact⟨bt,bi,bF,bM⟩) hr [1,2,3,4,8,10,13,14,15] [4,8,10,13,310130] [1,2,3,4,8,10,13,14,15] [4,8,10,13,310130] (λ(⟨aQ,O,I,H,E,C,am,ap,an,aq⟩:Int×Ze×ŀ Addr×Nat×ŀ Addr×Nat×ŀ Addr×Nat×ŀ Addr×Nat)=>⟨(aQ,O),[(16,i' aQ)],λe=>sq e I H O.k.eqs/\sq e E C O.k.δ/\sl c' e am ap O.q.p/\sv e an aq O.q.o,[(15,ú b5 (eR O I H E C am ap an aq) 56)]⟩) (λ(⟨p,S,T,J,K,au,al,ar,ao⟩:Ze×ŀ Addr×Nat×ŀ Addr×Nat×ŀ Addr×Nat×ŀ Addr×Nat)=>⟨p,[],λaz=>sq az S T p.k.eqs/\sq az J K p.k.δ/\sl c' az au al p.q.p/\sv az ar ao p.q.o,[(15,ú b5 (eR p S T J K au al ar ao) 56)]⟩) ⟨0,x1,bq,bv,bg,bd,bH,bI,bN,bL⟩ ?_ ?_
 .rintro _ e ⟨aQ,O,I,H,E,C,am,ap,an,aq⟩ ai ⟨av,aj,aX,aU⟩ hr;refine Ξ ?_;intro _ hr;obtain⟨c8,ca,hr⟩:=hr;have N1:=mx (mx (mx F ad) U) ai;refine H' (C' z z) z (x' IS z) (Jh _ _ _ _ _ _ _ _ _ _ _ ca) z (⟨av,aj,(aD.mono N1),(aA.mono N1)⟩)<|Ι z<|nx<|kc hr z (λct hr=>?_) (λct hr=>?_)
  .refine q'<|b'<|o'<|Y'<|fA [ff,ff,ff,ff,ff] eL İ λhb=>cn (λ_ ag=>y' 15 uv z z z)<|fM z<|fM z<|oE hr λx2 bP hr=>cn (λ_ ag=>kd ML s8 ((ax.mono (mx (mx (mx (mx Y F) ad) U) ai)).mono ag) z z bP) ?_
   obtain⟨cQ,cN,cP,c0,cK,cJ,c3,cZ,cT,c2,cm,b6,b7,cg,bY,b8⟩:=V7 (T' (iK ax bP) (mx (mx (mx (mx Y F) ad) U) ai));refine cn (λ_ ag=>ny _ nS z z (λj v hv=>ag _ _ _ (cm j v hv)))<|pz hb<|oE hr λcv ci hr=>gR z z (x' Yd z) (iz'.h ci) z (⟨av,aj,aX,aU,b6,b7,cg,bY,b8⟩) (λcL cD bG bu=>?_)
   obtain⟨bh,bj,a7,a5,bB,bC,bz,bE,rfl,bf,a3,bD,bx⟩:=bu;refine gp 15 rb z<|t'<|Θ<|E'<|b'<|w'<|ν z<|iM z<|Þ z<|t'<|N' ⟨cD,i64.wrap (aQ+1),cv,bh,bj,a7,a5,bB,bC,bz,bE⟩ hr ⟨(mx ai bG),bf,a3,bD,bx⟩ (f10 z z z z z z z z z z) (w6 z z z z z z)
  exact Ζ
 rintro az ⟨p,S,T,J,K,au,al,ar,ao⟩ hr bn ⟨aV,aM,a8,a4⟩;refine b'<|WC.nD hr [1,2,3,4,8,10,13,14,15] [4,8,10,13,310130] (λ(⟨c,m,n,l,k,B,A,D,y⟩:Ze×ŀ Addr×Nat×ŀ Addr×Nat×ŀ Addr×Nat×ŀ Addr×Nat)=>⟨[],Eu X R x c,λN=>sq N m n c.k.eqs/\sq N l k c.k.δ/\sl c' N B A c.q.p/\sv N D y c.q.o,[(15,ú b5 (eR c m n l k B A D y) 56)]⟩) ?_ ?_
 .refine sr<|Δ (GC z)<|Δ (n' 15 eN z z z)<|ν z<|Δ (eB z z)<|nx<|I' hr z (λcB hr=>?_) (λcB hr=>?_)
  .exact Ζ
  exact Ζ
 rintro N ⟨c,m,n,l,k,B,A,D,y⟩ hr bp ⟨be,bc,bA,bw⟩;refine Ξ ?_;intro _ _ bo cx hr;refine oA hr λb0 hr=>jN (r:=gg) 310130 z z tC qK z ĳ z z (bm.mono (mx (mx bn bp) bo)) z (by rw[bQ];rfl) a6 cx b0 λp2 bT ck cy bO cA cb=>Δ (Gs z)<|ra 13 ([.slice p2 (R++[c]).length bT,i' x]).toArray z Dj z z z (show 0<2 by decide) z z<|t'<|E'<|b'<|w'<|ν z<|iM z<|Þ z<|t'<|N' ⟨cy,i64.wrap (X+1),(R++[c]),p2,bT,ck,x⟩ hr ⟨(mx (mx (mx (mx U bn) bp) bo) bO),cA,cb⟩ (Æ z) (w5 z z z z z)
instance hQ'{b1 a r}:SpcM ((Ly b1 a)) r (∀{ap ai U V H J T X ao ak},Cr 13 #[.agg ((fX b1 ap ai)).toArray,.agg ((tm a U V H J T X ao ak)).toArray] (λG=>sl gg G ap ai b1.t/\sl vO G U V a.c.l/\sl (Rp.int .u8) G H J a.c.iQ/\sl (gf .i8 5) G T X a.p.t/\sl BI G ao ak a.l) (Ç r)):=.mk λhr {ap ai U V H J T X ao ak}=>by
 refine è ?_;intro w0 G0 _ _ _ K _ L _ s Q _ _ _ hr S;refine o' ?_;refine è ?_;intro hr;refine I' hr z (λaU hr=>?_) (λaU hr=>?_)
 .refine sr<|Δ (y' 3 xF z z z)<|oE hr λa7 aE hr=>gR z z (x' OM z) (V8.h aE) z (⟨L,s,Q,S⟩) (λa4 a6 o Z=>?_)
  obtain⟨aM,aN,aA,aJ,rfl,I,D⟩:=Z;refine W' 7 z rB z λb5=>gp 7 tH z<|nx<|o'<|fA [ff,ff,ff,ff,ff,ff,ff] eL İ λN=>cn (λ_ d=>y' 2 l6 z z z) ?_
  refine è ?_;intro p hr _;refine oE hr λE aK hr=>mg (f:=43) (φ:=qs E) (λ_=>z) (λv G1 G2 d h=>?_) (λu B d O=>?_) ?_
  .obtain⟨m,l,rfl,C⟩:=h;exact⟨_,_,z,C.mono d⟩
  .obtain⟨⟨e,j,k,g,av,A,y⟩,_⟩:=(show(λG v=>∃e j k g,v=.agg ([i' p.kind,ε e p.p j,ε k p.o g]).toArray/\sl c' G e j p.p/\sv G k g p.o) B.m (u 21)/\True from O);exact⟨_,_,_,λ_=>x' OO z,QE 5 _ _ _ _ _ _ _ _ _ _ _ _ _ _ aK,(by simp only[av]<;>rfl),⟨((K.mono o).mono d),(I.mono d),(D.mono d),A,y⟩⟩
  refine kI (λ_=>z) yn<|GM (λa8 aY a3 X1 aH an ad ae=>?_)
  obtain⟨b6,rfl,aC⟩:=an;obtain⟨m,l,rfl,C⟩:=ad;obtain⟨e,j,k,g,rfl,A,y⟩:=ae;refine om aC (lG (show WL _ _ _ _ _ _ (St w0 G0 X1.m _)from ?_));refine gp 8 sZ z<|t'<|Θ<|b'<|o' ?_
  refine è ?_;intro hr;refine I' hr z (λaP hr=>?_) (λaP hr=>?_)
  .refine o'<|BY [(8,ú b6 (od E m l) 100)] (lc z ln) [ff,tt,tt] eL İ λN=>cn (λ_ d=>y' 2 l6 z z z)<|nz z (Y0.Uc z)<|nz z (n' 8 C5 z z z)<|xO N<|nV (λw q=>q.weaken (lc z ln))<|gp 4 tE z<|nT<|fz.y0 (λw q=>q.weaken (lc z ln)) z (ri z) z<|fz.y0 (λw q=>q.weaken (lc z ln)) z (ri z) z<|vV (λw q=>q.weaken (lc z ln))<|Θ<|b'<|m'<|a'<|a' ?_
   obtain rfl:_=r:=hr;exact MR z (kD (i:=4) l6 z z z) z z ⟨_,_,z,(K.mono (mx o aH))⟩
  refine q'<|b'<|o'<|BY [(8,ú b6 (od E m l) 100)] (lc z ln) [ff,ff,tt,tt] eL İ λN=>?_
  refine è ?_;intro hr;refine nz z (n' 8 eN z z z)<|xO N<|nV (λw q=>q.weaken (lc z ln))<|gp 4 tE z<|nT<|fz.y0 (λw q=>q.weaken (lc z ln)) z (ri z) z<|fz.y0 (λw q=>q.weaken (lc z ln)) z (ri z) z<|vV (λw q=>q.weaken (lc z ln))<|Θ<|b'<|m'<|a' ?_
  obtain rfl:_=r:=hr;exact MR z (kD (i:=4) l6 z z z) z z ⟨_,_,z,C⟩
 refine q'<|b'<|o'<|fA [ff,ff,ff,ff,ff,ff,ff,ff,ff,ff,tt,ff] eL İ λN=>?_
 refine è ?_;intro ay hr _;refine oE hr λF aI hr=>mg (f:=44) (φ:=jh F) (λ_=>z) (λv G1 G2 d h=>?_) (λu B d O=>?_) ?_
 .obtain⟨x,t,rfl,n⟩:=h;exact⟨_,_,z,n.mono d⟩
 .obtain⟨⟨am,al,au,M⟩,_⟩:=(show(fS rV ay) B.m (u 38)/\True from O);exact⟨_,_,_,λ_=>x' XR z,iU'.h aI,(by simp only[au]<;>rfl),⟨(K.mono d),M⟩⟩
 refine jr (φ:=jh F) (λ_=>z) (λv G1 G2 d h=>?_) (λu B d O=>?_) ?_
 .obtain⟨p1,W,rfl,R⟩:=h;exact⟨_,_,z,R.mono d⟩
 .obtain⟨⟨x,t,aw,n⟩,_,_⟩:=(show(jh F) B.m (u 41)/\True/\True from O);simp only[ς,aw];exact⟨_,k' z,x,t,z,n⟩
 refine jr (φ:=kC F.1) (λ_=>z) (λv G1 G2 d h=>?_) (λu B d O=>?_) ?_
 .obtain⟨p2,aR,rfl,aj⟩:=h;exact⟨_,_,z,aj.mono d⟩
 .obtain⟨⟨p1,W,P,R⟩,_,_,_⟩:=(show(jh F) B.m (u 33)/\True/\True/\True from O);simp only[ς,P];exact⟨_,O' z z,p1,W,z,R⟩
 refine mi (c:=i' F.2) (λ_=>z) (λu B d O=>?_) ?_
 .obtain⟨_,⟨p1,W,P,R⟩,_,_,_⟩:=(show True/\(jh F) B.m (u 33)/\True/\True/\True from O);simp only[ς,P];exact O' z z
 refine kI (λ_=>z) z26<|xQ (λa9 a1 aW aX a2 X2 aG aq af Y ab aa=>?_)
 obtain⟨b7,rfl,aB⟩:=aq;obtain⟨p2,aR,rfl,aj⟩:=af;obtain⟨p1,W,rfl,R⟩:=Y;obtain⟨x,t,rfl,n⟩:=ab;obtain⟨am,al,rfl,M⟩:=aa;refine om aB (lG (show WL _ _ _ _ _ _ (St w0 G0 X2.m _)from ?_));exact Ζ
instance pS{c r}:SpcM ((ZvZ c)) r (∀{h i f d s t u q},Cr 61 #[.agg ((eR c h i f d s t u q)).toArray] (λG=>sq G h i c.k.eqs/\sq G f d c.k.δ/\sl c' G s t c.q.p/\sv G u q c.q.o) (fS tD r)):=.mk λhr {h i f d s t u q}=>by
 refine Ξ ?_;intro w0 G0 _ Y _ S _ L _ _ b1 p1 _ E X aF W I au ak M hr _;refine WC.mC (hH:=by exact⟨(X.mono I),kV⟩) hr [1,4] [1] [] [] (λ(⟨o,y,x,A,a⟩:(Ŀ Zc)×ŀ Addr×Nat×ŀ Ow×Int)=>⟨(o,a),[(3,ε y o x),(5,i' a)],λK=>sl tD K y x o/\Tok 3 54 (ε y o x) o.length A,[(1003,A)]⟩) (λ(⟨B,D,C,F⟩:(Ŀ Zc)×ŀ Addr×Nat×ŀ Ow)=>⟨B,[(3,ε D B C)],λR=>sl tD R D C B/\Tok 3 54 (ε D B C) B.length F,[(1003,F)]⟩) ⟨[],p1,0,none,0⟩ ?_;rintro _ K ⟨o,y,x,A,a⟩ k ⟨O,J⟩ hr;refine o' ?_;refine è ?_;intro hr;refine I' hr z (λaJ hr=>?_) (λaJ hr=>?_)
 .refine q'<|b'<|o'<|Y'<|fA [tt,ff,ff,ff,ff,ff,ff] eL İ λhb=>uw z (k' z)<|cn (λ_ H=>zm z)<|cn (λ_ H=>R' ((Ã c.k h i f d)).toArray 1 mZ z z z (mK ([i' c.id]) ((Ã c.k h i f d)) ([i' c.q.kind,ε s c.q.p t,ε u c.q.o q,i' c.υ,i' c.low,i' c.high,.bool c.done])))<|fM z<|fM z<|oE hr λx1 N hr=>cn (λ_ H=>kd MJ oa ((M.mono k).mono H) z z N) ?_
  obtain⟨aO,aR,aP,aT,ay,ax,ao⟩:=dq' (T' (iK M N) k);refine cn (λ_ H=>ny _ re z z (λj v hv=>H _ _ _ (ay j v hv)))<|pz hb<|oE hr λg ar hr=>gR z z (x' XP z) (fL'.h ar) z (⟨(S.mono (mx (mx E I) k)),(L.mono (mx (mx E I) k)),ax,ao⟩) (λaN aW Q U=>?_)
  obtain⟨ap,al,ag,af,p,m,l,n,rfl,av,ah,V,Z⟩:=U;refine Δ (Y0.sh underlying94 z re z z)<|mY (e:=54) (r:=tD) (vs:=#[(0,.agg ([i' g.q.kind,ε p g.q.p m,ε l g.q.o n]).toArray)]) (cs:=[i' g.q.kind,ε p g.q.p m,ε l g.q.o n]++([])) ([g.q]:Ŀ Zc) z z z z z ĳ (λ_=>İ) ⟨[i' g.q.kind,ε p g.q.p m,ε l g.q.o n],[],z,⟨[i' g.q.kind],[ε p g.q.p m,ε l g.q.o n],z,z,⟨[ε p g.q.p m],[ε l g.q.o n],z,⟨_,z,V⟩,⟨_,z,Z⟩⟩⟩,z⟩ (key:=999) z (by rw[Y];rfl) (λp2 aV P aE=>?_)
  refine oA hr λam hr=>jN (r:=tD) 1003 z z MJ M1 z ĳ z z (O.mono (mx Q P)) z (by rw[Y];rfl) J aE am λp3 T aj aH ab aD an=>Þ z<|t'<|Θ<|E'<|b'<|w'<|ν z<|iM z<|Þ z<|t'<|N' ⟨aH,(o++[g.q]),p3,T,aj,i64.wrap (a+1)⟩ hr ⟨(mx (mx (mx k Q) P) ab),aD,an⟩ (Æ z) (w2 z z)
 exact Ζ
instance gf'{i r}:SpcM ((LA i)) r (∀{Q S},Cr 22 #[ε Q i S] (λG=>sl MW G Q S i) (kC r)):=.mk λhr {Q S}=>by
 refine Ξ ?_;intro w0 G0 O _ W av R B V X U j hr _;refine WC.mC hr [0,2,3] [2] [2,3] [2] (λ(⟨a,s,n,l⟩:Int×Zd×ŀ Addr×Nat)=>⟨(a,s),[(4,i' a)],λt=>sl gg t n l s.t,[(3,ú j (fX s n l) 26)]⟩) (λ(⟨F,y,A⟩:Zd×ŀ Addr×Nat)=>⟨F,[],λH=>sl gg H y A F.t,[(3,ú j (fX F y A) 26)]⟩) ⟨0,av,V,X⟩ ?_;rintro _ t ⟨a,s,n,l⟩ k x hr;refine o'<|sr<|ν z<|ν z<|Δ (P' em' (O.mono (mx B k)) z)<|dE hr z (Z' z z) z (λaz hr=>?_) (λaz hr=>?_)
 .refine è ?_;intro hr;refine I' hr z (λN hr=>?_) (λN hr=>?_)
  .refine q'<|b'<|o'<|Y'<|fA [ff,ff,ff,ff,ff,ff,ff,ff,tt,tt] eL İ λhb=>cn (λ_ e=>y' 3 l6 z z z)<|fM z<|fM z ?_
   refine è ?_;intro _ _ _ _ _ _ _ _ _ _ _ _ _ _ _ _ _ _ _ _ _ _ _ _ _ _ _ f hr _;refine jr (φ:=Ç f) (λ_=>z) (λv I K e h=>?_) (λu C e E=>?_) ?_
   .obtain⟨T,D,rfl,q⟩:=h;exact⟨_,_,z,q.mono e⟩
   .obtain⟨⟨p,o,Y,g⟩,_⟩:=(show(Ç f) C.m (u 22)/\True from E);simp only[ς,Y];exact⟨_,k' z,p,o,z,g⟩
   refine jr (φ:=kC f.1) (λ_=>z) (λv I K e h=>?_) (λu C e E=>?_) ?_
   .obtain⟨p2,ah,rfl,P⟩:=h;exact⟨_,_,z,P.mono e⟩
   .obtain⟨⟨T,D,m,q⟩,_,_⟩:=(show(Ç f) C.m (u 16)/\True/\True from E);simp only[ς,m];exact⟨_,O' z z,T,D,z,q⟩
   refine mi (c:=i' f.2.1) (λ_=>z) (λu C e E=>?_) ?_
   .obtain⟨_,⟨T,D,m,q⟩,_,_⟩:=(show True/\(Ç f) C.m (u 16)/\True/\True from E);simp only[ς,m];exact O' z z
   refine mi (c:=i' f.2.2) (λ_=>z) (λu C e E=>?_) ?_
   .obtain⟨_,⟨T,D,m,q⟩,_,_⟩:=(show True/\(Ç f) C.m (u 16)/\True/\True from E);simp only[ς,m];exact O' z z
   refine zC (d:=23) (post:=kC f.1) (d':=16) (post':=Ç f) (d'':=22) (post'':=Ç f) (λaI aG aK ar Z J L M=>?_);obtain⟨p2,ah,rfl,P⟩:=J;obtain⟨T,D,rfl,q⟩:=L;obtain⟨p,o,rfl,g⟩:=M;exact gp 3 tE z<|Ζ
  exact Ζ
 exact Ζ
end Go.Proofs.YtepbagkffgddlaaGreat

namespace Go.Proofs.YtepbagkffgddlaaGreat
open Go.IntKind (i8 i16 i32 i64 u8 u16 u32 u64)
open Go.Proofs.Tryz
open Go Go.EL Go.RowKit Go.Proofs
set_option maxHeartbeats 4000000
set_option maxRecDepth 20000
theorem Pb(bB:(Ŀ Zt))(bE:ŀ Addr)(bI:Nat)(r:Bool)(hr:(Jl bB).Α r):Cr 8 #[ε bE bB bI] (λG=>sl MW G bE bI bB) (λG v=>v=.bool r):=by
 refine Ξ ?_;intro w0 G0 _ _ aR _ _ aZ _ _ _ aw av ab b1 a2 bY aj aF aH _ hr _;refine WC.mD hr [3,4,5] [4] [3,4,5] [4] (λ(bf:Int)=>⟨bf,[(6,i' bf)],tr,[]⟩) (λ(_:Unit)=>⟨(.inr ()),[],tr,[]⟩) 1 ?_ ?_
 .intro _ bF bf T _ hr;refine o' ?_;refine è ?_;intro hr;refine I' hr z (λc0 hr=>?_) (λc0 hr=>?_)
  .refine q'<|b'<|o'<|Y'<|o'<|fA [ff,ff,ff,ff,ff,ff,ff,ff,ff,tt,ff] eL İ λhb=>cn (λ_ e=>y' 4 l6 z z z)<|fM z ?_
   refine è ?_;intro _ _ _ q hr _;refine jr (φ:=λG v=>∃p3 ao p4 X p5 a p6 j,v=.tuple #[.agg ((eR q.1 p3 ao p4 X p5 a p6 j)).toArray,.bool q.2]/\sq G p3 ao q.1.k.eqs/\sq G p4 X q.1.k.δ/\sl c' G p5 a q.1.q.p/\sv G p6 j q.1.q.o) (λ_=>z) (λv G1 G2 e h=>?_) (λu G' e hu=>?_) ?_
   .obtain⟨p3,ao,p4,X,p5,a,p6,j,rfl,bq,bp,br,bo⟩:=h;exact⟨_,_,_,_,_,_,_,_,z,bq.mono e,bp.mono e,br.mono e,bo.mono e⟩
   .obtain⟨⟨o,p,m,l,A,H,D,B,cb,ac,Y,aA,ay⟩,_⟩:=(show(λG v=>∃o p m l A H D B,v=.tuple #[.agg ((eR q.1 o p m l A H D B)).toArray,.bool q.2]/\sq G o p q.1.k.eqs/\sq G m l q.1.k.δ/\sl c' G A H q.1.q.p/\sv G D B q.1.q.o) G'.m (u 39)/\True from hu);simp only[ς,cb];exact⟨_,k' z,o,p,m,l,A,H,D,B,z,ac,Y,aA,ay⟩
   refine jr (φ:=u4 q.1) (λ_=>z) (λv G1 G2 e h=>?_) (λu G' e hu=>?_) ?_
   .obtain⟨p7,c9,p8,db,p9,cV,cQ,cr,rfl,cm,ci,ck,bZ⟩:=h;exact⟨_,_,_,_,_,_,_,_,z,cm.mono e,ci.mono e,ck.mono e,bZ.mono e⟩
   .obtain⟨⟨p3,ao,p4,X,p5,a,p6,j,bn,bq,bp,br,bo⟩,_,_⟩:=(show(λG v=>∃p3 ao p4 X p5 a p6 j,v=.tuple #[.agg ((eR q.1 p3 ao p4 X p5 a p6 j)).toArray,.bool q.2]/\sq G p3 ao q.1.k.eqs/\sq G p4 X q.1.k.δ/\sl c' G p5 a q.1.q.p/\sv G p6 j q.1.q.o) G'.m (u 32)/\True/\True from hu);simp only[ς,bn];exact⟨_,O' z z,p3,ao,p4,X,p5,a,p6,j,z,bq,bp,br,bo⟩
   refine mi (c:=.bool q.2) (λ_=>z) (λu G' e hu=>?_) ?_
   .obtain⟨_,⟨p3,ao,p4,X,p5,a,p6,j,bn,bq,bp,br,bo⟩,_,_⟩:=(show True/\(λG v=>∃p3 ao p4 X p5 a p6 j,v=.tuple #[.agg ((eR q.1 p3 ao p4 X p5 a p6 j)).toArray,.bool q.2]/\sq G p3 ao q.1.k.eqs/\sq G p4 X q.1.k.δ/\sl c' G p5 a q.1.q.p/\sv G p6 j q.1.q.o) G'.m (u 32)/\True/\True from hu);simp only[ς,bn];exact O' z z
   refine kI (λ_=>z) yo<|GL (λdF di dy dm X1 a7 b7 bu bN bL=>?_)
   obtain⟨b3,rfl,cz⟩:=b7;obtain⟨p7,c9,p8,db,p9,cV,cQ,cr,rfl,cm,ci,ck,bZ⟩:=bu;obtain⟨p3,ao,p4,X,p5,a,p6,j,rfl,bq,bp,br,bo⟩:=bN;obtain⟨o,p,m,l,A,H,D,B,rfl,ac,Y,aA,ay⟩:=bL;refine om cz (lG (show WL _ _ _ _ _ _ (St w0 G0 X1.m _)from ?_));refine gp 7 rb z<|Þ z<|t'<|Θ<|b'<|o'<|fA [ff,ff,ff,ff,ff,ff,ff,ff,tt,ff] eL İ λhb=>cn (λ_ e=>y' 4 l6 z z z)<|fM z ?_
   refine è ?_;intro _ _ _ f hr _;refine jr (φ:=λG v=>∃ar R aq S N P ap Q,v=.tuple #[.agg ((eR f.1 ar R aq S N P ap Q)).toArray,.bool f.2]/\sq G ar R f.1.k.eqs/\sq G aq S f.1.k.δ/\sl c' G N P f.1.q.p/\sv G ap Q f.1.q.o) (λ_=>z) (λv G1 G2 e h=>?_) (λu G' e hu=>?_) ?_
   .obtain⟨ar,R,aq,S,N,P,ap,Q,rfl,be,aY,a3,ba⟩:=h;exact⟨_,_,_,_,_,_,_,_,z,be.mono e,aY.mono e,a3.mono e,ba.mono e⟩
   .obtain⟨⟨n,k,g,i,t,x,y,s,bR,U,O,ag,af⟩,_⟩:=(show(λG v=>∃n k g i t x y s,v=.tuple #[.agg ((eR f.1 n k g i t x y s)).toArray,.bool f.2]/\sq G n k f.1.k.eqs/\sq G g i f.1.k.δ/\sl c' G t x f.1.q.p/\sv G y s f.1.q.o) G'.m (u 48)/\True from hu);simp only[ς,bR];exact⟨_,k' z,n,k,g,i,t,x,y,s,z,U,O,ag,af⟩
   refine jr (φ:=u4 f.1) (λ_=>z) (λv G1 G2 e h=>?_) (λu G' e hu=>?_) ?_
   .obtain⟨cN,ct,c5,cA,c6,cu,da,cG,rfl,bV,b5,bU,bT⟩:=h;exact⟨_,_,_,_,_,_,_,_,z,bV.mono e,b5.mono e,bU.mono e,bT.mono e⟩
   .obtain⟨⟨ar,R,aq,S,N,P,ap,Q,aW,be,aY,a3,ba⟩,_,_⟩:=(show(λG v=>∃ar R aq S N P ap Q,v=.tuple #[.agg ((eR f.1 ar R aq S N P ap Q)).toArray,.bool f.2]/\sq G ar R f.1.k.eqs/\sq G aq S f.1.k.δ/\sl c' G N P f.1.q.p/\sv G ap Q f.1.q.o) G'.m (u 42)/\True/\True from hu);simp only[ς,aW];exact⟨_,O' z z,ar,R,aq,S,N,P,ap,Q,z,be,aY,a3,ba⟩
   refine mi (c:=.bool f.2) (λ_=>z) (λu G' e hu=>?_) ?_
   .obtain⟨_,⟨ar,R,aq,S,N,P,ap,Q,aW,be,aY,a3,ba⟩,_,_⟩:=(show True/\(λG v=>∃ar R aq S N P ap Q,v=.tuple #[.agg ((eR f.1 ar R aq S N P ap Q)).toArray,.bool f.2]/\sq G ar R f.1.k.eqs/\sq G aq S f.1.k.δ/\sl c' G N P f.1.q.p/\sv G ap Q f.1.q.o) G'.m (u 42)/\True/\True from hu);simp only[ς,aW];exact O' z z
   refine kI (λ_=>z) yo<|GL (λdH dk dg dl X2 b6 b9 bz bw bx=>?_)
   obtain⟨b4,rfl,cw⟩:=b9;obtain⟨cN,ct,c5,cA,c6,cu,da,cG,rfl,bV,b5,bU,bT⟩:=bz;obtain⟨ar,R,aq,S,N,P,ap,Q,rfl,be,aY,a3,ba⟩:=bw;obtain⟨n,k,g,i,t,x,y,s,rfl,U,O,ag,af⟩:=bx;refine om cw (lG (show WL _ _ _ _ _ _ (St w0 G0 X2.m _)from ?_));refine gp 9 rb z<|Þ z<|t'<|Θ<|b'<|sr<|Δ (Gy z)<|Δ (n' 7 eN z z z)<|Δ (Gy z)<|Δ (n' 9 eN z z z)<|dE hr z (uo z z) z (λcT hr=>?_) (λcT hr=>?_)
   .refine ν z<|Xz z<|Å (M' z z) z<|Å (M' z z) z<|Å (M' z z) z<|Å (M' z z) z<|Å (M' z z) z<|sf z z z<|Ι z<|nx<|nR z<|sr<|Ρ z<|m'<|g'<|a'<|a'<|g'<|mM<|a' (Õ hr z z)
   exact Ζ
  exact Ζ
 intro bk _ hr aa _;refine b'<|o'<|sr<|Ρ z<|WC.mC hr [3,4,5] [4] [3] [] (λ(W:Int)=>⟨W,[(11,i' W)],tr,[]⟩) (λ(_:Unit)=>⟨(.inr ()),[],tr,[]⟩) 0 ?_
 intro _ a0 W K _ hr;refine Ξ ?_;intro _ I _ _ J _ L _ E _ C _ ad _ ae _ ai _ ah _ _ _ _ bj _ bd _ b2 hr _;refine WC.mD hr [3,4,5,11,12,14] [4,12] [3,4,5,11,12,14] [4,12] (λ(⟨aU,aD⟩:Bool×Int)=>⟨(aU,aD),[(13,.bool aU),(15,i' aD)],tr,[]⟩) (λ(aI:Bool)=>⟨aI,[(13,.bool aI)],tr,[]⟩) ⟨false,0⟩ ?_ ?_
 .rintro _ a8 ⟨aU,aD⟩ az _ hr;refine o' ?_;refine è ?_;intro hr;refine I' hr z (λcR hr=>?_) (λcR hr=>?_)
  .refine q'<|b'<|o'<|Y'<|fA [ff,ff,ff,ff,ff,ff,ff,ff] eL İ λhb=>zw hr z (λ_ e=>l5 (k' z) (đ Value.bool (mS _))) (λc4 hr=>?_) (λc4 hr=>?_)
   .exact Ζ
   exact Ζ
  exact Ζ
 intro bW aI hr M _;refine Ξ ?_;intro cP bS V cH cF _ hr _;refine WC.mD hr [3,4,5,11,12,13,16] [4,12] [3,4,5,11,12,13] [4,12] (λ(⟨aV,ax⟩:Bool×Int)=>⟨(aV,ax),[(14,.bool aV),(17,i' ax)],tr,[]⟩) (λ(bl:Bool)=>⟨bl,[(14,.bool bl)],tr,[]⟩) ⟨false,0⟩ ?_ ?_
 .rintro _ bH ⟨aV,ax⟩ F _ hr;refine o' ?_;refine è ?_;intro hr;refine I' hr z (λc1 hr=>?_) (λc1 hr=>?_)
  .refine q'<|b'<|o'<|Y'<|o'<|fA [ff,ff,ff,ff,ff,ff,ff,ff,ff,ff,ff] eL İ λhb=>cn (λ_ e=>y' 4 l6 z z z)<|cn (λ_ e=>zm z) ?_
   refine è ?_;intro _ _ _ _ _ _ _ _ _ _ _ _ _ _ _ au hr _;refine jr (φ:=λG v=>∃p1 bc p2 a4,v=.agg ([i' au.q.kind,ε p1 au.q.p bc,ε p2 au.q.o a4]).toArray/\sl c' G p1 bc au.q.p/\sv G p2 a4 au.q.o) (λ_=>z) (λv G1 G2 e h=>?_) (λu G' e hu=>?_) ?_
   .obtain⟨p1,bc,p2,a4,rfl,bX,b0⟩:=h;exact⟨_,_,_,_,z,bX.mono e,b0.mono e⟩
   .obtain⟨⟨aX,a6,aS,aT,a1,a5,a9,bb,cg,aG,aC,aK,aL⟩,_⟩:=(show(yl au) G'.m (u 116)/\True from hu);simp only[ς,cg];exact⟨_,Y0.sh underlying94 z re z z,a1,a5,a9,bb,z,aK,aL⟩
   refine BH (d:=117) (post:=λG v=>∃p1 bc p2 a4,v=.agg ([i' au.q.kind,ε p1 au.q.p bc,ε p2 au.q.o a4]).toArray/\sl c' G p1 bc au.q.p/\sv G p2 a4 au.q.o) (d':=116) (post':=yl au) (λdn dp bG Z bJ bM=>?_);obtain⟨p1,bc,p2,a4,rfl,bX,b0⟩:=bJ;obtain⟨aX,a6,aS,aT,a1,a5,a9,bb,rfl,aG,aC,aK,aL⟩:=bM;obtain⟨dG,cK,hr⟩:=hr;have N1:=mx (mx (mx (mx (mx (mx aj aa) K) M) V) F) Z;refine H' z z (x' XO z) (gn'.h cK) z (⟨(ab.mono N1),(bj.mono (mx (mx (mx M V) F) Z)),(bd.mono (mx (mx (mx M V) F) Z)),bX,b0⟩)<|Þ z<|t'<|Θ<|b'<|w'<|dE hr z (l5 (k' z) (đ Value.bool (mS _))) z (λc2 hr=>?_) (λc2 hr=>?_)
   .exact Ζ
   refine ν z<|kq z<|dE hr (C' z z) (Z' z z) z (λdd hr=>?_) (λdd hr=>?_)
   .exact Ζ
   refine ο z<|ν z<|gy z z (Gs z) z<|gy z z (n' 4 MQ z z z) z<|kq z<|oE hr λx3 co hr=>gy z z (kd tC rb (ab.mono N1) z z co) z<|gy z z (By z) z<|dE hr (C' z z) (l5 (mX sO z (AtK.bool (T' (qH (qH (qH (qH (qH (qH (nE (iK ab co)))))))) N1))) (đ Value.bool (mS _))) z (λc8 hr=>?_) (λc8 hr=>?_)
   .exact Ζ
   exact Ζ
  exact Ζ
 intro bi bl hr bm _;refine b'<|sr<|ν z<|Δ (By z)<|dE hr z (l5 (n' 12 sO z z z) (đ Value.bool (mS _))) z (λde hr=>?_) (λde hr=>?_)
 .exact Ζ
 exact Ζ
instance {e:(Ŀ Zt)}{r:Bool}:SpcM ((Jl e)) r (∀{c:ŀ Addr}{d:Nat},Cr 8 #[ε c e d] (λG=>sl MW G c d e) (λG v=>v=.bool r)):=⟨λa {c d}=>Pb _ c d _ a⟩
end Go.Proofs.YtepbagkffgddlaaGreat

namespace Go.EL
open Go.IntKind (i8 i16 i32 i64 u8 u16 u32 u64)
open Go Go.RowKit
def BV:Ù:=[⟨û 1,ζ (λ_=>0) (0:Int).toNat 1⟩]
def zF:Zb:=⟨1,[BV],[]⟩
theorem ZAr:ω BV:=ω.of (by decide +kernel)
theorem q9:eA zF where
 ok:={
  n:=ĳ
  eqs:=⟨ĳ,λp hp=>by
   rw[Ĕ.1 (show p∈[BV]from hp)];exact⟨ZAr,by decide +kernel,ĳ,by decide +kernel,by decide +kernel⟩,ū _ _⟩
  δ:=⟨ĳ,λp hp=>absurd hp ĝ,List.Pairwise.nil⟩ }
 n3:=ĳ
theorem BW:(Mf 0).Α (BV,0):=⟨ĳ,_,(xE (n:=1) ĳ).1,rfl⟩
abbrev q4:Zc:=⟨4,[],[]⟩
abbrev q5:Zc:=⟨5,[],[]⟩
def jP:Zb:=(â zF).1
def gN:Zd:=⟨[⟨1,jP,q4,0,0,-1,false⟩],2⟩
def uD:Zd:=⟨[⟨1,jP,q4,0,0,-1,false⟩,⟨2,jP,q5,0,0,-1,false⟩],3⟩
theorem ZAs:hL q4≠hL q5:=by intro e;have:=đ ByteArray.toList e;revert this;decide +kernel
theorem Ga:q4∈ò 5:=Ĕ.2 rfl
theorem U5:q5∈ò 6:=Ĕ.2 rfl
theorem ZAt:gO jP q4≠gO jP q5:=λe=>ZAs (Vn q9.canon.ok q9.canon.ok e).2
theorem UA:ie gN jP q4=(gN,1):=by
 unfold ie;have:eb gN.t (gO jP q4)=some ⟨1,jP,q4,0,0,-1,false⟩:=by unfold eb gN;exact List.find?_cons_of_pos (ă rfl)
 rw[this]
theorem L6:gG jt zF q4=(gN,1,0):=by unfold gG;rw[ą (EC Ga q9.ok),EB Ga];rfl
theorem Zzs:gG gN zF q4=(gN,1,0):=by unfold gG;rw[ą (EC Ga q9.ok),EB Ga];show((ie gN jP q4).1,(ie gN jP q4).2,0)=_;rw[UA]
theorem L7:gG gN zF q5=(uD,2,0):=by
 unfold gG;rw[ą (EC U5 q9.ok),EB U5];have a:ib 4 gN jP q4=(gN,1):=UA;have e:ib 5 gN jP q5=ie (ib 4 gN jP q4).1 jP q5:=rfl;have c:ie gN jP q5=(uD,2):=by
  unfold ie;have:eb gN.t (gO jP q5)=none:=by unfold eb gN;exact(List.find?_cons_of_neg (by rw[Ę];exact ZAt)).trans rfl
  rw[this];rfl
 show((ib 5 gN jP q5).1,(ib 5 gN jP q5).2,0)=_;rw[e,a,c]
theorem Zzt:gG gN zF ⟨11,[],[]⟩=(⟨[],0⟩,0,1):=rfl
theorem vA:æ gN:=by have:=(KW yN q9 (fa.nil 4) (by rw[L6])).ok;rwa [L6]at this
theorem Zzr:æ uD:=by have:=(KW vA q9 (fa.nil 5) (by rw[L7])).ok;rwa [L7]at this
abbrev BU:Zj:=⟨5,[],1,0,0,[],[],[],[]⟩
abbrev sd(n:Int):Zj:=⟨12,[],n,0,0,[],[],[],[]⟩
theorem OX:jP.n=1:=q9.Uu
theorem Zzu:hQ gN 1 [BU] 3=(⟨[⟨1,jP,q4,4,0,-1,true⟩],2⟩,0):=by
 rw[uK (rfl) ĳ (by
  show([BU].all (ä jP))=true;unfold ä;rw[OX];decide +kernel)]
 show(Zd.mk [stepT jP 1 [BU] 3 ⟨1,jP,q4,0,0,-1,false⟩] 2,(0:Int))=_;unfold stepT;rw[ą rfl];rfl
theorem Zzv:hQ gN 2 [] 3=(⟨[],0⟩,380):=xT rfl
theorem Zzw:hQ gN 1 [] 13=(⟨[],0⟩,1):=sy rfl ĳ
theorem Zzx:hQ uD 2 [sd 5,sd 7] 0=(⟨[⟨1,jP,q4,0,0,-1,false⟩,⟨2,jP,q5,1,0,5,false⟩],3⟩,0):=by
 rw[uK (rfl) ĳ (by
  show([sd 5,sd 7].all (ä jP))=true;unfold ä;rw[OX];decide +kernel)]
 show(Zd.mk [stepT jP 2 [sd 5,sd 7] 0 ⟨1,jP,q4,0,0,-1,false⟩,stepT jP 2 [sd 5,sd 7] 0 ⟨2,jP,q5,0,0,-1,false⟩] 3,(0:Int))=_;unfold stepT;rw[ą rfl,ą rfl];rfl
end Go.EL

namespace Go.EL
open Go.IntKind (i8 i16 i32 i64 u8 u16 u32 u64)
open Go Go.RowKit
theorem ZAq:Ë BU:=.BK 1 0 ĳ ĳ
theorem Vr{n:Int}(h:0<=n/\n<=7):Ë (sd n):=.zy 12 n ĳ h
theorem Zn5:JH.Α true:=by
 have w1:=A1 yN ĳ q9 (fa.nil 4);rw[L6]at w1;have w2:=A1 vA ĳ q9 (fa.nil 4);rw[Zzs]at w2;have w3:=AJ vA ĳ 1 (l:=[BU]) ĳ (λc a=>by rw[Ĕ.1 a];exact ZAq) 3;rw[Zzu]at w3;have w4:=A1 vA ĳ q9 (fa.nil 11);rw[Zzt]at w4;have w5:=AJ vA ĳ 2 (l:=[]) ĳ (λc a=>absurd a ĝ) 3;rw[Zzv]at w5;have w6:=AJ vA ĳ 1 (l:=[]) ĳ (λc a=>absurd a ĝ) 13;rw[Zzw]at w6;have m:=(yO (B:=⟨[⟨1,jP,q4,4,0,-1,true⟩],2⟩) ĳ 1).1;have w8:=Zrh vA.tf ĳ;have j:=A1 vA ĳ q9 (fa.nil 5);rw[L7]at j;have d:=AJ Zzr ĳ 2 (l:=[sd 5,sd 7]) ĳ (λc a=>by
  rcases Ď.1 a with a|a
  .rw[a];exact Vr ĳ
  rw[Ĕ.1 a];exact Vr ĳ) 0
 rw[Zzx]at d;have f:=(yO (B:=⟨[⟨1,jP,q4,0,0,-1,false⟩,⟨2,jP,q5,1,0,5,false⟩],3⟩) ĳ 2).1;have g:(ET jt).Α true:=by
  rcases U8 (Zv8 yN.Dy)with h|h
  .exact h.2
  exact absurd (yN.valid ĳ) h.1
 have i:=RF yN ĳ;have k:(Jc (BV,0) (gN,1,0)).Α true:=by refine⟨_,rfl,_,j,Cq.wp.no (λe=>e rfl) ⟨_,d,_,f,Cq.wp.yes rfl (Cq.wp.yes rfl (Cq.wp.yes rfl (Cq.wp.yes rfl (Cq.wp.no ĳ ⟨jt,rfl,true,g,jt,rfl,_,i,?_⟩))))⟩⟩;rfl
 refine⟨_,BW,jt,rfl,_,rfl,_,w1,_,rfl,_,w2,_,w3,_,rfl,_,w4,_,w5,_,w6,_,m,?_⟩;exact Cq.wp.no (λe=>e rfl) (Cq.wp.no (λe=>e rfl) (Cq.wp.no (λe=>e rfl) (Cq.wp.no (λe=>e rfl) (Cq.wp.no (λe=>e rfl) (Cq.wp.no (λe=>e rfl) (Cq.wp.no (λe=>e rfl) ⟨true,w8,Cq.wp.yes rfl (Cq.wp.yes rfl (Cq.wp.no (λe=>e rfl) (Cq.wp.no (λe=>e rfl) k)))⟩))))))
theorem Sg(B:Zd):(fR B).length<=13*B.t.length:=by unfold fR;rw[ć];exact JC B 13
end Go.EL

namespace Go.EL
open Go.IntKind (i8 i16 i32 i64 u8 u16 u32 u64)
open Go Go.RowKit
theorem UQ{B:Zd}(h:æ B){s t:Ze}(g:s∈B.t)(k:t∈B.t)(e:s.id=t.id):s=t:=by obtain⟨i,hi,a⟩:=ķ.1 g;obtain⟨j,f,c⟩:=ķ.1 k;have h3:=h.ids i hi;have d:=h.ids j f;rw[a]at h3;rw[c]at d;have:i=j:=ŉ;subst this;rw[<-a,<-c]
theorem UN{B:Zd}(h:æ B){t:Ze}(c:t∈B.t):fv B.t t.id=(t,true):=by
 unfold fv;cases a:B.t.find? λu=>decide (u.id=t.id)with
 |some u=>
  have e:u.id=t.id:=by simpa using aak a
  rw[UQ h (ei a) c e]
 |none=>
  have:=List.find?_eq_none.1 a t c;exact absurd (ă rfl) this
theorem Zxj{B:Zd}(h:æ B){t:Ze}(a:t∈B.t):((fR B).any λy=>decide (y=t.id))=hU B t:=by
 rw[aaR,Ű];constructor
 .rintro⟨y,f,e⟩;obtain⟨u,d,rfl⟩:=Ğ.1 f;obtain⟨g,i⟩:=(yR h).1 d;rw[<-UQ h g a (ĥ e)];exact i
 intro c;exact⟨t.id,Ğ.2 ⟨t,(yR h).2 ⟨a,c⟩,rfl⟩,ă rfl⟩
theorem Zw7{B:Zd}(h:æ B)(t:B.t.length<=70):(DY B (fR B) 1).Α (.inr ()):=by
 have p:=Sg B;have f:(fR B).length=(Ê B).length:=ć _;have key:∀(m i:Nat),1<=i->m+i=max (fR B).length 1->(DY B (fR B) (i:Int)).Α (.inr ()):=by
  intro m;induction m with
  |zero=>
   intro i n hi;exact Cq.Zs (Cq.wp.no ŉ rfl)
  |succ m q=>
   intro i n hi;obtain⟨j,rfl⟩:∃j,i=j+1:=⟨i-1,ŉ⟩;have a:j+1<(Ê B).length:=ŉ;have c:j<(Ê B).length:=ŉ;have d:=Ħ.1 (LW h 13).1 j (j+1) c a (Ũ _);have r:=((yR h).1 (Ă c)).1;have s:=((yR h).1 (Ă a)).1;have f1:=(yO (B:=B) ŉ (Ê B)[j].id).1;have f2:=(yO (B:=B) ŉ (Ê B)[j+1].id).1;rw[UN h r]at f1;rw[UN h s]at f2;have k:(fR B)[(i64.wrap (((j+1:Nat):Int)-1)).toNat]?=some (Ê B)[j].id:=by rw[show i64.wrap (((j+1:Nat):Int)-1)=(j:Int) by rw[wrap64 ŉ];omega,Ē];unfold fR;rw[et,Ą c];rfl
   have g:0<=i64.wrap (((j+1:Nat):Int)-1):=by rw[wrap64 ŉ];omega
   have l:(fR B)[((j+1:Nat):Int).toNat]?=some (Ê B)[j+1].id:=by rw[Ē];unfold fR;rw[et,Ą a];rfl
   have nx:(DY B (fR B) (i64.wrap (((j+1:Nat):Int)+1))).Α (.inr ()):=by rw[ψ ŉ];exact q (j+1+1) ŉ ŉ
   have d:(Ê B)[j].υ<(Ê B)[j+1].υ\/((Ê B)[j].υ=(Ê B)[j+1].υ/\(Ê B)[j].id<(Ê B)[j+1].id):=d;refine Cq.Zs (Cq.wp.yes ŉ ⟨_,⟨g,k⟩,_,f1,_,⟨ŉ,l⟩,_,f2,Cq.wp.no (by show ¬(Ê B)[j+1].υ<(Ê B)[j].υ;omega) ?_⟩);by_cases e:(Ê B)[j].υ=(Ê B)[j+1].υ
   .exact Cq.wp.yes e (Cq.wp.no (by show ¬(Ê B)[j+1].id<=(Ê B)[j].id;omega) nx)
   exact Cq.wp.no e nx
 exact key (max (fR B).length 1-1) 1 (Ĉ _) ŉ
theorem Zzf{l:Ŀ Int}(f:l.length<=1000)(x:Ze):(Jg l x (false,0)).Α (l.any λy=>decide (y=x.id)):=by
 refine Cq.Zn l.length (λk s=>s=((l.take k).any (λy=>decide (y=x.id)),(k:Int))) (λk s d c=>?_) (λs c=>?_) rfl
 .subst c;have e:(l.take (k+1)).any (λy=>decide (y=x.id))=((l.take k).any (λy=>decide (y=x.id)) || decide (l[k]=x.id)):=by
   rw[ċ d,List.any_append];simp
  refine Cq.wp.yes ŉ ?_;show Cq.wp _ (Out (λs'=>s'=((l.take (k+1)).any (λy=>decide (y=x.id)),((k+1:Nat):Int))) _);rw[e];cases(l.take k).any λy=>decide (y=x.id)with
  |true=>
   refine Cq.wp.yes rfl ?_;show _=_;rw[ψ ŉ,Ŧ]
  |false=>
   refine Cq.wp.nr rfl ⟨_,Μ d,?_⟩;by_cases a:l[k]=x.id
   .refine Cq.wp.yes a ?_;show _=_;rw[ψ ŉ,ă a];rfl
   refine Cq.wp.no a ?_;show _=_;rw[ψ ŉ,Ċ a];rfl
 subst c;refine Cq.wp.no ŉ ?_;rw[Ĥ];exact rfl
def sA(B:Zd)(t:Ze):Bool:=(ò t.q.kind).all λx=>match eb B.t (gO t.k x)with
 |some u=>u.done
 |none=>false
theorem Zyk{B:Zd}(h:æ B)(p:B.t.length<=1000){t:Ze}(j:tN t.k):(Jf B t (ò t.q.kind) (false,0)).Α (!sA B t):=by
 unfold sA;rcases ue t.q.kind with ⟨g,_⟩|⟨x,g,_⟩
 .rw[g];exact Cq.Zs (Cq.wp.no ĳ rfl)
 have m:x∈ò t.q.kind:=by rw[g];exact Ĕ.2 rfl
 have s:=(Ba m).w;have d:=Mh (q:=x) j.1.ok (l:=B.t) λt r=>(h.pK r).1;have n:=Ka j.1 (Ba m);rw[(iz.lk j m).hM]at n;rw[g];refine Cq.Zs (Cq.wp.yes (show(0:Int)<((1:Nat):Int) by decide) ⟨x,⟨ĳ,rfl⟩,_,n,_,Va p h.tf j.1.ok.qV s,Cq.wp.nr rfl ?_⟩);simp only[aaK,List.all_nil,abo];have a:∀b c:Bool,b=c->(Jf B t [x] (b,i64.wrap (0+1))).Α c:=λb c e=>Cq.Zs (Cq.wp.no (show ¬i64.wrap (0+1)<((1:Nat):Int) by decide) e);unfold Gu;cases hi:B.t.findIdx? (oq t.k x)with
 |none=>
  rw[hi]at d;have d:eb B.t (gO t.k x)=none:=d;rw[d];exact Cq.wp.yes (show(-1:Int)<0 by decide) (a true _ rfl)
 |some i=>
  rw[hi]at d;obtain⟨f,_⟩:=aav.1 hi;have d:eb B.t (gO t.k x)=some B.t[i]:=by rw[d];exact Ą f
  rw[d];refine Cq.wp.no (show ¬(i:Int)<0 by omega) ⟨_,Μ f,?_⟩;cases k:B.t[i].done with
  |true=>exact Cq.wp.yes k (a false _ (by show false = !B.t[i].done;rw[k];rfl))
  |false=>exact Cq.wp.no (by rw[k];decide) (a true _ (by show true = !B.t[i].done;rw[k];rfl))
theorem ZpC{l:Ŀ Zt}(h:∀x∈l,jZ x):(Jl l).Α true:=by
 obtain⟨B,j,c,r⟩:=Zu7 h;refine⟨true,Zn5,Cq.wp.no ĳ ⟨B,j,_,RF c ŉ,Cq.eM (Zw7 c ŉ) ?_⟩⟩;have p:=Sg B;have key:=y5 B.t.length ŉ (λ_=>true) (step:=λm=>match m with|v11_1=>if v11_1<(B.t.length:Int)then(Cq.Θ B.t v11_1 λi=>Cq.next (Jg (fR B) i (false,0)) λq=>match q with|v13_1=>O9 B v11_1 i v13_1)else(Cq.ret (.inr (.inr ())))) (λk f=>by
  have n:=c.can _ (Ă f);refine Cq.wp.yes ŉ ⟨_,Μ f,Cq.eM (Zzf ŉ _) ⟨_,(AK _).1,Cq.eM (Zyk c ŉ n.ck) ?_⟩⟩;rw[Zxj c (Ă f)];have g:hU B B.t[k]=(!B.t[k].done&&decide (B.t[k].υ<=12)&&sA B B.t[k]):=rfl;by_cases a:B.t[k].done=true
  .refine Cq.wp.yes a (Cq.wp.no (λe=>e ?_) rfl);rw[g,a];rfl
  refine Cq.wp.no a ?_;have a:B.t[k].done=false:=by simpa using a
  by_cases d:B.t[k].υ<=12
  .refine Cq.wp.yes d (Cq.wp.no (λe=>e ?_) rfl);rw[g,a,ă d,Bool.not_not];rfl
  refine Cq.wp.no d (Cq.wp.no (λe=>e ?_) rfl);rw[g,Ċ d,abO];rfl) (Cq.wp.no ŉ rfl)
 have e:((List.range B.t.length).all λ_=>true)=true:=Ć.2 λ_ _=>rfl;rw[e]at key;exact Cq.eM key rfl
end Go.EL

