/- The law TaskSame holds for every input: a part of its proof (fT the code does, plain models, and fT they return). No condition. -/
import Derived.Test.YtepbagkffgddlaaGreatXS8gb
import Derived.Test.YtepbagkffgddlaaGreatXS8e
set_option linter.unusedVariables false
set_option linter.unusedSimpArgs false
namespace Go.Proofs.YtepbagkffgddlaaGreat
open Go.IntKind (i8 i16 i32 i64 u8 u16 u32 u64)
open Go.Proofs.Tryz
open Go Go.EL Go.RowKit Go.Proofs
set_option maxHeartbeats 4000000
set_option maxRecDepth 20000
instance iQ'{k n r}:SpcM ((Lb k n)) r (∀{f c d e m l},Cr 120 #[.agg ((Ω k f c d e)).toArray,ε m n l] (λG=>su G f c k.num.υ/\su G d e k.den.υ/\sl c' G m l n) (fU c' r)):=.mk λhr {f c d e m l}=>Ι
instance gF'{H K F O r}:SpcM ((Bi H K F O)) r (∀{s t},Cr 65 #[.agg ([ε s H.t t]).toArray,i' K,i' F,i' O] (λG=>sl (fP .i8 5) G s t H.t) (fU c' r)):=.mk λhr {s t}=>by
 refine Ρ ?_;intro w0 G0 ay b1 p1 an M aP hr E;refine WC.mC hr [1,2,3,4] [4] [] [] (λ(⟨q,m,p,o⟩:(Ŀ Za)×ŀ Addr×Nat×Int)=>⟨(q,o),[(9,ε m q p),(10,i' o)],λQ=>sl c' Q m p q,[]⟩) (λ(⟨W,Y,L⟩:(Ŀ Za)×ŀ Addr×Nat)=>⟨W,[(9,ε Y W L)],λah=>sl c' ah Y L W,[]⟩) ⟨[],p1,0,0⟩ ?_;rintro _ Q ⟨q,m,p,o⟩ n ad hr;refine WC.nB hr [1,2,3,4,9,10] [4] (λ(_:Unit)=>⟨[],Rh H K F q o,tr,[]⟩) ?_;intro T _ hr I _;refine Ρ ?_;intro U hr;refine WC.mB hr [1,2,3,4,9,10,11] [4] [1,2,3,4,9,10,11] [4] (λ(⟨y,l,P⟩:Int×Int×(Fin 8->Int))=>⟨(y,l,P),[(12,i' y),(13,i' l)],tr,[(11,û U (Ó P) 145)]⟩) (λ(J:(Fin 8->Int))=>⟨J,[],tr,[(11,û U (Ó J) 145)]⟩) ⟨F,0,(λ_=>0)⟩ ?_;intro am J hr S _;refine b'<|fM [tt,ff,ff,ff,ff,ff,ff,ff,ff,ff,ff,ff] eR İ λhb=>uC z (k' z)<|cn (λ_ j=>Y0.VC z)<|cn (λ_ j=>n' 4 Dg z z z)<|fO z ?_
 obtain⟨x1,x,hr⟩:=hr;have a:=mx (mx (mx M n) I) S;refine cn (λ_ j=>kf fY' wE ((E.mono a).mono j) z z x)<|cn (λ_ j=>V6 underlying197 ta z z ĳ)<|cn (λ_ j=>nw sQ z (GL (T' (T' (iM E x) a) j) ĳ))<|cn (λ_ j=>vU z z ĳ)<|cn (λ_ j=>oB V7 dw' z)<|oE hr λu aE hr=>qH (post:=eA u) (λ_=>z) (λ_ _=>x' D1 z) (GK.h aE) z (λG' j=>trivial) (λv X G2 j h=>?_) ?_
 .obtain⟨ac,aa,V,Z,rfl,B,A⟩:=h;exact⟨_,_,_,_,z,B.mono j,A.mono j⟩
 refine oE hr λk aF hr=>qH (post:=eA k) (λ_=>z) (λ_ _=>x' D1 z) (GK.h aF) z (λG' j=>trivial) (λv X G2 j h=>?_) ?_
 .obtain⟨c,g,f,i,rfl,D,C⟩:=h;exact⟨_,_,_,_,z,D.mono j,C.mono j⟩
 refine cu (λ_ _ j=>y' 11 GG z z (U' _ _ _))<|GM (d:=67) (post:=eA k) (d':=66) (post':=eA u) (λa4 a5 ba af al ai=>?_)
 obtain⟨c,g,f,i,rfl,D,C⟩:=al;obtain⟨ac,aa,V,Z,rfl,B,A⟩:=ai;refine Δ (l5 (vs:=#[(0,.agg ((Ω k c g f i)).toArray),(1,.agg (Ó J).toArray)]) (v:=.agg (((Ω k c g f i):Ŀ Value)++(Ó J)).toArray) z z (λ_=>İ))<|mU (e:=147) (r:=c') (vs:=#[(0,.agg (((Ω k c g f i):Ŀ Value)++(Ó J)).toArray)]) (cs:=(((Ω k c g f i):Ŀ Value)++(Ó J))++([])) ([(Za.mk k J)]:Ŀ Za) z z z z z ĳ (λ_=>İ) ⟨((Ω k c g f i):Ŀ Value)++(Ó J),[],z,⟨(Ω k c g f i),Ó J,z,⟨(η k.num c g),(η k.den f i),z,⟨[.bool k.num.neg],[ε c k.num.υ g],z,z,⟨_,z,D⟩⟩,⟨[.bool k.den.neg],[ε f k.den.υ i],z,z,⟨_,z,C⟩⟩⟩,z⟩,z⟩ (key:=999) z (by rw[ay];rfl) (λp2 bc R aQ=>?_)
 refine oE hr λbb aK hr=>gd z z (x' H2 z) (iQ'.h aK) z (⟨(B.mono R),(A.mono R),aQ⟩) (λa0 a9 N ak=>?_);obtain⟨aZ,a6,rfl,aD⟩:=ak;refine oE hr λaM aC hr=>gd z z (x' zS z) (WT.h aC) z (⟨(ad.mono (mx (mx (mx (mx I S) af) R) N)),aD⟩) (λa3 aT ar aj=>?_);obtain⟨aI,aH,rfl,aG⟩:=aj;have N2:=mx (mx (mx (mx (mx (mx n I) S) af) R) N) ar;exact Ι
instance iY'{x r}:SpcM ((FX x)) r (∀{Y V F H},Cr 63 #[.agg ((OL x Y V F H)).toArray] (λG=>sl tP G Y V x.l/\sl (Rp.int .u8) G F H x.ik) (DQ r)):=.mk λhr {Y V F H}=>by
 refine Ρ ?_;intro w0 G0 _ aw al b1 b2 _ aH S bb hr _;obtain⟨bg,hr⟩:=hr;refine WL.slice3 (r:=Rp.str) z z BS yo z bb z z z bg λp2 bd=>?_;refine è ?_;intro b3 hr;refine WC.mC (hH:=by exact⟨bd,(X' _ _),kX,(X' _ _),kX⟩) hr [1,2,4,5] [1,2] [2,5] [2] (λ(⟨R,f,k,l,g,p,q,A,d,o,n,t,c⟩:Int×(Ŀ Ĳ)×ŀ Addr×Nat×(Ŀ Zn)×ŀ Addr×Nat×ŀ Ow×(Ŀ Zn)×ŀ Addr×Nat×ŀ Ow×Int)=>⟨(R,f,g,d,c),[(6,i' R)],λa=>sl Rp.str a k l f/\sl vT a p q g/\Tok 2 194 (ε p g q) g.length A/\sl vT a o n d/\Tok 2 194 (ε o d n) d.length t,[(5,û b3 ([ε k f l,ε p g q,ε o d n,i' c]) 129),(310051,A),(310052,t)]⟩) (λ(⟨ac,ag,af,J,X,Z,ae,E,K,Q,U,ah⟩:(Ŀ Ĳ)×ŀ Addr×Nat×(Ŀ Zn)×ŀ Addr×Nat×ŀ Ow×(Ŀ Zn)×ŀ Addr×Nat×ŀ Ow×Int)=>⟨(ac,J,E,ah),[],λap=>sl Rp.str ap ag af ac/\sl vT ap X Z J/\Tok 2 194 (ε X J Z) J.length ae/\sl vT ap K Q E/\Tok 2 194 (ε K E Q) E.length U,[(5,û b3 ([ε ag ac af,ε X J Z,ε K E Q,i' ah]) 129),(310051,ae),(310052,U)]⟩) ⟨0,(([AJ,AI,AH].take (i64.wrap (Int.tmod x.n 4)).toNat).drop (0:Int).toNat),p2,(([AJ,AI,AH].take (i64.wrap (Int.tmod x.n 4)).toNat).drop (0:Int).toNat).length,[],none,0,none,[],none,0,none,1⟩ ?_;rintro _ a ⟨R,f,k,l,g,p,q,A,d,o,n,t,c⟩ C ⟨L,e,M,P,I⟩ hr;refine WC.nD hr [1,2,4,5,6] [1,2,5,310051,310052] (λ(_:Unit)=>⟨[],EV x R f g d c,tr,[]⟩) ?_ ?_
 .refine sr<|θ z<|Δ (Y0.VB z)<|Δ (n' 1 yj z z z)<|Δ (P' fd' (al.mono (mx S C)) z)<|dQ hr z (Z' z z) z (λbj hr=>?_) (λbj hr=>?_)
  .refine Ρ ?_;intro _ hr;refine og ⟨a,f,k,l,g,p,q,A,d,o,n,t,c⟩ ⟨hr,C,L,e,M,P,I⟩ (Å z) (w4 z z z z)
  refine Ρ ?_;intro hr;refine og ⟨a,f,k,l,g,p,q,A,d,o,n,t,c⟩ ⟨hr,C,L,e,M,P,I⟩ (Å z) (w4 z z z z)
 intro ao _ hr y _;refine o'<|Y'<|sr<|Υ z<|WC.nB hr [1,2,4,5,6] [1,2,5,310051,310052] (λ(m:Int)=>⟨[(7,i' m)],EU x R f g d c m,tr,[]⟩) ?_
 intro aG m hr D _;refine o'<|fM [ff,ff,ff,ff,ff,ff,ff,ff,ff,ff,ff,ff,ff] eR İ λhb=>cn (λ_ s=>B9 z)<|cn (λ_ s=>n' 5 eM z z z) ?_
 refine è ?_;intro _ _ _ _ _ _ _ _ _ B hr _;refine km (φ:=λG v=>∃p3 T,v=.agg ([i' (i64.wrap (c+m)),ε p3 B T]).toArray/\sl c' G p3 T B) (λ_=>z) (λv G1 G2 s h=>?_) (λu G' s hu=>?_) ?_
 .obtain⟨p3,T,rfl,aA⟩:=h;exact⟨_,_,z,aA.mono s⟩
 .obtain⟨⟨j,i,aM,ar⟩,_⟩:=(show(fU c' B) G'.m (u 55)/\True from hu);simp only[ς,aM];exact⟨_,l5 (vs:=#[(0,i' (i64.wrap (c+m))),(1,ε j B i)]) (v:=.agg ([i' (i64.wrap (c+m)),ε j B i]).toArray) z z (λ_=>İ),j,i,z,ar⟩
 refine kJ (λ_=>z) z194<|GR (λbA bs bt X1 W aJ aE aC=>?_)
 obtain⟨b4,rfl,aU⟩:=aJ;obtain⟨p3,T,rfl,aA⟩:=aE;obtain⟨j,i,rfl,ar⟩:=aC;refine pQ aU (l7 (show WL _ _ _ _ _ _ (St w0 G0 X1.m _)from ?_));refine fZ 8 oa z<|t'<|Λ<|b'<|o' ?_
 refine è ?_;intro hr;refine I' hr z (λbk hr=>?_) (λbk hr=>?_)
 .refine Ρ ?_;intro _ _ aj a8 hr;obtain⟨aT,hr⟩:=hr;have N:=mx (mx (mx y D) W) aj;refine jP (r:=vT) 310052 z z vM vW z ĳ z z (P.mono N) z (by rw[aw];rfl) I a8 aT λp5 aF a3 bc au bi a0=>Δ (GS z)<|qJ 5 ([ε k f l,ε p g q,.slice p5 (d++[(Zn.mk (i64.wrap (c+m)) B)]).length aF,i' c]).toArray z wB z z z (show 2<4 by decide) z z ?_
  refine è ?_;intro hr;refine N' ⟨bc,i64.wrap (R+1),f,k,l,g,p,q,A,(d++[(Zn.mk (i64.wrap (c+m)) B)]),p5,aF,a3,i64.wrap ((i64.wrap (c+m))+1)⟩ hr ⟨(mx (mx (mx (mx (mx C y) D) W) aj) au),(L.mono (mx N au)),(e.mono (mx N au)),M,bi,a0⟩ (Å z) (w5 z z z z z)
 refine Ρ ?_;intro _ _ ak a6 hr;obtain⟨aZ,hr⟩:=hr;have O:=mx (mx (mx y D) W) ak;refine jP (r:=vT) 310051 z z vM vW z ĳ z z (e.mono O) z (by rw[aw];rfl) M a6 aZ λp7 aK aS bh aq a9 aX=>Δ (GU z)<|qJ 5 ([ε k f l,.slice p7 (g++[(Zn.mk (i64.wrap (c+m)) B)]).length aK,ε o d n,i' c]).toArray z wB z z z (show 1<4 by decide) z z ?_
 refine è ?_;intro hr;refine N' ⟨bh,i64.wrap (R+1),f,k,l,(g++[(Zn.mk (i64.wrap (c+m)) B)]),p7,aK,aS,d,o,n,t,i64.wrap ((i64.wrap (c+m))+1)⟩ hr ⟨(mx (mx (mx (mx (mx C y) D) W) ak) aq),(L.mono (mx O aq)),a9,aX,(P.mono (mx O aq)),I⟩ (Å z) (w5 z z z z z)
instance Wt{n A g r}:SpcM ((Be n A g)) r (∀{m l},Cr 202 #[ε m n l,i' A,i' g] (λG=>sl vT G m l n) (λG v=>v=.bool r)):=.mk λhr {m l}=>by
 refine Ρ ?_;intro F i _ _ hr e;refine WC.mC hr [0,1,2] [] [] [] (λ(k:Int)=>⟨k,[(7,i' k)],tr,[]⟩) (λ(_:Unit)=>⟨(.inr ()),[],tr,[]⟩) 0 ?_;intro _ f k d _ hr;refine o'<|sr<|θ z<|θ z<|Δ (P' vM (e.mono d) z)<|kv z<|nx<|I' hr z (λE hr=>?_) (λE hr=>?_)
 .exact q'<|b'<|o'<|Y'<|o'<|fM [ff,ff,ff,ff,ff,ff,ff,ff,ff,ff,ff,ff,ff,ff,ff,ff,ff,ff,ff,ff,ff,ff,ff,ff,ff,ff,ff,ff,ff,ff,ff,ff,ff,ff,ff,ff,ff,ff,ff,ff] eR İ λh=>fO z<|fO z<|oE hr λa t hr=>cn (λ_ c=>kf vM oa ((e.mono d).mono c) z z t)<|cn (λ_ c=>M2 z)<|cn (λ_ c=>nw eM z (zy (T' (T' (r8 (nQ (iM e t))) d) c)))<|Ι
 exact Ι
instance nG{c r}:SpcM ((AO c)) r (Cr 260 #[.int .u8 c] (λG=>True) (λG v=>v=.bool r)):=.mk λhr=>by
 refine Ρ ?_;intro _ _ _ _ _ hr _;refine Ê (M' z z) z<|Ê (M' z z) z<|sf z z z<|Κ z<|Υ z<|m' (Û hr z z)
instance iZ'{e r}:SpcM ((FN e)) r (Cr 203 #[.string e] (λG=>True) (λG v=>v=.bool r)):=.mk λhr=>by
 refine è ?_;intro k h _ hr _;refine WC.nB hr [0] [] (λ(_:Unit)=>⟨[],Rj e,tr,[]⟩) ?_;intro f _ hr I _;refine o'<|sr<|Υ z<|WC.mC hr [0] [] [] [] (λ(g:Int)=>⟨g,[(3,i' g)],tr,[]⟩) (λ(_:Unit)=>⟨(.inr ()),[],tr,[]⟩) 1 ?_
 intro _ d g c _ hr;refine o'<|sr<|θ z<|θ z<|Δ (Y0.CP xN z)<|kv z<|nx<|I' hr z (λH hr=>?_) (λH hr=>?_)
 .refine q'<|b'<|o'<|Y'<|sr<|θ z<|θ z<|oA hr λn hr=>Δ (eJ' (s:=e) xN z z n)<|oE hr λt m hr=>H' z z (x' IG z) (nG.h m) z (trivial) ?_
  cases t
  .exact Ι
  exact Δ (kE z)<|θ z<|ib z<|Ê (M' z z) z<|Ê (M' z z) z<|Ê (M' z z) z<|Ê (M' z z) z<|yl z<|ο z<|θ z<|nJ z<|ο z<|nx<|tM z<|Ι
 exact Ι
instance iR'{j r}:SpcM ((Fo j)) r (∀{d c i h f e},Cr 116 #[.agg ((ts j d c i h f e)).toArray] (λG=>DU G d c i h f e j) (λG v=>v=.bool r)):=.mk λhr {d c i h f e}=>by
 refine J' (args:=[_]) (N:=96) func116 z z z (λJ C au K=>?_);obtain⟨k,p,m⟩:=K;refine sr<|jO 1 z z z λu=>Ö z<|nr<|Δ (GV z)<|Δ (n' 1 n9 z z z)<|Δ (P' BS k z)<|Υ z<|WC.nD hr [1,3] [1] (λ(_:Unit)=>⟨[],Qv j,tr,[]⟩) ?_ ?_
 .refine sr<|θ z<|dQ hr z (vI z z) z (λal hr=>?_) (λal hr=>?_)
  .refine θ z<|fK z<|Κ z<|θ z<|fK z<|Κ z<|θ z<|q0 z<|Κ z<|θ z<|q0 z<|Κ z<|nx<|oh z<|sr<|Υ z<|m'<|a' (Û hr z z)
  refine θ z<|gy z z (B9 z) z<|gy z z (n' 1 eM z z z) z<|dQ hr (C' z z) (Z' z z) z (λai hr=>?_) (λai hr=>?_)
  .refine ο z<|θ z<|fK z<|Κ z<|θ z<|q0 z<|Κ z<|θ z<|q0 z<|Κ z<|nx<|oh z<|sr<|Υ z<|m'<|a' (Û hr z z)
  refine ο z<|θ z<|gy z z (B9 z) z<|gy z z (n' 1 eM z z z) z<|dQ hr (C' z z) (vI z z) z (λam hr=>?_) (λam hr=>?_)
  .refine ο z<|θ z<|q0 z<|Κ z<|θ z<|q0 z<|Κ z<|nx<|oh z<|sr<|Υ z<|m'<|a' (Û hr z z)
  refine ο z<|θ z<|gy z z (GU z) z<|gy z z (n' 1 lV z z z) z<|kO z<|gy z z (B9 z) z<|gy z z (n' 1 eM z z z) z<|oE hr λad Y hr=>H' (C' z z) z (x' z6 z) (Wt.h Y) z (p) ?_
  cases ad
  .refine gy z z (kE z) z<|ο z<|θ z<|q0 z<|Κ z<|nx<|oh z<|sr<|Υ z<|m'<|a' (Û hr z z)
  refine gy z z (kE z) z<|ο z<|θ z<|gy z z (GS z) z<|gy z z (n' 1 lV z z z) z<|kO z<|gy z z (B9 z) z<|gy z z (n' 1 eM z z z) z<|oE hr λar a hr=>H' (C' z z) z (x' z6 z) (Wt.h a) z (m)<|gy z z (kE z) z<|ο z<|nx<|jM hr z (λaj hr=>?_) (λaj hr=>?_)
  .refine sr<|Υ z<|m'<|a' (Û hr z z)
  refine q'<|pF ⟨C,()⟩ ⟨hr,mr,trivial⟩ (Å z) (w1 z)
 intro E _ hr l _;refine o'<|sr<|Υ z<|WC.mD hr [1,3] [1] [1] [1] (λ(x:Int)=>⟨x,[(4,i' x)],tr,[]⟩) (λ(_:Unit)=>⟨(.inr ()),[],tr,[]⟩) 0 ?_ ?_
 .intro _ A x n _ hr;refine o'<|sr<|θ z<|θ z<|kv z<|nx<|I' hr z (λaf hr=>?_) (λaf hr=>?_)
  .refine q'<|b'<|o'<|Y'<|o'<|sr<|Υ z<|WC.mD hr [1,3,4] [1] [1,3,4] [1] (λ(F:Int)=>⟨F,[(5,i' F)],tr,[]⟩) (λ(_:Unit)=>⟨(.inr ()),[],tr,[]⟩) 0 ?_ ?_
   .intro _ L F s _ hr;refine o'<|sr<|θ z<|θ z<|kv z<|nx<|I' hr z (λak hr=>?_) (λak hr=>?_)
    .refine q'<|b'<|o'<|Y'<|o'<|fM [ff,ff,ff,ff,ff,ff,ff,ff,ff,ff] eR İ λZ=>cn (λ_ g=>GV z)<|cn (λ_ g=>n' 1 n9 z z z)<|fO z<|oE hr λx4 U hr=>cn (λ_ g=>kf BS yo ((k.mono (mx (mx l n) s)).mono g) z z U)<|cn (λ_ g=>nw Dh z (AtK.str (T' (T' (iM k U) (mx (mx l n) s)) g)))<|cn (λ_ g=>GV z)<|cn (λ_ g=>n' 1 n9 z z z)<|fO z<|oE hr λx5 W hr=>cn (λ_ g=>kf BS yo ((k.mono (mx (mx l n) s)).mono g) z z W)<|cn (λ_ g=>nw Dh z (AtK.str (T' (T' (iM k W) (mx (mx l n) s)) g)))<|pE Z<|Δ (Y0.uF xN z z)<|t'<|Λ<|b'<|I' hr z (λag hr=>?_) (λag hr=>?_)
     .refine sr<|Υ z<|m'<|g'<|a'<|a'<|g'<|mX<|a'<|g'<|a'<|a'<|g'<|mX<|a' (Û hr z z)
     refine q'<|E'<|b'<|w'<|θ z<|iP z<|Ö z<|t'<|N' ⟨L,i64.wrap (F+1)⟩ hr ⟨s,trivial⟩ (Å z) (w1 z)
    refine nz<|p'<|p'<|K'<|og ⟨L,()⟩ ⟨hr,s,trivial⟩ (Å z) (w1 z)
   intro O _ hr I _;refine b'<|sr<|Δ (GV z)<|Δ (n' 1 n9 z z z)<|θ z<|oE hr λx3 S hr=>Δ (kf BS yo (k.mono (mx (mx l n) I)) z z S)<|Δ (nw Dh z (AtK.str (T' (iM k S) (mx (mx l n) I))))<|oE hr λaq X hr=>H' z z (x' Iq z) (iZ'.h X) z (trivial)<|Δ (kE z)<|nx<|jM hr z (λae hr=>?_) (λae hr=>?_)
   .refine sr<|Υ z<|m'<|g'<|a'<|a'<|g'<|mX<|a' (Û hr z z)
   refine q'<|E'<|b'<|w'<|θ z<|iP z<|Ö z<|t'<|N' ⟨O,i64.wrap (x+1)⟩ hr ⟨(mx n I),trivial⟩ (Å z) (w1 z)
  refine nz<|p'<|p'<|K'<|og ⟨A,()⟩ ⟨hr,n,trivial⟩ (f1 z) (w1 z)
 intro D _ hr t _;refine b'<|o'<|sr<|Υ z<|WC.mD hr [1] [1] [] [] (λ(y:Int)=>⟨y,[(6,i' y)],tr,[]⟩) (λ(_:Unit)=>⟨(.inr ()),[],tr,[]⟩) 0 ?_ ?_
 .intro _ B y o _ hr;refine o'<|sr<|θ z<|Δ (GU z)<|Δ (n' 1 lV z z z)<|Δ (P' vM (p.mono (mx (mx l t) o)) z)<|kv z<|nx<|I' hr z (λao hr=>?_) (λao hr=>?_)
  .refine q'<|b'<|o'<|Y'<|sr<|Υ z<|WC.mD hr [1,6] [1] [1,6] [1] (λ(H:Int)=>⟨H,[(7,i' H)],tr,[]⟩) (λ(_:Unit)=>⟨(.inr ()),[],tr,[]⟩) 0 ?_ ?_
   .intro _ M H q _ hr;refine o'<|sr<|θ z<|Δ (GS z)<|Δ (n' 1 lV z z z)<|Δ (P' vM (m.mono (mx (mx (mx l t) o) q)) z)<|kv z<|nx<|I' hr z (λah hr=>?_) (λah hr=>?_)
    .refine q'<|b'<|o'<|Y'<|o'<|fM [ff,ff,ff,ff,ff,ff,ff,ff,ff,ff,ff,ff] eR İ λZ=>cn (λ_ g=>GU z)<|cn (λ_ g=>n' 1 lV z z z)<|fO z<|oE hr λx1 V hr=>cn (λ_ g=>kf vM oa ((p.mono (mx (mx (mx l t) o) q)).mono g) z z V)<|cn (λ_ g=>M2 z)<|cn (λ_ g=>nw eM z (zy (T' (T' (r8 (nQ (iM p V))) (mx (mx (mx l t) o) q)) g)))<|cn (λ_ g=>GS z)<|cn (λ_ g=>n' 1 lV z z z)<|fO z<|oE hr λx2 T hr=>cn (λ_ g=>kf vM oa ((m.mono (mx (mx (mx l t) o) q)).mono g) z z T)<|cn (λ_ g=>M2 z)<|cn (λ_ g=>nw eM z (zy (T' (T' (r8 (nQ (iM m T))) (mx (mx (mx l t) o) q)) g)))<|pE Z<|Δ (eB z z)<|t'<|Λ<|b'<|I' hr z (λan hr=>?_) (λan hr=>?_)
     .refine sr<|Υ z<|m'<|g'<|a'<|a'<|g'<|mX<|g'<|a'<|a'<|g'<|mX<|a' (Û hr z z)
     refine q'<|E'<|b'<|w'<|θ z<|iP z<|Ö z<|t'<|N' ⟨M,i64.wrap (H+1)⟩ hr ⟨q,trivial⟩ (Å z) (w1 z)
    refine nz<|p'<|p'<|K'<|og ⟨M,()⟩ ⟨hr,q,trivial⟩ (Å z) (w1 z)
   intro P _ hr R _;refine E'<|b'<|w'<|θ z<|iP z<|Ö z<|t'<|N' ⟨P,i64.wrap (y+1)⟩ hr ⟨(mx o R),trivial⟩ (Å z) (w1 z)
  refine nz<|p'<|p'<|K'<|og ⟨B,()⟩ ⟨hr,o,trivial⟩ fn (wk ln)
 intro Q _ hr ap _;refine b'<|sr<|Υ z<|m' (Û hr z z)
instance l8{E r}:SpcM ((Fm E)) r (∀{B y},Cr 117 #[ε B E y] (λG=>sl vT G B y E) (fU (Rp.sl c') r)):=.mk λhr {B y}=>by
 refine Ρ ?_;intro Q P x p1 u _ S hr _;refine WC.mC (hH:=by exact⟨S,kX⟩) hr [0] [] [] [] (λ(⟨c,g,d,f,D⟩:(Ŀ (Ŀ Za))×ŀ Addr×Nat×ŀ Ow×Int)=>⟨(c,D),[(3,ε g c d),(4,i' D)],λn=>sq n g d c/\Tok 1 50 (ε g c d) c.length f,[(1003,f)]⟩) (λ(⟨i,k,j,l⟩:(Ŀ (Ŀ Za))×ŀ Addr×Nat×ŀ Ow)=>⟨i,[(3,ε k i j)],λp=>sq p k j i/\Tok 1 50 (ε k i j) i.length l,[(1003,l)]⟩) ⟨[],p1,0,none,0⟩ ?_;rintro _ n ⟨c,g,d,f,D⟩ h ⟨s,o⟩ hr;refine Ρ ?_;intro _ A _ _ _ _ _ _ _ _ _ q V hr _;refine oA hr λL hr=>jP (r:=(Rp.sl c')) 1003 z z jN js z ĳ z z (s.mono q) z (by rw[x];rfl) o V L λp4 O M T C Z J=>Ö z<|t'<|E'<|b'<|w'<|θ z<|iP z<|Ö z<|t'<|N' ⟨T,(c++[A.p]),p4,O,M,i64.wrap (D+1)⟩ hr ⟨(mx (mx h q) C),Z,J⟩ (Å z) (w1 z)
instance ja'{Q r}:SpcM ((LA Q)) r (∀{m o C B p s},Cr 62 #[.agg ((ts Q m o C B p s)).toArray] (λG=>DU G m o C B p s Q) (l1 r)):=.mk λhr {m o C B p s}=>by
 refine è ?_;intro _ _ _ _ _ _ _ _ _ hr _;refine o' ?_;refine è ?_;intro _ hr _;refine jM hr z (λy hr=>?_) (λy hr=>?_)
 .exact Ι
 refine q'<|b'<|o'<|fM [ff,ff,ff,ff,ff,ff,ff,ff,ff,ff,ff,tt] eR İ λhb=>?_
 refine è ?_;intro K _ R hr _;refine oE hr λA X hr=>mh (f:=74) (φ:=l1 A) (λ_=>z) (λv n Z c h=>?_) (λu E c a=>?_) ?_
 .obtain⟨l,k,j,g,rfl,e,d⟩:=h;exact⟨_,_,_,_,z,e.mono c,d.mono c⟩
 .obtain⟨⟨O,P,V,t⟩,⟨L,M,U,x⟩,_⟩:=(show(fU (Rp.sl c') R) E.m (u 17)/\(fU (Rp.sl c') K) E.m (u 14)/\True from a);exact⟨_,_,_,λ_=>x' Yj z,gW'.h X,(by simp only[V,U]<;>rfl),⟨x,t⟩⟩
 refine γ.ni (kk:=18) (φ:=u9 A.1) İ (λ_=>z) (λv n Z c h=>?_) (λu E c a=>?_) ?_
 .obtain⟨p1,af,p2,q,rfl,S,T⟩:=h;exact⟨_,_,_,_,z,S.mono c,T.mono c⟩
 .obtain⟨⟨l,k,j,g,D,e,d⟩,_,_,_⟩:=(show(l1 A) E.m (u 18)/\True/\True/\True from a);exact⟨_,_,D,(by simp only[ς,D]<;>rfl),z,l,k,j,g,z,e,d⟩
 refine γ.th (d0:=19) (post0:=u9 A.1) (d1:=18) (post1:=l1 A) (d2:=17) (post2:=fU (Rp.sl c') R) (d3:=14) (post3:=fU (Rp.sl c') K) (λY W am an ap N F I H J=>?_);obtain⟨p1,af,p2,q,rfl,S,T⟩:=F;obtain⟨l,k,j,g,rfl,e,d⟩:=I;obtain⟨O,P,rfl,t⟩:=H;obtain⟨L,M,rfl,x⟩:=J;refine ju z<|fZ 2 rl z<|Ö z<|t'<|Λ<|b'<|m' ?_
 obtain rfl:_=r:=hr;exact uw z (kD (i:=2) l6 z z z) z ⟨_,_,_,_,z,S,T⟩
instance Wn{e r}:SpcM ((y3 e)) r (∀{g f d c j h n m},Cr 25 #[.agg ((pg e g f d c j h n m)).toArray] (λG=>sl tP G g f e.c.l/\sl (Rp.int .u8) G d c e.c.ik/\sl (fP .i8 5) G j h e.p.t/\sl xU G n m e.l) (u9 r)):=.mk λhr {g f d c j h n m}=>Ι
instance jl'{r}:SpcM ((Uz)) r (Cr 121 #[] (λG=>True) (fU (fP .i64 8) r)):=.mk λhr=>Ι
instance oo{r}:SpcM ((E9)) r (Cl 122 #[] [] (λG=>True) (λG L v=>∃m g c,L=[(7000,c)]/\v=ε m r g/\Ε (fP .i64 8) 71 G (ε m r g) r c)):=.mk λhr=>by
 refine rk (args:=[]) (N:=3) func122 z z z λn k h o=>sr<|Ö z<|nr<|Δ (l5 (vs:=#[(0,i' 1),(1,i' 1),(2,i' 1),(3,i' 1),(4,i' 1),(5,i' 1),(6,i' 1),(7,i' 1)]) (v:=.agg (Ó (ζ (ζ (ζ (ζ (ζ (ζ (ζ (ζ (λ_=>0) 0 1) 1 1) 2 1) 3 1) 4 1) 5 1) 6 1) 7 1)).toArray) z z (λ_=>İ))<|WL.sD (e:=71) (r:=(fP .i64 8)) (vs:=#[(0,.agg (Ó (ζ (ζ (ζ (ζ (ζ (ζ (ζ (ζ (λ_=>0) 0 1) 1 1) 2 1) 3 1) 4 1) 5 1) 6 1) 7 1)).toArray)]) (cs:=(Ó (ζ (ζ (ζ (ζ (ζ (ζ (ζ (ζ (λ_=>0) 0 1) 1 1) 2 1) 3 1) 4 1) 5 1) 6 1) 7 1))++([])) ([ζ (ζ (ζ (ζ (ζ (ζ (ζ (ζ (λ_=>0) 0 1) 1 1) 2 1) 3 1) 4 1) 5 1) 6 1) 7 1]:Ŀ (Fin 8->Int)) 4002 z z z z z ĳ (λ_=>İ) ⟨Ó (ζ (ζ (ζ (ζ (ζ (ζ (ζ (ζ (λ_=>0) 0 1) 1 1) 2 1) 3 1) 4 1) 5 1) 6 1) 7 1),[],z,z,z⟩ λp d l=>Υ z<|m' ?_
 obtain rfl:_=r:=hr;refine mN (S':=St n k k [(7000,d)]) ?_ ?_
 .intro w f;have f:=f.Þ (i:=4002) (j:=7000) z (by rw[h];rfl);exact f.weaken (lc z ln)
 exact j' z z ⟨_,_,_,z,z,l⟩
instance gL'{r}:SpcM ((ES)) r (Cr 123 #[] (λG=>True) (fU (fP .i64 8) r)):=.mk λhr=>by
 refine Ρ ?_;intro K P g hr _;have a:=tU (w0:=K);refine oE hr λO M hr=>mO z z (x' zT z) (oo.h M) z (trivial) ln a (λp t m d s=>?_);obtain⟨I,H,B,rfl,rfl,F⟩:=s;refine mm (λw x=>x.Þ (i:=7000) (j:=4003) z (by rw[g];rfl))<|Υ z<|o'<|sr<|Υ z<|ny (X:=(Ŀ (Fin 8->Int))×ŀ Addr×Nat×ŀ Ow×Int×Mem) hr (λ⟨k,q,l,c,A,f⟩=>⟨(k,A),[(1,ε q k l),(2,i' A)],Mem.le t f/\Ε (fP .i64 8) 71 f (ε q k l) k c,St K P f [(4001,c)]⟩) (λ(⟨v,u,y,h,n⟩:(Ŀ (Fin 8->Int))×ŀ Addr×Nat×ŀ Ow×Mem)=>⟨v,[(1,ε u v y)],Mem.le t n/\Ε (fP .i64 8) 71 n (ε u v y) v h,St K P n [(4001,h)]⟩) ⟨O,I,H,B,7,t⟩ z (Å z) ⟨mr,F⟩ ?_ ?_ ?_
 .intro w x;have x:=x.Þ (i:=4003) (j:=4001) z (by rw[g];rfl);exact x.weaken (lc z ln)
 .rintro _ ⟨k,q,l,c,A,f⟩ ⟨o,C⟩ hr;exact Ι
 rintro⟨v,u,y,h,n⟩ ⟨hr,W,R⟩;refine Ρ ?_;intro hr;obtain rfl:_=r:=hr;refine uD (r:=(fP .i64 8)) (e:=71) 4001 R z (by rw[g];rfl) λD J Z E Y=>j' z z ⟨_,_,z,E⟩
instance jn'{c d r}:SpcM ((Vo c d)) r (Cr 209 #[.int .u8 c,i' d] (λG=>True) (λG v=>v=.bool r)):=.mk λhr=>Ι
instance il{i r}:SpcM ((Jg i)) r (Cr 124 #[.int .u8 i] (λG=>True) (fU (fP .i64 8) r)):=.mk λhr=>by
 refine Ρ ?_;intro D k L q hr _;refine WC.mB hr [0,3] [] [3] [] (λ(⟨j,c⟩:Int×(Fin 8->Int))=>⟨(j,c),[(4,i' j)],tr,[(3,û q (Ó c) 71)]⟩) (λ(d:(Fin 8->Int))=>⟨d,[],tr,[(3,û q (Ó d) 71)]⟩) ⟨0,(λ_=>0)⟩ ?_;intro p d hr P _;refine b'<|o'<|fM [ff,ff,ff] eR İ λv=>cn (λ_ m=>y' 3 r0 z z (U' _ _ _))<|γ.nl (r:=(fP .i64 8)) (e:=71) ([d]:Ŀ (Fin 8->Int)) (λ_=>z) z ĳ (λu U m E=>?_) ?_
 .exact⟨#[(0,.agg (Ó d).toArray)],(Ó d)++([]),z,z,λ_=>by kernel_rfl,⟨Ó d,[],z,z,z⟩⟩
 refine Ρ ?_;intro _ hr _;refine γ.nt (λg V a T o n=>?_);obtain⟨y,B,rfl,l⟩:=o;refine WL.kH n (λZ Y R t C W=>?_);subst t;refine l7 (show WL _ _ _ _ _ _ (St D k a.m _)from ?_);refine oA hr λF hr=>GN (r:=(fP .i64 8)) (e:=71) 16 z z tH nX z ĳ z z C z l F λp1 s f M=>Ö z<|t'<|Λ<|b'<|m' ?_
 obtain rfl:_=r:=hr;refine uD (r:=(fP .i64 8)) (e:=71) 16 M z (by rw[L];rfl) λaf h S H Q=>j' z z ⟨_,_,z,H⟩
instance hJ'{f r}:SpcM ((xB f)) r (Cr 66 #[.int .u8 f] (λG=>True) (fU (fP .i64 8) r)):=.mk λhr=>by
 refine è ?_;intro H n d hr _;have g:=tU (w0:=H);refine I' hr z (λL hr=>?_) (λL hr=>?_)
 .exact Ι
 refine sr<|Δ (eB z z)<|Υ z<|I' hr z (λF hr=>?_) (λF hr=>?_)
 .refine sr<|oE hr λt o hr=>mO z z (x' zT z) (oo.h o) z (trivial) ln g (λp v k U l=>?_)
  obtain⟨Y,Z,P,rfl,rfl,A⟩:=l;refine mm (λw a=>a.Þ (i:=7000) (j:=4010) z (by rw[d];rfl))<|pP (r:=(fP .i64 8)) (e:=71) 4010 A z (by rw[d];rfl) λq x R s Q=>Υ z<|m'<|g'<|a' ?_
  obtain rfl:_=r:=hr;exact j' z z ⟨_,_,z,s⟩
 refine WC.nD hr [0,4] [] (λ(c:Bool)=>⟨[(11,.bool c)],ET f c,tr,[]⟩) ?_ ?_
 .refine sr<|Δ (eB z z)<|Υ z<|I' hr z (λJ hr=>?_) (λJ hr=>?_)
  .exact Ι
  exact Ι
 intro m c hr M _;refine jM hr z (λC hr=>?_) (λC hr=>?_)
 .exact Ι
 refine sr<|Δ (eB z z)<|Υ z<|I' hr z (λE hr=>?_) (λE hr=>?_)
 .refine Ρ ?_;intro _;refine mU (e:=71) (r:=(fP .i64 8)) (vs:=#[(0,.agg (Ó (ζ (ζ (ζ (ζ (ζ (ζ (ζ (ζ (λ_=>0) 0 2) 1 3) 2 1) 3 1) 4 1) 5 1) 6 1) 7 1)).toArray)]) (cs:=(Ó (ζ (ζ (ζ (ζ (ζ (ζ (ζ (ζ (λ_=>0) 0 2) 1 3) 2 1) 3 1) 4 1) 5 1) 6 1) 7 1))++([])) ([ζ (ζ (ζ (ζ (ζ (ζ (ζ (ζ (λ_=>0) 0 2) 1 3) 2 1) 3 1) 4 1) 5 1) 6 1) 7 1]:Ŀ (Fin 8->Int)) z z z z z ĳ (λ_=>İ) ⟨Ó (ζ (ζ (ζ (ζ (ζ (ζ (ζ (ζ (λ_=>0) 0 2) 1 3) 2 1) 3 1) 4 1) 5 1) 6 1) 7 1),[],z,z,z⟩ (key:=999) z (by rw[d];rfl) λp1 h S I=>?_;exact Ι
 refine Ρ ?_;intro _ hr;refine mU (e:=71) (r:=(fP .i64 8)) (vs:=#[(0,.agg (Ó (ζ (ζ (ζ (ζ (ζ (ζ (ζ (ζ (λ_=>0) 0 1) 1 1) 2 0) 3 0) 4 0) 5 0) 6 0) 7 0)).toArray),(1,.agg (Ó (ζ (ζ (ζ (ζ (ζ (ζ (ζ (ζ (λ_=>0) 0 1) 1 0) 2 2) 3 1) 4 1) 5 1) 6 1) 7 1)).toArray)]) (cs:=(Ó (ζ (ζ (ζ (ζ (ζ (ζ (ζ (ζ (λ_=>0) 0 1) 1 1) 2 0) 3 0) 4 0) 5 0) 6 0) 7 0))++((Ó (ζ (ζ (ζ (ζ (ζ (ζ (ζ (ζ (λ_=>0) 0 1) 1 0) 2 2) 3 1) 4 1) 5 1) 6 1) 7 1))++([]))) ([ζ (ζ (ζ (ζ (ζ (ζ (ζ (ζ (λ_=>0) 0 1) 1 1) 2 0) 3 0) 4 0) 5 0) 6 0) 7 0,ζ (ζ (ζ (ζ (ζ (ζ (ζ (ζ (λ_=>0) 0 1) 1 0) 2 2) 3 1) 4 1) 5 1) 6 1) 7 1]:Ŀ (Fin 8->Int)) z z z z z ĳ (λ_=>İ) ⟨Ó (ζ (ζ (ζ (ζ (ζ (ζ (ζ (ζ (λ_=>0) 0 1) 1 1) 2 0) 3 0) 4 0) 5 0) 6 0) 7 0),(Ó (ζ (ζ (ζ (ζ (ζ (ζ (ζ (ζ (λ_=>0) 0 1) 1 0) 2 2) 3 1) 4 1) 5 1) 6 1) 7 1))++([]),z,z,⟨Ó (ζ (ζ (ζ (ζ (ζ (ζ (ζ (ζ (λ_=>0) 0 1) 1 0) 2 2) 3 1) 4 1) 5 1) 6 1) 7 1),[],z,z,z⟩⟩ (key:=999) z (by rw[d];rfl) λp2 u T K=>Υ z<|m'<|g'<|a' ?_
 obtain rfl:_=r:=hr;exact j' z z ⟨_,_,z,K⟩
instance gH'{c F r}:SpcM ((yZ c F)) r (∀{m k e d h g q p u x n o},Cr 26 #[.agg ((pg c m k e d h g q p)).toArray,.agg ((Ã F u x n o)).toArray] (λG=>sl tP G m k c.c.l/\sl (Rp.int .u8) G e d c.c.ik/\sl (fP .i8 5) G h g c.p.t/\sl xU G q p c.l/\sq G u x F.eqs/\sq G n o F.δ) (λG v=>∃L P M Q,v=.agg ([i' r.kind,ε L r.p P,ε M r.o Q]).toArray/\sl c' G L P r.p/\sv G M Q r.o)):=.mk λhr {m k e d h g q p u x n o}=>by
 refine J' (args:=[_,_]) (N:=29) func26 z z z (λw0 W au Y=>?_);obtain⟨al,aa,K,an,ad,ab⟩:=Y;refine sr<|jO 2 z z z λb1=>jO 3 z z z λb2=>W' 4 z z54 z λb3=>nr<|Δ (Y0.ZAy z)<|Δ (n' 2 HN z z z)<|Δ (vU z z ĳ)<|Δ (oB Bw zv z)<|Δ (l5 (vs:=#[(0,i' (i64.wrap (Int.tmod c.kind 12)))]) (v:=.agg ([i' (i64.wrap (Int.tmod c.kind 12)),.slice none 0 0,.slice none 0 0]).toArray) z z (λ_=>İ))<|W' 5 z z54 z λb4=>fZ 5 ns z<|nx<|WC.nD hr [2,4,5] [2,4] (λ(⟨f,j,l,t,s⟩:Zb×ŀ Addr×Nat×ŀ Addr×Nat)=>⟨[],EH c f,λy=>sl c' y j l f.p/\sv y t s f.o,[(5,û b4 ([i' f.kind,ε j f.p l,ε t f.o s]) 54)]⟩) ?_ ?_
 .refine sr<|Δ (BJ z)<|Δ (n' 5 eM z z z)<|oE hr λar R hr=>H' z z (x' Yd z) (gm'.h R) z (trivial)<|nx<|jM hr z (λa hr=>?_) (λa hr=>?_)
  .refine w'<|Δ (Y0.ZAz z)<|Δ (R' ([ε h c.p.t g]).toArray 2 BB z z z (mK ([.int .u8 c.fT,.int .u8 c.c.n,ε m c.c.l k,ε e c.c.ik d,.int .u8 c.kind]) ([ε h c.p.t g]) ([.int .u8 c.o,ε q c.l p,i' c.id,i' c.tried])))<|Δ (qO z)<|Δ (n' 3 eM z z z)<|Δ (Y0.min2 z z)<|oE hr λO T hr=>gd z z (x' Ye z) (gF'.h T) z (K) (λap ai I B=>?_)
   obtain⟨D,E,rfl,S⟩:=B;exact Δ (vS z)<|qJ 5 ([i' (i64.wrap (Int.tmod c.kind 12)),ε D O E,.slice none 0 0]).toArray z oI z z z (show 1<3 by decide) z z<|Ι
  exact Ι
 rintro y ⟨f,j,l,t,s⟩ hr ak ⟨A,H⟩;refine o'<|sr<|Δ (BJ z)<|Δ (n' 5 eM z z z)<|Δ (eB z z)<|nx<|I' hr z (λaj hr=>?_) (λaj hr=>?_)
 .refine w'<|Δ (Y0.YE z)<|Δ (n' 2 HN z z z)<|oE hr λaf Z hr=>gd z z (x' Yf z) (hJ'.h Z) z (trivial) (λam aq J C=>?_)
  obtain⟨X,V,rfl,U⟩:=C;refine Δ (Wa z)<|qJ 5 ([i' f.kind,ε j f.p l,ε X af V]).toArray z Dz z z z (show 2<3 by decide) z z<|nr<|Δ (y' 5 qK z z z)<|fZ 4 ns z<|nx<|m' ?_
  obtain rfl:_=r:=hr;exact j' z (kD (i:=4) qK z z z) ⟨_,_,_,_,z,(A.mono J),U⟩
 refine q'<|b'<|sr<|Δ (y' 5 qK z z z)<|fZ 4 ns z<|nx<|m' ?_
 obtain rfl:_=r:=hr;exact j' z (kD (i:=4) qK z z z) ⟨_,_,_,_,z,A,H⟩
instance jb'{L U x l p r}:SpcM ((Lz L U x l p)) r (∀{H F},Cr 143 #[ε H L F,i' U,i' x,i' l,i' p] (λG=>sl tP G H F L) (fU (Rp.sl c') r)):=.mk λhr {H F}=>by
 refine Ρ ?_;intro w0 Z I p1 E _ e hr _;refine WC.mC (hH:=by exact⟨e,kX⟩) hr [0,1,2,3,4] [] [] [] (λ(⟨c,g,f,d,K⟩:(Ŀ (Ŀ Za))×ŀ Addr×Nat×ŀ Ow×Int)=>⟨(c,K),[(11,ε g c f),(12,i' K)],λo=>sq o g f c/\Tok 1 50 (ε g c f) c.length d,[(1011,d)]⟩) (λ(⟨i,k,j,m⟩:(Ŀ (Ŀ Za))×ŀ Addr×Nat×ŀ Ow)=>⟨i,[(11,ε k i j)],λA=>sq A k j i/\Tok 1 50 (ε k i j) i.length m,[(1011,m)]⟩) ⟨[],p1,0,none,0⟩ ?_;rintro _ o ⟨c,g,f,d,K⟩ h ⟨q,n⟩ hr;refine Ρ ?_;intro _ _ _ _ _ _ _ _ _ _ _ t _ B _ _ _ _ _ y u hr _;refine oA hr λV hr=>jP (r:=(Rp.sl c')) 1011 z z jN js z ĳ z z (q.mono (mx B y)) z (by rw[I];rfl) n u V λp3 Y R a J s Q=>Ö z<|t'<|E'<|b'<|w'<|θ z<|iP z<|Ö z<|t'<|N' ⟨a,(c++[t]),p3,Y,R,i64.wrap (K+1)⟩ hr ⟨(mx (mx (mx h B) y) J),s,Q⟩ (Å z) (w1 z)
instance gI'{I L V r}:SpcM ((xC I L V)) r (∀{E C},Cr 144 #[ε E I C,i' L,i' V] (λG=>sq G E C I) (fU (Rp.sl c') r)):=.mk λhr {E C}=>by
 refine Ρ ?_;intro w0 G0 o p1 y _ A hr _;refine WC.mC (hH:=by exact⟨A,kX⟩) hr [0,1,2] [] [] [] (λ(⟨c,h,f,g,B⟩:(Ŀ (Ŀ Za))×ŀ Addr×Nat×ŀ Ow×Int)=>⟨(c,B),[(7,ε h c f),(8,i' B)],λq=>sq q h f c/\Tok 1 50 (ε h c f) c.length g,[(1007,g)]⟩) (λ(⟨i,k,j,m⟩:(Ŀ (Ŀ Za))×ŀ Addr×Nat×ŀ Ow)=>⟨i,[(7,ε k i j)],λv=>sq v k j i/\Tok 1 50 (ε k i j) i.length m,[(1007,m)]⟩) ⟨[],p1,0,none,0⟩ ?_;rintro _ q ⟨c,h,f,g,B⟩ d ⟨p,n⟩ hr;refine o'<|sr<|θ z<|θ z<|kv z<|nx<|I' hr z (λK hr=>?_) (λK hr=>?_)
 .refine è ?_;intro hr;refine I' hr z (λs hr=>?_) (λs hr=>?_)
  .refine Ρ ?_;intro _ _ x _ _ _ t J hr;refine oA hr λW hr=>jP (r:=(Rp.sl c')) 1007 z z jN js z ĳ z z (p.mono (mx x t)) z (by rw[o];rfl) n J W λp4 Z Q af F N R=>Ö z<|t'<|E'<|b'<|w'<|θ z<|iP z<|Ö z<|t'<|N' ⟨af,(c++[[]]),p4,Z,Q,i64.wrap (B+1)⟩ hr ⟨(mx (mx (mx d x) t) F),N,R⟩ (Å z) (w1 z)
  refine Ρ ?_;intro D _ _ _ _ _ _ _ _ _ u a hr _;refine oA hr λS hr=>jP (r:=(Rp.sl c')) 1007 z z jN js z ĳ z z (p.mono u) z (by rw[o];rfl) n a S λp7 l U e H Y O=>Ö z<|t'<|E'<|b'<|w'<|θ z<|iP z<|Ö z<|t'<|N' ⟨e,(c++[D]),p7,l,U,i64.wrap (B+1)⟩ hr ⟨(mx (mx d u) H),Y,O⟩ (Å z) (w1 z)
 exact Ι
instance Wl{g i r}:SpcM ((ua g i)) r (∀{e d},Cr 145 #[ε e g d,i' i] (λG=>sl (Rp.int .i8) G e d g) (λG v=>v=i' r)):=.mk λhr {e d}=>by
 refine J' (args:=[_,_]) (N:=16) func145 z z z (λm o l h=>?_);have c:=h;refine sr<|Υ z<|o'<|sr<|θ z<|Δ (P' Nd c z)<|Δ (eB z z)<|nx<|I' hr z (λk hr=>?_) (λk hr=>?_)
 .refine sr<|Υ z<|m'<|a' (Û hr z z)
 refine q'<|b'<|sr<|θ z<|θ z<|θ z<|Δ (P' Nd c z)<|oA hr λj hr=>Δ (vU z z j)<|oE hr λn f hr=>Δ (kf Nd ta c z z f)<|Δ (nw sQ z (zy (iM c f)))<|Δ (oB V7 zv z)<|Υ z<|m' (Û hr z z)
instance hK'{H r}:SpcM ((xv H)) r (Cr 220 #[.agg ((DN H)).toArray] (λG=>True) (eA r)):=.mk λhr=>by
 refine J' (args:=[_]) (N:=49) func220 z z z λw0 G0 t k=>sr<|jO 1 z z z λQ=>W' 2 z rp z λW=>nx<|o'<|fM [ff,ff,ff,ff,ff,ff,ff,ff,ff,ff] eR İ λE=>cn (λ_ c=>Y0.ZzC z) ?_
 refine è ?_;intro u _ _ hr _;refine kJ (λ_=>z) vP<|kJ (λ_=>z) vP<|Nh (λv x y B a D M n K C=>?_)
 obtain⟨p,q,rfl,l⟩:=K;obtain⟨m,f,rfl,j⟩:=C;refine tQ M (λX g h=>?_);subst g;replace n:=B7 n ĳ h;refine tQ n (λO i s=>?_);subst i;refine l7 (show WL _ _ _ _ _ _ (St w0 G0 a.m _)from ?_);refine fZ 3 vL z<|fZ 4 vL z<|t'<|Λ<|b'<|WC.nA hr [1,2,3,4] [1,2,3] (λ(⟨o,d,e⟩:Zg×ŀ Addr×Nat)=>⟨[],QN H u o,λA=>su A d e o.υ,[(4,û X (η o d e) 118)]⟩)
instance jm'{v1 k1 r}:SpcM ((Mh v1 k1)) r (∀{aq am},Cr 146 #[ε aq v1 am,i' k1] (λG=>sl (Rp.int .i8) G aq am v1) (λG v=>∃zk zu,v=.agg (zk).toArray/\É iC 8 G zk zu r)):=.mk λhr {aq am}=>by
 refine Ρ ?_;intro w0 M _ a d hr _;refine ny (X:=Int×(Ŀ Zl)×Ŀ Value×Unit×Mem) hr (λ⟨i2,ar,ai,af,ap⟩=>⟨(i2,ar),[(0,ε aq v1 am),(1,i' k1),(4,iI a),(5,iI d),(6,i' i2)],Mem.le M ap/\É iC 8 ap ai af ar,St w0 M ap [(4,û a (jr) 225),(5,û d (ai) 225)]⟩) (λ(⟨aB,al,az,N⟩:(Ŀ Zl)×Ŀ Value×Unit×Mem)=>⟨aB,[(0,ε aq v1 am),(1,i' k1),(4,iI a),(5,iI d)],Mem.le M N/\É iC 8 N al az aB,St w0 M N [(4,û a (jr) 225),(5,û d (al) 225)]⟩) ⟨0,(List.replicate 8 (Zl.mk (Zf.mk (Zg.mk false []) (Zg.mk false [])) (Zf.mk (Zg.mk false []) (Zg.mk false [])))),jr,(),M⟩ z (Å z) ⟨mr,(show É iC 8 M jr () _ from zH (G:=M) (r:=iC) (n:=8) (zc:=[.bool false,.slice none 0 0,.bool false,.slice none 0 0,.bool false,.slice none 0 0,.bool false,.slice none 0 0]) (z:=(Zl.mk (Zf.mk (Zg.mk false []) (Zg.mk false [])) (Zf.mk (Zg.mk false []) (Zg.mk false [])))) ⟨[.bool false,.slice none 0 0,.bool false,.slice none 0 0],[.bool false,.slice none 0 0,.bool false,.slice none 0 0],z,⟨[.bool false,.slice none 0 0],[.bool false,.slice none 0 0],z,⟨[.bool false],[.slice none 0 0],z,z,⟨_,z,(X' _ _)⟩⟩,⟨[.bool false],[.slice none 0 0],z,z,⟨_,z,(X' _ _)⟩⟩⟩,⟨[.bool false,.slice none 0 0],[.bool false,.slice none 0 0],z,⟨[.bool false],[.slice none 0 0],z,z,⟨_,z,(X' _ _)⟩⟩,⟨[.bool false],[.slice none 0 0],z,z,⟨_,z,(X' _ _)⟩⟩⟩⟩)⟩ (w2 z z) ?_ ?_
 .rintro _ ⟨i2,ar,ai,af,ap⟩ ⟨aC,aw⟩ hr;refine o'<|sr<|θ z<|kv z<|nx<|I' hr z (λa8 hr=>?_) (λa8 hr=>?_)
  .refine Ρ ?_;intro D _ _ aj k t A y ae ah H ba P q B s x ac ag hr _;refine oE hr λx2 aR hr=>Δ (rn zI kd z z (ry (aw.mono (mx aj P)) aR))<|Ca (cs':=[.bool D.num.neg,ε k D.num.υ t,.bool D.den.neg,ε A D.den.υ y,.bool H.num.neg,ε q H.num.υ B,.bool H.den.neg,ε s H.den.υ x]) (z':=(Zl.mk D H)) 5 z kd z ĳ (aw.mono (mx aj P)) z z z z ⟨(Ω D k t A y),(Ω H q B s x),z,⟨(η D.num k t),(η D.den A y),z,⟨[.bool D.num.neg],[ε k D.num.υ t],z,z,⟨_,z,(ae.mono P)⟩⟩,⟨[.bool D.den.neg],[ε A D.den.υ y],z,z,⟨_,z,(ah.mono P)⟩⟩⟩,⟨(η H.num q B),(η H.den s x),z,⟨[.bool H.num.neg],[ε q H.num.υ B],z,z,⟨_,z,ac⟩⟩,⟨[.bool H.den.neg],[ε s H.den.υ x],z,z,⟨_,z,ag⟩⟩⟩⟩ aR λd2 bc=>t'<|E' ?_
   refine è ?_;intro hr;refine N' ⟨i64.wrap (i2+1),ar.set i2.toNat (Zl.mk D H),d2,af,ba⟩ hr ⟨(mx (mx aC aj) P),bc⟩ (Å z) (w2 z z)
  refine nz<|p'<|p'<|K'<|og ⟨ar,ai,af,ap⟩ ⟨hr,aC,aw⟩ (Å z) (w2 z z)
 rintro⟨aB,al,az,N⟩ ⟨hr,aA,aZ⟩;refine b'<|o'<|sr<|Υ z<|ny (X:=Int×(Ŀ Zl)×Ŀ Value×Unit×Mem) hr (λ⟨i1,au,ad,ak,ao⟩=>⟨(i1,au),[(0,ε aq v1 am),(1,i' k1),(4,iI a),(5,iI d),(7,i' i1)],Mem.le N ao/\É iC 8 ao ad ak au,St w0 M ao [(4,û a (jr) 225),(5,û d (ad) 225)]⟩) (λ(⟨aN,ax,aO,ab⟩:(Ŀ Zl)×Ŀ Value×Unit×Mem)=>⟨aN,[(4,iI a),(5,iI d)],Mem.le N ab/\É iC 8 ab ax aO aN,St w0 M ab [(4,û a (jr) 225),(5,û d (ax) 225)]⟩) ⟨0,aB,al,az,N⟩ z (Å z) ⟨mr,aZ⟩ (w2 z z) ?_ ?_
 .rintro _ ⟨i1,au,ad,ak,ao⟩ ⟨W,ay⟩ hr;refine o'<|sr<|θ z<|kv z<|nx<|I' hr z (λa6 hr=>?_) (λa6 hr=>?_)
  .refine Ρ ?_;intro aT hr _;refine Δ (l5 (vs:=#[(0,.int .i8 (i8.wrap aT)),(1,.int .i8 3)]) (v:=.agg ([.int .i8 (i8.wrap aT),.int .i8 3,.int .u8 0]).toArray) z z (λ_=>İ))<|oE hr λE a1 hr=>gd z z (x' Iw z) (hK'.h a1) z (trivial) (λbl bq Y aI=>?_)
   obtain⟨l,o,m,p,rfl,U,R⟩:=aI;refine W' 8 z rp z λb3=>fZ 8 jZ z<|nx<|fM [tt,ff,ff,ff,ff,ff,ff,ff,ff,ff,ff] eR İ λhb=>uC z (k' z) ?_
   refine è ?_;intro aS hr _;refine cn (λ_ F=>l5 (vs:=#[(0,.int .i8 (i8.wrap (i64.wrap (BitVec.ofInt i64.bits aS &&& BitVec.ofInt i64.bits 7).toNat))),(1,.int .i8 2)]) (v:=.agg ([.int .i8 (i8.wrap (i64.wrap (BitVec.ofInt i64.bits aS &&& BitVec.ofInt i64.bits 7).toNat)),.int .i8 2,.int .u8 0]).toArray) z z (λ_=>İ)) ?_;refine è ?_;intro aJ hr _;refine oE hr λC a2 hr=>mh (f:=205) (φ:=eA C) (λ_=>z) (λv G1 G2 F h=>?_) (λu G' F hu=>?_) ?_
   .obtain⟨j,c,e,g,rfl,K,L⟩:=h;exact⟨_,_,_,_,z,K.mono F,L.mono F⟩
   .obtain⟨⟨T,S,Q,O,aP,I,J⟩,_⟩:=(show(eA aJ) G'.m (u 40)/\True from hu);exact⟨_,_,_,λ_=>x' Ir z,gX'.h a2,(by simp only[aP]<;>rfl),⟨(U.mono F),(R.mono F),I,J⟩⟩
   refine Ρ ?_;intro a9 V j c e g K L _ _ _ _ _ _ hr;refine oE hr λx1 aU hr=>Δ (rn zI kd z z (ry (ay.mono (mx Y V)) aU))<|Ca (cs':=[.bool E.num.neg,ε l E.num.υ o,.bool E.den.neg,ε m E.den.υ p,.bool C.num.neg,ε j C.num.υ c,.bool C.den.neg,ε e C.den.υ g]) (z':=(Zl.mk E C)) 5 z kd z ĳ (ay.mono (mx Y V)) z z z z ⟨(Ω E l o m p),(Ω C j c e g),z,⟨(η E.num l o),(η E.den m p),z,⟨[.bool E.num.neg],[ε l E.num.υ o],z,z,⟨_,z,(U.mono V)⟩⟩,⟨[.bool E.den.neg],[ε m E.den.υ p],z,z,⟨_,z,(R.mono V)⟩⟩⟩,⟨(η C.num j c),(η C.den e g),z,⟨[.bool C.num.neg],[ε j C.num.υ c],z,z,⟨_,z,K⟩⟩,⟨[.bool C.den.neg],[ε e C.den.υ g],z,z,⟨_,z,L⟩⟩⟩⟩ aU λd1 a7=>t'<|Λ ?_
   refine è ?_;intro hr;refine N' ⟨i64.wrap (i1+1),au.set i1.toNat (Zl.mk E C),d1,ak,a9⟩ hr ⟨(mx (mx W Y) V),a7⟩ (Å z) (w2 z z)
  refine nz<|p'<|p'<|K'<|og ⟨au,ad,ak,ao⟩ ⟨hr,W,ay⟩ (Å z) (w2 z z)
 rintro⟨aN,ax,aO,ab⟩ ⟨hr,bd,Z⟩;refine b'<|sr<|Δ (y' 5 mJ z z (lI Z))<|A' 4 z lX z z z (lI (show É iC 8 ab jr () _ from zH (G:=ab) (r:=iC) (n:=8) (zc:=[.bool false,.slice none 0 0,.bool false,.slice none 0 0,.bool false,.slice none 0 0,.bool false,.slice none 0 0]) (z:=(Zl.mk (Zf.mk (Zg.mk false []) (Zg.mk false [])) (Zf.mk (Zg.mk false []) (Zg.mk false [])))) ⟨[.bool false,.slice none 0 0,.bool false,.slice none 0 0],[.bool false,.slice none 0 0,.bool false,.slice none 0 0],z,⟨[.bool false,.slice none 0 0],[.bool false,.slice none 0 0],z,⟨[.bool false],[.slice none 0 0],z,z,⟨_,z,(X' _ _)⟩⟩,⟨[.bool false],[.slice none 0 0],z,z,⟨_,z,(X' _ _)⟩⟩⟩,⟨[.bool false,.slice none 0 0],[.bool false,.slice none 0 0],z,⟨[.bool false],[.slice none 0 0],z,z,⟨_,z,(X' _ _)⟩⟩,⟨[.bool false],[.slice none 0 0],z,z,⟨_,z,(X' _ _)⟩⟩⟩⟩)) (lI Z) (É.one Z)<|nx<|m' ?_
 obtain rfl:_=r:=hr;exact j' z (kD (i:=4) mJ z z (lI Z)) ⟨_,_,z,Z⟩
set_option maxHeartbeats 2000000 in
instance hM'{g r}:SpcM ((Eb g)) r (∀{U S Q T},Cr 81 #[.agg ((DL g U S Q T)).toArray] (λG=>sl tP G U S g.l/\sl (Rp.int .i8) G Q T g.v) (OP r)):=.mk λhr {U S Q T}=>by
 refine J' (args:=[_]) (N:=122) func81 z z z (λw0 G0 b0 cv=>?_);obtain⟨bu,O⟩:=cv;refine sr<|jO 1 z z z λb1=>W' 2 z HT z λb2=>nr<|Δ (Y0.Zzz z)<|Δ (n' 1 yj z z z)<|oE hr λbi ci hr=>gd z z (x' Ic z) (jb'.h ci) z (bu) (λc7 db av bo=>?_)
 obtain⟨bD,bw,rfl,a9⟩:=bo;refine Ö z<|nr<|Δ (Y0.Zzy z)<|Δ (n' 1 HN z z z)<|Δ (vU z z ĳ)<|Δ (oB Bw zv z)<|iP z<|Δ (l5 (vs:=#[(0,i' (i64.wrap (1+(i64.wrap (Int.tmod g.kind 13)))))]) (v:=.agg ([i' (i64.wrap (1+(i64.wrap (Int.tmod g.kind 13)))),.slice none 0 0,i' 0,i' 0,i' 0,.slice none 0 0,.slice none 0 0,.slice none 0 0,.slice none 0 0]).toArray) z z (λ_=>İ))<|W' 4 z HT z λb3=>fZ 4 tc z<|nx<|o'<|fM [ff,ff,ff,ff,ff,ff,ff,ff,ff] eR İ λhb=>?_
 refine è ?_;intro aM hr _;refine oE hr λX bX hr=>km (φ:=λG v=>∃p1 ax,v=.pointer (some ⟨pb p1,po p1+(0:Int).toNat*1,none⟩)/\sq G p1 ax aM) (λ_=>z) (λv G1 G2 j h=>?_) (λu G' j a=>?_) ?_
 .obtain⟨p1,ax,rfl,bh⟩:=h;exact⟨_,_,z,bh.mono j⟩
 .obtain⟨⟨a8,a5,bJ,aI⟩,_⟩:=(show(fU (Rp.sl c') aM) G'.m (u 18)/\True from a);simp only[ς,bJ];exact⟨_,kf jN oI aI z z bX,a8,a5,z,aI⟩
 refine km (φ:=fU c' X) (λ_=>z) (λv G1 G2 j h=>?_) (λu G' j a=>?_) ?_
 .obtain⟨p4,bz,rfl,be⟩:=h;exact⟨_,_,z,be.mono j⟩
 .obtain⟨⟨p1,ax,bL,bh⟩,_,_⟩:=(show(λG v=>∃p1 ax,v=.pointer (some ⟨pb p1,po p1+(0:Int).toNat*1,none⟩)/\sq G p1 ax aM) G'.m (u 19)/\True/\True from a);obtain⟨p3,cH,cC,cO⟩:=xT (iM bh bX);simp only[ς,bL];exact⟨_,nw oG z (cC),p3,cH,z,cO⟩
 refine cu (λ_ _ j=>Wp z)<|cu (λ_ _ j=>n' 1 sP z z z)<|oE hr λq cr hr=>γ.vQ (f:=145) (c:=i' q) (λ_=>z) (λu G' j a=>?_) ?_
 .obtain⟨_,_,_,_⟩:=(show True/\True/\True/\True from a);exact⟨_,_,_,λ_=>x' zW z,Wl.h cr,z,((O.mono av).mono j)⟩
 refine cu (λ_ _ j=>Y0.and z z)<|km (φ:=fU c' X) (λ_=>z) (λv G1 G2 j h=>?_) (λu G' j a=>?_) ?_
 .obtain⟨p5,ad,rfl,a2⟩:=h;exact⟨_,_,z,a2.mono j⟩
 .obtain⟨⟨p4,bz,bH,be⟩,_,_,_⟩:=(show(fU c' X) G'.m (u 20)/\True/\True/\True from a);simp only[ς,bH];exact⟨_,rm z,p4,bz,z,be⟩
 refine γ.th (d0:=5) (post0:=fU c' X) (d1:=20) (post1:=fU c' X) (d2:=19) (post2:=λG v=>∃p1 ax,v=.pointer (some ⟨pb p1,po p1+(0:Int).toNat*1,none⟩)/\sq G p1 ax aM) (d3:=18) (post3:=fU (Rp.sl c') aM) (λc2 c4 c3 c5 bd V bm bp bs bt=>?_);obtain⟨p5,ad,rfl,a2⟩:=bm;obtain⟨p4,bz,rfl,be⟩:=bp;obtain⟨p1,ax,rfl,bh⟩:=bs;obtain⟨a8,a5,rfl,aI⟩:=bt;refine Ö z<|t'<|Λ<|b'<|o'<|sr<|Δ (zz z)<|Δ (n' 4 eM z z z)<|nx<|Y'<|WC.nD hr [1,2,3,4,5,6,26] [1,2,4] (λ(aW:Bool)=>⟨[(27,.bool aW)],wZ g bi X q aW,tr,[]⟩) ?_ ?_
 .refine sr<|Δ (eB z z)<|Υ z<|I' hr z (λcl hr=>?_) (λcl hr=>?_)
  .exact Ι
  refine sr<|Δ (eB z z)<|Υ z<|I' hr z (λcc hr=>?_) (λcc hr=>?_)
  .exact Ι
  exact Ι
 intro aO aW hr C _;refine jM hr z (λcV hr=>?_) (λcV hr=>?_)
 .refine Ρ ?_;intro hr;obtain rfl:_=r:=hr;exact j' z (kD (i:=2) nR z z z) ⟨_,_,_,_,_,_,_,_,_,_,z,(a2.mono C),(X' (fP .i64 8) _),(X' (Rp.sl c') _),(X' (Rp.int .i64) _),(X' (Rp.arr iC 8) _)⟩
 refine sr<|Δ (eB z z)<|Υ z<|I' hr z (λcL hr=>?_) (λcL hr=>?_)
 .refine Ρ ?_;intro _ _ _ _ _ _ _ _ cy _ _ bK _ _ ch hr _;obtain rfl:_=r:=hr;exact j' z (kD (i:=2) nR z z z) ⟨_,_,_,_,_,_,_,_,_,_,z,(X' c' _),(cy.mono bK),ch,(X' (Rp.int .i64) _),(X' (Rp.arr iC 8) _)⟩
 refine sr<|Δ (eB z z)<|Υ z<|I' hr z (λcP hr=>?_) (λcP hr=>?_)
 .refine Ρ ?_;intro _ hr _;obtain rfl:_=r:=hr;exact j' z (kD (i:=2) nR z z z) ⟨_,_,_,_,_,_,_,_,_,_,z,(X' c' _),(X' (fP .i64 8) _),(X' (Rp.sl c') _),(X' (Rp.int .i64) _),(X' (Rp.arr iC 8) _)⟩
 refine sr<|Δ (eB z z)<|Υ z<|I' hr z (λcJ hr=>?_) (λcJ hr=>?_)
 .refine Ρ ?_;intro hr;obtain rfl:_=r:=hr;exact j' z (kD (i:=2) nR z z z) ⟨_,_,_,_,_,_,_,_,_,_,z,(X' c' _),(X' (fP .i64 8) _),(X' (Rp.sl c') _),(X' (Rp.int .i64) _),(X' (Rp.arr iC 8) _)⟩
 refine WC.nD hr [1,2,3,4,5,6,26] [1,2,4] (λ(aV:Bool)=>⟨[(69,.bool aV)],Jo g bi X q aV,tr,[]⟩) ?_ ?_
 .refine sr<|Δ (eB z z)<|Υ z<|I' hr z (λco hr=>?_) (λco hr=>?_)
  .exact Ι
  exact Ι
 intro aN aV hr ai _;refine jM hr z (λcS hr=>?_) (λcS hr=>?_)
 .refine o'<|sr<|Υ z<|WC.mD (hH:=by exact⟨(X' _ _),(X' _ _),(X' _ _),(X' _ _),kX,(X' _ _),kX⟩) hr [1,2,4,5,6] [1,2] [2,4,5] [2] (λ(⟨aF,m,af,Z,Y,K,L,M,I,y,A,H,B,x,t,E,D,R,s,ar,al,ap⟩:Int×Int×(Ŀ Za)×ŀ Addr×Nat×Int×Int×Int×(Ŀ (Fin 8->Int))×ŀ Addr×Nat×(Ŀ (Ŀ Za))×ŀ Addr×Nat×(Ŀ Int)×ŀ Addr×Nat×ŀ Ow×(Ŀ (Ŀ Zl))×ŀ Addr×Nat×ŀ Ow)=>⟨(aF,m,af,K,L,M,I,H,t,s),[(7,i' aF)],λaj=>sl c' aj Z Y af/\sv aj y A I/\sq aj B x H/\sl (Rp.int .i64) aj E D t/\Tok 1 3 (ε E t D) t.length R/\sl (Rp.arr iC 8) aj ar al s/\Tok 64 225 (ε ar s al) s.length ap,[(4,û b3 ([i' m,ε Z af Y,i' K,i' L,i' M,ε y I A,ε B H x,ε E t D,ε ar s al]) 89),(310047,R),(310048,ap)]⟩) (λ(⟨W,aT,aR,aU,aQ,aY,aZ,aJ,az,aB,aG,aA,aC,ag,am,ao,aE,ah,aq,ak,aD⟩:Int×(Ŀ Za)×ŀ Addr×Nat×Int×Int×Int×(Ŀ (Fin 8->Int))×ŀ Addr×Nat×(Ŀ (Ŀ Za))×ŀ Addr×Nat×(Ŀ Int)×ŀ Addr×Nat×ŀ Ow×(Ŀ (Ŀ Zl))×ŀ Addr×Nat×ŀ Ow)=>⟨(W,aT,aQ,aY,aZ,aJ,aG,ag,ah),[],λaw=>sl c' aw aR aU aT/\sv aw az aB aJ/\sq aw aA aC aG/\sl (Rp.int .i64) aw am ao ag/\Tok 1 3 (ε am ag ao) ag.length aE/\sl (Rp.arr iC 8) aw aq ak ah/\Tok 64 225 (ε aq ah ak) ah.length aD,[(4,û b3 ([i' W,ε aR aT aU,i' aQ,i' aY,i' aZ,ε az aJ aB,ε aA aG aC,ε am ag ao,ε aq ah ak]) 89),(310047,aE),(310048,aD)]⟩) ⟨0,i64.wrap (1+(i64.wrap (Int.tmod g.kind 13))),[],none,0,0,0,0,[],none,0,[],none,0,[],none,0,none,[],none,0,none⟩ ?_ ?_
  .rintro _ aj ⟨aF,m,af,Z,Y,K,L,M,I,y,A,H,B,x,t,E,D,R,s,ar,al,ap⟩ ab ⟨bl,aP,aX,aS,aH,bj,a1⟩ hr;refine o' ?_;refine è ?_;intro hr;refine I' hr z (λcG hr=>?_) (λcG hr=>?_)
   .refine q'<|b'<|o'<|Y'<|o'<|fM [ff,ff,ff,ff,ff,ff,ff] eR İ λhb=>cn (λ_ j=>zB z)<|cn (λ_ j=>n' 4 qY z z z) ?_
    refine è ?_;intro J hr _;refine tO (r:=(Rp.arr iC 8)) (e:=225) ([J]:Ŀ (Ŀ Zl)) (λ_=>z) z ĳ (λu G' j a=>?_) ?_
    .obtain⟨⟨k,F,bv,an⟩,_⟩:=(show(λG v=>∃k F,v=.agg (k).toArray/\É iC 8 G k F J) G'.m (u 83)/\True from a);simp only[ς,bv];exact⟨#[(0,.agg (k).toArray)],k++([]),z,z,wi (n:=64) (lI an) (λ_=>(λ_=>İ)),⟨k,[],z,an,z⟩⟩
    refine GM (d:=84) (post:=λG v=>∃p6 bZ,v=.slice p6 1 1/\jq (Rp.arr iC 8) G (.slice p6 1 1) bZ [J]) (d':=83) (post':=λG v=>∃k F,v=.agg (k).toArray/\É iC 8 G k F J) (λcW cZ da o a6 a7=>?_);obtain⟨p6,bZ,rfl,cD⟩:=a6;obtain⟨k,F,rfl,an⟩:=a7;refine oA hr λb9 hr=>jP (r:=(Rp.arr iC 8)) 310048 z z uz B0 z ĳ z z (bj.mono o) z (by rw[b0];rfl) a1 cD b9 λp7 a3 bx cI p b4 bA=>Δ (zB z)<|qJ 4 ([i' m,ε Z af Y,i' K,i' L,i' M,ε y I A,ε B H x,ε E t D,.slice p7 (s++[J]).length a3]).toArray z DB z z z (show 8<9 by decide) z z<|t' ?_
    refine è ?_;intro hr;refine I' hr z (λcM hr=>?_) (λcM hr=>?_)
    .refine WC.pR (Bt:=λ_=>True) (l:=ir [0,1,2,3,4,5,6,7,8,9,10,12,11,13,14,15] _) (FD İ) (λ_ _ _ _ _=>trivial) [tt,ff,ff,ff,ff,ff,ff,ff,ff,ff,ff,tt] eR İ λhb=>uC z (k' z)<|cn (λ_ j=>BQ z)<|cn (λ_ j=>n' 4 sT z z z)<|cn (λ_ j=>Wp z)<|cn (λ_ j=>n' 1 sP z z z)<|fO z ?_
     obtain⟨ae,bQ,hr⟩:=hr;have N1:=mx (mx (mx (mx (mx (mx av V) C) ai) ab) o) p;refine uA z (λ_=>x' zW z) (Wl.h bQ) z (λG' j=>((O.mono N1).mono j))<|cn (λ_ j=>Y0.and z z)<|cn (λ_ j=>vU z z ĳ)<|cn (λ_ j=>GH z z)<|tO (r:=(Rp.int .i64)) (e:=3) ([i64.wrap ((Int.tmod (i64.wrap (BitVec.ofInt i64.bits ae &&& BitVec.ofInt i64.bits 127).toNat) 3)-1)]:Ŀ Int) (λ_=>z) z ĳ (λu G' j a=>?_) ?_
     .exact⟨#[(0,i' (i64.wrap ((Int.tmod (i64.wrap (BitVec.ofInt i64.bits ae &&& BitVec.ofInt i64.bits 127).toNat) 3)-1)))],[i' (i64.wrap ((Int.tmod (i64.wrap (BitVec.ofInt i64.bits ae &&& BitVec.ofInt i64.bits 127).toNat) 3)-1))]++([]),z,z,λ_=>by kernel_rfl,⟨[i' (i64.wrap ((Int.tmod (i64.wrap (BitVec.ofInt i64.bits ae &&& BitVec.ofInt i64.bits 127).toNat) 3)-1))],[],z,z,z⟩⟩
     refine γ.sw (λ_=>z) (λ_=>GI z)<|BI (d:=100) (post:=λG v=>∃p8 b6,v=.slice p8 1 1/\jq (Rp.int .i64) G (.slice p8 1 1) b6 [i64.wrap ((Int.tmod (i64.wrap (BitVec.ofInt i64.bits ae &&& BitVec.ofInt i64.bits 127).toNat) 3)-1)]) (λcX dc aa ba=>?_)
     obtain⟨p8,b6,rfl,cA⟩:=ba;obtain⟨cm,hr⟩:=hr;have N2:=mx (mx o p) aa;refine jP (r:=(Rp.int .i64)) 310047 z z zw M7 z ĳ z z (aS.mono N2) z (by rw[b0];rfl) aH cA cm λp9 b5 cb b7 P cF ck=>qJ 4 ([i' m,ε p5 X ad,i' K,i' L,i' M,ε y I A,ε B H x,ε E t D,.slice p7 (s++[J]).length a3]).toArray z oI z z z (show 1<9 by decide) z z<|Δ (BQ z)<|qJ 4 ([i' m,ε p5 X ad,i' K,i' L,i' M,ε y I A,ε B H x,.slice p9 (t++[i64.wrap ((Int.tmod (i64.wrap (BitVec.ofInt i64.bits ae &&& BitVec.ofInt i64.bits 127).toNat) 3)-1)]).length b5,.slice p7 (s++[J]).length a3]).toArray z Dy z z z (show 7<9 by decide) z z<|t'<|Λ<|E' ?_
     refine è ?_;intro hr;refine N' ⟨b7,i64.wrap (aF+1),m,X,p5,ad,K,L,M,I,y,A,H,B,x,(t++[i64.wrap ((Int.tmod (i64.wrap (BitVec.ofInt i64.bits ae &&& BitVec.ofInt i64.bits 127).toNat) 3)-1)]),p9,b5,cb,(s++[J]),p7,a3,bx⟩ hr ⟨(mx (mx (mx (mx ab o) p) aa) P),(a2.mono (mx (mx (mx (mx (mx (mx C ai) ab) o) p) aa) P)),(aP.mono (mx N2 P)),(aX.mono (mx N2 P)),cF,ck,(b4.mono (mx aa P)),bA⟩ (Å z) (w5 z z z z z)
    refine Ρ ?_;intro hr;refine N' ⟨cI,i64.wrap (aF+1),m,af,Z,Y,K,L,M,I,y,A,H,B,x,t,E,D,R,(s++[J]),p7,a3,bx⟩ hr ⟨(mx (mx ab o) p),(bl.mono (mx o p)),(aP.mono (mx o p)),(aX.mono (mx o p)),(aS.mono (mx o p)),aH,b4,bA⟩ (Å z) (w5 z z z z z)
   refine nz<|p'<|p'<|K'<|og ⟨aj,m,af,Z,Y,K,L,M,I,y,A,H,B,x,t,E,D,R,s,ar,al,ap⟩ ⟨hr,ab,bl,aP,aX,aS,aH,bj,a1⟩ (Å z) (w4 z z z z)
  rintro aw ⟨W,aT,aR,aU,aQ,aY,aZ,aJ,az,aB,aG,aA,aC,ag,am,ao,aE,ah,aq,ak,aD⟩ hr bG ⟨bN,bf,bk,bg,cT,bc,cE⟩;refine è ?_;intro hr;refine I' hr z (λcN hr=>?_) (λcN hr=>?_)
  .refine Ρ ?_;intro hr;obtain rfl:_=r:=hr;exact j' z (kD (i:=2) nR z z z) ⟨_,_,_,_,_,_,_,_,_,_,z,(a2.mono (mx (mx C ai) bG)),bf,bk,bg,bc⟩
  refine Ρ ?_;intro hr;obtain rfl:_=r:=hr;exact j' z (kD (i:=2) nR z z z) ⟨_,_,_,_,_,_,_,_,_,_,z,bN,bf,bk,bg,bc⟩
 refine sr<|Δ (eB z z)<|Υ z<|I' hr z (λcK hr=>?_) (λcK hr=>?_)
 .refine Ρ ?_;intro _ _ _ _ _ bP hr _;obtain rfl:_=r:=hr;exact j' z (kD (i:=2) nR z z z) ⟨_,_,_,_,_,_,_,_,_,_,z,(X' c' _),(X' (fP .i64 8) _),bP,(X' (Rp.int .i64) _),(X' (Rp.arr iC 8) _)⟩
 refine o'<|sr<|Δ (eB z z)<|Υ z<|I' hr z (λcp hr=>?_) (λcp hr=>?_)
 .refine q'<|b'<|I' hr z (λce hr=>?_) (λce hr=>?_)
  .refine Ρ ?_;intro hr;obtain rfl:_=r:=hr;exact j' z (kD (i:=2) nR z z z) ⟨_,_,_,_,_,_,_,_,_,_,z,(X' c' _),(X' (fP .i64 8) _),(X' (Rp.sl c') _),(X' (Rp.int .i64) _),(X' (Rp.arr iC 8) _)⟩
  refine Ρ ?_;intro hr;obtain rfl:_=r:=hr;exact j' z (kD (i:=2) nR z z z) ⟨_,_,_,_,_,_,_,_,_,_,z,(X' c' _),(X' (fP .i64 8) _),(X' (Rp.sl c') _),(X' (Rp.int .i64) _),(X' (Rp.arr iC 8) _)⟩
 refine w'<|Δ (eB z z)<|Υ z<|I' hr z (λcx hr=>?_) (λcx hr=>?_)
 .refine Ρ ?_;intro hr;obtain rfl:_=r:=hr;exact j' z (kD (i:=2) nR z z z) ⟨_,_,_,_,_,_,_,_,_,_,z,(X' c' _),(X' (fP .i64 8) _),(X' (Rp.sl c') _),(X' (Rp.int .i64) _),(X' (Rp.arr iC 8) _)⟩
 refine Ρ ?_;intro hr;obtain rfl:_=r:=hr;exact j' z (kD (i:=2) nR z z z) ⟨_,_,_,_,_,_,_,_,_,_,z,(X' c' _),(X' (fP .i64 8) _),(X' (Rp.sl c') _),(X' (Rp.int .i64) _),(X' (Rp.arr iC 8) _)⟩
instance gq'{I r}:SpcM ((AP I)) r (∀{A B p q y C K F},Cr 35 #[.agg ((pg I A B p q y C K F)).toArray] (λG=>sl tP G A B I.c.l/\sl (Rp.int .u8) G p q I.c.ik/\sl (fP .i8 5) G y C I.p.t/\sl xU G K F I.l) (fU rY r)):=.mk λhr {A B p q y C K F}=>by
 refine Ρ ?_;intro w0 G0 _ T _ _ _ _ _ b1 p1 U _ av hr _;refine WC.mC (hH:=by exact⟨av,kX⟩) hr [1] [1] [] [] (λ(⟨x,t,u,s,a⟩:(Ŀ Zj)×ŀ Addr×Nat×ŀ Ow×Int)=>⟨(x,a),[(3,ε t x u),(4,i' a)],λv=>sl rY v t u x/\Tok 9 89 (ε t x u) x.length s,[(1003,s)]⟩) (λ(⟨S,M,O,J⟩:(Ŀ Zj)×ŀ Addr×Nat×ŀ Ow)=>⟨S,[(3,ε M S O)],λQ=>sl rY Q M O S/\Tok 9 89 (ε M S O) S.length J,[(1003,J)]⟩) ⟨[],p1,0,none,0⟩ ?_;rintro _ v ⟨x,t,u,s,a⟩ m ⟨V,E⟩ hr;refine Ρ ?_;intro _ _ _ _ _ _ _ _ _ _ _ _ _ _ _ ai hr al;refine oE hr λc aj hr=>gd z z (x' Yl z) (hM'.h aj) z (⟨ai,al⟩) (λaI aM L R=>?_);obtain⟨o,n,l,k,j,i,h,g,d,f,rfl,Z,D,W,H,Y⟩:=R;refine mU (e:=89) (r:=rY) (vs:=#[(0,.agg ((jW c o n l k j i h g d f)).toArray)]) (cs:=(jW c o n l k j i h g d f)++([])) ([c]:Ŀ Zj) z z z z z ĳ (λ_=>İ) ⟨(jW c o n l k j i h g d f),[],z,⟨[i' c.kind],[ε o c.p n,i' c.n,i' c.d,i' c.r,ε l c.o k,ε j c.l i,ε h c.s g,ε d c.b f],z,z,⟨[ε o c.p n],[i' c.n,i' c.d,i' c.r,ε l c.o k,ε j c.l i,ε h c.s g,ε d c.b f],z,⟨_,z,Z⟩,⟨[i' c.n],[i' c.d,i' c.r,ε l c.o k,ε j c.l i,ε h c.s g,ε d c.b f],z,z,⟨[i' c.d],[i' c.r,ε l c.o k,ε j c.l i,ε h c.s g,ε d c.b f],z,z,⟨[i' c.r],[ε l c.o k,ε j c.l i,ε h c.s g,ε d c.b f],z,z,⟨[ε l c.o k],[ε j c.l i,ε h c.s g,ε d c.b f],z,⟨_,z,D⟩,⟨[ε j c.l i],[ε h c.s g,ε d c.b f],z,⟨_,z,W⟩,⟨[ε h c.s g],[ε d c.b f],z,⟨_,z,H⟩,⟨_,z,Y⟩⟩⟩⟩⟩⟩⟩⟩⟩,z⟩ (key:=999) z (by rw[T];rfl) (λp2 aN P ax=>?_);refine oA hr λX hr=>jP (r:=rY) 1003 z z MR M9 z ĳ z z (V.mono (mx L P)) z (by rw[T];rfl) E ax X λp3 ar af an N aw ah=>Ö z<|t'<|E'<|b'<|w'<|θ z<|iP z<|Ö z<|t'<|N' ⟨an,(x++[c]),p3,ar,af,i64.wrap (a+1)⟩ hr ⟨(mx (mx (mx m L) P) N),aw,ah⟩ (Å z) (w2 z z)
instance mn{b1 a r}:SpcM ((RI b1 a)) r (∀{aw ao Z i I K Y N av aq},Cr 12 #[.agg ((ga b1 aw ao)).toArray,.agg ((pg a Z i I K Y N av aq)).toArray] (λG=>sl gi G aw ao b1.t/\sl tP G Z i a.c.l/\sl (Rp.int .u8) G I K a.c.ik/\sl (fP .i8 5) G Y N a.p.t/\sl xU G av aq a.l) (È r)):=.mk λhr {aw ao Z i I K Y N av aq}=>by
 refine è ?_;intro w0 G0 _ _ _ M _ P _ A R _ _ _ hr V;refine o' ?_;refine è ?_;intro hr;refine I' hr z (λa0 hr=>?_) (λa0 hr=>?_)
 .refine sr<|Δ (y' 3 xM z z z)<|oE hr λbh aK hr=>gd z z (x' O1 z) (Wn.h aK) z (⟨P,A,R,V⟩) (λbe bg p ad=>?_)
  obtain⟨aS,aT,aG,aO,rfl,J,F⟩:=ad;refine W' 7 z pk z λb5=>fZ 7 rl z<|nx<|o'<|fM [ff,ff,ff,ff,ff,ff,ff,ff,tt,tt,ff] eR İ λhb=>cn (λ_ d=>y' 2 lJ z z z) ?_
  refine è ?_;intro q hr _;refine oE hr λt aP hr=>mh (f:=27) (φ:=È t) (λ_=>z) (λv U W d h=>?_) (λu l d m=>?_) ?_
  .obtain⟨x,B,rfl,o⟩:=h;exact⟨_,_,z,o.mono d⟩
  .obtain⟨⟨e,j,k,g,aB,E,D⟩,_⟩:=(show(λG v=>∃e j k g,v=.agg ([i' q.kind,ε e q.p j,ε k q.o g]).toArray/\sl c' G e j q.p/\sv G k g q.o) l.m (u 24)/\True from m);exact⟨_,_,_,λ_=>x' yA z,zM.h aP,(by simp only[aB]<;>rfl),⟨((M.mono p).mono d),(J.mono d),(F.mono d),E,D⟩⟩
  refine km (φ:=È t) (λ_=>z) (λv U W d h=>?_) (λu l d m=>?_) ?_
  .obtain⟨p1,T,rfl,L⟩:=h;exact⟨_,_,z,L.mono d⟩
  .obtain⟨⟨x,B,aC,o⟩,_,_⟩:=(show(È t) l.m (u 25)/\True/\True from m);simp only[ς,aC];exact⟨_,k' z,x,B,z,o⟩
  refine km (φ:=kC t.1) (λ_=>z) (λv U W d h=>?_) (λu l d m=>?_) ?_
  .obtain⟨p2,aX,rfl,ap⟩:=h;exact⟨_,_,z,ap.mono d⟩
  .obtain⟨⟨p1,T,s,L⟩,_,_,_⟩:=(show(È t) l.m (u 19)/\True/\True/\True from m);simp only[ς,s];exact⟨_,O' z z,p1,T,z,L⟩
  refine na (c:=i' t.2.1) (λ_=>z) (λu l d m=>?_) ?_
  .obtain⟨_,⟨p1,T,s,L⟩,_,_,_⟩:=(show True/\(È t) l.m (u 19)/\True/\True/\True from m);simp only[ς,s];exact O' z z
  refine na (c:=i' t.2.2) (λ_=>z) (λu l d m=>?_) ?_
  .obtain⟨_,⟨p1,T,s,L⟩,_,_,_⟩:=(show True/\(È t) l.m (u 19)/\True/\True/\True from m);simp only[ς,s];exact O' z z
  refine kJ (λ_=>z) z26<|xX (λbi a5 bb a6 bc X1 aN au ag ae aj ak=>?_)
  obtain⟨b6,rfl,aI⟩:=au;obtain⟨p2,aX,rfl,ap⟩:=ag;obtain⟨p1,T,rfl,L⟩:=ae;obtain⟨x,B,rfl,o⟩:=aj;obtain⟨e,j,k,g,rfl,E,D⟩:=ak;refine pQ aI (l7 (show WL _ _ _ _ _ _ (St w0 G0 X1.m _)from ?_));exact Ι
 refine q'<|b'<|o'<|fM [ff,ff,ff,ff,ff,ff,ff,ff,ff,ff,tt,ff] eR İ λhb=>?_
 refine è ?_;intro aE hr _;refine oE hr λH aQ hr=>mh (f:=36) (φ:=ji H) (λ_=>z) (λv U W d h=>?_) (λu l d m=>?_) ?_
 .obtain⟨y,C,rfl,n⟩:=h;exact⟨_,_,z,n.mono d⟩
 .obtain⟨⟨ar,am,aD,Q⟩,_⟩:=(show(fU rY aE) l.m (u 42)/\True from m);exact⟨_,_,_,λ_=>x' I2 z,M0.h aQ,(by simp only[aD]<;>rfl),⟨(M.mono d),Q⟩⟩
 refine km (φ:=ji H) (λ_=>z) (λv U W d h=>?_) (λu l d m=>?_) ?_
 .obtain⟨p3,X,rfl,S⟩:=h;exact⟨_,_,z,S.mono d⟩
 .obtain⟨⟨y,C,aA,n⟩,_,_⟩:=(show(ji H) l.m (u 45)/\True/\True from m);simp only[ς,aA];exact⟨_,k' z,y,C,z,n⟩
 refine km (φ:=kC H.1) (λ_=>z) (λv U W d h=>?_) (λu l d m=>?_) ?_
 .obtain⟨p4,aU,rfl,an⟩:=h;exact⟨_,_,z,an.mono d⟩
 .obtain⟨⟨p3,X,O,S⟩,_,_,_⟩:=(show(ji H) l.m (u 37)/\True/\True/\True from m);simp only[ς,O];exact⟨_,O' z z,p3,X,z,S⟩
 refine na (c:=i' H.2) (λ_=>z) (λu l d m=>?_) ?_
 .obtain⟨_,⟨p3,X,O,S⟩,_,_,_⟩:=(show True/\(ji H) l.m (u 37)/\True/\True/\True from m);simp only[ς,O];exact O' z z
 refine kJ (λ_=>z) z26<|xX (λbj bd a3 ba a4 X2 aM ax ah af al ac=>?_)
 obtain⟨b7,rfl,aH⟩:=ax;obtain⟨p4,aU,rfl,an⟩:=ah;obtain⟨p3,X,rfl,S⟩:=af;obtain⟨y,C,rfl,n⟩:=al;obtain⟨ar,am,rfl,Q⟩:=ac;refine pQ aH (l7 (show WL _ _ _ _ _ _ (St w0 G0 X2.m _)from ?_));exact Ι
instance hN'{Z W r}:SpcM ((LC Z W)) r (∀{S R},Cr 20 #[.agg ((ga Z S R)).toArray,i' W] (λG=>sl gi G S R Z.t) (λG v=>∃J E x u P O K L,v=.tuple #[.agg ((fz r.1 J E x u P O K L)).toArray,.bool r.2]/\sq G J E r.1.k.eqs/\sq G x u r.1.k.δ/\sl c' G P O r.1.q.p/\sv G K L r.1.q.o)):=.mk λhr {S R}=>by refine Ρ ?_;intro w0 V _ i a hr _;refine WC.mA hr [1,2,4] [2] [4] [] (λ(⟨g,q,e,f,c,d,m,j,n,k⟩:Int×Ze×ŀ Addr×Nat×ŀ Addr×Nat×ŀ Addr×Nat×ŀ Addr×Nat)=>⟨(g,q),[(6,i' g)],λs=>sq s e f q.k.eqs/\sq s c d q.k.δ/\sl c' s m j q.q.p/\sv s n k q.q.o,[(4,û a (fz q e f c d m j n k) 56)]⟩) (λ(⟨B,p,o,l,h,C,A,y,F⟩:Ze×ŀ Addr×Nat×ŀ Addr×Nat×ŀ Addr×Nat×ŀ Addr×Nat)=>⟨(.inr B),[],λI=>sq I p o B.k.eqs/\sq I l h B.k.δ/\sl c' I C A B.q.p/\sv I y F B.q.o,[(4,û a (fz B p o l h C A y F) 56)]⟩) ⟨0,(Ze.mk 0 (Zc.mk 0 [] []) (Zb.mk 0 [] []) 0 0 0 false),none,0,none,0,none,0,none,0⟩
instance Wu{k n r}:SpcM ((FW k n)) r (∀{i h},Cr 162 #[ε i k h,i' n] (λG=>sq G i h k) (λG v=>v=.bool r)):=.mk λhr {i h}=>by refine Ρ ?_;intro s f _ hr _;refine WC.mA hr [0,1] [] [] [] (λ(j:Int)=>⟨j,[(5,i' j)],tr,[]⟩) (λ(_:Unit)=>⟨(.inr ()),[],tr,[]⟩) 0
instance Ni{c r}:SpcM ((FL c)) r (Cr 163 #[i' c] (λG=>True) (λG v=>v=.bool r)):=.mk λhr=>Ι
instance ic'{k r}:SpcM ((JS k)) r (∀{i e h f d c j g},Cr 237 #[.agg ((wG k i e h f d c j g)).toArray] (λG=>su G i e k.lo.num.υ/\su G h f k.lo.den.υ/\su G d c k.hi.num.υ/\su G j g k.hi.den.υ) (λG v=>v=.bool r)):=.mk λhr {i e h f d c j g}=>Ι
instance Wv{u r}:SpcM ((vu u)) r (∀{i f j g},Cr 238 #[.agg ((Ω u i f j g)).toArray] (λG=>su G i f u.num.υ/\su G j g u.den.υ) (λG v=>v=.bool r)):=.mk λhr {i f j g}=>Ι
instance lq{x E r}:SpcM ((FK x E)) r (∀{p n},Cr 164 #[ε p x n,i' E] (λG=>sl (Rp.arr iC 8) G p n x) (λG v=>v=.bool r)):=.mk λhr {p n}=>by
 refine J' (args:=[_,_]) (N:=55) func164 z z z (λP s aw af=>?_);have e:=af;refine sr<|Υ z<|o'<|sr<|θ z<|Δ (P' uz e z)<|Δ (vI z z)<|nx<|I' hr z (λar hr=>?_) (λar hr=>?_)
 .exact (show False from hr).elim
 refine q'<|b'<|o'<|sr<|Υ z<|WC.mD hr [0,1] [] [] [] (λ(u:Int)=>⟨u,[(5,i' u)],tr,[]⟩) (λ(_:Unit)=>⟨(.inr ()),[],tr,[]⟩) 0 ?_ ?_
 .intro _ f u d _ hr;refine o'<|sr<|θ z<|θ z<|Δ (P' uz (e.mono d) z)<|kv z<|nx<|I' hr z (λan hr=>?_) (λan hr=>?_)
  .refine q'<|b'<|o'<|Y'<|sr<|Υ z<|WC.mD hr [0,1,5] [] [0,1,5] [] (λ(y:Int)=>⟨y,[(6,i' y)],tr,[]⟩) (λ(_:Unit)=>⟨(.inr ()),[],tr,[]⟩) 0 ?_ ?_
   .intro _ k y c _ hr;refine o'<|sr<|θ z<|kv z<|nx<|I' hr z (λaq hr=>?_) (λaq hr=>?_)
    .refine q'<|b'<|o'<|Y'<|sr<|θ z<|θ z<|θ z<|oE hr λx1 B hr=>Δ (kf uz lX (e.mono (mx d c)) z z B)<|oE hr λx2 T hr=>Δ (uH zI kd z z (uI (iM e B) T)) ?_
     obtain⟨L,F,K,I,H,O,J,M,ao,h,j,i,g⟩:=Px (T' (AtK.arr (iM e B) T) (mx d c));refine Δ (mY _ rW z z ao)<|oE hr λal ah hr=>H' z z (x' Iz z) (ic'.h ah) z (⟨h,j,i,g⟩) ?_
     cases al
     .refine Δ (kE z)<|θ z<|nJ z<|Ê (M' z z) z<|Ê (M' z z) z<|Ê (M' z z) z<|Ê (M' z z) z<|Ê (M' z z) z<|Ê (M' z z) z<|Ê (M' z z) z<|Ê (M' z z) z<|Ê (M' z z) z<|Ê (M' z z) z<|Ê (M' z z) z<|Ê (M' z z) z<|Ê (M' z z) z<|Ê (M' z z) z<|Ê (M' z z) z<|Ê (M' z z) z<|Ê (M' z z) z<|Ê (M' z z) z<|Ê (M' z z) z<|Ê (M' z z) z<|sf z z z<|Κ z<|nx<|oh z<|sr<|Υ z<|m'<|g'<|a'<|a'<|g'<|mX<|g'<|a'<|a'<|g'<|mX<|a' (Û hr z z)
     refine Δ (kE z)<|θ z<|kO z<|kO z<|dQ hr (C' z z) (vO z z) z (λap hr=>?_) (λap hr=>?_)
     .refine kO z<|kO z<|kO z<|kO z<|oE hr λx3 A hr=>gy z z (kf uz lX (e.mono (mx d c)) z z A) z<|oE hr λx4 a hr=>gy z z (uH zI kd z z (uI (iM e A) a)) z<|gy z z (eV' z) z ?_
      obtain⟨V,ac,S,W,ai,l,m⟩:=pG (T' (r8 (nQ (AtK.arr (iM e A) a))) (mx d c));refine gy z z (mY _ mg z z ai) z<|oE hr λaj X hr=>H' (C' z z) z (x' z8 z) (Wv.h X) z (⟨l,m⟩) ?_
      cases aj
      .refine gy z z (kE z) z<|kO z<|XO z<|gy z z (h' z z) z<|gy z z (h' z z) z<|ο z<|nx<|oh z<|sr<|Υ z<|m'<|g'<|a'<|a'<|g'<|mX<|g'<|a'<|a'<|g'<|mX<|a' (Û hr z z)
      refine gy z z (kE z) z<|kO z<|kO z<|kO z<|kO z<|oE hr λx5 C hr=>gy z z (kf uz lX (e.mono (mx d c)) z z C) z<|oE hr λx6 Y hr=>gy z z (uH zI kd z z (uI (iM e C) Y)) z<|gy z z (eW' z) z ?_
      obtain⟨ab,U,R,Z,ak,o,q⟩:=pG (T' (xP (nQ (AtK.arr (iM e C) Y))) (mx d c));refine gy z z (mY _ mg z z ak) z<|oE hr λav ae hr=>H' (C' z z) z (x' z8 z) (Wv.h ae) z (⟨o,q⟩)<|gy z z (kE z) z<|gy z z (f' z z) z<|gy z z (h' z z) z<|ο z<|nx<|jM hr z (λam hr=>?_) (λam hr=>?_)
      .refine sr<|Υ z<|m'<|g'<|a'<|a'<|g'<|mX<|g'<|a'<|a'<|g'<|mX<|a' (Û hr z z)
      refine q'<|E'<|b'<|w'<|θ z<|iP z<|Ö z<|t'<|N' ⟨k,i64.wrap (y+1)⟩ hr ⟨c,trivial⟩ (Å z) (wk ln)
     refine kO z<|XO z<|sk z z z<|Ê (M' z z) z<|Ê (M' z z) z<|Ê (M' z z) z<|Ê (M' z z) z<|Ê (M' z z) z<|Ê (M' z z) z<|Ê (M' z z) z<|Ê (M' z z) z<|Ê (M' z z) z<|sk z z z<|gy z z (f' z z) z<|ο z<|nx<|tM z<|q'<|E'<|b'<|w'<|θ z<|iP z<|Ö z<|t'<|N' ⟨k,i64.wrap (y+1)⟩ hr ⟨c,trivial⟩ (Å z) (wk ln)
    refine nz<|p'<|p'<|K'<|og ⟨k,()⟩ ⟨hr,c,trivial⟩ (Å z) (wk ln)
   intro t _ hr Q _;refine E'<|b'<|w'<|θ z<|iP z<|Ö z<|t'<|N' ⟨t,i64.wrap (u+1)⟩ hr ⟨(mx d Q),trivial⟩ (Å z) (wk ln)
  refine nz<|p'<|p'<|K'<|og ⟨f,()⟩ ⟨hr,d,trivial⟩ fn (wk ln)
 intro D _ hr au _;refine b'<|sr<|Υ z<|m' (Û hr z z)
instance iS'{k r}:SpcM ((Le k)) r (∀{i h},Cr 165 #[ε i k h] (λG=>sl (Rp.int .i64) G i h k) (λG v=>v=.bool r)):=.mk λhr {i h}=>by refine Ρ ?_;intro p f _ hr _;refine WC.mA hr [0] [] [] [] (λ(j:Int)=>⟨j,[(3,i' j)],tr,[]⟩) (λ(_:Unit)=>⟨(.inr ()),[],tr,[]⟩) 0
set_option maxHeartbeats 2000000 in
instance iT'{l c r}:SpcM ((FJ l c)) r (∀{j k i h t s n u y q o x p m},Cr 92 #[.agg ((Ã l j k i h)).toArray,.agg ((jW c t s n u y q o x p m)).toArray] (λG=>sq G j k l.eqs/\sq G i h l.δ/\sl c' G t s c.p/\sv G n u c.o/\sq G y q c.l/\sl (Rp.int .i64) G o x c.s/\sl (Rp.arr iC 8) G p m c.b) (λG v=>v=.bool r)):=.mk λhr {j k i h t s n u y q o x p m}=>by
 refine J' (args:=[_,_]) (N:=314) func92 z z z (λX O bA a0=>?_);obtain⟨R,L,M,P,B,E,C⟩:=a0;refine sr<|jO 2 z z z λT=>jO 3 z z z λQ=>Υ z<|o'<|sr<|Δ (y' 2 l6 z z z)<|oE hr λbB az hr=>H' z z (x' Yn z) (gz'.h az) z (⟨R,L⟩)<|Δ (kE z)<|nx<|jM hr z (λbt hr=>?_) (λbt hr=>?_)
 .exact (show False from hr).elim
 refine q'<|b'<|o'<|fM [ff,ff,ff,ff,ff,ff,ff,ff,ff,ff,ff,ff,ff,ff,ff,ff,ff,ff,ff,ff,ff,ff,ff,ff] eR İ λhb=>cn (λ_ d=>GI z)<|cn (λ_ d=>n' 3 oG z z z)<|cn (λ_ d=>P' Q' (M.mono d) z)<|cn (λ_ d=>eB z z)<|cn (λ_ d=>BW z)<|cn (λ_ d=>n' 3 jU z z z)<|cn (λ_ d=>P' jN (B.mono d) z)<|cn (λ_ d=>eB z z)<|cn (λ_ d=>Wh z)<|cn (λ_ d=>n' 3 sU z z z)<|cn (λ_ d=>P' tH (P.mono d) z)<|cn (λ_ d=>eB z z)<|cn (λ_ d=>BQ z)<|cn (λ_ d=>n' 3 sT z z z)<|cn (λ_ d=>P' zw (E.mono d) z)<|cn (λ_ d=>eB z z)<|cn (λ_ d=>zB z)<|cn (λ_ d=>n' 3 qY z z z)<|cn (λ_ d=>P' uz (C.mono d) z)<|cn (λ_ d=>eB z z)<|cn (λ_ d=>rm z)<|cn (λ_ d=>rm z)<|cn (λ_ d=>rm z)<|cn (λ_ d=>rm z)<|pE hb<|Ö z<|t'<|Λ<|b'<|WC.nD hr [2,3,5,6,7,8,9] [2,3] (λ(A:Bool)=>⟨[(10,.bool A)],wW l c A,tr,[]⟩) ?_ ?_
 .refine w'<|Δ (zA z)<|Δ (n' 3 eM z z z)<|dQ hr z (eB z z) z (λap hr=>?_) (λap hr=>?_)
  .refine θ z<|gy z z (xQ z) z<|gy z z (n' 3 eM z z z) z<|dQ hr (C' z z) (eB z z) z (λaV hr=>?_) (λaV hr=>?_)
   .refine Κ z<|θ z<|gy z z (zD z) z<|gy z z (n' 3 eM z z z) z<|gy z z (eB z z) z<|Κ z<|Ö z<|t'<|pF ⟨O,decide (c.r=0)⟩ ⟨hr,mr,trivial⟩ (Å z) (w2 z z)
   refine Κ z<|θ z<|fK z<|ο z<|Ö z<|t'<|pF ⟨O,false⟩ ⟨hr,mr,trivial⟩ (Å z) (w2 z z)
  refine θ z<|fK z<|ο z<|θ z<|fK z<|ο z<|Ö z<|t'<|pF ⟨O,false⟩ ⟨hr,mr,trivial⟩ (Å z) (w2 z z)
 intro F A hr e _;refine sr<|Δ (GI z)<|Δ (n' 3 oG z z z)<|Δ (qO z)<|Δ (n' 2 eM z z z)<|oE hr λS aA hr=>H' z z (x' zX z) (Ws.h aA) z ((M.mono e))<|Υ z<|o'<|sr<|Δ (zz z)<|Δ (n' 3 eM z z z)<|nx<|Y'<|WC.nD hr [2,3,5,6,7,8,9,10,11,54] [2,3] (λ(K:Bool)=>⟨[(55,.bool K)],AE l c A S K,tr,[]⟩) ?_ ?_
 .refine sr<|Δ (eB z z)<|Υ z<|I' hr z (λaL hr=>?_) (λaL hr=>?_)
  .refine q'<|pF ⟨F,decide (c.kind=1)⟩ ⟨hr,mr,trivial⟩ (f11 z z z z z z z z z z z) (w2 z z)
  refine sr<|Δ (eB z z)<|Υ z<|I' hr z (λaH hr=>?_) (λaH hr=>?_)
  .refine q'<|pF ⟨F,decide (c.kind=2)⟩ ⟨hr,mr,trivial⟩ (f11 z z z z z z z z z z z) (w2 z z)
  refine w'<|Δ (eB z z)<|Ö z<|t'<|pF ⟨F,decide (c.kind=10)⟩ ⟨hr,mr,trivial⟩ (f11 z z z z z z z z z z z) (w2 z z)
 intro I K hr g _;refine jM hr z (λbg hr=>?_) (λbg hr=>?_)
 .refine sr<|dQ hr z (mZ (k' z) (đ Value.bool (nV _))) z (λbs hr=>?_) (λbs hr=>?_)
  .refine θ z<|dQ hr (C' z z) (k' z) z (λbi hr=>?_) (λbi hr=>?_)
   .refine Κ z<|θ z<|dQ hr (C' z z) (k' z) z (λbl hr=>?_) (λbl hr=>?_)
    .refine Κ z<|θ z<|dQ hr (C' z z) (k' z) z (λbr hr=>?_) (λbr hr=>?_)
     .refine Κ z<|θ z<|dQ hr (C' z z) (k' z) z (λbp hr=>?_) (λbp hr=>?_)
      .refine Κ z<|θ z<|kO z<|Κ z<|Υ z<|m'<|g'<|a' (Û hr z z)
      refine Κ z<|θ z<|sk z z z<|ο z<|Υ z<|m'<|g'<|a' (Û hr z z)
     refine Κ z<|θ z<|sk z z z<|ο z<|θ z<|sk z z z<|ο z<|Υ z<|m'<|g'<|a' (Û hr z z)
    refine Κ z<|θ z<|sk z z z<|ο z<|θ z<|sk z z z<|ο z<|θ z<|sk z z z<|ο z<|Υ z<|m'<|g'<|a' (Û hr z z)
   refine Κ z<|θ z<|sk z z z<|ο z<|θ z<|sk z z z<|ο z<|θ z<|sk z z z<|ο z<|θ z<|sk z z z<|ο z<|Υ z<|m'<|g'<|a' (Û hr z z)
  refine θ z<|sk z z z<|ο z<|θ z<|sk z z z<|ο z<|θ z<|sk z z z<|ο z<|θ z<|sk z z z<|ο z<|θ z<|sk z z z<|ο z<|Υ z<|m'<|g'<|a' (Û hr z z)
 refine WC.nD hr [2,3,5,6,7,8,9,10,11,54] [2,3] (λ(J:Bool)=>⟨[(75,.bool J)],EC l c A S J,tr,[]⟩) ?_ ?_
 .refine sr<|Δ (eB z z)<|Υ z<|I' hr z (λa2 hr=>?_) (λa2 hr=>?_)
  .refine q'<|pF ⟨I,decide (c.kind=3)⟩ ⟨hr,mr,trivial⟩ (f11 z z z z z z z z z z z) (w2 z z)
  refine w'<|Δ (eB z z)<|Ö z<|t'<|pF ⟨I,decide (c.kind=9)⟩ ⟨hr,mr,trivial⟩ (f11 z z z z z z z z z z z) (w2 z z)
 intro H J hr f _;refine jM hr z (λbm hr=>?_) (λbm hr=>?_)
 .refine sr<|dQ hr z (k' z) z (λbn hr=>?_) (λbn hr=>?_)
  .refine θ z<|dQ hr (C' z z) (k' z) z (λbq hr=>?_) (λbq hr=>?_)
   .refine Κ z<|θ z<|dQ hr (C' z z) (k' z) z (λbc hr=>?_) (λbc hr=>?_)
    .refine Κ z<|θ z<|dQ hr (C' z z) (k' z) z (λbd hr=>?_) (λbd hr=>?_)
     .refine Κ z<|θ z<|dQ hr (C' z z) (k' z) z (λaO hr=>?_) (λaO hr=>?_)
      .refine Κ z<|θ z<|kO z<|Κ z<|Υ z<|m'<|g'<|a' (Û hr z z)
      refine Κ z<|θ z<|sk z z z<|ο z<|Υ z<|m'<|g'<|a' (Û hr z z)
     refine Κ z<|θ z<|sk z z z<|ο z<|θ z<|sk z z z<|ο z<|Υ z<|m'<|g'<|a' (Û hr z z)
    refine Κ z<|θ z<|sk z z z<|ο z<|θ z<|sk z z z<|ο z<|θ z<|sk z z z<|ο z<|Υ z<|m'<|g'<|a' (Û hr z z)
   refine Κ z<|θ z<|sk z z z<|ο z<|θ z<|sk z z z<|ο z<|θ z<|sk z z z<|ο z<|θ z<|sk z z z<|ο z<|Υ z<|m'<|g'<|a' (Û hr z z)
  refine θ z<|sk z z z<|ο z<|θ z<|sk z z z<|ο z<|θ z<|sk z z z<|ο z<|θ z<|sk z z z<|ο z<|θ z<|sk z z z<|ο z<|Υ z<|m'<|g'<|a' (Û hr z z)
 refine sr<|Δ (eB z z)<|Υ z<|I' hr z (λbe hr=>?_) (λbe hr=>?_)
 .refine sr<|dQ hr z (k' z) z (λag hr=>?_) (λag hr=>?_)
  .refine θ z<|dQ hr (C' z z) (k' z) z (λaD hr=>?_) (λaD hr=>?_)
   .refine Κ z<|θ z<|dQ hr (C' z z) (k' z) z (λa3 hr=>?_) (λa3 hr=>?_)
    .refine Κ z<|θ z<|dQ hr (C' z z) (mZ (k' z) (đ Value.bool (nV _))) z (λav hr=>?_) (λav hr=>?_)
     .refine Κ z<|θ z<|gy z z (Wh z) z<|gy z z (n' 3 sU z z z) z<|oE hr λbh aR hr=>H' (C' z z) z (x' Ig z) (fK'.h aR) z ((P.mono (mx (mx e g) f))) ?_
      cases bh
      .refine Κ z<|θ z<|nJ z<|ο z<|θ z<|ib z<|ο z<|Υ z<|m'<|g'<|a' (Û hr z z)
      refine Κ z<|θ z<|gy z z (BW z) z<|gy z z (n' 3 jU z z z) z<|gy z z (P' jN (B.mono (mx (mx e g) f)) z) z<|dQ hr (C' z z) (BM z z) z (λaW hr=>?_) (λaW hr=>?_)
      .refine Κ z<|θ z<|gy z z (BW z) z<|gy z z (n' 3 jU z z z) z<|gy z z (qO z) z<|gy z z (n' 2 eM z z z) z<|oE hr λbz ac hr=>H' (C' z z) z (x' zY z) (Wu.h ac) z ((B.mono (mx (mx e g) f)))<|Κ z<|Υ z<|m'<|g'<|a' (Û hr z z)
      refine Κ z<|θ z<|ib z<|ο z<|Υ z<|m'<|g'<|a' (Û hr z z)
     refine Κ z<|θ z<|fK z<|ο z<|θ z<|nJ z<|ο z<|θ z<|ib z<|ο z<|Υ z<|m'<|g'<|a' (Û hr z z)
    refine Κ z<|θ z<|sk z z z<|ο z<|θ z<|fK z<|ο z<|θ z<|nJ z<|ο z<|θ z<|ib z<|ο z<|Υ z<|m'<|g'<|a' (Û hr z z)
   refine Κ z<|θ z<|sk z z z<|ο z<|θ z<|sk z z z<|ο z<|θ z<|fK z<|ο z<|θ z<|nJ z<|ο z<|θ z<|ib z<|ο z<|Υ z<|m'<|g'<|a' (Û hr z z)
  refine θ z<|sk z z z<|ο z<|θ z<|sk z z z<|ο z<|θ z<|sk z z z<|ο z<|θ z<|fK z<|ο z<|θ z<|nJ z<|ο z<|θ z<|ib z<|ο z<|Υ z<|m'<|g'<|a' (Û hr z z)
 refine sr<|Δ (eB z z)<|Υ z<|I' hr z (λbo hr=>?_) (λbo hr=>?_)
 .refine sr<|dQ hr z (k' z) z (λan hr=>?_) (λan hr=>?_)
  .refine θ z<|dQ hr (C' z z) (k' z) z (λaB hr=>?_) (λaB hr=>?_)
   .refine Κ z<|θ z<|dQ hr (C' z z) (k' z) z (λY hr=>?_) (λY hr=>?_)
    .refine Κ z<|θ z<|dQ hr (C' z z) (k' z) z (λaG hr=>?_) (λaG hr=>?_)
     .refine Κ z<|θ z<|dQ hr (C' z z) (k' z) z (λaf hr=>?_) (λaf hr=>?_)
      .refine Κ z<|θ z<|gy z z (zD z) z<|gy z z (n' 3 eM z z z) z<|dQ hr (C' z z) (eB z z) z (λar hr=>?_) (λar hr=>?_)
       .refine Κ z<|θ z<|gy z z (xQ z) z<|gy z z (n' 3 eM z z z) z<|dQ hr (C' z z) (vO z z) z (λaI hr=>?_) (λaI hr=>?_)
        .refine Κ z<|θ z<|gy z z (xQ z) z<|gy z z (n' 3 eM z z z) z<|gy z z (qO z) z<|gy z z (n' 2 eM z z z) z<|dQ hr (C' z z) (BM z z) z (λaa hr=>?_) (λaa hr=>?_)
         .refine Κ z<|θ z<|gy z z (zA z) z<|gy z z (n' 3 eM z z z) z<|oE hr λbE aQ hr=>H' (C' z z) z (x' wK z) (Ni.h aQ) z (trivial)<|Κ z<|Υ z<|m'<|g'<|a' (Û hr z z)
         refine Κ z<|θ z<|fK z<|ο z<|Υ z<|m'<|g'<|a' (Û hr z z)
        refine Κ z<|θ z<|ib z<|ο z<|θ z<|fK z<|ο z<|Υ z<|m'<|g'<|a' (Û hr z z)
       refine Κ z<|θ z<|fK z<|ο z<|θ z<|ib z<|ο z<|θ z<|fK z<|ο z<|Υ z<|m'<|g'<|a' (Û hr z z)
      refine Κ z<|θ z<|fK z<|ο z<|θ z<|fK z<|ο z<|θ z<|ib z<|ο z<|θ z<|fK z<|ο z<|Υ z<|m'<|g'<|a' (Û hr z z)
     refine Κ z<|θ z<|sk z z z<|ο z<|θ z<|fK z<|ο z<|θ z<|fK z<|ο z<|θ z<|ib z<|ο z<|θ z<|fK z<|ο z<|Υ z<|m'<|g'<|a' (Û hr z z)
    refine Κ z<|θ z<|sk z z z<|ο z<|θ z<|sk z z z<|ο z<|θ z<|fK z<|ο z<|θ z<|fK z<|ο z<|θ z<|ib z<|ο z<|θ z<|fK z<|ο z<|Υ z<|m'<|g'<|a' (Û hr z z)
   refine Κ z<|θ z<|sk z z z<|ο z<|θ z<|sk z z z<|ο z<|θ z<|sk z z z<|ο z<|θ z<|fK z<|ο z<|θ z<|fK z<|ο z<|θ z<|ib z<|ο z<|θ z<|fK z<|ο z<|Υ z<|m'<|g'<|a' (Û hr z z)
  refine θ z<|sk z z z<|ο z<|θ z<|sk z z z<|ο z<|θ z<|sk z z z<|ο z<|θ z<|sk z z z<|ο z<|θ z<|fK z<|ο z<|θ z<|fK z<|ο z<|θ z<|ib z<|ο z<|θ z<|fK z<|ο z<|Υ z<|m'<|g'<|a' (Û hr z z)
 refine sr<|Δ (eB z z)<|Υ z<|I' hr z (λbk hr=>?_) (λbk hr=>?_)
 .refine sr<|dQ hr z (k' z) z (λa5 hr=>?_) (λa5 hr=>?_)
  .refine θ z<|dQ hr (C' z z) (k' z) z (λaj hr=>?_) (λaj hr=>?_)
   .refine Κ z<|θ z<|dQ hr (C' z z) (k' z) z (λa1 hr=>?_) (λa1 hr=>?_)
    .refine Κ z<|θ z<|dQ hr (C' z z) (k' z) z (λa4 hr=>?_) (λa4 hr=>?_)
     .refine Κ z<|θ z<|dQ hr (C' z z) (k' z) z (λak hr=>?_) (λak hr=>?_)
      .refine Κ z<|θ z<|gy z z (zA z) z<|gy z z (n' 3 eM z z z) z<|oE hr λba ae hr=>H' (C' z z) z (x' wK z) (Ni.h ae) z (trivial) ?_
       cases ba
       .refine Κ z<|θ z<|fK z<|ο z<|θ z<|ib z<|ο z<|θ z<|ib z<|ο z<|Υ z<|m'<|g'<|a' (Û hr z z)
       refine Κ z<|θ z<|gy z z (zD z) z<|gy z z (n' 3 eM z z z) z<|dQ hr (C' z z) (vO z z) z (λaC hr=>?_) (λaC hr=>?_)
       .refine Κ z<|θ z<|gy z z (zD z) z<|gy z z (n' 3 eM z z z) z<|gy z z (xQ z) z<|gy z z (n' 3 eM z z z) z<|dQ hr (C' z z) (BM z z) z (λaY hr=>?_) (λaY hr=>?_)
        .refine Κ z<|θ z<|gy z z (xQ z) z<|gy z z (n' 3 eM z z z) z<|gy z z (zA z) z<|gy z z (n' 3 eM z z z) z<|gy z z (BM z z) z<|Κ z<|Υ z<|m'<|g'<|a' (Û hr z z)
        refine Κ z<|θ z<|ib z<|ο z<|Υ z<|m'<|g'<|a' (Û hr z z)
       refine Κ z<|θ z<|ib z<|ο z<|θ z<|ib z<|ο z<|Υ z<|m'<|g'<|a' (Û hr z z)
      refine Κ z<|θ z<|fK z<|ο z<|θ z<|fK z<|ο z<|θ z<|ib z<|ο z<|θ z<|ib z<|ο z<|Υ z<|m'<|g'<|a' (Û hr z z)
     refine Κ z<|θ z<|sk z z z<|ο z<|θ z<|fK z<|ο z<|θ z<|fK z<|ο z<|θ z<|ib z<|ο z<|θ z<|ib z<|ο z<|Υ z<|m'<|g'<|a' (Û hr z z)
    refine Κ z<|θ z<|sk z z z<|ο z<|θ z<|sk z z z<|ο z<|θ z<|fK z<|ο z<|θ z<|fK z<|ο z<|θ z<|ib z<|ο z<|θ z<|ib z<|ο z<|Υ z<|m'<|g'<|a' (Û hr z z)
   refine Κ z<|θ z<|sk z z z<|ο z<|θ z<|sk z z z<|ο z<|θ z<|sk z z z<|ο z<|θ z<|fK z<|ο z<|θ z<|fK z<|ο z<|θ z<|ib z<|ο z<|θ z<|ib z<|ο z<|Υ z<|m'<|g'<|a' (Û hr z z)
  refine θ z<|sk z z z<|ο z<|θ z<|sk z z z<|ο z<|θ z<|sk z z z<|ο z<|θ z<|sk z z z<|ο z<|θ z<|fK z<|ο z<|θ z<|fK z<|ο z<|θ z<|ib z<|ο z<|θ z<|ib z<|ο z<|Υ z<|m'<|g'<|a' (Û hr z z)
 refine sr<|Δ (eB z z)<|Υ z<|I' hr z (λbb hr=>?_) (λbb hr=>?_)
 .refine sr<|dQ hr z (k' z) z (λal hr=>?_) (λal hr=>?_)
  .refine θ z<|dQ hr (C' z z) (k' z) z (λab hr=>?_) (λab hr=>?_)
   .refine Κ z<|θ z<|dQ hr (C' z z) (k' z) z (λah hr=>?_) (λah hr=>?_)
    .refine Κ z<|θ z<|dQ hr (C' z z) (k' z) z (λaT hr=>?_) (λaT hr=>?_)
     .refine Κ z<|θ z<|dQ hr (C' z z) (mZ (k' z) (đ Value.bool (nV _))) z (λau hr=>?_) (λau hr=>?_)
      .refine Κ z<|θ z<|gy z z (zB z) z<|gy z z (n' 3 qY z z z) z<|gy z z (qO z) z<|gy z z (n' 2 eM z z z) z<|oE hr λbD aX hr=>H' (C' z z) z (x' zZ z) (lq.h aX) z ((C.mono (mx (mx e g) f)))<|Κ z<|Υ z<|m'<|g'<|a' (Û hr z z)
      refine Κ z<|θ z<|ib z<|ο z<|Υ z<|m'<|g'<|a' (Û hr z z)
     refine Κ z<|θ z<|sk z z z<|ο z<|θ z<|ib z<|ο z<|Υ z<|m'<|g'<|a' (Û hr z z)
    refine Κ z<|θ z<|sk z z z<|ο z<|θ z<|sk z z z<|ο z<|θ z<|ib z<|ο z<|Υ z<|m'<|g'<|a' (Û hr z z)
   refine Κ z<|θ z<|sk z z z<|ο z<|θ z<|sk z z z<|ο z<|θ z<|sk z z z<|ο z<|θ z<|ib z<|ο z<|Υ z<|m'<|g'<|a' (Û hr z z)
  refine θ z<|sk z z z<|ο z<|θ z<|sk z z z<|ο z<|θ z<|sk z z z<|ο z<|θ z<|sk z z z<|ο z<|θ z<|ib z<|ο z<|Υ z<|m'<|g'<|a' (Û hr z z)
 refine sr<|Δ (eB z z)<|Υ z<|I' hr z (λbj hr=>?_) (λbj hr=>?_)
 .refine sr<|dQ hr z (mZ (k' z) (đ Value.bool (nV _))) z (λay hr=>?_) (λay hr=>?_)
  .refine θ z<|dQ hr (C' z z) (k' z) z (λao hr=>?_) (λao hr=>?_)
   .refine Κ z<|θ z<|dQ hr (C' z z) (k' z) z (λaP hr=>?_) (λaP hr=>?_)
    .refine Κ z<|θ z<|dQ hr (C' z z) (mZ (k' z) (đ Value.bool (nV _))) z (λaw hr=>?_) (λaw hr=>?_)
     .refine Κ z<|θ z<|gy z z (zB z) z<|gy z z (n' 3 qY z z z) z<|gy z z (qO z) z<|gy z z (n' 2 eM z z z) z<|oE hr λa a7 hr=>H' (C' z z) z (x' zZ z) (lq.h a7) z ((C.mono (mx (mx e g) f))) ?_
      cases a
      .refine Κ z<|θ z<|q0 z<|ο z<|θ z<|fK z<|ο z<|Υ z<|m'<|g'<|a' (Û hr z z)
      refine Κ z<|θ z<|gy z z (BQ z) z<|gy z z (n' 3 sT z z z) z<|gy z z (P' zw (E.mono (mx (mx e g) f)) z) z<|gy z z (zB z) z<|gy z z (n' 3 qY z z z) z<|gy z z (P' uz (C.mono (mx (mx e g) f)) z) z<|dQ hr (C' z z) (eB z z) z (λZ hr=>?_) (λZ hr=>?_)
      .refine Κ z<|θ z<|gy z z (BQ z) z<|gy z z (n' 3 sT z z z) z<|oE hr λbC ax hr=>H' (C' z z) z (x' Ih z) (iS'.h ax) z ((E.mono (mx (mx e g) f)))<|Κ z<|Υ z<|m'<|g'<|a' (Û hr z z)
      refine Κ z<|θ z<|fK z<|ο z<|Υ z<|m'<|g'<|a' (Û hr z z)
     refine Κ z<|θ z<|ib z<|ο z<|θ z<|q0 z<|ο z<|θ z<|fK z<|ο z<|Υ z<|m'<|g'<|a' (Û hr z z)
    refine Κ z<|θ z<|sk z z z<|ο z<|θ z<|ib z<|ο z<|θ z<|q0 z<|ο z<|θ z<|fK z<|ο z<|Υ z<|m'<|g'<|a' (Û hr z z)
   refine Κ z<|θ z<|sk z z z<|ο z<|θ z<|sk z z z<|ο z<|θ z<|ib z<|ο z<|θ z<|q0 z<|ο z<|θ z<|fK z<|ο z<|Υ z<|m'<|g'<|a' (Û hr z z)
  refine θ z<|sk z z z<|ο z<|θ z<|sk z z z<|ο z<|θ z<|sk z z z<|ο z<|θ z<|ib z<|ο z<|θ z<|q0 z<|ο z<|θ z<|fK z<|ο z<|Υ z<|m'<|g'<|a' (Û hr z z)
 refine sr<|Δ (eB z z)<|Υ z<|I' hr z (λbf hr=>?_) (λbf hr=>?_)
 .refine sr<|dQ hr z (k' z) z (λaZ hr=>?_) (λaZ hr=>?_)
  .refine θ z<|dQ hr (C' z z) (k' z) z (λaN hr=>?_) (λaN hr=>?_)
   .refine Κ z<|θ z<|dQ hr (C' z z) (k' z) z (λam hr=>?_) (λam hr=>?_)
    .refine Κ z<|θ z<|dQ hr (C' z z) (k' z) z (λaK hr=>?_) (λaK hr=>?_)
     .refine Κ z<|θ z<|dQ hr (C' z z) (mZ (k' z) (đ Value.bool (nV _))) z (λa6 hr=>?_) (λa6 hr=>?_)
      .refine Κ z<|θ z<|gy z z (BW z) z<|gy z z (n' 3 jU z z z) z<|gy z z (P' jN (B.mono (mx (mx e g) f)) z) z<|dQ hr (C' z z) (BM z z) z (λaU hr=>?_) (λaU hr=>?_)
       .refine Κ z<|θ z<|gy z z (BW z) z<|gy z z (n' 3 jU z z z) z<|gy z z (qO z) z<|gy z z (n' 2 eM z z z) z<|oE hr λbw W hr=>H' (C' z z) z (x' zY z) (Wu.h W) z ((B.mono (mx (mx e g) f)))<|Κ z<|Υ z<|m'<|g'<|a' (Û hr z z)
       refine Κ z<|θ z<|ib z<|ο z<|Υ z<|m'<|g'<|a' (Û hr z z)
      refine Κ z<|θ z<|nJ z<|ο z<|θ z<|ib z<|ο z<|Υ z<|m'<|g'<|a' (Û hr z z)
     refine Κ z<|θ z<|sk z z z<|ο z<|θ z<|nJ z<|ο z<|θ z<|ib z<|ο z<|Υ z<|m'<|g'<|a' (Û hr z z)
    refine Κ z<|θ z<|sk z z z<|ο z<|θ z<|sk z z z<|ο z<|θ z<|nJ z<|ο z<|θ z<|ib z<|ο z<|Υ z<|m'<|g'<|a' (Û hr z z)
   refine Κ z<|θ z<|sk z z z<|ο z<|θ z<|sk z z z<|ο z<|θ z<|sk z z z<|ο z<|θ z<|nJ z<|ο z<|θ z<|ib z<|ο z<|Υ z<|m'<|g'<|a' (Û hr z z)
  refine θ z<|sk z z z<|ο z<|θ z<|sk z z z<|ο z<|θ z<|sk z z z<|ο z<|θ z<|sk z z z<|ο z<|θ z<|nJ z<|ο z<|θ z<|ib z<|ο z<|Υ z<|m'<|g'<|a' (Û hr z z)
 refine WC.nD hr [3,5,6,7,8,9] [3] (λ(D:Bool)=>⟨[(283,.bool D)],EB c D,tr,[]⟩) ?_ ?_
 .refine sr<|Δ (eB z z)<|Υ z<|I' hr z (λaq hr=>?_) (λaq hr=>?_)
  .refine q'<|pF ⟨H,decide (c.kind=12)⟩ ⟨hr,mr,trivial⟩ (Å z) (w1 z)
  refine w'<|Δ (eB z z)<|Ö z<|t'<|pF ⟨H,decide (c.kind=13)⟩ ⟨hr,mr,trivial⟩ (Å z) (w1 z)
 intro U D hr bu _;refine jM hr z (λaM hr=>?_) (λaM hr=>?_)
 .refine sr<|dQ hr z (k' z) z (λaE hr=>?_) (λaE hr=>?_)
  .refine θ z<|dQ hr (C' z z) (k' z) z (λaJ hr=>?_) (λaJ hr=>?_)
   .refine Κ z<|θ z<|dQ hr (C' z z) (k' z) z (λaF hr=>?_) (λaF hr=>?_)
    .refine Κ z<|θ z<|dQ hr (C' z z) (k' z) z (λad hr=>?_) (λad hr=>?_)
     .refine Κ z<|θ z<|dQ hr (C' z z) (k' z) z (λai hr=>?_) (λai hr=>?_)
      .refine Κ z<|θ z<|gy z z (xQ z) z<|gy z z (n' 3 eM z z z) z<|dQ hr (C' z z) (eB z z) z (λa8 hr=>?_) (λa8 hr=>?_)
       .refine Κ z<|θ z<|gy z z (zD z) z<|gy z z (n' 3 eM z z z) z<|dQ hr (C' z z) (eB z z) z (λaS hr=>?_) (λaS hr=>?_)
        .refine Κ z<|θ z<|gy z z (zA z) z<|gy z z (n' 3 eM z z z) z<|oE hr λbx V hr=>H' (C' z z) z (x' wK z) (Ni.h V) z (trivial)<|Κ z<|Υ z<|m'<|g'<|a' (Û hr z z)
        refine Κ z<|θ z<|fK z<|ο z<|Υ z<|m'<|g'<|a' (Û hr z z)
       refine Κ z<|θ z<|fK z<|ο z<|θ z<|fK z<|ο z<|Υ z<|m'<|g'<|a' (Û hr z z)
      refine Κ z<|θ z<|fK z<|ο z<|θ z<|fK z<|ο z<|θ z<|fK z<|ο z<|Υ z<|m'<|g'<|a' (Û hr z z)
     refine Κ z<|θ z<|sk z z z<|ο z<|θ z<|fK z<|ο z<|θ z<|fK z<|ο z<|θ z<|fK z<|ο z<|Υ z<|m'<|g'<|a' (Û hr z z)
    refine Κ z<|θ z<|sk z z z<|ο z<|θ z<|sk z z z<|ο z<|θ z<|fK z<|ο z<|θ z<|fK z<|ο z<|θ z<|fK z<|ο z<|Υ z<|m'<|g'<|a' (Û hr z z)
   refine Κ z<|θ z<|sk z z z<|ο z<|θ z<|sk z z z<|ο z<|θ z<|sk z z z<|ο z<|θ z<|fK z<|ο z<|θ z<|fK z<|ο z<|θ z<|fK z<|ο z<|Υ z<|m'<|g'<|a' (Û hr z z)
  refine θ z<|sk z z z<|ο z<|θ z<|sk z z z<|ο z<|θ z<|sk z z z<|ο z<|θ z<|sk z z z<|ο z<|θ z<|fK z<|ο z<|θ z<|fK z<|ο z<|θ z<|fK z<|ο z<|Υ z<|m'<|g'<|a' (Û hr z z)
 refine q'<|E'<|b'<|sr<|Υ z<|m' (Û hr z z)
instance iK'{p d r}:SpcM ((Ks p d)) r (∀{J M L O n m i o h k l g j f},Cr 166 #[.agg ([i' p.kind,ε J p.p M,ε L p.o O]).toArray,.agg ((jW d n m i o h k l g j f)).toArray] (λG=>sl c' G J M p.p/\sv G L O p.o/\sl c' G n m d.p/\sv G i o d.o/\sq G h k d.l/\sl (Rp.int .i64) G l g d.s/\sl (Rp.arr iC 8) G j f d.b) (λG v=>v=.tuple #[i' r.1,i' r.2])):=.mk λhr {J M L O n m i o h k l g j f}=>by
 refine J' (args:=[_,_]) (N:=87) func166 z z z (λU E av W=>?_);obtain⟨Y,I,Q,V,Z,X,K⟩:=W;refine sr<|jO 2 z z z λb1=>jO 3 z z z λq=>Ö z<|Υ z<|WC.nB hr [3] [3] (λ(⟨u,e⟩:Bool×Bool)=>⟨[(6,.bool u),(7,.bool e)],yG d u e,tr,[]⟩) ?_
 rintro A ⟨u,e⟩ hr P _;refine o'<|Y'<|WC.nB hr [3,6,7] [3] (λ(H:Bool)=>⟨[(19,.bool H)],Jx d u e H,tr,[]⟩) ?_
 intro t H hr T _;refine jM hr z (λa hr=>?_) (λa hr=>?_)
 .exact Ι
 refine WC.nB hr [3,7] [3] (λ(D:Bool)=>⟨[(30,.bool D)],Er d e D,tr,[]⟩) ?_;intro y D hr R _;refine jM hr z (λc hr=>?_) (λc hr=>?_)
 .exact Ι
 refine WC.nB hr [3,7] [3] (λ(F:Bool)=>⟨[(42,.bool F)],Jw d e F,tr,[]⟩) ?_;intro s F hr S _;refine jM hr z (λB hr=>?_) (λB hr=>?_)
 .exact Ι
 refine WC.nC hr [3,7] [3] (λ(C:Bool)=>⟨[(53,.bool C)],Ep d e C,tr,[]⟩) ?_;refine w'<|dQ hr z (mZ (k' z) (đ Value.bool (nV _))) z (λx hr=>?_) (λx hr=>?_)
 .exact Ι
 exact θ z<|nJ z<|Ê (M' z z) z<|Ê (M' z z) z<|Ê (M' z z) z<|sk z z z<|Ι
instance jc'{p n r}:SpcM ((FR p n)) r (∀{i l g k},Cr 239 #[ε i p l,ε g n k] (λG=>sv G i l p/\sv G g k n) (λG v=>v=.bool r)):=.mk λhr {i l g k}=>by refine Ρ ?_;intro x h _ _ _ _ hr _;refine WC.mA hr [0,1] [] [] [] (λ(o:Int)=>⟨o,[(5,i' o)],tr,[]⟩) (λ(_:Unit)=>⟨(.inr ()),[],tr,[]⟩) 0
instance iy'{t n i r}:SpcM ((Ka t n i)) r (∀{q s p o I H C K J A O L B y D M F P},Cr 167 #[.agg ((Ã t q s p o)).toArray,.agg ([i' n.kind,ε I n.p H,ε C n.o K]).toArray,.agg ((jW i J A O L B y D M F P)).toArray] (λG=>sq G q s t.eqs/\sq G p o t.δ/\sl c' G I H n.p/\sv G C K n.o/\sl c' G J A i.p/\sv G O L i.o/\sq G B y i.l/\sl (Rp.int .i64) G D M i.s/\sl (Rp.arr iC 8) G F P i.b) (λG v=>v=.bool r)):=.mk λhr {q s p o I H C K J A O L B y D M F P}=>by
 refine è ?_;intro _ _ _ _ _ _ _ _ _ _ _ _ _ _ _ _ _ _ _ _ _ _ _ _ hr _;refine I' hr z (λS hr=>?_) (λS hr=>?_)
 .exact Ι
 refine sr<|Δ (eB z z)<|Υ z<|I' hr z (λaw hr=>?_) (λaw hr=>?_)
 .refine o'<|fM [ff,ff,ff,ff,ff,ff,ff,ff,ff,ff,ff,ff,ff,ff,ff,ff,ff,ff] eR İ λhb=>cn (λ_ c=>zz z)<|cn (λ_ c=>n' 5 eM z z z)<|BL hr z (λ_ c=>eB z z) (λE hr=>?_) (λE hr=>?_)
  .refine Ρ ?_;intro _;refine Ê (M' z z) z ?_;exact Ι
  refine Ρ ?_;intro _ _ hr;refine oE hr λV T hr=>qH (post:=eA V) (λ_=>(C' z z)) (λ_ _=>x' D1 z) (GK.h T) z (λG' c=>trivial) (λv a d c h=>?_) ?_
  .obtain⟨j,l,k,m,rfl,g,e⟩:=h;exact⟨_,_,_,_,z,g.mono c,e.mono c⟩
  refine oE hr λZ U hr=>mh (f:=133) (φ:=fU c' Z) (λ_=>(C' z z)) (λv a d c h=>?_) (λu G' c hu=>?_) ?_
  .obtain⟨ae,al,rfl,Q⟩:=h;exact⟨_,_,z,Q.mono c⟩
  .obtain⟨⟨j,l,k,m,X,g,e⟩,_⟩:=(show(eA V) G'.m (u 46)/\True from hu);exact⟨_,_,_,λ_=>x' H6 z,gC'.h U,(by simp only[X]<;>rfl),⟨g,e⟩⟩
  exact Ι
 refine sr<|Δ (eB z z)<|Υ z<|I' hr z (λN hr=>?_) (λN hr=>?_)
 .exact Ι
 refine sr<|Δ (eB z z)<|Υ z<|I' hr z (λau hr=>?_) (λau hr=>?_)
 .exact Ι
 refine sr<|Δ (eB z z)<|Υ z<|I' hr z (λR hr=>?_) (λR hr=>?_)
 .exact Ι
 refine sr<|Δ (eB z z)<|Υ z<|I' hr z (λx hr=>?_) (λx hr=>?_)
 .exact Ι
 refine sr<|Δ (eB z z)<|Υ z<|I' hr z (λW hr=>?_) (λW hr=>?_)
 .exact Ι
 refine sr<|Δ (eB z z)<|Υ z<|I' hr z (λaz hr=>?_) (λaz hr=>?_)
 .refine sr<|Δ (zz z)<|Δ (n' 5 eM z z z)<|dQ hr z (eB z z) z (λY hr=>?_) (λY hr=>?_)
  .refine Ρ ?_;intro hr;refine Ê (M' z z) z<|Ê (M' z z) z<|Ê (M' z z) z<|sf z z z<|Κ z<|Υ z<|m'<|g'<|a' (Û hr z z)
  refine Ρ ?_;intro _ hr;refine Ê (M' z z) z<|Ê (M' z z) z<|Ê (M' z z) z<|sf z z z<|Κ z<|Υ z<|m'<|g'<|a' (Û hr z z)
 exact Ι
instance iz'{c J r}:SpcM ((Kt c J)) r (∀{h g f e l n o m U X L M S Q W Y P R},Cr 93 #[.agg ((fz c h g f e l n o m)).toArray,.agg ((jW J U X L M S Q W Y P R)).toArray] (λG=>sq G h g c.k.eqs/\sq G f e c.k.δ/\sl c' G l n c.q.p/\sv G o m c.q.o/\sl c' G U X J.p/\sv G L M J.o/\sq G S Q J.l/\sl (Rp.int .i64) G W Y J.s/\sl (Rp.arr iC 8) G P R J.b) (DR r)):=.mk λhr {h g f e l n o m U X L M S Q W Y P R}=>by
 refine J' (args:=[_,_]) (N:=46) func93 z z z (λw0 G0 an a=>?_);obtain⟨E,B,H,F,O,Z,T,K,V⟩:=a;refine sr<|jO 2 z z z λb1=>jO 3 z z z λb2=>W' 4 z zR z λb3=>nr<|Δ (GF z)<|Δ (R' ([i' c.q.kind,ε l c.q.p n,ε o c.q.o m]).toArray 2 qK z z z (mK ([i' c.id,i' c.k.n,ε h c.k.eqs g,ε f c.k.δ e]) ([i' c.q.kind,ε l c.q.p n,ε o c.q.o m]) ([i' c.ψ,i' c.low,i' c.high,.bool c.done])))<|Δ (y' 3 nR z z z)<|oE hr λA ae hr=>H' z z (x' Ii z) (iK'.h ae) z (⟨H,F,O,Z,T,K,V⟩)<|θ z<|ju z<|ju z<|Ö z<|Υ z<|WC.nB hr [2,4,5,6] [4] (λ(⟨d,q,p,k,j,v,u,t,x⟩:Ze×ŀ Addr×Nat×ŀ Addr×Nat×ŀ Addr×Nat×ŀ Addr×Nat)=>⟨[],Et A d,λI=>sq I q p d.k.eqs/\sq I k j d.k.δ/\sl c' I v u d.q.p/\sv I t x d.q.o,[(2,û b1 (fz d q p k j v u t x) 56)]⟩) ?_
 rintro I ⟨d,q,p,k,j,v,u,t,x⟩ hr al ⟨y,s,D,C⟩;refine sr<|Δ (BR z)<|Δ (n' 2 eM z z z)<|θ z<|Δ (Wi z z)<|Δ (BR z)<|qJ 2 ([i' d.id,i' d.k.n,ε q d.k.eqs p,ε k d.k.δ j,i' d.q.kind,ε v d.q.p u,ε t d.q.o x,i' d.ψ,i' (if d.low<A.1 then A.1 else d.low),i' d.high,.bool d.done]).toArray z jV z z z (show 8<11 by decide) z z<|nx<|o'<|sr<|θ z<|dQ hr z (vO z z) z (λai hr=>?_) (λai hr=>?_)
 .exact Ι
 refine θ z<|nJ z<|Ê (M' z z) z<|Ê (M' z z) z<|Ê (M' z z) z<|Ê (M' z z) z<|sk z z z<|ο z<|nx<|tM z<|q'<|b'<|sr<|Δ (y' 2 uB z z z)<|fZ 4 tJ z<|nx<|m' ?_
 obtain rfl:_=r:=hr;exact j' z (kD (i:=4) uB z z z) ⟨_,_,_,_,_,_,_,_,z,y,s,D,C⟩
instance iU'{Q ak aa L r}:SpcM ((KX Q ak aa L)) r (∀{M P V W},Cr 44 #[.agg ((ga Q M P)).toArray,i' ak,ε V aa W,i' L] (λG=>sl gi G M P Q.t/\sl rY G V W aa) (ji r)):=.mk λhr {M P V W}=>by
 refine è ?_;intro w0 G0 ax bQ _ _ b1 b2 o bS Y h g d f s q u t aD aA _ _ b3 hr _;refine o'<|sr<|θ z<|Δ (kE z)<|nx<|jM hr z (λcG hr=>?_) (λcG hr=>?_)
 .exact Ι
 refine q'<|b'<|WC.nB hr [1,2,3,4,8,10] [4,10] (λ(⟨a,aR,aS⟩:Zd×ŀ Addr×Nat)=>⟨[],Qz Q ak aa L o a,λaY=>sl gi aY aR aS a.t,[(8,û b2 (ga a aR aS) 26)]⟩) ?_
 rintro aY ⟨a,aR,aS⟩ hr F bK;refine o'<|sr<|Υ z<|WC.mB (hH:=by exact bK) hr [1,2,3,4,8,10] [4,10] [1,2,3,4,8,10] [4,10] (λ(⟨aN,a2,aI,aF⟩:Int×Zd×ŀ Addr×Nat)=>⟨(aN,a2),[(12,i' aN)],λa1=>sl gi a1 aI aF a2.t,[(8,û b2 (ga a2 aI aF) 26)]⟩) (λ(⟨aH,ah,af⟩:Zd×ŀ Addr×Nat)=>⟨(.inr aH),[],λaW=>sl gi aW ah af aH.t,[(8,û b2 (ga aH ah af) 26)]⟩) ⟨0,a,aR,aS⟩ ?_
 rintro aW ⟨aH,ah,af⟩ hr ad cH;refine Ρ ?_;intro b4 hr;refine WC.mC (hH:=by exact⟨(X' _ _),kX⟩) hr [1,2,3,4,8,10,13] [4,8,10] [8,13] [8] (λ(⟨X,R,ac,ab,Z,x⟩:Int×(Ŀ Ze)×ŀ Addr×Nat×ŀ Ow×Int)=>⟨(X,R,x),[(14,i' X)],λaL=>sl gi aL ac ab R/\Tok 11 56 (ε ac R ab) R.length Z,[(13,û b4 ([ε ac R ab,i' x]) 26),(310130,Z)]⟩) (λ(⟨i,aP,aO,aT,aJ⟩:(Ŀ Ze)×ŀ Addr×Nat×ŀ Ow×Int)=>⟨(i,aJ),[],λbl=>sl gi bl aP aO i/\Tok 11 56 (ε aP i aO) i.length aT,[(13,û b4 ([ε aP i aO,i' aJ]) 26),(310130,aT)]⟩) ⟨0,[],none,0,none,Q.next⟩ ?_;rintro _ aL ⟨X,R,ac,ab,Z,x⟩ U ⟨bm,a6⟩ hr;refine Ρ ?_;intro _ x1 _ _ bq _ bv _ bg _ bd _ bH _ bI _ bN _ bL _ _ _ _ bt _ bi bF b5 hr bM;refine WC.mD (hH:=by exact⟨bt,bi,bF,bM⟩) hr [1,2,3,4,8,10,13,14,15] [4,8,10,13,310130] [1,2,3,4,8,10,13,14,15] [4,8,10,13,310130] (λ(⟨aQ,O,I,H,E,C,am,ap,an,aq⟩:Int×Ze×ŀ Addr×Nat×ŀ Addr×Nat×ŀ Addr×Nat×ŀ Addr×Nat)=>⟨(aQ,O),[(16,i' aQ)],λe=>sq e I H O.k.eqs/\sq e E C O.k.δ/\sl c' e am ap O.q.p/\sv e an aq O.q.o,[(15,û b5 (fz O I H E C am ap an aq) 56)]⟩) (λ(⟨p,S,T,J,K,au,al,ar,ao⟩:Ze×ŀ Addr×Nat×ŀ Addr×Nat×ŀ Addr×Nat×ŀ Addr×Nat)=>⟨p,[],λaz=>sq az S T p.k.eqs/\sq az J K p.k.δ/\sl c' az au al p.q.p/\sv az ar ao p.q.o,[(15,û b5 (fz p S T J K au al ar ao) 56)]⟩) ⟨0,x1,bq,bv,bg,bd,bH,bI,bN,bL⟩ ?_ ?_
 .rintro _ e ⟨aQ,O,I,H,E,C,am,ap,an,aq⟩ ai ⟨av,aj,aX,aU⟩ hr;refine Ρ ?_;intro _ hr;obtain⟨c8,ca,hr⟩:=hr;have N1:=mx (mx (mx F ad) U) ai;refine H' (C' z z) z (x' D0 z) (Es _ _ _ _ _ _ _ _ _ _ _ ca) z (⟨av,aj,(aD.mono N1),(aA.mono N1)⟩)<|Κ z<|nx<|jM hr z (λct hr=>?_) (λct hr=>?_)
  .refine q'<|b'<|o'<|Y'<|fM [ff,ff,ff,ff,ff] eR İ λhb=>cn (λ_ ag=>y' 15 uB z z z)<|fO z<|fO z<|oE hr λx2 bP hr=>cn (λ_ ag=>kf MR tc ((ax.mono (mx (mx (mx (mx Y F) ad) U) ai)).mono ag) z z bP) ?_
   obtain⟨cQ,cN,cP,c0,cK,cJ,c3,cZ,cT,c2,cm,b6,b7,cg,bY,b8⟩:=Wm (T' (iM ax bP) (mx (mx (mx (mx Y F) ad) U) ai));refine cn (λ_ ag=>mY _ nR z z (λj v hv=>ag _ _ _ (cm j v hv)))<|pE hb<|oE hr λcv ci hr=>gd z z (x' Yo z) (iz'.h ci) z (⟨av,aj,aX,aU,b6,b7,cg,bY,b8⟩) (λcL cD bG bu=>?_)
   obtain⟨bh,bj,a7,a5,bB,bC,bz,bE,rfl,bf,a3,bD,bx⟩:=bu;refine fZ 15 tJ z<|t'<|Λ<|E'<|b'<|w'<|θ z<|iP z<|Ö z<|t'<|N' ⟨cD,i64.wrap (aQ+1),cv,bh,bj,a7,a5,bB,bC,bz,bE⟩ hr ⟨(mx ai bG),bf,a3,bD,bx⟩ (f10 z z z z z z z z z z) (w6 z z z z z z)
  exact Ι
 rintro az ⟨p,S,T,J,K,au,al,ar,ao⟩ hr bn ⟨aV,aM,a8,a4⟩;refine b'<|WC.nD hr [1,2,3,4,8,10,13,14,15] [4,8,10,13,310130] (λ(⟨c,m,n,l,k,B,A,D,y⟩:Ze×ŀ Addr×Nat×ŀ Addr×Nat×ŀ Addr×Nat×ŀ Addr×Nat)=>⟨[],EE X R x c,λN=>sq N m n c.k.eqs/\sq N l k c.k.δ/\sl c' N B A c.q.p/\sv N D y c.q.o,[(15,û b5 (fz c m n l k B A D y) 56)]⟩) ?_ ?_
 .refine sr<|Δ (GJ z)<|Δ (n' 15 eM z z z)<|θ z<|Δ (eB z z)<|nx<|I' hr z (λcB hr=>?_) (λcB hr=>?_)
  .exact Ι
  exact Ι
 rintro N ⟨c,m,n,l,k,B,A,D,y⟩ hr bp ⟨be,bc,bA,bw⟩;refine Ρ ?_;intro _ _ bo cx hr;refine oA hr λb0 hr=>jP (r:=gi) 310130 z z uy qR z ĳ z z (bm.mono (mx (mx bn bp) bo)) z (by rw[bQ];rfl) a6 cx b0 λp2 bT ck cy bO cA cb=>Δ (MC z)<|qJ 13 ([.slice p2 (R++[c]).length bT,i' x]).toArray z Dv z z z (show 0<2 by decide) z z<|t'<|E'<|b'<|w'<|θ z<|iP z<|Ö z<|t'<|N' ⟨cy,i64.wrap (X+1),(R++[c]),p2,bT,ck,x⟩ hr ⟨(mx (mx (mx (mx U bn) bp) bo) bO),cA,cb⟩ (Å z) (w5 z z z z z)
instance hQ'{b1 a r}:SpcM ((LB b1 a)) r (∀{ap ai U V H J T X ao ak},Cr 13 #[.agg ((ga b1 ap ai)).toArray,.agg ((pg a U V H J T X ao ak)).toArray] (λG=>sl gi G ap ai b1.t/\sl tP G U V a.c.l/\sl (Rp.int .u8) G H J a.c.ik/\sl (fP .i8 5) G T X a.p.t/\sl xU G ao ak a.l) (È r)):=.mk λhr {ap ai U V H J T X ao ak}=>by
 refine è ?_;intro w0 G0 _ _ _ K _ L _ s Q _ _ _ hr S;refine o' ?_;refine è ?_;intro hr;refine I' hr z (λaU hr=>?_) (λaU hr=>?_)
 .refine sr<|Δ (y' 3 xM z z z)<|oE hr λa7 aE hr=>gd z z (x' O1 z) (Wn.h aE) z (⟨L,s,Q,S⟩) (λa4 a6 o Z=>?_)
  obtain⟨aM,aN,aA,aJ,rfl,I,D⟩:=Z;refine W' 7 z pk z λb5=>fZ 7 rl z<|nx<|o'<|fM [ff,ff,ff,ff,ff,ff,ff] eR İ λN=>cn (λ_ d=>y' 2 lJ z z z) ?_
  refine è ?_;intro p hr _;refine oE hr λE aK hr=>mh (f:=43) (φ:=qy E) (λ_=>z) (λv G1 G2 d h=>?_) (λu B d O=>?_) ?_
  .obtain⟨m,l,rfl,C⟩:=h;exact⟨_,_,z,C.mono d⟩
  .obtain⟨⟨e,j,k,g,av,A,y⟩,_⟩:=(show(λG v=>∃e j k g,v=.agg ([i' p.kind,ε e p.p j,ε k p.o g]).toArray/\sl c' G e j p.p/\sv G k g p.o) B.m (u 21)/\True from O);exact⟨_,_,_,λ_=>x' O3 z,QL 5 _ _ _ _ _ _ _ _ _ _ _ _ _ _ aK,(by simp only[av]<;>rfl),⟨((K.mono o).mono d),(I.mono d),(D.mono d),A,y⟩⟩
  refine kJ (λ_=>z) yz<|GR (λa8 aY a3 X1 aH an ad ae=>?_)
  obtain⟨b6,rfl,aC⟩:=an;obtain⟨m,l,rfl,C⟩:=ad;obtain⟨e,j,k,g,rfl,A,y⟩:=ae;refine pQ aC (l7 (show WL _ _ _ _ _ _ (St w0 G0 X1.m _)from ?_));refine fZ 8 s9 z<|t'<|Λ<|b'<|o' ?_
  refine è ?_;intro hr;refine I' hr z (λaP hr=>?_) (λaP hr=>?_)
  .refine o'<|B8 [(8,û b6 (od E m l) 100)] (lc z ln) [ff,tt,tt] eR İ λN=>cn (λ_ d=>y' 2 lJ z z z)<|nE z (Y0.UP z)<|nE z (n' 8 Df z z z)<|xV N<|nW (λw q=>q.weaken (lc z ln))<|fZ 4 rZ z<|nS<|fA.y0 (λw q=>q.weaken (lc z ln)) z (rm z) z<|fA.y0 (λw q=>q.weaken (lc z ln)) z (rm z) z<|wa (λw q=>q.weaken (lc z ln))<|Λ<|b'<|m'<|a'<|a' ?_
   obtain rfl:_=r:=hr;exact MX z (kD (i:=4) lJ z z z) z z ⟨_,_,z,(K.mono (mx o aH))⟩
  refine q'<|b'<|o'<|B8 [(8,û b6 (od E m l) 100)] (lc z ln) [ff,ff,tt,tt] eR İ λN=>?_
  refine è ?_;intro hr;refine nE z (n' 8 eM z z z)<|xV N<|nW (λw q=>q.weaken (lc z ln))<|fZ 4 rZ z<|nS<|fA.y0 (λw q=>q.weaken (lc z ln)) z (rm z) z<|fA.y0 (λw q=>q.weaken (lc z ln)) z (rm z) z<|wa (λw q=>q.weaken (lc z ln))<|Λ<|b'<|m'<|a' ?_
  obtain rfl:_=r:=hr;exact MX z (kD (i:=4) lJ z z z) z z ⟨_,_,z,C⟩
 refine q'<|b'<|o'<|fM [ff,ff,ff,ff,ff,ff,ff,ff,ff,ff,tt,ff] eR İ λN=>?_
 refine è ?_;intro ay hr _;refine oE hr λF aI hr=>mh (f:=44) (φ:=ji F) (λ_=>z) (λv G1 G2 d h=>?_) (λu B d O=>?_) ?_
 .obtain⟨x,t,rfl,n⟩:=h;exact⟨_,_,z,n.mono d⟩
 .obtain⟨⟨am,al,au,M⟩,_⟩:=(show(fU rY ay) B.m (u 38)/\True from O);exact⟨_,_,_,λ_=>x' X6 z,iU'.h aI,(by simp only[au]<;>rfl),⟨(K.mono d),M⟩⟩
 refine km (φ:=ji F) (λ_=>z) (λv G1 G2 d h=>?_) (λu B d O=>?_) ?_
 .obtain⟨p1,W,rfl,R⟩:=h;exact⟨_,_,z,R.mono d⟩
 .obtain⟨⟨x,t,aw,n⟩,_,_⟩:=(show(ji F) B.m (u 41)/\True/\True from O);simp only[ς,aw];exact⟨_,k' z,x,t,z,n⟩
 refine km (φ:=kC F.1) (λ_=>z) (λv G1 G2 d h=>?_) (λu B d O=>?_) ?_
 .obtain⟨p2,aR,rfl,aj⟩:=h;exact⟨_,_,z,aj.mono d⟩
 .obtain⟨⟨p1,W,P,R⟩,_,_,_⟩:=(show(ji F) B.m (u 33)/\True/\True/\True from O);simp only[ς,P];exact⟨_,O' z z,p1,W,z,R⟩
 refine na (c:=i' F.2) (λ_=>z) (λu B d O=>?_) ?_
 .obtain⟨_,⟨p1,W,P,R⟩,_,_,_⟩:=(show True/\(ji F) B.m (u 33)/\True/\True/\True from O);simp only[ς,P];exact O' z z
 refine kJ (λ_=>z) z26<|xX (λa9 a1 aW aX a2 X2 aG aq af Y ab aa=>?_)
 obtain⟨b7,rfl,aB⟩:=aq;obtain⟨p2,aR,rfl,aj⟩:=af;obtain⟨p1,W,rfl,R⟩:=Y;obtain⟨x,t,rfl,n⟩:=ab;obtain⟨am,al,rfl,M⟩:=aa;refine pQ aB (l7 (show WL _ _ _ _ _ _ (St w0 G0 X2.m _)from ?_));exact Ι
instance pX{c r}:SpcM ((ZvW c)) r (∀{h i f d s t u q},Cr 61 #[.agg ((fz c h i f d s t u q)).toArray] (λG=>sq G h i c.k.eqs/\sq G f d c.k.δ/\sl c' G s t c.q.p/\sv G u q c.q.o) (fU tK r)):=.mk λhr {h i f d s t u q}=>by
 refine Ρ ?_;intro w0 G0 _ Y _ S _ L _ _ b1 p1 _ E X aF W I au ak M hr _;refine WC.mC (hH:=by exact⟨(X.mono I),kX⟩) hr [1,4] [1] [] [] (λ(⟨o,y,x,A,a⟩:(Ŀ Zb)×ŀ Addr×Nat×ŀ Ow×Int)=>⟨(o,a),[(3,ε y o x),(5,i' a)],λK=>sl tK K y x o/\Tok 3 54 (ε y o x) o.length A,[(1003,A)]⟩) (λ(⟨B,D,C,F⟩:(Ŀ Zb)×ŀ Addr×Nat×ŀ Ow)=>⟨B,[(3,ε D B C)],λR=>sl tK R D C B/\Tok 3 54 (ε D B C) B.length F,[(1003,F)]⟩) ⟨[],p1,0,none,0⟩ ?_;rintro _ K ⟨o,y,x,A,a⟩ k ⟨O,J⟩ hr;refine o' ?_;refine è ?_;intro hr;refine I' hr z (λaJ hr=>?_) (λaJ hr=>?_)
 .refine q'<|b'<|o'<|Y'<|fM [tt,ff,ff,ff,ff,ff,ff] eR İ λhb=>uC z (k' z)<|cn (λ_ H=>BG z)<|cn (λ_ H=>R' ((Ã c.k h i f d)).toArray 1 l6 z z z (mK ([i' c.id]) ((Ã c.k h i f d)) ([i' c.q.kind,ε s c.q.p t,ε u c.q.o q,i' c.ψ,i' c.low,i' c.high,.bool c.done])))<|fO z<|fO z<|oE hr λx1 N hr=>cn (λ_ H=>kf MP ns ((M.mono k).mono H) z z N) ?_
  obtain⟨aO,aR,aP,aT,ay,ax,ao⟩:=dq' (T' (iM M N) k);refine cn (λ_ H=>mY _ qK z z (λj v hv=>H _ _ _ (ay j v hv)))<|pE hb<|oE hr λg ar hr=>gd z z (x' X0 z) (fL'.h ar) z (⟨(S.mono (mx (mx E I) k)),(L.mono (mx (mx E I) k)),ax,ao⟩) (λaN aW Q U=>?_)
  obtain⟨ap,al,ag,af,p,m,l,n,rfl,av,ah,V,Z⟩:=U;refine Δ (Y0.xY underlying94 z qK z z)<|mU (e:=54) (r:=tK) (vs:=#[(0,.agg ([i' g.q.kind,ε p g.q.p m,ε l g.q.o n]).toArray)]) (cs:=[i' g.q.kind,ε p g.q.p m,ε l g.q.o n]++([])) ([g.q]:Ŀ Zb) z z z z z ĳ (λ_=>İ) ⟨[i' g.q.kind,ε p g.q.p m,ε l g.q.o n],[],z,⟨[i' g.q.kind],[ε p g.q.p m,ε l g.q.o n],z,z,⟨[ε p g.q.p m],[ε l g.q.o n],z,⟨_,z,V⟩,⟨_,z,Z⟩⟩⟩,z⟩ (key:=999) z (by rw[Y];rfl) (λp2 aV P aE=>?_)
  refine oA hr λam hr=>jP (r:=tK) 1003 z z MP M8 z ĳ z z (O.mono (mx Q P)) z (by rw[Y];rfl) J aE am λp3 T aj aH ab aD an=>Ö z<|t'<|Λ<|E'<|b'<|w'<|θ z<|iP z<|Ö z<|t'<|N' ⟨aH,(o++[g.q]),p3,T,aj,i64.wrap (a+1)⟩ hr ⟨(mx (mx (mx k Q) P) ab),aD,an⟩ (Å z) (w2 z z)
 exact Ι
instance gf'{i r}:SpcM ((LD i)) r (∀{Q S},Cr 22 #[ε Q i S] (λG=>sl M3 G Q S i) (kC r)):=.mk λhr {Q S}=>by
 refine Ρ ?_;intro w0 G0 O _ W av R B V X U j hr _;refine WC.mC hr [0,2,3] [2] [2,3] [2] (λ(⟨a,s,n,l⟩:Int×Zd×ŀ Addr×Nat)=>⟨(a,s),[(4,i' a)],λt=>sl gi t n l s.t,[(3,û j (ga s n l) 26)]⟩) (λ(⟨F,y,A⟩:Zd×ŀ Addr×Nat)=>⟨F,[],λH=>sl gi H y A F.t,[(3,û j (ga F y A) 26)]⟩) ⟨0,av,V,X⟩ ?_;rintro _ t ⟨a,s,n,l⟩ k x hr;refine o'<|sr<|θ z<|θ z<|Δ (P' em' (O.mono (mx B k)) z)<|dQ hr z (Z' z z) z (λaz hr=>?_) (λaz hr=>?_)
 .refine è ?_;intro hr;refine I' hr z (λN hr=>?_) (λN hr=>?_)
  .refine q'<|b'<|o'<|Y'<|fM [ff,ff,ff,ff,ff,ff,ff,ff,tt,tt] eR İ λhb=>cn (λ_ e=>y' 3 lJ z z z)<|fO z<|fO z ?_
   refine è ?_;intro _ _ _ _ _ _ _ _ _ _ _ _ _ _ _ _ _ _ _ _ _ _ _ _ _ _ _ f hr _;refine km (φ:=È f) (λ_=>z) (λv I K e h=>?_) (λu C e E=>?_) ?_
   .obtain⟨T,D,rfl,q⟩:=h;exact⟨_,_,z,q.mono e⟩
   .obtain⟨⟨p,o,Y,g⟩,_⟩:=(show(È f) C.m (u 22)/\True from E);simp only[ς,Y];exact⟨_,k' z,p,o,z,g⟩
   refine km (φ:=kC f.1) (λ_=>z) (λv I K e h=>?_) (λu C e E=>?_) ?_
   .obtain⟨p2,ah,rfl,P⟩:=h;exact⟨_,_,z,P.mono e⟩
   .obtain⟨⟨T,D,m,q⟩,_,_⟩:=(show(È f) C.m (u 16)/\True/\True from E);simp only[ς,m];exact⟨_,O' z z,T,D,z,q⟩
   refine na (c:=i' f.2.1) (λ_=>z) (λu C e E=>?_) ?_
   .obtain⟨_,⟨T,D,m,q⟩,_,_⟩:=(show True/\(È f) C.m (u 16)/\True/\True from E);simp only[ς,m];exact O' z z
   refine na (c:=i' f.2.2) (λ_=>z) (λu C e E=>?_) ?_
   .obtain⟨_,⟨T,D,m,q⟩,_,_⟩:=(show True/\(È f) C.m (u 16)/\True/\True from E);simp only[ς,m];exact O' z z
   refine zJ (d:=23) (post:=kC f.1) (d':=16) (post':=È f) (d'':=22) (post'':=È f) (λaI aG aK ar Z J L M=>?_);obtain⟨p2,ah,rfl,P⟩:=J;obtain⟨T,D,rfl,q⟩:=L;obtain⟨p,o,rfl,g⟩:=M;exact fZ 3 rZ z<|Ι
  exact Ι
 exact Ι
theorem Pq(q:(Ŀ Zs))(J:Zs)(P:Int)(aM:ŀ Addr)(aR:Nat)(ag:ŀ Addr)(ab:Nat)(Q:ŀ Addr)(R:Nat)(ae:ŀ Addr)(Z:Nat)(aw:ŀ Addr)(ar:Nat)(r:Bool)(hr:(JF q J P).Γ r):Cr 5 #[ε aM q aR,.agg ((pg J ag ab Q R ae Z aw ar)).toArray,.int .u8 P] (λG=>sl M3 G aM aR q/\sl tP G ag ab J.c.l/\sl (Rp.int .u8) G Q R J.c.ik/\sl (fP .i8 5) G ae Z J.p.t/\sl xU G aw ar J.l) (λG v=>v=.bool r):=by
 refine è ?_;intro w0 G0 _ _ _ _ _ _ _ _ _ _ _ aQ hr _;refine o'<|sr<|θ z<|Δ (kE z)<|nx<|jM hr z (λcB hr=>?_) (λcB hr=>?_)
 .exact Ι
 refine q'<|b'<|o'<|fM [ff,ff,ff,ff,ff,ff] eR İ λhb=>?_
 refine è ?_;intro _ _ ap hr _;refine kJ (λ_=>z) z26<|kJ (λ_=>z) pk<|Nh (λdg dh cN cW X1 al a9 W a0 a1=>?_)
 obtain⟨O,L,D,E,rfl,n,f⟩:=a0;obtain⟨bp,bk,rfl,am⟩:=a1;refine tQ a9 (λb3 cj cv=>?_);subst cj;replace W:=B7 W ĳ cv;refine tQ W (λb2 cy c4=>?_);subst cy;refine l7 (show WL _ _ _ _ _ _ (St w0 G0 X1.m _)from ?_);refine fZ 8 rZ z ?_;refine è ?_;intro y _ _ s aN aO T S ai aP b4 ah bJ t af ad M b5 hr _;refine WC.nB hr [2,7,9,10,11,12] [9,10,11] (λ(_:Unit)=>⟨[],Pu P aQ ap y ah,tr,[]⟩) ?_;intro bb _ hr g _;refine sr<|Δ (qO z)<|Δ (n' 9 eM z z z)<|oE hr λc5 bM hr=>gd z z (x' O2 z) (nj.h bM) z (trivial) (λcL ch i aS=>?_)
 obtain⟨c0,cO,rfl,N⟩:=aS;refine Ö z<|nr<|θ z<|θ z<|Δ (oB Bw zv z)<|θ z<|Δ (P' BO N z)<|oA hr λcr hr=>Δ (vU z z cr)<|oE hr λx1 bK hr=>Δ (kf BO tN N z z bK)<|Δ (mY _ r0 z (U' _ _ _) (MV (iM N bK)))<|W' 15 z tv z λb6=>A' 15 z tN z z z (U' _ _ _) (U' _ _ _) (λu U=>Rp.one (fP .i64 8) (G:=ch) (x:=x1) (cs:=Ó x1) z u (by first|simpa using U|simpa[Value.cells]using U))<|nr<|Δ (y' 10 qK z z z)<|W' 16 z z54 z λb7=>fZ 16 ns z<|nr<|Δ (vS z)<|Δ (n' 10 oG z z z)<|Δ (y' 15 r0 z z (U' _ _ _))<|oE hr λa8 b0 hr=>gd z z (x' IP z) (M1.h b0) z ((ai.mono (mx (mx t g) i))) (λcT df l a2=>?_)
 obtain⟨ao,au,rfl,av⟩:=a2;refine θ z<|ju z<|ju z<|Δ (vS z)<|qJ 16 ([i' y.kind,ε ao a8.1 au,ε T y.o S]).toArray z oI z z z (show 1<3 by decide) z z<|nr<|Δ (y' 9 l6 z z z)<|Δ (y' 15 r0 z z (U' _ _ _)) ?_
 obtain⟨bI,cc,hr⟩:=hr;have a:=mx (mx (mx (mx s t) g) i) l;refine gd z z (x' XX z) (fE'.h cc) z (⟨(n.mono a),(f.mono a)⟩) (λcK di m aW=>?_);obtain⟨aY,aU,ay,aF,rfl,K,F⟩:=aW;refine W' 17 z pk z λb8=>fZ 17 rl z<|nr<|Δ (y' 11 lJ z z z)<|θ z<|oE hr λC bR hr=>gd z z (x' O0 z) (V9.h bR) z ((M.mono (mx (mx (mx g i) l) m))) (λcX c6 d aZ=>?_)
 obtain⟨I,H,A,B,az,aJ,aA,aE,rfl,ak,X,bN,bZ⟩:=aZ;refine θ z<|ju z<|ju z<|W' 18 z zR z λb9=>fZ 18 tJ z<|Ö z<|nr<|Δ (y' 17 l6 z z z)<|oE hr λa6 bC hr=>gd z z (x' Ad z) (Aw _ _ _ _ _ _ bC) z (⟨(K.mono d),(F.mono d)⟩) (λcE a5 c ax=>?_)
 obtain⟨bD,bA,be,bj,rfl,an,Y⟩:=ax;refine θ z<|ju z ?_
 refine è ?_;intro _ _ hr;refine WC.nD hr [7,9,10,11,12,16,17] [9,10,11,16,17] (λ(_:Unit)=>⟨[],Pt aQ ap y ah a8 bI,tr,[]⟩) ?_ ?_
 .refine sr<|dQ hr z (mZ (k' z) (đ Value.bool (nV _))) z (λcm hr=>?_) (λcm hr=>?_)
  .refine Ρ ?_;intro hr;exact oE hr λc2 bu hr=>H' (C' z z) z (x' D0 z) (Es _ _ _ _ _ _ _ _ _ _ _ bu) z (⟨(ak.mono c),(X.mono c),an,Y⟩)<|gy z z (kE z) z<|Ι
  exact Ι
 intro ba _ hr e _;refine Ρ ?_;intro hr;obtain⟨a7,bx,hr⟩:=hr;have N2:=mx (mx (mx (mx a m) d) c) e;refine gd z z (x' Ad z) (Aw _ _ _ _ _ _ bx) z (⟨(n.mono N2),(f.mono N2)⟩) (λcH cq j aC=>?_);obtain⟨bl,bB,bi,bc,rfl,bt,bf⟩:=aC;refine θ z ?_;refine è ?_;intro _ _ hr;obtain⟨a4,bn,hr⟩:=hr;have h:=mx (mx (mx d c) e) j;refine gd z z (x' Ad z) (Aw _ _ _ _ _ _ bn) z (⟨(K.mono h),(F.mono h)⟩) (λcC bO k aB=>?_);obtain⟨bs,bq,bg,bh,rfl,bv,bd⟩:=aB;refine θ z<|ju z<|ju z<|W' 24 z pk z λdb=>W' 25 z tv z λda=>fZ 24 rl z<|A' 25 z tN z z z (U' _ _ _) (U' _ _ _) (λu U=>Rp.one (fP .i64 8) (G:=bO) (x:=a4.2) (cs:=Ó a4.2) z u (by first|simpa using U|simpa[Value.cells]using U))<|nr<|Δ (vS z)<|Δ (n' 10 oG z z z)<|Δ (y' 23 r0 z z (U' _ _ _)) ?_
 obtain⟨cS,bw,hr⟩:=hr;have N4:=mx (mx (mx (mx (mx (mx (mx (mx (mx t g) i) l) m) d) c) e) j) k;refine gd z z (x' IP z) (M1.h bw) z ((ai.mono N4)) (λcG c1 p aD=>?_);obtain⟨cf,cd,rfl,aT⟩:=aD;refine θ z<|ju z<|ju z<|Ö z<|Ö z<|nr<|Δ (vS z)<|Δ (n' 16 oG z z z)<|Δ (y' 25 r0 z z (U' _ _ _))<|oE hr λcV bF hr=>gd z z (x' IP z) (M1.h bF) z ((av.mono (mx (mx (mx (mx (mx (mx m d) c) e) j) k) p))) (λcD cY o aG=>?_)
 obtain⟨ce,cg,rfl,a3⟩:=aG;refine θ z<|ju z<|ju z<|Ö z<|Ö z<|nr<|Δ (y' 11 lJ z z z)<|Δ (y' 17 l6 z z z)<|Δ (y' 16 qK z z z) ?_
 obtain⟨cZ,bH,hr⟩:=hr;have N5:=mx (mx (mx (mx (mx (mx (mx (mx (mx (mx g i) l) m) d) c) e) j) k) p) o;have N6:=mx (mx (mx (mx (mx (mx (mx m d) c) e) j) k) p) o;have N7:=mx (mx (mx h k) p) o;refine gd z z (x' yA z) (zM.h bH) z (⟨(M.mono N5),(K.mono N7),(F.mono N7),(av.mono N6),(aP.mono (mx (mx N4 p) o))⟩) (λcF cQ V aH=>?_);obtain⟨bS,bQ,rfl,aI⟩:=aH;refine θ z<|ju z ?_
 refine è ?_;intro _ hr;refine o'<|sr<|θ z<|Δ (pH z z)<|nx<|I' hr z (λcl hr=>?_) (λcl hr=>?_)
 .exact Ι
 refine q'<|b'<|o' ?_
 refine è ?_;intro _ hr _;refine jM hr z (λcp hr=>?_) (λcp hr=>?_)
 .refine sr<|θ z<|θ z<|dQ hr z (eB z z) z (λcz hr=>?_) (λcz hr=>?_)
  .refine θ z<|gy z z (y' 11 lJ z z z) z<|gy z z (y' 30 lJ z z z) z<|oE hr λbW br hr=>H' (C' z z) z (x' OZ z) (We.h br) z (⟨(M.mono (mx N5 V)),aI⟩) ?_
   cases bW
   .exact Ι
   exact Ι
  exact Ι
 exact Ι
instance {j:(Ŀ Zs)}{J:Zs}{k:Int}{r:Bool}:SpcM ((JF j J k)) r (∀{c:ŀ Addr}{d:Nat}{g:ŀ Addr}{e:Nat}{Q:ŀ Addr}{R:Nat}{f:ŀ Addr}{Z:Nat}{i:ŀ Addr}{h:Nat},Cr 5 #[ε c j d,.agg ((pg J g e Q R f Z i h)).toArray,.int .u8 k] (λG=>sl M3 G c d j/\sl tP G g e J.c.l/\sl (Rp.int .u8) G Q R J.c.ik/\sl (fP .i8 5) G f Z J.p.t/\sl xU G i h J.l) (λG v=>v=.bool r)):=⟨λa {c d g e Q R f Z i h}=>Pq _ _ _ c d g e Q R f Z i h _ a⟩
end Go.Proofs.YtepbagkffgddlaaGreat

namespace Go.Proofs.YtepbagkffgddlaaGreat
open Go.IntKind (i8 i16 i32 i64 u8 u16 u32 u64)
open Go.Proofs.Tryz
open Go Go.EL Go.RowKit Go.Proofs
set_option maxHeartbeats 4000000
set_option maxRecDepth 20000
end Go.Proofs.YtepbagkffgddlaaGreat

namespace Go.EL
open Go.IntKind (i8 i16 i32 i64 u8 u16 u32 u64)
open Go Go.RowKit
def B5:Ù:=[⟨ý 1,ζ (λ_=>0) (0:Int).toNat 1⟩]
def zL:Zc:=⟨1,[B5],[]⟩
theorem ZAq:Β B5:=Β.of (by decide +kernel)
theorem ri:dR zL where
 ok:={
  n:=ĳ
  eqs:=⟨ĳ,λp hp=>by
   rw[Ē.1 (show p∈[B5]from hp)];exact⟨ZAq,by decide +kernel,ĳ,by decide +kernel,by decide +kernel⟩,ū _ _⟩
  δ:=⟨ĳ,λp hp=>absurd hp ĝ,List.Pairwise.nil⟩ }
 n3:=ĳ
theorem B6:(Mg 0).Γ (B5,0):=⟨ĳ,_,(xL (n:=1) ĳ).1,rfl⟩
abbrev q4:Zb:=⟨4,[],[]⟩
abbrev q5:Zb:=⟨5,[],[]⟩
def jS:Zc:=(Θ zL).1
def gS:Zd:=⟨[⟨1,jS,q4,0,0,-1,false⟩],2⟩
def uJ:Zd:=⟨[⟨1,jS,q4,0,0,-1,false⟩,⟨2,jS,q5,0,0,-1,false⟩],3⟩
theorem ZAr:hU q4≠hU q5:=by intro e;have:=đ ByteArray.toList e;revert this;decide +kernel
theorem Gm:q4∈ó 5:=Ē.2 rfl
theorem Vg:q5∈ó 6:=Ē.2 rfl
theorem ZAs:gL jS q4≠gL jS q5:=λe=>ZAr (Mp ri.canon.ok ri.canon.ok e).2
theorem UO:gv gS jS q4=(gS,1):=by
 unfold gv;have:eI gS.t (gL jS q4)=some ⟨1,jS,q4,0,0,-1,false⟩:=by unfold eI gS;exact List.find?_cons_of_pos (Ă rfl)
 rw[this]
theorem L8:fv jt zL q4=(gS,1,0):=by unfold fv;rw[ą (EO Gm ri.ok),EN Gm];rfl
theorem Zzp:fv gS zL q4=(gS,1,0):=by unfold fv;rw[ą (EO Gm ri.ok),EN Gm];show((gv gS jS q4).1,(gv gS jS q4).2,0)=_;rw[UO]
theorem L9:fv gS zL q5=(uJ,2,0):=by
 unfold fv;rw[ą (EO Vg ri.ok),EN Vg];have a:fg 4 gS jS q4=(gS,1):=UO;have e:fg 5 gS jS q5=gv (fg 4 gS jS q4).1 jS q5:=rfl;have c:gv gS jS q5=(uJ,2):=by
  unfold gv;have:eI gS.t (gL jS q5)=none:=by unfold eI gS;exact(List.find?_cons_of_neg (by rw[Ę];exact ZAs)).trans rfl
  rw[this];rfl
 show((fg 5 gS jS q5).1,(fg 5 gS jS q5).2,0)=_;rw[e,a,c]
theorem Zzq:fv gS zL ⟨11,[],[]⟩=(⟨[],0⟩,0,1):=rfl
theorem vE:å gS:=by have:=(Fs yW ri (eY.nil 4) (by rw[L8])).ok;rwa [L8]at this
theorem Zzo:å uJ:=by have:=(Fs vE ri (eY.nil 5) (by rw[L9])).ok;rwa [L9]at this
abbrev B4:Zj:=⟨5,[],1,0,0,[],[],[],[]⟩
abbrev sn(n:Int):Zj:=⟨12,[],n,0,0,[],[],[],[]⟩
theorem Pc:jS.n=1:=ri.UH
theorem Zzr:gT gS 1 [B4] 3=(⟨[⟨1,jS,q4,4,0,-1,true⟩],2⟩,0):=by
 rw[sF (rfl) ĳ (by
  show([B4].all (â jS))=true;unfold â;rw[Pc];decide +kernel)]
 show(Zd.mk [stepT jS 1 [B4] 3 ⟨1,jS,q4,0,0,-1,false⟩] 2,(0:Int))=_;unfold stepT;rw[ą rfl];rfl
theorem Zzs:gT gS 2 [] 3=(⟨[],0⟩,380):=ya rfl
theorem Zzt:gT gS 1 [] 13=(⟨[],0⟩,1):=sE rfl ĳ
theorem Zzu:gT uJ 2 [sn 5,sn 7] 0=(⟨[⟨1,jS,q4,0,0,-1,false⟩,⟨2,jS,q5,1,0,5,false⟩],3⟩,0):=by
 rw[sF (rfl) ĳ (by
  show([sn 5,sn 7].all (â jS))=true;unfold â;rw[Pc];decide +kernel)]
 show(Zd.mk [stepT jS 2 [sn 5,sn 7] 0 ⟨1,jS,q4,0,0,-1,false⟩,stepT jS 2 [sn 5,sn 7] 0 ⟨2,jS,q5,0,0,-1,false⟩] 3,(0:Int))=_;unfold stepT;rw[ą rfl,ą rfl];rfl
end Go.EL

namespace Go.EL
open Go.IntKind (i8 i16 i32 i64 u8 u16 u32 u64)
open Go Go.RowKit
theorem ZAp:Ë B4:=.BU 1 0 ĳ ĳ
theorem VA{n:Int}(h:0<=n/\n<=7):Ë (sn n):=.zF 12 n ĳ h
theorem Zn2:JG.Γ true:=by
 have w1:=xD yW ĳ ri (eY.nil 4);rw[L8]at w1;have w2:=xD vE ĳ ri (eY.nil 4);rw[Zzp]at w2;have w3:=AX vE ĳ 1 (l:=[B4]) ĳ (λc a=>by rw[Ē.1 a];exact ZAp) 3;rw[Zzr]at w3;have w4:=xD vE ĳ ri (eY.nil 11);rw[Zzq]at w4;have w5:=AX vE ĳ 2 (l:=[]) ĳ (λc a=>absurd a ĝ) 3;rw[Zzs]at w5;have w6:=AX vE ĳ 1 (l:=[]) ĳ (λc a=>absurd a ĝ) 13;rw[Zzt]at w6;have m:=(A8 (B:=⟨[⟨1,jS,q4,4,0,-1,true⟩],2⟩) ĳ 1).1;have w8:=QB vE.tj ĳ;have j:=xD vE ĳ ri (eY.nil 5);rw[L9]at j;have d:=AX Zzo ĳ 2 (l:=[sn 5,sn 7]) ĳ (λc a=>by
  rcases Ď.1 a with a|a
  .rw[a];exact VA ĳ
  rw[Ē.1 a];exact VA ĳ) 0
 rw[Zzu]at d;have f:=(A8 (B:=⟨[⟨1,jS,q4,0,0,-1,false⟩,⟨2,jS,q5,1,0,5,false⟩],3⟩) ĳ 2).1;have g:(E5 jt).Γ true:=by
  rcases Vj (Zv5 yW.DI)with h|h
  .exact h.2
  exact absurd (yW.valid ĳ) h.1
 have i:=Zu4 yW ĳ;have k:(Jd (B5,0) (gS,1,0)).Γ true:=by refine⟨_,rfl,_,j,Cq.wp.no (λe=>e rfl) ⟨_,d,_,f,Cq.wp.yes rfl (Cq.wp.yes rfl (Cq.wp.yes rfl (Cq.wp.yes rfl (Cq.wp.no ĳ ⟨jt,rfl,true,g,jt,rfl,_,i,?_⟩))))⟩⟩;rfl
 refine⟨_,B6,jt,rfl,_,rfl,_,w1,_,rfl,_,w2,_,w3,_,rfl,_,w4,_,w5,_,w6,_,m,?_⟩;exact Cq.wp.no (λe=>e rfl) (Cq.wp.no (λe=>e rfl) (Cq.wp.no (λe=>e rfl) (Cq.wp.no (λe=>e rfl) (Cq.wp.no (λe=>e rfl) (Cq.wp.no (λe=>e rfl) (Cq.wp.no (λe=>e rfl) ⟨true,w8,Cq.wp.yes rfl (Cq.wp.yes rfl (Cq.wp.no (λe=>e rfl) (Cq.wp.no (λe=>e rfl) k)))⟩))))))
end Go.EL

namespace Go.EL
open Go.IntKind (i8 i16 i32 i64 u8 u16 u32 u64)
open Go Go.RowKit
theorem ZzK{B:Zd}(h:å B){s t:Ze}(g:s∈B.t)(k:t∈B.t)(e:s.id=t.id):s=t:=by obtain⟨i,hi,a⟩:=ķ.1 g;obtain⟨j,f,c⟩:=ķ.1 k;have h3:=h.ids i hi;have d:=h.ids j f;rw[a]at h3;rw[c]at d;have:i=j:=ŉ;subst this;rw[<-a,<-c]
theorem U0{B:Zd}(h:å B){t:Ze}(c:t∈B.t):dE B.t t.id=(t,true):=by
 unfold dE;cases a:B.t.find? λu=>decide (u.id=t.id)with
 |some u=>
  have e:u.id=t.id:=by simpa using aaj a
  rw[ZzK h (ej a) c e]
 |none=>
  have:=List.find?_eq_none.1 a t c;exact absurd (Ă rfl) this
end Go.EL

namespace Go.EL
open Go.IntKind (i8 i16 i32 i64 u8 u16 u32 u64)
open Go Go.RowKit
structure mT (t u:Ze):Prop where
 low:t.low<=u.low
 high:0<=t.high->0<=u.high/\u.high<=t.high
 VY:t.ψ<=u.ψ
 done:t.done=true->u.done=true
 k:u.k=t.k
 q:u.q=t.q
 id:u.id=t.id
theorem mT.trans{s t u:Ze}(h:mT s t)(k:mT t u):mT s u:=
 ⟨dO h.low k.low,λa=>by have:=h.high a;have:=k.high this.1;omega,dO h.VY k.VY,λa=>k.done (h.done a),k.k.trans h.k,k.q.trans h.q,k.id.trans h.id⟩
end Go.EL

namespace Go.EL
open Go.IntKind (i8 i16 i32 i64 u8 u16 u32 u64)
open Go Go.RowKit
structure rH (B:Zd) (g:Ze->Ze):Prop where
 id:∀t,(g t).id=t.id
 k:∀t,(g t).k=t.k
 ok:å ⟨B.t.map g,B.next⟩
theorem rH.next{B:Zd}{g:Ze->Ze}(c:rH B g){id:Int}(f:(dE B.t id).2=true){tr:Int}(i:0<=tr/\tr<=12){m:Ŀ Zj}(h:m.all (â (dE B.t id).1.k)=true):
  gT ⟨B.t.map g,B.next⟩ id m tr=(⟨B.t.map λt=>stepT (dE B.t id).1.k id m tr (g t),B.next⟩,0)/\rH B λt=>stepT (dE B.t id).1.k id m tr (g t):=by
 obtain⟨o1,o2⟩:=K4 f
 have d:g (dE B.t id).1∈B.t.map g:=Ğ.2 ⟨_,o1,rfl⟩
 have a:=U0 c.ok d
 rw[c.id,o2]at a
 have a:dE (Zd.mk (B.t.map g) B.next).t id=(g (dE B.t id).1,true):=a
 have e:gT ⟨B.t.map g,B.next⟩ id m tr=(⟨B.t.map λt=>stepT (dE B.t id).1.k id m tr (g t),B.next⟩,0):=by rw[sF (by rw[a]) ŉ (by rw[a];show m.all (â (g _).k)=true;rw[c.k];exact h),a];show(Zd.mk ((B.t.map g).map (stepT (g (dE B.t id).1).k id m tr)) B.next,(0:Int))=_;rw[c.k,eu];rfl
 refine⟨e,λt=>(AU _ _ _ _ _).1.trans (c.id t),λt=>(AU _ _ _ _ _).2.1.trans (c.k t),?_⟩
 have:=(SQ c.ok (id:=id) (l:=m) (tried:=tr) (by rw[e])).1
 rwa [e]at this
end Go.EL

namespace Go.EL
open Go.IntKind (i8 i16 i32 i64 u8 u16 u32 u64)
open Go Go.RowKit
end Go.EL

namespace Go.EL
open Go.IntKind (i8 i16 i32 i64 u8 u16 u32 u64)
open Go Go.RowKit
theorem Zyc{B:Zd}(h:å B){s t:Ze}(f:s∈B.t)(g:t∈B.t)(e:eS s=eS t):s=t:=by
 obtain⟨i,hi,rfl⟩:=Ŕ f;obtain⟨j,c,rfl⟩:=Ŕ g;have a:=Ģ.1 h.Ú;by_cases d:i<j
 .exact absurd e (a i j hi c d)
 by_cases h2:j<i
 .exact absurd e.symm (a j i c hi h2)
 have:i=j:=ŉ;subst this;rfl
theorem Zxd{C:Zd}(h:å C){c:Zc}{q:Zb}{t:Ze}(d:t∈C.t)(e:eS t=gL c q):gv C c q=(C,t.id):=by
 unfold gv;cases a:eI C.t (gL c q)with
 |none=>exact absurd e (KL a t d)
 |some u=>
  obtain⟨f,h2⟩:=E1 a;rw[Zyc h f d (h2.trans e.symm)]
theorem YN{c c':Zc}(h:ü c'=ü c)(q:Zb):gL c' q=gL c q:=by unfold gL;rw[h]
theorem SA:∀{n:Nat}{B C:Zd}{c c':Zc}{q:Zb},jR q.kind<=n->å B->ic c q->å C->(fg n B c q).1.t <+: C.t->ü c'=ü c->fg n C c' q=(C,(fg n B c q).2)
 |0,_,_,_,_,q,l,_,_,_,_,_=>by
  rcases tz q.kind with ⟨_,h⟩|⟨x,_,h⟩<;>omega
 |n+1,B,C,c,c',q,l,g,i,k,hp,m=>by
  obtain⟨_,t,t1,t2,t3⟩:=vw (n:=n+1) l g i;have e:fg (n+1) C c' q=gv ((ó q.kind).foldl (λb x=>(fg n b c' x).1) C) c' q:=rfl;have r:fg (n+1) B c q=gv ((ó q.kind).foldl (λb x=>(fg n b c x).1) B) c q:=rfl;have f:gv C c' q=(C,(fg (n+1) B c q).2):=by rw[Zxd k (hp.subset t1) (t2.trans (YN m q).symm),t3]
  rw[e];rcases tz q.kind with ⟨d,A⟩|⟨x,d,A⟩
  .rw[d];exact f
  have D:x∈ó q.kind:=by rw[d];exact Ē.2 rfl
  have a:=ic.ls i.ck D;have s:=(vw (n:=n) (B:=B) (c:=c) (q:=x) ŉ g a).1;have v:=(LY s.ok i (λy p=>by
   rw[d,Ē]at p;subst p;obtain⟨_,u,F,G,_⟩:=vw (n:=n) (B:=B) (c:=c) (q:=y) ŉ g a;exact⟨u,F,G⟩)).1
  rw[r,d]at hp;have j:(fg n B c x).1.t <+: C.t:=v.pre.trans hp;have E:=SA (n:=n) ŉ g a k j m;rw[d];show gv (fg n C c' x).1 c' q=_;rw[E];exact f
theorem Zre{l:Ŀ Zs}(h:∀x∈l,iN x){x:Zs}(hx:iN x){n:Int}(hn:0<=n/\n<=255):(JF l x n).Γ true:=by
 obtain⟨B,X,E,b3⟩:=Zu6 h;obtain⟨k,q,c,hp⟩:=Tv hx;have d:=hp.k;have i:=hp.q;refine⟨true,Zn2,Cq.wp.nr rfl ⟨B,X,k,hp.core,q,hp.asks,_,xD E ŉ d i,?_⟩⟩;by_cases y:(fv B k q).2.2=0
 .refine Cq.wp.no (λe=>e y) ?_;by_cases h3:q.kind=3
  .exact Cq.wp.yes h3 rfl
  refine Cq.wp.no h3 ?_;have hr:eQ k q=true:=by
   unfold fv at y;split at y
   .assumption
   cases y
  have u:=Fs E d i y;have U:=u.len;have O:fv B k q=((fg 5 B (Θ k).1 (Æ q (Θ k).2)).1,(fg 5 B (Θ k).1 (Æ q (Θ k).2)).2,0):=by unfold fv;rw[ą hr]
  have p:=ic.of d i hr;have r:jR (Æ q (Θ k).2).kind<=5:=by have:=Gw (Æ q (Θ k).2).kind;omega
  obtain⟨_,t,t1,t2,t3⟩:=vw (n:=5) r E p;have P:(fv B k q).1=(fg 5 B (Θ k).1 (Æ q (Θ k).2)).1:=by rw[O]
  have Q:(fv B k q).2.1=(fg 5 B (Θ k).1 (Æ q (Θ k).2)).2:=by rw[O]
  rw[<-P]at t1;rw[<-Q]at t3;generalize hR:fv B k q=R at *;have aa:=d.ok.n;obtain⟨m,V⟩:∃m:Nat,k.n=(m:Int):=⟨k.n.toNat,ŉ⟩;have T:k.n.toNat=m:=ŉ;have N:1<=m/\m<=4:=ŉ;have W:0<(Α m).length:=by rw[tX];simp
  obtain⟨j,Z,j1⟩:∃j:Nat,Int.tmod (i64.wrap n) ((Α m).length:Int)=(j:Int)/\j<(Α m).length:=by rw[wrap64 ŉ];have:=zm hn.1 (show(0:Int)<((Α m).length:Int) by omega);exact⟨(Int.tmod n ((Α m).length:Int)).toNat,ŉ,ŉ⟩
  have D:(Α m)[j]∈Α m:=ă j1;have A:=Ξ j1;generalize (Α m)[j]=τ at D A;have f:τ∈Α k.n.toNat:=by rw[T];exact D
  have a:=kR d.ok τ f;have H:=(k8 d.ok a).core;have C:(é k τ).n=k.n:=by rw[vy d.ok f]
  have g:dR (é k τ):=⟨H,by rw[C];exact d.n3⟩;have s:=Zv8 d.ok f;have v:Β (Ο τ q.p):=Z1 a.perm i.p;have K:eY ⟨q.kind,Ο τ q.p,q.o⟩:=⟨v,i.o⟩;have L:eQ (é k τ) ⟨q.kind,Ο τ q.p,q.o⟩=true:=by
   unfold eQ at hr⊢;simp only[Ĉ]at hr⊢;obtain⟨⟨⟨a1,a2⟩,a3⟩,a4⟩:=hr;refine⟨⟨⟨a1,?_⟩,?_⟩,a4⟩
   .rw[C];rw[V]at a2⊢;rw[T]at a;exact K5 ŉ a i.p a2
   rw[Ĵ]at a3⊢;rcases a3 with a3|a3
   .exact .inl a3
   refine .inr (Ă ?_);show Ο _ q.p=[];rw[ĥ a3,Lk]
  have G:(xy R.1 R.2.1).Γ (t,true):=by have:=(A8 (B:=R.1) ŉ t.id).1;rw[U0 u.ok t1,t3]at this;exact this
  have tk:=Mp (u.ok.nU t1).1 d.canon.ok t2;have sc:(wX t.k (Θ (é k τ)).1).Γ true:=by have:=Fq (u.ok.nU t1).1.pj g.canon.ok.pj;rwa [Ă (tk.1.trans s)]at this
  refine⟨Α m,by rw[V];exact S2 N,ŉ,τ,by rw[Z];exact A,_,Ay a.perm i.p,_,JA d.ok a,(t,true),G,_,AW H,Cq.wp.yes rfl ⟨true,sc,Cq.wp.nr rfl ?_⟩⟩;have S:=xD u.ok ŉ g K;have Y:fv R.1 (é k τ) ⟨q.kind,Ο τ q.p,q.o⟩=((fg 5 R.1 (Θ (é k τ)).1 (Æ ⟨q.kind,Ο τ q.p,q.o⟩ (Θ (é k τ)).2)).1,(fg 5 R.1 (Θ (é k τ)).1 (Æ ⟨q.kind,Ο τ q.p,q.o⟩ (Θ (é k τ)).2)).2,0):=by unfold fv;rw[ą L]
  rw[Y]at S;have I:=Z1 (gm d.kc) i.p;have J:=Z1 (gm g.kc) v;refine⟨_,AW d.ok,_,AW H,_,Ay (gm d.kc) i.p,_,Ay (gm g.kc) v,_,S,Cq.wp.no (λe=>e rfl) ⟨_,KT I J,?_⟩⟩;by_cases es:Ο (Θ k).2 q.p=Ο (Θ (é k τ)).2 (Ο τ q.p)
  .rw[Ă es];have eq:Æ ⟨q.kind,Ο τ q.p,q.o⟩ (Θ (é k τ)).2=Æ q (Θ k).2:=by
    show Zb.mk q.kind (Ο (Θ (é k τ)).2 (Ο τ q.p)) (if q.kind=3 then _ else[])=Zb.mk q.kind (Ο (Θ k).2 q.p) (if q.kind=3 then _ else[]);rw[ā h3,ā h3,es]
   have F:=SA (c':=(Θ (é k τ)).1) r E p u.ok (by rw[<-P];exact List.prefix_rfl) s.symm;rw[eq,F];refine Cq.wp.yes rfl (Cq.wp.yes Q.symm ⟨true,QB u.ok.tj ŉ,rfl⟩)
  rw[ċ es];exact Cq.wp.nr rfl rfl
 exact Cq.wp.yes y rfl
end Go.EL

