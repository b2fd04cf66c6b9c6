/- The law TaskSame holds for every input: a part of its proof (fT the code does, plain models, and fT they return). No condition. -/
import Derived.Test.YtepbagkffgddlaaGreatXS8g
set_option linter.unusedVariables false
set_option linter.unusedSimpArgs false
namespace Go.Proofs.YtepbagkffgddlaaGreat
open Go.IntKind (i8 i16 i32 i64 u8 u16 u32 u64)
open Go.Proofs.Tryz
open Go Go.EL Go.RowKit Go.Proofs
set_option maxHeartbeats 4000000
set_option maxRecDepth 20000
instance iO'{s d r}:SpcM ((KY s d)) r (∀{i j e f k n l o},Cr 87 #[.agg ((Ã s i j e f)).toArray,.agg ([i' d.kind,ε k d.p n,ε l d.o o]).toArray] (λG=>sq G i j s.eqs/\sq G e f s.δ/\sl c' G k n d.p/\sv G l o d.o) (λG v=>v=.bool r)):=.mk λhr {i j e f k n l o}=>by
 refine J' (args:=[_,_]) (N:=62) func87 z z z (λU A Z B=>?_);obtain⟨F,D,h,m⟩:=B;refine sr<|jO 2 z z z λa=>jO 3 z z z λM=>Υ z<|WC.nD hr [3] [3] (λ(_:Unit)=>⟨[],JM d,tr,[]⟩) ?_ ?_
 .refine o'<|fM [ff,ff,ff,ff,ff,ff,ff,ff,ff,ff,ff,ff,ff,ff,ff,ff,ff,ff,ff,ff,ff,ff,ff,ff,ff,ff,ff,ff,ff] eR İ λp=>cn (λ_ c=>BJ z)<|cn (λ_ c=>n' 3 eM z z z)<|BL hr z (λ_ c=>Z' z z) (λQ hr=>?_) (λQ hr=>?_)
  .exact Ι
  refine fO z<|cy z z (λ_ c=>BJ z)<|cy z z (λ_ c=>n' 3 eM z z z)<|BL hr (C' z z) (λ_ c=>vI z z) (λK hr=>?_) (λK hr=>?_)
  .exact Ι
  refine cn (λ_ c=>f' z z)<|fO z<|cy z z (λ_ c=>vS z)<|cy z z (λ_ c=>n' 3 oG z z z)<|oE hr λH t hr=>uA (C' z z) (λ_=>x' If z) (gy'.h t) z (λE c=>(h.mono c)) ?_
  cases H
  .exact Ι
  exact Ι
 intro q _ hr g _;refine sr<|Δ (vS z)<|Δ (n' 3 oG z z z)<|Δ (P' Q' (h.mono g) z)<|dQ hr z (eB z z) z (λR hr=>?_) (λR hr=>?_)
 .exact Ι
 refine Ρ ?_;intro hr _;refine Ê (M' z z) z<|Ê (M' z z) z<|Ê (M' z z) z<|sk z z z<|ο z<|Υ z<|m' (Û hr z z)
instance fL'{a m r}:SpcM ((A3 a m)) r (∀{Y Q F H af d c e},Cr 40 #[.agg ((Ã a Y Q F H)).toArray,.agg ([i' m.kind,ε af m.p d,ε c m.o e]).toArray] (λG=>sq G Y Q a.eqs/\sq G F H a.δ/\sl c' G af d m.p/\sv G c e m.o) (OQ r)):=.mk λhr {Y Q F H af d c e}=>Ι
instance Nn{c r}:SpcM ((FM c)) r (∀{i n j m},Cr 91 #[.agg ([i' c.kind,ε i c.p n,ε j c.o m]).toArray] (λG=>sl c' G i n c.p/\sv G j m c.o) (fU tK r)):=.mk λhr {i n j m}=>by
 refine è ?_;intro t k _ _ _ _ hr _;refine WC.nD hr [4] [] (λ(g:Bool)=>⟨[(5,.bool g)],JK c g,tr,[]⟩) ?_ ?_
 .refine sr<|Δ (eB z z)<|Υ z<|I' hr z (λp hr=>?_) (λp hr=>?_)
  .exact Ι
  exact Ι
 intro d g hr D _;refine jM hr z (λB hr=>?_) (λB hr=>?_)
 .exact Ι
 refine WC.nC hr [4] [] (λ(f:Bool)=>⟨[(10,.bool f)],JJ c f,tr,[]⟩) ?_;refine sr<|Δ (eB z z)<|Υ z<|I' hr z (λq hr=>?_) (λq hr=>?_)
 .exact Ι
 exact Ι
instance iP'{V F r}:SpcM ((Ld V F)) r (∀{a af M n m},Cl 141 #[ε a V af,ε n F m] [(5000,M)] (λG=>ru G (ε a V af) V M/\sv G n m F) (λG L v=>∃zp zc e,L=[(5000,e)]/\v=ε zp r zc/\ru G (ε zp r zc) r e)):=.mk λhr {a af M n m}=>by refine Ρ ?_;intro I P _ _ _ _ j O _ x p T E hr _;refine WC.mC hr [1] [] [] [] (λ(⟨t,o,q,f,H⟩:(Ŀ Int)×ŀ Addr×Nat×ŀ Ow×Int)=>⟨(t,H),[(0,ε o t q),(5,i' H)],λd=>ru d (ε o t q) t f,[(5000,f)]⟩) (λ(⟨S,Q,R,i⟩:(Ŀ Int)×ŀ Addr×Nat×ŀ Ow)=>⟨S,[(0,ε Q S R)],λs=>ru s (ε Q S R) S i,[(5000,i)]⟩) ⟨j,x,p,T,0⟩ ?_;rintro _ d ⟨t,o,q,f,H⟩ c C hr;refine Ρ ?_;intro _ hr;refine WC.mA hr [1,5] [] [1,5] [] (λ(⟨D,u,B,h,Z⟩:(Ŀ Int)×ŀ Addr×Nat×ŀ Ow×Int)=>⟨(D,Z),[(0,ε u D B),(6,i' Z)],λl=>ru l (ε u D B) D h,[(5000,h)]⟩) (λ(⟨J,y,A,g⟩:(Ŀ Int)×ŀ Addr×Nat×ŀ Ow)=>⟨J,[(0,ε y J A)],λk=>ru k (ε y J A) J g,[(5000,g)]⟩) ⟨t,o,q,f,0⟩
instance il'{k r}:SpcM ((Gh k)) r (∀{n s o q},Cr 80 #[.agg ([i' k.kind,ε n k.p s,ε o k.o q]).toArray] (λG=>sl c' G n s k.p/\sv G o q k.o) (λG v=>v=.string r)):=.mk λhr {n s o q}=>by
 refine J' (args:=[_]) (N:=14) func80 z z z (λw0 G0 g F=>?_);obtain⟨H,E⟩:=F;have hz:w0.L.zero:=by rw[g];intro p hp;simp at hp
 refine sr<|jO 1 z z z λR=>Υ z<|o'<|WC.nf (l:=ir [1,2,4,5,7,8,0,3,6,9,10,11] _) (FD İ) [(1,û R ([i' k.kind,ε n k.p s,ε o k.o q]) 54)] (lc z ln) [tt,tt,tt,tt,tt,tt] eR İ λt=>nE z (BJ z)<|nE z (n' 1 eM z z z)<|nE z (vS z)<|nE z (n' 1 oG z z z)<|nE z (Wa z)<|nE z (n' 1 sU z z z)<|xV t<|nW (λw c=>c.weaken (lc z ln))<|WL.sD (e:=5) (r:=(Rp.int .u8)) (vs:=#[]) (cs:=[]) ([]:Ŀ Int) 4003 z z z z z ĳ (λ_=>İ) (z) λp1 ac L=>nS<|nW (λw c=>c.weaken (lc z ln))<|oE hr λak K hr=>mm (λw c=>c.Þ (i:=4003) (j:=5000) z (by rw[g];rfl))<|mO z z (x' zV z) (Wq.h K) z (L) (lc z ln) hz (λT ah S d x=>?_)
 obtain⟨aa,X,P,rfl,rfl,D⟩:=x;refine mm (λw c=>c.Þ (i:=5000) (j:=4006) z (by rw[g];rfl))<|nS<|nW (λw c=>(c.eU t d).weaken (lc z ln))<|oE hr λaj A hr=>mm (λw c=>c.Þ (i:=4006) (j:=5000) z (by rw[g];rfl))<|mO z z (x' Ib z) (hA'.h A) z (⟨D,(H.mono d)⟩) (lc z ln) hz (λag an af f y=>?_)
 obtain⟨U,V,M,rfl,rfl,I⟩:=y;refine mm (λw c=>c.Þ (i:=5000) (j:=4009) z (by rw[g];rfl))<|nS<|nW (λw c=>(c.eU t (mx d f)).weaken (lc z ln))<|oE hr λam C hr=>mm (λw c=>c.Þ (i:=4009) (j:=5000) z (by rw[g];rfl))<|mO z z (x' Ia z) (iP'.h C) z (⟨I,(E.mono (mx d f))⟩) (lc z ln) hz (λae ao Y m u=>?_)
 obtain⟨W,Z,Q,rfl,rfl,B⟩:=u;have a:=mx (mx d f) m;refine mm (λw c=>c.Þ (i:=5000) (j:=4012) z (by rw[g];rfl))<|pP (r:=(Rp.int .u8)) (e:=5) 4012 B z (by rw[g];rfl) λai al h J O=>nS<|fA.y0 (λw c=>(c.eU t (mx a h)).weaken (lc z ln)) z (Y0.kL V8 Bw xN J z) z<|fA.y0 (λw c=>(c.eU t (mx a h)).weaken (lc z ln)) z (rm z) z<|wa (λw c=>(c.eU t (mx a h)).weaken (lc z ln))<|Λ<|b'<|m' (Û hr z z)
instance da'{e d r}:SpcM ((D8 e d)) r (∀{l f g k j m i h},Cr 34 #[.agg ([i' e.kind,ε l e.p f,ε g e.o k]).toArray,.agg ([i' d.kind,ε j d.p m,ε i d.o h]).toArray] (λG=>sl c' G l f e.p/\sv G g k e.o/\sl c' G j m d.p/\sv G i h d.o) (λG v=>v=.bool r)):=.mk λhr {l f g k j m i h}=>Ι
instance gn'{E x l r}:SpcM ((Mo E x l)) r (∀{p o h i e f m q n s},Cr 39 #[.agg ((ga E p o)).toArray,.agg ((Ã x h i e f)).toArray,.agg ([i' l.kind,ε m l.p q,ε n l.o s]).toArray] (λG=>sl gi G p o E.t/\sq G h i x.eqs/\sq G e f x.δ/\sl c' G m q l.p/\sv G n s l.o) (λG v=>v=i' r)):=.mk λhr {p o h i e f m q n s}=>by
 refine Ρ ?_;intro w0 A _ _ _ g _ y _ u _ C V F hr _;refine WC.mC hr [3,4,5] [3,4,5] [] [] (λ(D:Int)=>⟨D,[(7,i' D)],tr,[]⟩) (λ(_:Unit)=>⟨(.inr ()),[],tr,[]⟩) 0 ?_;intro _ k D d _ hr;refine o' ?_;refine è ?_;intro hr;refine I' hr z (λaf hr=>?_) (λaf hr=>?_)
 .refine q'<|b'<|o'<|Y'<|o'<|fM [ff,ff,ff,ff,ff,ff,ff,ff,ff,ff,ff,ff,ff,ff,ff,ff] eR İ λU=>cn (λ_ c=>MC z)<|cn (λ_ c=>n' 3 V3 z z z)<|fO z<|oE hr λI H hr=>cn (λ_ c=>kf uy tJ ((g.mono d).mono c) z z H)<|cn (λ_ c=>BG z) ?_
  obtain⟨a,Y,S,R,T,B,t⟩:=Rs (T' (r8 (xP (nQ (iM g H)))) d);refine cn (λ_ c=>mY _ l6 z z (λj v P=>c _ _ _ (T j v P)))<|cn (λ_ c=>y' 4 l6 z z z)<|oE hr λZ Q hr=>uA z (λ_=>x' D0 z) (Es _ _ _ _ _ _ _ _ _ _ _ Q) z (λG' c=>⟨(B.mono c),(t.mono c),((y.mono d).mono c),((u.mono d).mono c)⟩) ?_
  cases Z
  .exact Ι
  exact Ι
 exact Ι
abbrev EF(s:Zd->Zc->Zb->Cq Zv):Prop:=∀(h:Zd) (a:Zc) (c:Zb) (j:ŀ Addr) (i:Nat) (g:ŀ Addr) (f:Nat) (e:ŀ Addr) (d:Nat) (n:ŀ Addr) (m:Nat) (l:ŀ Addr) (k:Nat) (r:Zv),(s h a c).Γ r->Cr 43 #[.agg ([.slice j h.t.length i,.int .i64 h.next]).toArray,.agg ([.int .i64 a.n,.slice g a.eqs.length f,.slice e a.δ.length d]).toArray,.agg ([.int .i64 c.kind,.slice n c.p.length m,.slice l c.o.length k]).toArray] (λG=>Ζ ZF G (.slice j h.t.length i) h.t/\Ζ (Rp.sl Zk) G (.slice g a.eqs.length f) a.eqs/\Ζ (Rp.sl Zk) G (.slice e a.δ.length d) a.δ/\Ζ Zk G (.slice n c.p.length m) c.p/\Ζ (Rp.vec .i64 8) G (.slice l c.o.length k) c.o) (λG v=>∃q p,v=.agg ([.slice q r.b.t.length p,.int .i64 r.b.next,.int .i64 r.id,.int .i64 r.e]).toArray/\Ζ ZF G (.slice q r.b.t.length p) r.b.t)
theorem Zp4:EF (λ_ _ _=>Cq.fail):=λl m n g f e d c a k j i h r hr=>False.elim hr
theorem QF(SF:Zd->Zc->Zb->Cq Zv)(bg:EF SF)(X:Zd)(N:Zc)(J:Zb)(T:ŀ Addr)(Y:Nat)(Q:ŀ Addr)(S:Nat)(L:ŀ Addr)(K:Nat)(aj:ŀ Addr)(ai:Nat)(an:ŀ Addr)(am:Nat)(r:Zv)(hr:(Kh SF X N J).Γ r):Cr 43 #[.agg ((ga X T Y)).toArray,.agg ((Ã N Q S L K)).toArray,.agg ([i' J.kind,ε aj J.p ai,ε an J.o am]).toArray] (λG=>sl gi G T Y X.t/\sq G Q S N.eqs/\sq G L K N.δ/\sl c' G aj ai J.p/\sv G an am J.o) (qy r):=by
 refine Ρ ?_;intro w0 G0 _ bj _ aC _ _ _ _ _ _ b1 _ _ b4 c _ _ aT k g f d o n p l F y W U b5 _ bl aE s a6 aY _ hr _;refine WC.mD hr [3,6,7,8] [7] [3,6,7] [7] (λ(⟨ae,ao,M,O,j,B,A⟩:Int×Zd×ŀ Addr×Nat×Zv×ŀ Addr×Nat)=>⟨(ae,ao,j),[(9,i' ae)],λab=>sl gi ab M O ao.t/\sl gi ab B A j.b.t,[(3,û b1 (ga ao M O) 26),(6,û b4 (od j B A) 100)]⟩) (λ(⟨q,D,E,aw,V,R⟩:Zd×ŀ Addr×Nat×Zv×ŀ Addr×Nat)=>⟨(.inr (q,aw)),[],λap=>sl gi ap D E q.t/\sl gi ap V R aw.b.t,[(3,û b1 (ga q D E) 26),(6,û b4 (od aw V R) 100)]⟩) ⟨0,X,T,Y,(Zv.mk (Zd.mk [] 0) 0 0),none,0⟩ ?_ ?_
 .rintro _ ab ⟨ae,ao,M,O,j,B,A⟩ x ⟨av,ak⟩ hr;refine o' ?_;refine è ?_;intro hr;refine I' hr z (λbm hr=>?_) (λbm hr=>?_)
  .refine q'<|b'<|o'<|Y'<|o'<|fM [ff,ff,ff,ff,ff,ff,ff,ff,ff] eR İ λhb=>cn (λ_ m=>y' 3 lJ z z z)<|cn (λ_ m=>Y0.Vv z) ?_
   refine è ?_;intro _ _ _ _ _ _ _ _ _ _ _ _ _ bb hr a2;refine oE hr λZ a3 hr=>qH (post:=qy Z) (λ_=>z) (λ_ _=>x' O3 z) (bg _ _ _ _ _ _ _ _ _ _ _ _ _ _ a3) z (λG' m=>⟨(av.mono m),((F.mono (mx s x)).mono m),((y.mono (mx s x)).mono m),(bb.mono m),(a2.mono m)⟩) (λv G1 G2 m h=>?_) ?_
   .obtain⟨H,I,rfl,P⟩:=h;exact⟨_,_,z,P.mono m⟩
   refine kJ (λ_=>z) yz<|γ.nt (λbV bJ X2 aG aH aA=>?_)
   obtain⟨b7,rfl,a1⟩:=aH;obtain⟨H,I,rfl,P⟩:=aA;refine pQ a1 (l7 (show WL _ _ _ _ _ _ (St w0 G0 X2.m _)from ?_));refine fZ 10 s9 z<|t'<|Λ<|b'<|o' ?_
   exact Ι
  exact Ι
 rintro ap ⟨q,D,E,aw,V,R⟩ hr t ⟨C,bi⟩;refine Ρ ?_;intro _ _ _ _ hr _;refine Δ (l5 (vs:=#[(0,i' q.next),(1,.agg ((Ã c.k k g f d)).toArray),(2,.agg ([i' c.q.kind,ε o c.q.p n,ε p c.q.o l]).toArray),(5,i' (-1))]) (v:=.agg ([i' q.next,i' c.k.n,ε k c.k.eqs g,ε f c.k.δ d,i' c.q.kind,ε o c.q.p n,ε p c.q.o l,i' 0,i' 0,i' (-1),.bool false]).toArray) z z (λ_=>İ))<|W' 12 z zR z λb6=>fZ 12 tJ z<|nx<|o'<|fM [ff,ff,ff,ff,ff,ff,ff,ff,ff,ff,ff,ff,ff] eR İ λhb=>γ.nl (r:=gi) (e:=56) ([]:Ŀ Ze) (λ_=>z) z ĳ (λu G' m a=>?_) ?_
 .exact⟨#[],[],z,z,λ_=>by kernel_rfl,z⟩
 refine Ρ ?_;intro hr;refine oA hr λa0 hr=>γ.mM (r:=gi) (e:=56) (kk:=78) (xs:=([]:Ŀ Ze)) q.t (λ_=>z) z İ İ uy qR z ĳ a0 (λu G' m a=>?_) ?_
 .obtain⟨aL,_⟩:=(show(gx gi 56 78 ([]:Ŀ Ze)) (u 78) G'/\True from a);exact⟨u 78,ε D q.t E,aL,z,z,(C.mono m)⟩
 refine Ρ ?_;intro hr;refine tO (r:=gi) (e:=56) ([(Ze.mk q.next c.k c.q 0 0 (-1) false)]:Ŀ Ze) (λ_=>z) z ĳ (λu G' m a=>?_) ?_
 .exact⟨#[(0,.agg ([i' q.next,i' c.k.n,ε k c.k.eqs g,ε f c.k.δ d,i' c.q.kind,ε o c.q.p n,ε p c.q.o l,i' 0,i' 0,i' (-1),.bool false]).toArray)],[i' q.next,i' c.k.n,ε k c.k.eqs g,ε f c.k.δ d,i' c.q.kind,ε o c.q.p n,ε p c.q.o l,i' 0,i' 0,i' (-1),.bool false]++([]),z,z,λ_=>by kernel_rfl,⟨[i' q.next,i' c.k.n,ε k c.k.eqs g,ε f c.k.δ d,i' c.q.kind,ε o c.q.p n,ε p c.q.o l,i' 0,i' 0,i' (-1),.bool false],[],z,⟨[i' q.next],[i' c.k.n,ε k c.k.eqs g,ε f c.k.δ d,i' c.q.kind,ε o c.q.p n,ε p c.q.o l,i' 0,i' 0,i' (-1),.bool false],z,z,⟨(Ã c.k k g f d),[i' c.q.kind,ε o c.q.p n,ε p c.q.o l,i' 0,i' 0,i' (-1),.bool false],z,⟨[i' c.k.n],[ε k c.k.eqs g,ε f c.k.δ d],z,z,⟨[ε k c.k.eqs g],[ε f c.k.δ d],z,⟨_,z,((F.mono (mx s t)).mono m)⟩,⟨_,z,((y.mono (mx s t)).mono m)⟩⟩⟩,⟨[i' c.q.kind,ε o c.q.p n,ε p c.q.o l],[i' 0,i' 0,i' (-1),.bool false],z,⟨[i' c.q.kind],[ε o c.q.p n,ε p c.q.o l],z,z,⟨[ε o c.q.p n],[ε p c.q.o l],z,⟨_,z,((W.mono (mx s t)).mono m)⟩,⟨_,z,((U.mono (mx s t)).mono m)⟩⟩⟩,⟨[i' 0],[i' 0,i' (-1),.bool false],z,z,⟨[i' 0],[i' (-1),.bool false],z,z,⟨[i' (-1)],[.bool false],z,z,z⟩⟩⟩⟩⟩⟩,z⟩⟩
 refine oA hr λa7 hr=>γ.mM (r:=gi) (e:=56) (kk:=81) (xs:=(([]:Ŀ Ze)++q.t)) [(Ze.mk q.next c.k c.q 0 0 (-1) false)] (λ_=>z) z İ İ uy qR z ĳ a7 (λu G' m a=>?_) ?_
 .obtain⟨⟨p1,aJ,aQ,aV⟩,aP,_,_⟩:=(show(λG v=>∃p1 aJ,v=.slice p1 1 1/\jq gi G (.slice p1 1 1) aJ [(Ze.mk q.next c.k c.q 0 0 (-1) false)]) G'.m (u 83)/\(gx gi 56 81 (([]:Ŀ Ze)++q.t)) (u 81) G'/\True/\True from a);exact⟨u 81,.slice p1 1 1,aP,z,(by simp only[ς,iD,ġ,ő,aQ]<;>rfl),aV⟩
 refine Ρ ?_;intro hr;refine γ.lK (r:=gi) (e:=56) (kk:=84) (xs:=((([]:Ŀ Ze)++q.t)++[(Ze.mk q.next c.k c.q 0 0 (-1) false)])) (λah af=>.agg ([.slice ah ((([]:Ŀ Ze)++q.t)++[(Ze.mk q.next c.k c.q 0 0 (-1) false)]).length af,i' (i64.wrap (q.next+1))]).toArray) (λ_=>z) z İ İ (λu G' m a=>?_) ?_
 .obtain⟨aK,_,_,_,_⟩:=(show(gx gi 56 84 ((([]:Ŀ Ze)++q.t)++[(Ze.mk q.next c.k c.q 0 0 (-1) false)])) (u 84) G'/\True/\True/\True/\True from a);exact⟨u 84,aK,λcp cc bo _=>l5 (vs:=#[(0,.slice cp ((([]:Ŀ Ze)++q.t)++[(Ze.mk q.next c.k c.q 0 0 (-1) false)]).length cc),(1,i' (i64.wrap (q.next+1)))]) (by simp only[ς,iD,ġ,ő,bo]<;>rfl) z (λ_=>İ)⟩
 refine Ρ ?_;intro hr;refine xX (λbz bE bA bB bF X1 bP az bf ax be bd=>?_);obtain⟨p1,aJ,rfl,aV⟩:=ax;refine WL.oC az (λah af bv aZ bc bM=>?_);subst aZ;refine l7 (show WL _ _ _ _ _ _ (St w0 G0 X1.m _)from ?_);refine è ?_;intro hr;obtain rfl:_=r:=hr;refine uD (r:=gi) (e:=56) 88 bc z (by rw[bj];rfl) λbR bS bw a8 bx=>j' z (kD (i:=6) vK z z z) ⟨_,_,z,a8⟩
instance {i:Zd->Zc->Zb->Cq Zv}{h:Zd}{c:Zc}{J:Zb}{r:Zv}:SpcM ((Kh i h c J)) r (∀{j:EF i}{T:ŀ Addr}{Y:Nat}{Q:ŀ Addr}{S:Nat}{L:ŀ Addr}{K:Nat}{e:ŀ Addr}{d:Nat}{g:ŀ Addr}{f:Nat},Cr 43 #[.agg ((ga h T Y)).toArray,.agg ((Ã c Q S L K)).toArray,.agg ([i' J.kind,ε e J.p d,ε g J.o f]).toArray] (λG=>sl gi G T Y h.t/\sq G Q S c.eqs/\sq G L K c.δ/\sl c' G e d J.p/\sv G g f J.o) (qy r)):=⟨λa {j T Y Q S L K e d g f}=>QF _ j _ _ _ T Y Q S L K e d g f _ a⟩
theorem QL:∀n,EF (A2 n)
 |0=>λl m p g f e d c a k j i h r hr=>Zp4 l m p g f e d c a k j i h r hr
 |n+1=>λl m p g f e d c a k j i h r hr=>QF _ (QL n) l m p g f e d c a k j i h r hr
instance jj'{m r}:SpcM ((Mg m)) r (Cr 41 #[i' m] (λG=>True) (iA c' r)):=.mk λhr=>Ι
instance Nj{r}:SpcM ((F0)) r (Cr 10 #[] (λG=>True) (kC r)):=.mk λhr=>Ι
instance fM'{c r}:SpcM ((Bc c)) r (Cr 42 #[i' c] (λG=>True) (λG v=>∃d f g e,v=.agg ([i' r.kind,ε d r.p f,ε g r.o e]).toArray/\sl c' G d f r.p/\sv G g e r.o)):=.mk λhr=>Ι
instance iu'{R L r}:SpcM ((RE R L)) r (∀{E H B F},Cr 190 #[ε E R H,ε B L F] (λG=>su G E H R/\su G B F L) (fU (Rp.int .u32) r)):=.mk λhr {E H B F}=>by
 refine è ?_;intro U x _ A _ hr _;refine WC.nB hr [] [] (λ(⟨d,o,m,J,v,t⟩:(Ŀ Int)×ŀ Addr×Nat×(Ŀ Int)×ŀ Addr×Nat)=>⟨[(0,ε o d m),(1,ε v J t)],JE d J,λl=>su l o m d/\su l v t J,[]⟩) ?_;rintro l ⟨d,o,m,J,v,t⟩ hr X ⟨u,M⟩;refine Ρ ?_;intro Q s W hr _;refine WC.mB hr [0,1,5,21] [] [0,5] [] (λ(⟨p,j,f,c⟩:(Ŀ Int)×ŀ Ow×Int×Int)=>⟨(p,f,c),[(6,.int .u64 f),(22,i' c)],λk=>Ε (Rp.int .u32) 248 k (.slice Q (i64.wrap ((d.length:Int)+1)).toNat ((i64.wrap ((d.length:Int)+1)).toNat)) p j,[(4019,j)]⟩) (λ(⟨P,q,h⟩:(Ŀ Int)×ŀ Ow×Int)=>⟨(P,h),[(6,.int .u64 h)],λD=>Ε (Rp.int .u32) 248 D (.slice Q (i64.wrap ((d.length:Int)+1)).toNat ((i64.wrap ((d.length:Int)+1)).toNat)) P q,[(4019,q)]⟩) ⟨(List.replicate (i64.wrap ((d.length:Int)+1)).toNat 0),s,0,0⟩ ?_;rintro D ⟨P,q,h⟩ hr V O;refine b'<|sr<|θ z<|θ z<|Δ (P' F' (u.mono V) z)<|θ z<|Δ (oB tI uv z)<|oE hr λx1 a hr=>Δ (pI F' tL O z z a)<|zG (r:=(Rp.int .u32)) (e:=248) (cs':=[.int .u32 (u32.wrap h)]) (i:=(d.length:Int)) (z':=u32.wrap h) 4019 z tL z O z z z z z a λC g=>nr<|θ z<|pP (r:=(Rp.int .u32)) (e:=248) 4019 g z (by rw[A];rfl) (λK az au T Z=>?_)
 refine oE hr λN y hr=>gd z z (x' qB z) (zC.h y) (by rw[qQ T]) ((rq T)) (λaw S Y I=>?_);obtain⟨ay,ax,rfl,n⟩:=I;refine Υ z<|m' ?_
 obtain rfl:_=r:=hr;exact j' z z ⟨_,_,z,n⟩
instance fq'{g C r}:SpcM ((Jf g C)) r (∀{u y t x},Cr 191 #[ε u g y,ε t C x] (λG=>su G u y g/\su G t x C) (fU (Rp.int .u32) r)):=.mk λhr {u y t x}=>by
 refine Ρ ?_;intro P B _ W _ _ E O Y hr _;refine WC.mB hr [0,1,5,13] [] [5] [] (λ(⟨k,h,d,c⟩:(Ŀ Int)×ŀ Ow×Int×Int)=>⟨(k,d,c),[(6,.int .u64 d),(14,i' c)],λj=>Ε (Rp.int .u32) 248 j (.slice E (g.length:Int).toNat ((g.length:Int).toNat)) k h,[(4011,h)]⟩) (λ(⟨D,l⟩:(Ŀ Int)×ŀ Ow)=>⟨D,[],λv=>Ε (Rp.int .u32) 248 v (.slice E (g.length:Int).toNat ((g.length:Int).toNat)) D l,[(4011,l)]⟩) ⟨(List.replicate (g.length:Int).toNat 0),O,0,0⟩ ?_;rintro v ⟨D,l⟩ hr a M;refine b'<|sr<|θ z<|pP (r:=(Rp.int .u32)) (e:=248) 4011 M z (by rw[W];rfl) (λF s m H f=>?_)
 refine oE hr λI R hr=>gd z z (x' qB z) (zC.h R) (by rw[qQ H]) ((rq H)) (λn J i A=>?_);obtain⟨q,p,rfl,L⟩:=A;refine Υ z<|m' ?_
 obtain rfl:_=r:=hr;exact j' z z ⟨_,_,z,L⟩
instance fh'{i r}:SpcM ((yE i)) r (∀{j k},Cr 126 #[ε j i k] (λG=>sv G j k i) (λG v=>v=.bool r)):=.mk λhr {j k}=>by
 refine Ρ ?_;intro B n _ _ m hr _;refine WC.mC hr [3,11,12] [] [] [] (λ(⟨d,t⟩:Int×(Fin 8->Bool))=>⟨(d,t),[(13,i' d)],tr,[(3,û m (ö Value.bool 8 t) 143)]⟩) (λ(_:Unit)=>⟨(.inr ()),[],tr,[]⟩) ⟨0,(λ_=>false)⟩ ?_;rintro _ f ⟨d,t⟩ g _ hr;refine Ρ ?_;intro _ p _ _ hr _;refine WC.mC hr [3,11,12,13,17] [] [3,11,12,13] [] (λ(⟨c,e⟩:Int×(Fin 8->Bool))=>⟨(c,e),[(18,i' c)],tr,[(3,û m (ö Value.bool 8 e) 143)]⟩) (λ(q:(Fin 8->Bool))=>⟨(.inr q),[],tr,[(3,û m (ö Value.bool 8 q) 143)]⟩) ⟨0,t⟩ ?_;rintro _ h ⟨c,e⟩ l _ hr;refine sr<|kv z<|nx<|o'<|I' hr z (λV hr=>?_) (λV hr=>?_)
 .refine è ?_;intro hr _;refine WC.nC hr [3,6,7,11,12,13,17,18] [3] (λ(_:Unit)=>⟨[],El p c e,tr,[]⟩) ?_;refine sr<|θ z<|dQ hr z (Z' z z) z (λQ hr=>?_) (λQ hr=>?_)
  .refine Ρ ?_;intro hr;refine Ê (M' z z) z<|Ê (M' z z) z<|Ê (M' z z) z<|Ê (M' z z) z<|sf z z z<|Κ z<|nx<|oh z<|sr<|Υ z<|m'<|a'<|g'<|a'<|a'<|g'<|mX<|g'<|a'<|a'<|g'<|mX<|a' (Û hr z z)
  refine Ρ ?_;intro _ hr;refine Ê (M' z z) z<|Ê (M' z z) z<|Ê (M' z z) z<|Ê (M' z z) z<|sf z z z<|Κ z<|nx<|oh z<|sr<|Υ z<|m'<|a'<|g'<|a'<|a'<|g'<|mX<|g'<|a'<|a'<|g'<|mX<|a' (Û hr z z)
 exact Ι
instance gZ'{t e r}:SpcM ((E6 t e)) r (∀{l m g h j n k o},Cr 68 #[.agg ((Ã t l m g h)).toArray,.agg ([i' e.kind,ε j e.p n,ε k e.o o]).toArray] (λG=>sq G l m t.eqs/\sq G g h t.δ/\sl c' G j n e.p/\sv G k o e.o) (λG v=>v=.bool r)):=.mk λhr {l m g h j n k o}=>by
 refine è ?_;intro H y _ _ _ _ _ _ _ L u hr _;refine WC.nB hr [2,3] [2,3] (λ(_:Unit)=>⟨[],P9 t e,tr,[]⟩) ?_;intro s _ hr d _;refine WC.nB hr [3] [3] (λ(_:Unit)=>⟨[],J4 e,tr,[]⟩) ?_;intro p _ hr f _;refine WC.nD hr [3] [3] (λ(_:Unit)=>⟨[],Ei e,tr,[]⟩) ?_ ?_
 .refine Ρ ?_;intro hr _;refine Ê (M' z z) z<|Ê (M' z z) z<|Ê (M' z z) z<|sf z z z<|Κ z<|nx<|oh z<|sr<|Υ z<|m'<|a' (Û hr z z)
 intro x _ hr q _;refine è ?_;intro hr;refine o'<|sr<|Δ (eB z z)<|Υ z<|I' hr z (λc hr=>?_) (λc hr=>?_)
 .exact Ι
 refine sr<|Δ (eB z z)<|Υ z<|I' hr z (λa hr=>?_) (λa hr=>?_)
 .exact Ι
 exact Ι
instance rz{m r}:SpcM ((Pj m)) r (∀{c h},Cl 267 #[ε c m h] [] (λG=>sv G c h m) (λG L v=>∃u x f,L=[(7000,f)]/\v=ε u r x/\Ε (fP .i64 8) 71 G (ε u r x) r f)):=.mk λhr {c h}=>by
 refine Ρ ?_;intro s d A hr g;refine Δ (Y0.sm tH z z)<|nx<|WC.eC (p:=c=none) z (λk=>?_) (λk=>?_)
 .replace hr:=hr.1 (Ζ.Vq g k);refine sr<|Υ z<|m'<|a' ?_
  obtain rfl:_=r:=hr;refine mN (S':=St s d d [(7000,none)]) (wk (lw ln))<|j' z z ⟨_,_,_,z,z,(Ε.nil (r:=(fP .i64 8)) (e:=71))⟩
 replace hr:=hr.2;refine q'<|b'<|sr<|WL.sD (e:=71) (r:=(fP .i64 8)) (vs:=#[]) (cs:=[]) ([]:Ŀ (Fin 8->Int)) 4005 z z z z z ĳ (λ_=>İ) (z) λE B t=>θ z<|oA hr λq hr=>GN (r:=(fP .i64 8)) (e:=71) 4005 z z tH nX z ĳ z z t z g q λD C l y=>Υ z<|m' ?_
 obtain rfl:_=r:=hr;refine mN (S':=St s d d [(7000,l)]) ?_ ?_
 .intro w o;have o:=o.Þ (i:=4005) (j:=7000) z (by rw[A];rfl);exact o.weaken (lc z ln)
 exact j' z z ⟨_,_,_,z,z,y⟩
instance hE'{h c r}:SpcM ((JZ h c)) r (∀{g j i},Cl 311 #[.agg (g).toArray,iI i] [(153609,û i ([i' c]) 3)] (λG=>É ij 8 G g j h) (λG L v=>L=[(153609,û i ([i' c]) 3)]/\v=.bool r)):=.mk λhr {g j i}=>by
 refine Ρ ?_;intro u s _ _ hr f;refine oE hr λB n hr=>Δ (rn oi jZ z z (ry f n)) ?_;obtain⟨o,l,m,k,t,d,e⟩:=pG (vZ f n);refine Δ (R' _ 2 mg z z z t)<|oE hr λx q hr=>H' z z (x' HW z) (cT'.h q) z (⟨d,e⟩)<|Δ (pH z z)<|Υ z<|m' ?_
 obtain rfl:_=r:=hr;refine mN (S':=St u s s [(153609,û i ([i' c]) 3)]) (w1 z)<|j' z z ⟨z,z⟩
instance hV'{j r}:SpcM ((QX j)) r (∀{e c g f},Cr 329 #[.agg ((Ω j e c g f)).toArray] (λG=>su G e c j.num.υ/\su G g f j.den.υ) (iz r)):=.mk λhr {e c g f}=>Ι
instance Nk{I D r}:SpcM ((Ev I D)) r (∀{k f h g j d c e},Cr 312 #[.agg ((Ω I k f h g)).toArray,.agg ((Ω D j d c e)).toArray] (λG=>su G k f I.num.υ/\su G h g I.den.υ/\su G j d D.num.υ/\su G c e D.den.υ) (iz r)):=.mk λhr {k f h g j d c e}=>Ι
instance hX'{m r}:SpcM ((QY m)) r (∀{g f e c},Cr 331 #[.agg ((Ω m g f e c)).toArray] (λG=>su G g f m.num.υ/\su G e c m.den.υ) (eA r)):=.mk λhr {g f e c}=>Ι
instance iv'{L K r}:SpcM ((RC L K)) r (∀{j g l k},Cr 340 #[.agg ((η L j g)).toArray,.agg ((η K l k)).toArray] (λG=>su G j g L.υ/\su G l k K.υ) (Ï r)):=.mk λhr {j g l k}=>Ι
instance hY'{s q r}:SpcM ((QW s q)) r (∀{n p j k m o c g},Cr 330 #[.agg ((Ω s n p j k)).toArray,.agg ((Ω q m o c g)).toArray] (λG=>su G n p s.num.υ/\su G j k s.den.υ/\su G m o q.num.υ/\su G c g q.den.υ) (eA r)):=.mk λhr {n p j k m o c g}=>by
 refine J' (args:=[_,_]) (N:=27) func330 z z z (λw0 G0 a0 aI=>?_);obtain⟨O,C,P,B⟩:=aI;refine sr<|jO 2 z z z λb2=>jO 3 z z z λb3=>W' 4 z rp z λb4=>nx<|o'<|fM [ff,ff,ff,ff,ff,ff,ff,ff,ff,ff,ff,ff,ff,ff] eR İ λhb=>cn (λ_ l=>xO z)<|cn (λ_ l=>R' ((η s.num n p)).toArray 2 mH z z z (mK ([]) ((η s.num n p)) ((η s.den j k))))<|cn (λ_ l=>BH z) ?_
 refine è ?_;intro hr;refine tO (r:=nF) (e:=118) ([s.num,q.den]:Ŀ Zg) (λ_=>z) z ĳ (λu D l E=>?_) ?_
 .exact⟨#[(0,.agg ((η s.num n p)).toArray),(1,.agg ((η q.den c g)).toArray)],(η s.num n p)++((η q.den c g)++([])),z,z,λ_=>by kernel_rfl,⟨(η s.num n p),(η q.den c g)++([]),z,⟨[.bool s.num.neg],[ε n s.num.υ p],z,z,⟨_,z,(O.mono l)⟩⟩,⟨(η q.den c g),[],z,⟨[.bool q.den.neg],[ε c q.den.υ g],z,z,⟨_,z,(B.mono l)⟩⟩,z⟩⟩⟩
 refine oE hr λaw aE hr=>mh (f:=229) (φ:=Ï aw) (λ_=>z) (λv a G2 l h=>?_) (λu D l E=>?_) ?_
 .obtain⟨F,I,rfl,x⟩:=h;exact⟨_,_,z,x.mono l⟩
 .obtain⟨⟨p1,ag,al,ax⟩,_⟩:=(show(λG v=>∃p1 ag,v=.slice p1 2 2/\jq nF G (.slice p1 2 2) ag [s.num,q.den]) D.m (u 10)/\True from E);exact⟨_,_,_,λ_=>x' ou z,xR.h aE,(by simp only[al]<;>rfl),ax⟩
 refine Ρ ?_;intro hr;refine tO (r:=nF) (e:=118) ([q.num,s.den]:Ŀ Zg) (λ_=>z) z ĳ (λu D l E=>?_) ?_
 .exact⟨#[(0,.agg ((η q.num m o)).toArray),(1,.agg ((η s.den j k)).toArray)],(η q.num m o)++((η s.den j k)++([])),z,z,λ_=>by kernel_rfl,⟨(η q.num m o),(η s.den j k)++([]),z,⟨[.bool q.num.neg],[ε m q.num.υ o],z,z,⟨_,z,(P.mono l)⟩⟩,⟨(η s.den j k),[],z,⟨[.bool s.den.neg],[ε j s.den.υ k],z,z,⟨_,z,(C.mono l)⟩⟩,z⟩⟩⟩
 refine oE hr λav aB hr=>mh (f:=229) (φ:=Ï av) (λ_=>z) (λv a G2 l h=>?_) (λu D l E=>?_) ?_
 .obtain⟨H,J,rfl,t⟩:=h;exact⟨_,_,z,t.mono l⟩
 .obtain⟨⟨p2,ad,ak,az⟩,_,_,_⟩:=(show(λG v=>∃p2 ad,v=.slice p2 2 2/\jq nF G (.slice p2 2 2) ad [q.num,s.den]) D.m (u 16)/\True/\True/\True from E);exact⟨_,_,_,λ_=>x' ou z,xR.h aB,(by simp only[ak]<;>rfl),az⟩
 refine oE hr λaK aF hr=>mh (f:=340) (φ:=Ï aK) (λ_=>z) (λv a G2 l h=>?_) (λu D l E=>?_) ?_
 .obtain⟨aa,Y,rfl,A⟩:=h;exact⟨_,_,z,A.mono l⟩
 .obtain⟨⟨H,J,ai,t⟩,_,⟨F,I,aj,x⟩,_,_⟩:=(show(Ï av) D.m (u 17)/\True/\(Ï aw) D.m (u 11)/\True/\True from E);exact⟨_,_,_,λ_=>x' I1 z,iv'.h aF,(by simp only[ai,aj]<;>rfl),⟨x,t⟩⟩
 refine kJ (λ_=>z) vP<|γ.nu (λa3 aP aT aQ aU aV X1 ae af W U Z ab T=>?_)
 obtain⟨b5,rfl,aD⟩:=af;obtain⟨aa,Y,rfl,A⟩:=W;obtain⟨H,J,rfl,t⟩:=U;obtain⟨p2,ad,rfl,az⟩:=Z;obtain⟨F,I,rfl,x⟩:=ab;obtain⟨p1,ag,rfl,ax⟩:=T;refine pQ aD (l7 (show WL _ _ _ _ _ _ (St w0 G0 X1.m _)from ?_));refine fZ 5 vL z<|t'<|Λ<|b'<|o'<|fM [ff,ff,ff,ff,ff,ff,ff] eR İ λhb=>cn (λ_ l=>y' 5 mH z z z) ?_
 refine è ?_;intro hr;refine tO (r:=nF) (e:=118) ([s.den,q.den]:Ŀ Zg) (λ_=>z) z ĳ (λu D l E=>?_) ?_
 .exact⟨#[(0,.agg ((η s.den j k)).toArray),(1,.agg ((η q.den c g)).toArray)],(η s.den j k)++((η q.den c g)++([])),z,z,λ_=>by kernel_rfl,⟨(η s.den j k),(η q.den c g)++([]),z,⟨[.bool s.den.neg],[ε j s.den.υ k],z,z,⟨_,z,((C.mono ae).mono l)⟩⟩,⟨(η q.den c g),[],z,⟨[.bool q.den.neg],[ε c q.den.υ g],z,z,⟨_,z,((B.mono ae).mono l)⟩⟩,z⟩⟩⟩
 refine oE hr λaA aG hr=>mh (f:=229) (φ:=Ï aA) (λ_=>z) (λv a G2 l h=>?_) (λu D l E=>?_) ?_
 .obtain⟨X,S,rfl,y⟩:=h;exact⟨_,_,z,y.mono l⟩
 .obtain⟨⟨Q,M,an,ay⟩,_⟩:=(show(λG v=>∃Q M,v=.slice Q 2 2/\jq nF G (.slice Q 2 2) M [s.den,q.den]) D.m (u 24)/\True from E);exact⟨_,_,_,λ_=>x' ou z,xR.h aG,(by simp only[an]<;>rfl),ay⟩
 refine GM (d:=25) (post:=Ï aA) (d':=24) (post':=λG v=>∃Q M,v=.slice Q 2 2/\jq nF G (.slice Q 2 2) M [s.den,q.den]) (λaS aO a2 au ac R=>?_);obtain⟨X,S,rfl,y⟩:=ac;obtain⟨Q,M,rfl,ay⟩:=R;refine oE hr λaY aJ hr=>gd z z (x' wM z) (M6.h aJ) z (⟨(A.mono au),y⟩) (λaN aZ aL V=>?_);obtain⟨aq,ao,ar,am,rfl,L,K⟩:=V;refine fZ 4 jZ z<|t'<|Λ<|b'<|m' ?_
 obtain rfl:_=r:=hr;exact j' z (kD (i:=4) mg z z z) ⟨_,_,_,_,z,L,K⟩
instance hZ'{M I r}:SpcM ((Ex M I)) r (∀{o k m l n g f j},Cr 313 #[.agg ((Ω M o k m l)).toArray,.agg ((Ω I n g f j)).toArray] (λG=>su G o k M.num.υ/\su G m l M.den.υ/\su G n g I.num.υ/\su G f j I.den.υ) (eA r)):=.mk λhr {o k m l n g f j}=>Ι
instance dK'{o c r}:SpcM ((ZO o c)) r (∀{m s f},Cl 310 #[ε m o s,.func (.func 311) #[] #[iI f]] [(153609,û f ([i' c]) 3)] (λG=>sl (Rp.arr ij 8) G m s o) (λG L v=>L=[(153609,û f ([i' c]) 3)]/\v=i' r)):=.mk λhr {m s f}=>by
 refine rk (args:=[_,_]) (N:=19) func310 z z z (λn g J C=>?_);have q:=C;have a:n.L.zero:=by rw[J];intro p F x Q;simp only[Ď,ĝ,Ť]at F;subst F;cases Q;rfl
 refine sr<|Υ z<|o'<|sr<|θ z<|Δ (P' oH q z)<|θ z<|nx<|WC.mD hr [0,1,7] [153609] [] [153609] (λ(e:Int)=>⟨e,[(8,i' e)],tr,[]⟩) (λ(_:Unit)=>⟨(.inr ()),[],tr,[]⟩) 0 ?_ ?_
 .intro _ h e d _ hr;refine Ρ ?_;intro _ hr;refine oE hr λU B hr=>Δ (kf oH oL (q.mono d) z z B) ?_;obtain⟨T,t,E⟩:=(T' (iM q B) d);refine Δ (mY _ kp z (lI (u:=()) t) (λj v R=>E j v (by simpa using R)))<|oE hr λS D hr=>WL.lL z z (YC.yd IV z z) (hE'.h D) z ((show É _ _ _ _ () _ from t)) (lc z ln) (λi I=>by simp only[ġ,ő,Ď,ĝ,Ť]at I;subst I;exact z) a (λO A y l=>?_)
  subst l;refine nx<|jM hr z (λH hr=>?_) (λH hr=>?_)
  .refine Ρ ?_;intro hr;obtain rfl:_=r:=hr;refine mN (S':=St n g A [(153609,û f ([i' c]) 3)]) (w1 z)<|j' z z ⟨z,z⟩
  exact Ι
 intro k _ hr M _;refine b'<|sr<|Υ z<|m' ?_
 obtain rfl:_=r:=hr;refine mN (S':=St n g k [(153609,û f ([i' c]) 3)]) (w1 z)<|j' z z ⟨z,z⟩
instance iG'{k r}:SpcM ((E3 k)) r (∀{ai aw},Cr 268 #[ε ai k aw] (λG=>sv G ai aw k) (λG v=>v=i' r)):=.mk λhr {ai aw}=>by
 refine Ρ ?_;intro w0 G0 _ hr _;have hz:=tU (w0:=w0);refine oA hr λcI hr=>Wf (r:=(Rp.arr ij 8)) (e:=325) (n:=(k.length:Int)) (zx:=(List.replicate 8 (Zf.mk (Zg.mk false []) (Zg.mk false [])))) 4017 z z oH vY z ĳ ĳ (show É ij 8 G0 ([.bool false,.slice none 0 0,.bool false,.slice none 0 0,.bool false,.slice none 0 0,.bool false,.slice none 0 0,.bool false,.slice none 0 0,.bool false,.slice none 0 0,.bool false,.slice none 0 0,.bool false,.slice none 0 0,.bool false,.slice none 0 0,.bool false,.slice none 0 0,.bool false,.slice none 0 0,.bool false,.slice none 0 0,.bool false,.slice none 0 0,.bool false,.slice none 0 0,.bool false,.slice none 0 0,.bool false,.slice none 0 0]:Ŀ Value) () _ from zH (G:=G0) (r:=ij) (n:=8) (zc:=[.bool false,.slice none 0 0,.bool false,.slice none 0 0]) (z:=(Zf.mk (Zg.mk false []) (Zg.mk false []))) ⟨[.bool false,.slice none 0 0],[.bool false,.slice none 0 0],z,⟨[.bool false],[.slice none 0 0],z,z,⟨_,z,(X' _ _)⟩⟩,⟨[.bool false],[.slice none 0 0],z,z,⟨_,z,(X' _ _)⟩⟩⟩) z z cI λY ct cV=>?_;refine è ?_;intro hr;refine WC.mD hr [3,18,19] [] [3] [] (λ(⟨aE,ab,L⟩:(Ŀ (Ŀ Zf))×ŀ Ow×Int)=>⟨(aE,L),[(20,i' L)],λan=>Ε (Rp.arr ij 8) 325 an (.slice Y (k.length:Int).toNat ((k.length:Int).toNat)) aE ab,[(4017,ab)]⟩) (λ(⟨aO,au⟩:(Ŀ (Ŀ Zf))×ŀ Ow)=>⟨aO,[],λaJ=>Ε (Rp.arr ij 8) 325 aJ (.slice Y (k.length:Int).toNat ((k.length:Int).toNat)) aO au,[(4017,au)]⟩) ⟨(List.replicate (k.length:Int).toNat (List.replicate 8 (Zf.mk (Zg.mk false []) (Zg.mk false [])))),ct,0⟩ ?_ ?_
 .rintro _ an ⟨aE,ab,L⟩ az bg hr;refine Ρ ?_;intro _ bu _ _ hr _;refine WC.mC hr [3,4,18,19,20,25] [] [3,18,19,20] [] (λ(⟨aI,av,ae⟩:(Ŀ (Ŀ Zf))×ŀ Ow×Int)=>⟨(aI,ae),[(26,i' ae)],λaK=>Ε (Rp.arr ij 8) 325 aK (.slice Y (k.length:Int).toNat ((k.length:Int).toNat)) aI av,[(4017,av)]⟩) (λ(⟨aR,ak⟩:(Ŀ (Ŀ Zf))×ŀ Ow)=>⟨aR,[],λa6=>Ε (Rp.arr ij 8) 325 a6 (.slice Y (k.length:Int).toNat ((k.length:Int).toNat)) aR ak,[(4017,ak)]⟩) ⟨aE,ab,0⟩ ?_;rintro _ aK ⟨aI,av,ae⟩ aS aA hr;refine sr<|kv z<|nx<|o'<|I' hr z (λcX hr=>?_) (λcX hr=>?_)
  .refine q'<|b'<|o'<|Y'<|sr<|θ z<|oA hr λb4 hr=>Δ (Wd GD eM jV z z b4 (VZ _ _ _ b4))<|Ö z<|Υ z<|fM [ff,ff,ff,ff,ff,ff] eR İ λhb=>fO z ?_
   refine è ?_;intro a hr _;refine oE hr λcW a8 hr=>cu (λ_ _ g=>pI oH oL (aA.mono g) z z a8)<|BI (d:=34) (post:=eA a) (λdg cM be bn=>?_)
   obtain⟨E,M,F,I,rfl,T,V⟩:=bn;exact oE hr λdl bp hr=>Δ (uH oi jZ z z (uI (om aA a8) bp))<|WL.qu (r:=ij) (e:=325) (m:=8) (cs':=(Ω a E M F I)) (i:=L) (j:=ae) (u':=a) 4017 z jZ z z (aA.mono be) z z z z ⟨(η a.num E M),(η a.den F I),z,⟨[.bool a.num.neg],[ε E a.num.υ M],z,z,⟨_,z,T⟩⟩,⟨[.bool a.den.neg],[ε F a.den.υ I],z,z,⟨_,z,V⟩⟩⟩ a8 bp λcJ cw=>Ι
  exact Ι
 rintro aJ ⟨aO,au⟩ hr dc bR;refine Ρ ?_;intro hr;refine WC.mC hr [3] [] [] [] (λ(⟨aF,ag,q,l⟩:(Ŀ (Ŀ Zf))×ŀ Ow×Int×Int)=>⟨(aF,q,l),[(8,i' q),(39,i' l)],λal=>Ε (Rp.arr ij 8) 325 al (.slice Y (k.length:Int).toNat ((k.length:Int).toNat)) aF ag,[(4017,ag)]⟩) (λ(bb:Int)=>⟨bb,[(8,i' bb)],tr,[]⟩) ⟨aO,au,0,0⟩ ?_;rintro _ al ⟨aF,ag,q,l⟩ aM s hr;refine sr<|kv z<|nx<|o'<|I' hr z (λda hr=>?_) (λda hr=>?_)
 .refine q'<|b'<|o'<|Y'<|sr<|θ z<|W' 153609 z z3 z λb1=>qJ 153609 ([i' l]).toArray z jV z z z (by first|decide|simp) z z<|nr<|θ z<|θ z<|oA hr λc0 hr=>Δ (Y0.uE oH oL s z z c0)<|Δ (Wj z z)<|oE hr λch cy hr=>WL.uU (r:=(Rp.arr ij 8)) (e:=325) 4017 s z hz z z (λ_=>x' IU z) (dK'.h cy) z (λG' g c8=>(Ζ.BV (sz:=32) z c8 ŉ)) (lc z ln) (λi hi=>by simp only[ġ,ő,Ď,ĝ,Ť]at hi;subst hi;exact⟨z,ĳ⟩) hz<|Υ z<|o'<|sr<|θ z<|kv z<|nx<|I' hr z (λcT hr=>?_) (λcT hr=>?_)
  .exact Ι
  refine q'<|b'<|o'<|fM [ff,ff,tt,tt,tt,tt,ff,ff,ff,ff,ff,ff,ff,ff,ff,ff] eR İ λhb=>?_
  refine è ?_;intro hr;refine oE hr λx1 co hr=>cn (λ_ g=>pI oH oL (s.mono g) z z co) ?_;obtain⟨cU,bB,cG⟩:=(om s co);refine cn (λ_ g=>vV _ kp (s.mono g) (key:=4017) z z (lI (u:=()) bB) ĳ (λj v hv=>cG j v (by simpa using hv)))<|fO z<|fO z<|oE hr λx2 bX hr=>cn (λ_ g=>pI oH oL (s.mono g) z z bX) ?_
  obtain⟨c5,bF,cx⟩:=(om s bX);refine cn (λ_ g=>vV _ kp (s.mono g) (key:=4017) z z (lI (u:=()) bF) ĳ (λj v hv=>cx j v (by simpa using hv)))<|pE hb ?_
  refine è ?_;intro _ hr b5;refine zG (r:=(Rp.arr ij 8)) (e:=325) (cs':=cU) (i:=q) (z':=x1) 4017 z oL z s z z z z (show É _ _ _ _ () _ from bB) b5 (λdk bC=>?_);refine è ?_;intro _ hr b0;refine zG (r:=(Rp.arr ij 8)) (e:=325) (cs':=c5) (i:=i64.wrap (q+ch)) (z':=x2) 4017 z oL z bC z z z z (show É _ _ _ _ () _ from bF) b0 λc7 cz=>?_;refine è ?_;intro hr;refine WC.mC hr [3,8,9,39] [153609] [3,8,39] [] (λ(⟨aG,aa,S⟩:(Ŀ (Ŀ Zf))×ŀ Ow×Int)=>⟨(aG,S),[(11,i' S)],λaT=>Ε (Rp.arr ij 8) 325 aT (.slice Y (k.length:Int).toNat ((k.length:Int).toNat)) aG aa,[(4017,aa)]⟩) (λ(⟨aP,am⟩:(Ŀ (Ŀ Zf))×ŀ Ow)=>⟨aP,[],λaW=>Ε (Rp.arr ij 8) 325 aW (.slice Y (k.length:Int).toNat ((k.length:Int).toNat)) aP am,[(4017,am)]⟩) ⟨((aF.set q.toNat x1).set (i64.wrap (q+ch)).toNat x2),c7,i64.wrap (q+1)⟩ ?_;rintro _ aT ⟨aG,aa,S⟩ bd y hr;refine o'<|sr<|θ z<|θ z<|Δ (B3 oH y z)<|kv z<|nx<|I' hr z (λcY hr=>?_) (λcY hr=>?_)
  .refine q'<|b'<|o'<|Y'<|o'<|fM [ff,ff,ff,ff,ff,ff,ff,ff,ff,ff,ff,ff,ff,ff,ff,tt,ff] eR İ λhb=>fO z<|fO z ?_
   refine è ?_;intro hr;refine oE hr λx5 bq hr=>cn (λ_ g=>pI oH oL (y.mono g) z z bq)<|oE hr λx6 cg hr=>cn (λ_ g=>uH oi jZ z z (uI (om y bq) cg)) ?_
   obtain⟨ca,ci,cj,b7,cK,a4,a0⟩:=pG (AtK.arr (om y bq) cg);refine cn (λ_ g=>vV _ mg (y.mono g) (key:=4017) z z z ĳ cK)<|fO z<|fO z<|cn (λ_ g=>n' 153609 eM z z z)<|oE hr λx7 bx hr=>cn (λ_ g=>pI oH oL (y.mono g) z z bx)<|oE hr λx8 cl hr=>cn (λ_ g=>uH oi jZ z z (uI (om y bx) cl)) ?_
   obtain⟨b8,cc,ce,cf,cH,aV,a2⟩:=pG (AtK.arr (om y bx) cl);refine cn (λ_ g=>vV _ mg (y.mono g) (key:=4017) z z z ĳ cH)<|oE hr λp cA hr=>qH (post:=iz p) (λ_=>z) (λ_ _=>x' IW z) (Nk.h cA) z (λG' g=>⟨(a4.mono g),(a0.mono g),(aV.mono g),(a2.mono g)⟩) (λv G1 G2 g h=>?_) ?_
   .obtain⟨P,R,Q,O,rfl,t,A⟩:=h;exact⟨_,_,_,_,z,t.mono g,A.mono g⟩
   refine km (φ:=iz p) (λ_=>z) (λv G1 G2 g h=>?_) (λu G' g x=>?_) ?_
   .obtain⟨p2,bf,p3,bc,rfl,X,N⟩:=h;exact⟨_,_,_,_,z,X.mono g,N.mono g⟩
   .obtain⟨⟨P,R,Q,O,bP,t,A⟩,_⟩:=(show(iz p) G'.m (u 88)/\True from x);simp only[ς,bP];exact⟨_,k' z,P,R,Q,O,z,t,A⟩
   refine km (φ:=eA p.1) (λ_=>z) (λv G1 G2 g h=>?_) (λu G' g x=>?_) ?_
   .obtain⟨p4,b6,p5,bY,rfl,bs,bA⟩:=h;exact⟨_,_,_,_,z,bs.mono g,bA.mono g⟩
   .obtain⟨⟨p2,bf,p3,bc,aN,X,N⟩,_,_⟩:=(show(iz p) G'.m (u 75)/\True/\True from x);simp only[ς,aN];exact⟨_,O' z z,p2,bf,p3,bc,z,X,N⟩
   refine na (c:=i' p.2) (λ_=>z) (λu G' g x=>?_) ?_
   .obtain⟨_,⟨p2,bf,p3,bc,aN,X,N⟩,_,_⟩:=(show True/\(iz p) G'.m (u 75)/\True/\True from x);simp only[ς,aN];exact O' z z
   refine kJ (λ_=>z) rp<|Nh (λdp dh df di X1 bD bE bk bm bo=>?_)
   obtain⟨b2,rfl,cv⟩:=bE;obtain⟨p4,b6,p5,bY,rfl,bs,bA⟩:=bk;obtain⟨p2,bf,p3,bc,rfl,X,N⟩:=bm;obtain⟨P,R,Q,O,rfl,t,A⟩:=bo;refine pQ cv (l7 (show WL _ _ _ _ _ _ (St w0 G0 X1.m _)from ?_));refine fZ 12 jZ z ?_;refine è ?_;intro hr;refine WC.mC hr [3,8,9,11,12,39] [153609,12] [3,8,9,11,39] [153609] (λ(⟨aH,ap,ad⟩:(Ŀ (Ŀ Zf))×ŀ Ow×Int)=>⟨(aH,ad),[(14,i' ad)],λa3=>Ε (Rp.arr ij 8) 325 a3 (.slice Y (k.length:Int).toNat ((k.length:Int).toNat)) aH ap,[(4017,ap)]⟩) (λ(⟨aQ,ar⟩:(Ŀ (Ŀ Zf))×ŀ Ow)=>⟨aQ,[],λa7=>Ε (Rp.arr ij 8) 325 a7 (.slice Y (k.length:Int).toNat ((k.length:Int).toNat)) aQ ar,[(4017,ar)]⟩) ⟨aG,aa,l⟩ ?_;rintro _ a3 ⟨aH,ap,ad⟩ aC o hr;refine o'<|sr<|θ z<|kv z<|nx<|I' hr z (λcS hr=>?_) (λcS hr=>?_)
   .refine q'<|b'<|o'<|Y'<|fM [ff,ff,ff,ff,ff,ff,ff,ff,ff,ff,ff,ff,ff,ff,ff,ff,ff,ff,ff] eR İ λhb=>fO z<|fO z<|fO z<|fO z<|fO z<|fO z<|oE hr λx9 bz hr=>cn (λ_ g=>pI oH oL (o.mono g) z z bz)<|oE hr λdn bv hr=>cn (λ_ g=>uH oi jZ z z (uI (om o bz) bv)) ?_
    obtain⟨ck,cm,cd,b9,cQ,aX,aU⟩:=pG (AtK.arr (om o bz) bv);refine cn (λ_ g=>vV _ mg (o.mono g) (key:=4017) z z z ĳ cQ)<|cn (λ_ g=>y' 12 mg z z z)<|fO z<|fO z<|fO z<|oE hr λdq ba hr=>cn (λ_ g=>pI oH oL (o.mono g) z z ba)<|oE hr λdm bG hr=>cn (λ_ g=>uH oi jZ z z (uI (om o ba) bG)) ?_
    obtain⟨cp,cb,bZ,cq,cR,a1,a5⟩:=pG (AtK.arr (om o ba) bG);refine cn (λ_ g=>vV _ mg (o.mono g) (key:=4017) z z z ĳ cR)<|oE hr λbH cC hr=>qH (post:=eA bH) (λ_=>z) (λ_ _=>x' Il z) (fD'.h cC) z (λG' g=>⟨((bs.mono aC).mono g),((bA.mono aC).mono g),(a1.mono g),(a5.mono g)⟩) (λv G1 G2 g h=>?_) ?_
    .obtain⟨aq,ah,aj,ao,rfl,B,D⟩:=h;exact⟨_,_,_,_,z,B.mono g,D.mono g⟩
    refine oE hr λZ cr hr=>mh (f:=313) (φ:=eA Z) (λ_=>z) (λv G1 G2 g h=>?_) (λu G' g x=>?_) ?_
    .obtain⟨C,H,K,J,rfl,U,W⟩:=h;exact⟨_,_,_,_,z,U.mono g,W.mono g⟩
    .obtain⟨⟨aq,ah,aj,ao,bT,B,D⟩,_⟩:=(show(eA bH) G'.m (u 112)/\True from x);exact⟨_,_,_,λ_=>x' IX z,hZ'.h cr,(by simp only[bT]<;>rfl),⟨(aX.mono g),(aU.mono g),B,D⟩⟩
    refine oE hr λc1 a9 hr=>cu (λ_ _ g=>pI oH oL (o.mono g) z z a9)<|GM (d:=113) (post:=eA Z) (d':=112) (post':=eA bH) (λdd de cZ bh bi bl=>?_)
    obtain⟨C,H,K,J,rfl,U,W⟩:=bi;obtain⟨aq,ah,aj,ao,rfl,B,D⟩:=bl;exact oE hr λdr bt hr=>Δ (uH oi jZ z z (uI (om o a9) bt))<|WL.qu (r:=ij) (e:=325) (m:=8) (cs':=(Ω Z C H K J)) (i:=S) (j:=ad) (u':=Z) 4017 z jZ z z (o.mono bh) z z z z ⟨(η Z.num C H),(η Z.den K J),z,⟨[.bool Z.num.neg],[ε C Z.num.υ H],z,z,⟨_,z,U⟩⟩,⟨[.bool Z.den.neg],[ε K Z.den.υ J],z,z,⟨_,z,W⟩⟩⟩ a9 bt λc3 cF=>Ι
   exact Ι
  exact Ι
 exact Ι
instance iH'{d r}:SpcM ((KQ d)) r (Cr 269 #[.int .u8 d] (λG=>True) (λG v=>v=.agg (Ó r).toArray)):=.mk λhr=>by refine Ρ ?_;intro p k _ l m hr _;refine WC.mA hr [0,2,3] [2] [2,3] [2] (λ(⟨c,e⟩:Int×(Fin 8->Int))=>⟨(c,e),[(5,i' c)],tr,[(3,û m (Ó e) 71)]⟩) (λ(f:(Fin 8->Int))=>⟨f,[],tr,[(3,û m (Ó f) 71)]⟩) ⟨0,(λ_=>0)⟩
instance iI'{R r}:SpcM ((KP R)) r (∀{H I},Cr 211 #[ε H R I] (λG=>sv G H I R) (iA (fP .i64 8) r)):=.mk λhr {H I}=>by
 refine Ρ ?_;intro T G0 t g _ _ hr _;have p:=tU (w0:=T);refine oE hr λa J hr=>mO z z (x' IJ z) (rz.h J) z (t) ln p (λZ D W v A=>?_);obtain⟨M,P,F,rfl,rfl,E⟩:=A;refine mm (λw C=>C.Þ (i:=7000) (j:=4010) z (by rw[g];rfl))<|Υ z<|o'<|sr<|θ z<|oE hr λaz O hr=>H' z z (x' IK z) (iG'.h O) z ((t.mono v))<|Δ (eB z z)<|nx<|I' hr z (λm hr=>?_) (λm hr=>?_)
 .refine Ρ ?_;intro hr;obtain rfl:_=r:=hr;refine uD (r:=(fP .i64 8)) (e:=71) 4010 E z (by rw[g];rfl) λav ay N L S=>uw z z z ⟨_,_,z,L⟩
 refine Ρ ?_;intro _ hr;refine ny (X:=(Ŀ (Fin 8->Int))×ŀ Addr×Nat×ŀ Ow×Int×Mem) hr (λ⟨f,l,h,c,d,o⟩=>⟨(f,d),[(4,ε l f h),(19,i' d)],Mem.le D o/\Ε (fP .i64 8) 71 o (ε l f h) f c,St T G0 o [(4004,c)]⟩) (λ(⟨n,s,q,k,u⟩:(Ŀ (Fin 8->Int))×ŀ Addr×Nat×ŀ Ow×Mem)=>⟨n,[(4,ε s n q)],Mem.le D u/\Ε (fP .i64 8) 71 u (ε s n q) n k,St T G0 u [(4004,k)]⟩) ⟨a,M,P,F,0,D⟩ z (Å z) ⟨mr,E⟩ ?_ ?_ ?_
 .intro w C;have C:=C.Þ (i:=4010) (j:=4004) z (by rw[g];rfl);exact C.weaken (lc z ln)
 .rintro _ ⟨f,l,h,c,d,o⟩ ⟨x,B⟩ hr;exact Ι
 rintro⟨n,s,q,k,u⟩ ⟨hr,K,Q⟩;refine Ρ ?_;intro hr;obtain rfl:_=r:=hr;refine uD (r:=(fP .i64 8)) (e:=71) 4004 Q z (by rw[g];rfl) λaw y U Y V=>uw z z z ⟨_,_,z,Y⟩
instance hF'{H d r}:SpcM ((JY H d)) r (∀{y B},Cr 127 #[ε y H B,.agg (Ó d).toArray] (λG=>sv G y B H) (iA (fP .i64 8) r)):=.mk λhr {y B}=>by
 refine Ρ ?_;intro W K _ R I _ _ b2 hr _;refine WC.mB hr [0,3,6,19] [3] [0,3] [3] (λ(⟨m,P⟩:Int×(Fin 8->Bool))=>⟨(m,P),[(20,i' m)],tr,[(6,û b2 (ö Value.bool 8 P) 143)]⟩) (λ(_:Unit)=>⟨(.inr ()),[],tr,[]⟩) ⟨0,(λ_=>false)⟩ ?_;intro af _ hr ag _;refine Ρ ?_;intro c Z _ F C _ _ hr _;refine oA hr λY hr=>Wf (r:=(fP .i64 8)) (e:=71) (n:=(c.1.length:Int)) (zx:=(λ_=>0)) 4047 z z tH nX z ĳ ĳ z z z Y λQ X aD=>?_;refine è ?_;intro hr;refine WC.mD hr [3,11,48,49] [3] [11] [] (λ(⟨q,h,f⟩:(Ŀ (Fin 8->Int))×ŀ Ow×Int)=>⟨(q,f),[(50,i' f)],λo=>Ε (fP .i64 8) 71 o (.slice Q (c.1.length:Int).toNat ((c.1.length:Int).toNat)) q h,[(4047,h)]⟩) (λ(⟨L,t⟩:(Ŀ (Fin 8->Int))×ŀ Ow)=>⟨L,[],λV=>Ε (fP .i64 8) 71 V (.slice Q (c.1.length:Int).toNat ((c.1.length:Int).toNat)) L t,[(4047,t)]⟩) ⟨(List.replicate (c.1.length:Int).toNat (λ_=>0)),X,0⟩ ?_ ?_
 .rintro _ o ⟨q,h,f⟩ v M hr;refine Ρ ?_;intro _ x1 _ _ hr _;refine WC.mC hr [3,11,12,48,49,50,55] [3] [3,11,48,49,50] [3] (λ(⟨s,k,g⟩:(Ŀ (Fin 8->Int))×ŀ Ow×Int)=>⟨(s,g),[(56,i' g)],λJ=>Ε (fP .i64 8) 71 J (.slice Q (c.1.length:Int).toNat ((c.1.length:Int).toNat)) s k,[(4047,k)]⟩) (λ(⟨A,l⟩:(Ŀ (Fin 8->Int))×ŀ Ow)=>⟨A,[],λO=>Ε (fP .i64 8) 71 O (.slice Q (c.1.length:Int).toNat ((c.1.length:Int).toNat)) A l,[(4047,l)]⟩) ⟨q,h,0⟩ ?_;rintro _ J ⟨s,k,g⟩ S D hr;refine sr<|kv z<|nx<|o'<|I' hr z (λN hr=>?_) (λN hr=>?_)
  .refine q'<|b'<|o'<|Y'<|sr<|θ z<|oA hr λx hr=>Δ (Wd GD eM jV z z x (VZ _ _ _ x))<|Ö z<|Υ z<|fM [ff,ff,ff,ff,ff,ff,ff] eR İ λhb=>fO z ?_
   refine è ?_;intro hr _;refine oE hr λx2 p hr=>cn (λ_ E=>pI tH tN (D.mono E) z z p) ?_;refine è ?_;intro hr U;exact WL.u6 (e:=71) (i:=f) (j:=Η d g) (u:=Η x1 g) 4047 z jV z D z z z p U λaI au=>Ι
  exact Ι
 rintro V ⟨L,t⟩ hr aM T;refine Ρ ?_;intro hr;obtain rfl:_=r:=hr;refine uD (r:=(fP .i64 8)) (e:=71) 4047 T z (by rw[R];rfl) λaY a1 aS a aR=>uw z z z ⟨_,_,(by rw[qQ a]),(rq a)⟩
instance go'{e l r}:SpcM ((Eo e l)) r (∀{o x p u},Cr 69 #[.agg ([i' e.kind,ε o e.p x,ε p e.o u]).toArray,.agg (Ó l).toArray] (λG=>sl c' G o x e.p/\sv G p u e.o) (λG v=>∃k g h j,v=.tuple #[.agg ([i' r.1.kind,ε k r.1.p g,ε h r.1.o j]).toArray,i' r.2]/\sl c' G k g r.1.p/\sv G h j r.1.o)):=.mk λhr {o x p u}=>Ι
instance V5{m r}:SpcM ((Z4 m)) r (∀{c h},Cl 70 #[ε c m h] [] (λG=>sl gi G c h m) (λG L v=>∃u x f,L=[(7000,f)]/\v=ε u r x/\Ε gi 56 G (ε u r x) r f)):=.mk λhr {c h}=>by
 refine Ρ ?_;intro s d A hr g;refine Δ (Y0.sm uy z z)<|nx<|WC.eC (p:=c=none) z (λk=>?_) (λk=>?_)
 .replace hr:=hr.1 (Ζ.Vq g k);refine sr<|Υ z<|m'<|a' ?_
  obtain rfl:_=r:=hr;refine mN (S':=St s d d [(7000,none)]) (wk (lw ln))<|j' z z ⟨_,_,_,z,z,(Ε.nil (r:=gi) (e:=56))⟩
 replace hr:=hr.2;refine q'<|b'<|sr<|WL.sD (e:=56) (r:=gi) (vs:=#[]) (cs:=[]) ([]:Ŀ Ze) 4005 z z z z z ĳ (λ_=>İ) (z) λE B t=>θ z<|oA hr λq hr=>GN (r:=gi) (e:=56) 4005 z z uy qR z ĳ z z t z g q λD C l y=>Υ z<|m' ?_
 obtain rfl:_=r:=hr;refine mN (S':=St s d d [(7000,l)]) ?_ ?_
 .intro w o;have o:=o.Þ (i:=4005) (j:=7000) z (by rw[A];rfl);exact o.weaken (lc z ln)
 exact j' z z ⟨_,_,_,z,z,y⟩
instance zM{g P m r}:SpcM ((uh g P m)) r (∀{n o C D s p X Z ae ad},Cr 27 #[.agg ((ga g n o)).toArray,.agg ((Ã P C D s p)).toArray,.agg ([i' m.kind,ε X m.p Z,ε ae m.o ad]).toArray] (λG=>sl gi G n o g.t/\sq G C D P.eqs/\sq G s p P.δ/\sl c' G X Z m.p/\sv G ae ad m.o) (È r)):=.mk λhr {n o C D s p X Z ae ad}=>by
 refine è ?_;intro w0 G0 _ v _ H _ E _ t _ b1 b2 b3 b4 hr _;refine WC.nD hr [3,4,5,6] [3,4,5] (λ(⟨ax,L,M⟩:Zd×ŀ Addr×Nat)=>⟨[],Q9 g P m,λaF=>sl gi aF L M ax.t,[(6,û b4 (ga ax L M) 26)]⟩) ?_ ?_
 .refine Ρ ?_;intro _ _ hr _;refine pF ⟨G0,(Zd.mk [] 0),none,0⟩ ⟨hr,mr,(X' _ _)⟩ (Å z) (w4 z z z z)
 rintro aF ⟨ax,L,M⟩ hr l bH;refine sr<|Δ (y' 4 l6 z z z)<|oE hr λaD ba hr=>gd z z (x' Ad z) (Aw _ _ _ _ _ _ ba) z (⟨(E.mono l),(t.mono l)⟩) (λbU bv A aI=>?_)
 obtain⟨S,T,K,I,rfl,aw,ao⟩:=aI;refine θ z<|ju z<|ju z<|W' 105409 z pk z λb5=>W' 10 z tv z λb6=>fZ 105409 rl z ?_
 refine è ?_;intro af aC y ai aj ag ah aG aK b7 hr _;refine o'<|sr<|θ z<|Δ (pH z z)<|nx<|I' hr z (λbD hr=>?_) (λbD hr=>?_)
 .exact Ι
 refine q'<|b'<|sr<|WL.makeMap (ky:=rC) (Rv:=mF (Rp.int .i64) aC) 4044 z z λay a1 a7=>W' 105413 z z138 z λb8=>?_
 refine è ?_;intro hr;refine WC.mD (hH:=by exact a7) hr [3,6,9,11,13,46,47] [3,6,105409,11,105413] [3,6,9,11,13] [3,6,105409,11,105413] (λ(⟨U,N,Y⟩:Int×(Ŀ (Ĳ×Int))×ŀ Ow)=>⟨(U,N),[(48,i' U)],λF=>Ø rC (mF (Rp.int .i64) F) (.map (some ay)) N Y,[(4044,Y)]⟩) (λ(⟨R,W⟩:(Ŀ (Ĳ×Int))×ŀ Ow)=>⟨R,[],λaE=>Ø rC (mF (Rp.int .i64) aE) (.map (some ay)) R W,[(4044,W)]⟩) ⟨0,[],a1⟩ ?_ ?_
 .rintro _ F ⟨U,N,Y⟩ V aP hr;refine Ρ ?_;intro _ d _ _ _ _ _ _ _ _ _ _ _ _ _ _ _ _ _ _ _ _ _ _ _ _ _ _ _ _ a3 hr _;obtain⟨⟨bA,bl⟩,hr⟩:=hr;refine WL.lR (Rv':=mF (Rp.int .i64) F) (k:=a3) (z:=d.id) 4044 z underlying138 aP z z z z bA z (λ_ _ _ _ h=>h) bl λbB bb=>t'<|Λ<|E'<|b'<|w'<|iP z<|θ z<|t'<|N' ⟨F,i64.wrap (U+1),(eV N a3 d.id),bB⟩ hr ⟨V,bb⟩ (Å z) (w6 z z z z z z)
 rintro aE ⟨R,W⟩ hr J bd;refine b'<|o'<|fM [ff,ff,ff,ff,ff,ff,ff] eR İ λhb=>cn (λ_ c=>MC z)<|cn (λ_ c=>n' 3 V3 z z z)<|oE hr λx bh hr=>γ.pJ (f:=70) (r:=gi) (e:=56) (xs:=x) (λ_=>z) (λu G' c hu=>?_) ?_
 .exact⟨_,_,_,λ_=>x' O6 z,V5.h bh,z,((H.mono (mx (mx (mx l A) y) J)).mono c)⟩
 refine Ρ ?_;intro hr;refine γ.lK (r:=gi) (e:=56) (kk:=63) (xs:=x) (λO az=>.agg ([ε O x az,i' g.next]).toArray) (λ_=>z) z İ İ (λu G' c hu=>?_) ?_
 .obtain⟨aY,_⟩:=(show(gx gi 56 63 x) (u 63) G'/\True from hu);exact⟨u 63,aY,λcp cc bt _=>l5 (vs:=#[(0,ε cp x cc),(1,i' g.next)]) (by simp only[ς,iD,ġ,ő,bt]<;>rfl) z (λ_=>İ)⟩
 refine kJ (λ_=>z) z26<|GR λce bR bO X1 a aT Q bm=>tQ aT (λb9 bq bx=>?_)
 subst bq;replace Q:=lj.drop Q ĳ bx;refine WL.oC Q (λO az aX a8 be bX=>?_);subst a8;refine l7 (show WL _ _ _ _ _ _ (St w0 G0 X1.m _)from ?_);refine mm (λw B=>B.Þ (i:=16) (j:=105416) z (by rw[v];rfl))<|fZ 105416 rZ z<|t'<|Λ<|b'<|sr<|W' 105417 z OU z λbw=>nr ?_
 refine è ?_;intro hr;refine oE hr λcf bg hr=>mm (λw B=>B.Þ (i:=66) (j:=5000) z (by rw[v];rfl))<|mm (λw B=>B.Þ (i:=4044) (j:=5590) z (by rw[v];rfl))<|mO z z (YC.yd O7 z z) (Qc 5 _ _ _ _ _ _ _ _ _ _ _ _ _ _ _ _ _ (O,az,aX,W) _ bg) z ⟨⟨be,(Ø.mono bd a)⟩,⟨(aw.mono (mx (mx y J) a)),(ao.mono (mx (mx y J) a))⟩,(aG.mono (mx J a)),(aK.mono (mx J a))⟩ (lc z (lc z (lc z (lc z (lc z (lc z ln)))))) (by rw[v];intro q hq;cases hq) (λbN cd bL bK aL=>?_)
 obtain⟨⟨bS,bY,bG,bE⟩,rfl,rfl,⟨a9,bF⟩⟩:=aL;refine è ?_;intro hr;refine o'<|sr<|θ z<|Δ (pH z z)<|nx<|I' hr z (λbs hr=>?_) (λbs hr=>?_)
 .exact Ι
 refine q'<|b'<|sr<|pP (r:=gi) (e:=56) 5000 a9 z (by rw[v];rfl) λbZ ca bI bf bJ=>Δ (y' 105416 lJ z z z)<|θ z<|fZ 6 rZ z<|Ö z<|Υ z<|m' ?_
 obtain rfl:_=r:=hr;exact MX z (kD (i:=6) lJ z z z) z z ⟨_,_,z,bf⟩
instance V9{W Z r}:SpcM ((xy W Z)) r (∀{S R},Cr 19 #[.agg ((ga W S R)).toArray,i' Z] (λG=>sl gi G S R W.t) (λG v=>∃J E u t P O K L,v=.tuple #[.agg ((fz r.1 J E u t P O K L)).toArray,.bool r.2]/\sq G J E r.1.k.eqs/\sq G u t r.1.k.δ/\sl c' G P O r.1.q.p/\sv G K L r.1.q.o)):=.mk λhr {S R}=>by refine Ρ ?_;intro w0 Y _ _ a hr _;refine WC.mA hr [1,4,9,10] [] [4] [] (λ(⟨x,p,e,f,c,d,l,h,m,j⟩:Int×Ze×ŀ Addr×Nat×ŀ Addr×Nat×ŀ Addr×Nat×ŀ Addr×Nat)=>⟨(x,p),[(11,i' x)],λq=>sq q e f p.k.eqs/\sq q c d p.k.δ/\sl c' q l h p.q.p/\sv q m j p.q.o,[(4,û a (fz p e f c d l h m j) 56)]⟩) (λ(⟨C,o,n,k,g,D,B,A,F⟩:Ze×ŀ Addr×Nat×ŀ Addr×Nat×ŀ Addr×Nat×ŀ Addr×Nat)=>⟨(.inr C),[],λI=>sq I o n C.k.eqs/\sq I k g C.k.δ/\sl c' I D B C.q.p/\sv I A F C.q.o,[(4,û a (fz C o n k g D B A F) 56)]⟩) ⟨0,(Ze.mk 0 (Zc.mk 0 [] []) (Zb.mk 0 [] []) 0 0 0 false),none,0,none,0,none,0,none,0⟩
instance fG'{i l r}:SpcM ((fu i l)) r (∀{f e c d k j},Cr 320 #[.agg ((Ã i.k f e c d)).toArray,ε k l j] (λG=>sq G f e i.k.eqs/\sq G c d i.k.δ/\sl c' G k j l) (λG v=>v=.bool r)):=.mk λhr {f e c d k j}=>Ι
instance dT'{s h r}:SpcM ((Pe s h)) r (∀{q p e f c d},Cr 319 #[ε q s p,.func (.func 320) #[.agg ((Ã h.k e f c d)).toArray] #[]] (λG=>sq G q p s/\sq G e f h.k.eqs/\sq G c d h.k.δ) (λG v=>v=.bool r)):=.mk λhr {q p e f c d}=>by
 refine Ρ ?_;intro B n _ _ _ _ k hr i;refine WC.mC hr [1,7,8] [] [] [] (λ(j:Int)=>⟨j,[(9,i' j)],tr,[]⟩) (λ(_:Unit)=>⟨(.inr ()),[],tr,[]⟩) 0 ?_;intro _ l j g _ hr;refine Ρ ?_;intro _ _ _ _ _ _ _ _ _ hr C;exact oE hr λH x hr=>H' z z (YC.CZ IY z z) (fG'.h x) z (⟨(k.mono g),(i.mono g),C⟩)<|Δ (kE z)<|Ι
instance fy'{i n r}:SpcM ((fj i n)) r (∀{f e c d k j},Cr 285 #[.agg ((Ã i.k f e c d)).toArray,ε k n j] (λG=>sq G f e i.k.eqs/\sq G c d i.k.δ/\sq G k j n) (λG v=>v=.bool r)):=.mk λhr {f e c d k j}=>Ι
instance ej'{i n r}:SpcM ((Ä i n)) r (∀{f e c d l k},Cr 222 #[.agg ((Ã i.k f e c d)).toArray,ε l n k] (λG=>sq G f e i.k.eqs/\sq G c d i.k.δ/\sq G l k n) (λG v=>v=.bool r)):=.mk λhr {f e c d l k}=>Ι
instance fu'{c r}:SpcM ((Ec c)) r (Cr 223 #[i' c] (λG=>True) (λG v=>v=.bool r)):=.mk λhr=>Ι
instance ha'{k r}:SpcM ((Jp k)) r (∀{d e c g i j h f},Cr 321 #[.agg ((wG k d e c g i j h f)).toArray] (λG=>su G d e k.lo.num.υ/\su G c g k.lo.den.υ/\su G i j k.hi.num.υ/\su G h f k.hi.den.υ) (λG v=>v=.bool r)):=.mk λhr {d e c g i j h f}=>Ι
instance eX'{i r}:SpcM ((tA i)) r (∀{g d h f},Cr 322 #[.agg ((Ω i g d h f)).toArray] (λG=>su G g d i.num.υ/\su G h f i.den.υ) (λG v=>v=.bool r)):=.mk λhr {g d h f}=>Ι
instance fH'{A Q r}:SpcM ((eb A Q)) r (∀{t s p q D S},Cr 287 #[.agg ((Ã A.k t s p q)).toArray,.agg (D).toArray] (λG=>sq G t s A.k.eqs/\sq G p q A.k.δ/\É iC 8 G D S Q) (λG v=>v=.bool r)):=.mk λhr {t s p q D S}=>by
 refine Ρ ?_;intro W B _ _ _ _ _ Y _ hr E;refine Δ (y' 3 mJ z z (lI E))<|θ z<|nx<|WC.mC hr [2,7] [2] [] [] (λ(u:Int)=>⟨u,[(8,i' u)],tr,[]⟩) (λ(_:Unit)=>⟨(.inr ()),[],tr,[]⟩) 0 ?_
 intro _ x u o _ hr;refine Ρ ?_;intro _ hr;obtain⟨y,F,hr⟩:=hr;obtain⟨h,c,g,e,d,j,f,i,Z,l,n,m,k⟩:=Px (vZ (E.mono o) F);refine Δ (Y0.uK zI rW kd z z (E.mono o) F Z z)<|W' 6 z OW z λI=>Ö z<|fZ 6 kd z<|nr<|θ z<|Δ (M4 z)<|Δ (qO z)<|Δ (n' 2 eM z z z)<|dQ hr z (Z' z z) z (λC hr=>?_) (λC hr=>?_)
 .refine θ z<|gy z z (y' 6 rW z z z) z<|oE hr λU P hr=>H' (C' z z) z (x' IZ z) (ha'.h P) z (⟨l,n,m,k⟩) ?_
  cases U
  .refine Ρ ?_;intro hr;refine Ê (M' z z) z<|Ê (M' z z) z<|Ê (M' z z) z<|Ê (M' z z) z<|Ê (M' z z) z<|Ê (M' z z) z<|Ê (M' z z) z<|Ê (M' z z) z<|Ê (M' z z) z<|sf z z z<|Κ z<|nx<|oh z<|sr<|Υ z<|m'<|g'<|a'<|a'<|g'<|mX<|a' (Û hr z z)
  refine gy z z (kE z) z<|Κ z<|θ z<|kO z<|gy z z (M4 z) z<|gy z z (qO z) z<|gy z z (n' 2 eM z z z) z<|dQ hr (C' z z) (vO z z) z (λa hr=>?_) (λa hr=>?_)
  .exact Ι
  exact kO z<|nJ z<|Ê (M' z z) z<|Ê (M' z z) z<|Ê (M' z z) z<|yl z<|gy z z (f' z z) z<|ο z<|nx<|tM z<|Ι
 refine θ z<|fK z<|ο z<|θ z<|kO z<|gy z z (M4 z) z<|gy z z (qO z) z<|gy z z (n' 2 eM z z z) z<|dQ hr (C' z z) (vO z z) z (λH hr=>?_) (λH hr=>?_)
 .exact Ι
 exact kO z<|nJ z<|Ê (M' z z) z<|Ê (M' z z) z<|Ê (M' z z) z<|yl z<|gy z z (f' z z) z<|ο z<|nx<|tM z<|Ι
instance dV'{y h r}:SpcM ((Pg y h)) r (∀{x t e f c d},Cr 286 #[ε x y t,.func (.func 287) #[.agg ((Ã h.k e f c d)).toArray] #[]] (λG=>sl (Rp.arr iC 8) G x t y/\sq G e f h.k.eqs/\sq G c d h.k.δ) (λG v=>v=.bool r)):=.mk λhr {x t e f c d}=>by
 refine Ρ ?_;intro F q _ _ _ p o hr l;refine WC.mC hr [1,7,8] [] [] [] (λ(m:Int)=>⟨m,[(9,i' m)],tr,[]⟩) (λ(_:Unit)=>⟨(.inr ()),[],tr,[]⟩) 0 ?_;intro _ i m g _ hr;refine Ρ ?_;intro _ hr;refine oE hr λQ A hr=>Δ (kf uz lX (p.mono g) z z A) ?_;obtain⟨M,k,D⟩:=(T' (iM p A) g);exact Δ (mY _ mJ z (lI (u:=()) k) (λj v K=>D j v (by simpa using K)))<|W' 6 z DY z λP=>A' 6 z lX z z z (lI (show É iC 8 i jr () _ from zH (G:=i) (r:=iC) (n:=8) (zc:=[.bool false,.slice none 0 0,.bool false,.slice none 0 0,.bool false,.slice none 0 0,.bool false,.slice none 0 0]) (z:=(Zl.mk (Zf.mk (Zg.mk false []) (Zg.mk false [])) (Zf.mk (Zg.mk false []) (Zg.mk false [])))) ⟨[.bool false,.slice none 0 0,.bool false,.slice none 0 0],[.bool false,.slice none 0 0,.bool false,.slice none 0 0],z,⟨[.bool false,.slice none 0 0],[.bool false,.slice none 0 0],z,⟨[.bool false],[.slice none 0 0],z,z,⟨_,z,(X' _ _)⟩⟩,⟨[.bool false],[.slice none 0 0],z,z,⟨_,z,(X' _ _)⟩⟩⟩,⟨[.bool false,.slice none 0 0],[.bool false,.slice none 0 0],z,⟨[.bool false],[.slice none 0 0],z,z,⟨_,z,(X' _ _)⟩⟩,⟨[.bool false],[.slice none 0 0],z,z,⟨_,z,(X' _ _)⟩⟩⟩⟩)) (lI (show É _ _ _ _ () _ from k)) (É.one (show É _ _ _ _ () _ from k))<|nr<|θ z<|Δ (y' 6 mJ z z (lI (show É _ _ _ _ () _ from k)))<|oE hr λL C hr=>H' z z (YC.CZ IN z z) (fH'.h C) z (⟨(o.mono g),(l.mono g),(show É _ _ _ _ () _ from k)⟩)<|Δ (kE z)<|Ι
instance eg'{i m r}:SpcM ((Á i m)) r (∀{f e c d j k},Cr 224 #[.agg ((Ã i.k f e c d)).toArray,ε j m k] (λG=>sq G f e i.k.eqs/\sq G c d i.k.δ/\sl (Rp.arr iC 8) G j k m) (λG v=>v=.bool r)):=.mk λhr {f e c d j k}=>Ι
instance ia'{d r}:SpcM ((JQ d)) r (Cr 226 #[i' d] (λG=>True) (λG v=>v=.bool r)):=.mk λhr=>Ι
instance cB'{c r}:SpcM ((ZP c)) r (∀{j l d e i g k m f h},Cr 227 #[.agg ((jW c j l d e i g k m f h)).toArray] (λG=>sl c' G j l c.p/\sv G d e c.o/\sq G i g c.l/\sl (Rp.int .i64) G k m c.s/\sl (Rp.arr iC 8) G f h c.b) (λG v=>v=.bool r)):=.mk λhr {j l d e i g k m f h}=>by
 refine J' (args:=[_]) (N:=51) func227 z z z (λJ I F s=>?_);obtain⟨o,t,p,n,q⟩:=s;refine sr<|jO 1 z z z λH=>Ö z<|nr<|Δ (zz z)<|Δ (n' 1 eM z z z)<|dQ hr z (eB z z) z (λD hr=>?_) (λD hr=>?_)
 .refine θ z<|gy z z (zA z) z<|gy z z (n' 1 eM z z z) z<|dQ hr (C' z z) (eB z z) z (λy hr=>?_) (λy hr=>?_)
  .refine Κ z<|θ z<|gy z z (xQ z) z<|gy z z (n' 1 eM z z z) z<|dQ hr (C' z z) (eB z z) z (λE hr=>?_) (λE hr=>?_)
   .refine Κ z<|θ z<|gy z z (zD z) z<|gy z z (n' 1 eM z z z) z ?_
    exact Ι
   exact Ι
  exact Ι
 exact Ι
instance fI'{k r}:SpcM ((I7 k)) r (∀{j i},Cr 225 #[ε j k i,.func (.func 226) #[] #[]] (λG=>sl (Rp.int .i64) G j i k) (λG v=>v=.bool r)):=.mk λhr {j i}=>by refine Ρ ?_;intro p g _ hr _;refine WC.mA hr [1,7,8] [] [] [] (λ(d:Int)=>⟨d,[(9,i' d)],tr,[]⟩) (λ(_:Unit)=>⟨(.inr ()),[],tr,[]⟩) 0
set_option maxHeartbeats 2000000 in
instance fn'{c r}:SpcM ((eZ c)) r (∀{s q n o m l h i e d f g j k},Cr 147 #[.agg ((DM c s q n o m l h i e d f g j k)).toArray] (λG=>sq G s q c.rules.k.eqs/\sq G n o c.rules.k.δ/\sl c' G m l c.c.p/\sv G h i c.c.o/\sq G e d c.c.l/\sl (Rp.int .i64) G f g c.c.s/\sl (Rp.arr iC 8) G j k c.c.b) (λG v=>v=.bool r)):=.mk λhr {s q n o m l h i e d f g j k}=>by
 refine J' (args:=[_]) (N:=150) func147 z z z (λw0 L a8 ay=>?_);obtain⟨x,u,D,B,C,A,y⟩:=ay;refine sr<|jO 1 z z z λS=>Υ z<|o'<|sr<|Δ (Wb z)<|Δ (R' ((Ã c.rules.k s q n o)).toArray 1 rV z z z (mK ([]) ((Ã c.rules.k s q n o)) ((jW c.c m l h i e d f g j k))))<|oE hr λbb Y hr=>H' z z (x' H3 z) (ec'.h Y) z (⟨x,u⟩)<|Δ (kE z)<|nx<|jM hr z (λW hr=>?_) (λW hr=>?_)
 .exact Ι
 refine q' ?_;refine è ?_;intro O M hr;refine WC.nD hr [1,3,4,5,15] [1,3,4] (λ(K:Bool)=>⟨[(16,.bool K)],î c K,tr,[]⟩) ?_ ?_
 .refine sr<|Δ (eB z z)<|Υ z<|I' hr z (λao hr=>?_) (λao hr=>?_)
  .exact Ι
  refine sr<|Δ (eB z z)<|Υ z<|I' hr z (λZ hr=>?_) (λZ hr=>?_)
  .exact Ι
  exact Ι
 intro I K hr p _;refine jM hr z (λQ hr=>?_) (λQ hr=>?_)
 .exact Ι
 refine WC.nD hr [1,3,4,5,15] [1,3,4] (λ(J:Bool)=>⟨[(26,.bool J)],ú c J,tr,[]⟩) ?_ ?_
 .refine sr<|Δ (eB z z)<|Υ z<|I' hr z (λaz hr=>?_) (λaz hr=>?_)
  .exact Ι
  exact Ι
 intro H J hr t _;refine jM hr z (λU hr=>?_) (λU hr=>?_)
 .exact Ι
 refine sr<|Δ (eB z z)<|Υ z<|I' hr z (λE hr=>?_) (λE hr=>?_)
 .exact Ι
 refine sr<|Δ (eB z z)<|Υ z<|I' hr z (λV hr=>?_) (λV hr=>?_)
 .exact Ι
 refine sr<|Δ (eB z z)<|Υ z<|I' hr z (λT hr=>?_) (λT hr=>?_)
 .exact Ι
 refine sr<|Δ (eB z z)<|Υ z<|I' hr z (λa hr=>?_) (λa hr=>?_)
 .exact Ι
 refine sr<|Δ (eB z z)<|Υ z<|I' hr z (λR hr=>?_) (λR hr=>?_)
 .refine sr<|Δ (Wb z)<|Δ (R' ((Ã c.rules.k s q n o)).toArray 1 rV z z z (mK ([]) ((Ã c.rules.k s q n o)) ((jW c.c m l h i e d f g j k))))<|Δ (GI z) ?_
  exact Ι
 refine sr<|Δ (eB z z)<|Υ z<|I' hr z (λP hr=>?_) (λP hr=>?_)
 .exact Ι
 refine WC.nC hr [3,4] [3,4] (λ(F:Bool)=>⟨[(138,.bool F)],ù c F,tr,[]⟩) ?_;refine sr<|Δ (eB z z)<|Υ z<|I' hr z (λX hr=>?_) (λX hr=>?_)
 .exact Ι
 exact Ι
instance iw'{h g r}:SpcM ((EJ h g)) r (∀{e f c d o q i j n l p s k m},Cr 82 #[.agg ((Ã h e f c d)).toArray,.agg ((jW g o q i j n l p s k m)).toArray] (λG=>sq G e f h.eqs/\sq G c d h.δ/\sl c' G o q g.p/\sv G i j g.o/\sq G n l g.l/\sl (Rp.int .i64) G p s g.s/\sl (Rp.arr iC 8) G k m g.b) (λG v=>v=.bool r)):=.mk λhr {e f c d o q i j n l p s k m}=>by
 refine Ρ ?_;intro _ _ _ _ _ _ _ _ _ _ _ _ _ _ _ _ _ _ _;refine Δ (l5 (vs:=#[(0,.agg ((Ã h e f c d)).toArray)]) (v:=.agg ((Ã h e f c d)).toArray) z z (λ_=>İ))<|Δ (y' 3 nR z z z)<|Δ (l5 (vs:=#[(0,.agg ((Ã h e f c d)).toArray),(1,.agg ((jW g o q i j n l p s k m)).toArray)]) (v:=.agg ([i' h.n,ε e h.eqs f,ε c h.δ d,i' g.kind,ε o g.p q,i' g.n,i' g.d,i' g.r,ε i g.o j,ε n g.l l,ε p g.s s,ε k g.b m]).toArray) z z (λ_=>İ)) ?_
 exact Ι
instance tS{m p r}:SpcM ((Ej m p)) r (∀{j n h l},Cr 85 #[ε j m n,ε h p l] (λG=>sv G j n m/\sv G h l p) (λG v=>v=.bool r)):=.mk λhr {j n h l}=>by refine Ρ ?_;intro x i _ _ _ _ hr _;refine WC.mA hr [0,1,12] [] [] [] (λ(e:Int)=>⟨e,[(13,i' e)],tr,[]⟩) (λ(_:Unit)=>⟨(.inr ()),[],tr,[]⟩) 0
instance gv'{l f d r}:SpcM ((JT l f d)) r (∀{i j h g y x s B A p E C q o t D u F},Cr 37 #[.agg ((Ã l i j h g)).toArray,.agg ([i' f.kind,ε y f.p x,ε s f.o B]).toArray,.agg ((jW d A p E C q o t D u F)).toArray] (λG=>sq G i j l.eqs/\sq G h g l.δ/\sl c' G y x f.p/\sv G s B f.o/\sl c' G A p d.p/\sv G E C d.o/\sq G q o d.l/\sl (Rp.int .i64) G t D d.s/\sl (Rp.arr iC 8) G u F d.b) (λG v=>v=.bool r)):=.mk λhr {i j h g y x s B A p E C q o t D u F}=>by
 refine è ?_;intro _ _ _ _ _ _ _ _ _ _ _ _ _ _ _ _ _ _ _ _ _ _ hr _;refine I' hr z (λa hr=>?_) (λa hr=>?_)
 .exact Ι
 refine sr<|Δ (eB z z)<|Υ z<|I' hr z (λm hr=>?_) (λm hr=>?_)
 .refine Ρ ?_;intro _ _ _ _ _ _ _ _ _ _ _ _ _ _ _ _ _ hr _;refine Ê (M' z z) z<|Ê (M' z z) z<|Ê (M' z z) z<|Ê (M' z z) z<|yl z<|Ê (M' z z) z<|Ê (M' z z) z<|Ê (M' z z) z<|Ê (M' z z) z<|sf z z z<|Κ z<|Υ z<|m'<|g'<|a' (Û hr z z)
 refine sr<|Δ (eB z z)<|Υ z<|I' hr z (λI hr=>?_) (λI hr=>?_)
 .exact Ι
 refine sr<|Δ (eB z z)<|Υ z<|I' hr z (λk hr=>?_) (λk hr=>?_)
 .exact Ι
 refine sr<|Δ (eB z z)<|Υ z<|I' hr z (λJ hr=>?_) (λJ hr=>?_)
 .exact Ι
 refine sr<|Δ (eB z z)<|Υ z<|I' hr z (λH hr=>?_) (λH hr=>?_)
 .exact Ι
 refine sr<|Δ (eB z z)<|Υ z<|I' hr z (λc hr=>?_) (λc hr=>?_)
 .exact Ι
 refine sr<|Δ (eB z z)<|Υ z<|I' hr z (λn hr=>?_) (λn hr=>?_)
 .refine sr<|Δ (zz z)<|Δ (n' 5 eM z z z)<|dQ hr z (eB z z) z (λe hr=>?_) (λe hr=>?_)
  .refine Ρ ?_;intro hr;refine Ê (M' z z) z<|Ê (M' z z) z<|Ê (M' z z) z<|sf z z z<|Κ z<|Υ z<|m'<|g'<|a' (Û hr z z)
  refine Ρ ?_;intro _ hr;refine Ê (M' z z) z<|Ê (M' z z) z<|Ê (M' z z) z<|sf z z z<|Κ z<|Υ z<|m'<|g'<|a' (Û hr z z)
 exact Ι
instance ib'{t d r}:SpcM ((JP t d)) r (∀{y D A E n q g h m k p s j l},Cr 148 #[.agg ([i' t.kind,ε y t.p D,ε A t.o E]).toArray,.agg ((jW d n q g h m k p s j l)).toArray] (λG=>sl c' G y D t.p/\sv G A E t.o/\sl c' G n q d.p/\sv G g h d.o/\sq G m k d.l/\sl (Rp.int .i64) G p s d.s/\sl (Rp.arr iC 8) G j l d.b) (λG v=>v=.tuple #[i' r.1,i' r.2])):=.mk λhr {y D A E n q g h m k p s j l}=>by
 refine è ?_;intro R B _ _ _ _ _ _ _ _ _ _ _ _ _ _ H hr _;refine I' hr z (λV hr=>?_) (λV hr=>?_)
 .exact Ι
 refine WC.nD hr [3] [3] (λ(o:Bool)=>⟨[(22,.bool o)],D6 d o,tr,[]⟩) ?_ ?_
 .refine sr<|Δ (eB z z)<|Υ z<|I' hr z (λI hr=>?_) (λI hr=>?_)
  .exact Ι
  exact Ι
 intro e o hr u _;refine jM hr z (λM hr=>?_) (λM hr=>?_)
 .refine è ?_;intro hr;refine I' hr z (λL hr=>?_) (λL hr=>?_)
  .exact Ι
  refine WC.nC hr [3,26] [3] (λ(i:Bool)=>⟨[(33,.bool i)],D5 d i,tr,[]⟩) ?_;refine sr<|Δ (eB z z)<|Υ z<|I' hr z (λK hr=>?_) (λK hr=>?_)
  .exact Ι
  exact Ι
 exact Ι
instance iJ'{d J r}:SpcM ((KE d J)) r (∀{m l g e t v x u S U L M R P T V O Q},Cr 83 #[.agg ((fz d m l g e t v x u)).toArray,.agg ((jW J S U L M R P T V O Q)).toArray] (λG=>sq G m l d.k.eqs/\sq G g e d.k.δ/\sl c' G t v d.q.p/\sv G x u d.q.o/\sl c' G S U J.p/\sv G L M J.o/\sq G R P J.l/\sl (Rp.int .i64) G T V J.s/\sl (Rp.arr iC 8) G O Q J.b) (DR r)):=.mk λhr {m l g e t v x u S U L M R P T V O Q}=>by
 refine è ?_;intro w0 G0 _ _ _ _ _ _ _ _ _ _ _ X _ a _ Y W I K N hr Z;refine WC.nB hr [2,3,4] [3,4] (λ(⟨c,k,j,h,f,p,o,n,q⟩:Ze×ŀ Addr×Nat×ŀ Addr×Nat×ŀ Addr×Nat×ŀ Addr×Nat)=>⟨[],Eh J c,λH=>sq H k j c.k.eqs/\sq H h f c.k.δ/\sl c' H p o c.q.p/\sv H n q c.q.o,[(2,û I (fz c k j h f p o n q) 56)]⟩) ?_;rintro H ⟨c,k,j,h,f,p,o,n,q⟩ hr D ⟨y,s,B,A⟩;refine sr<|Δ (GF z)<|Δ (R' ([i' c.q.kind,ε p c.q.p o,ε n c.q.o q]).toArray 2 qK z z z (mK ([i' c.id,i' c.k.n,ε k c.k.eqs j,ε h c.k.δ f]) ([i' c.q.kind,ε p c.q.p o,ε n c.q.o q]) ([i' c.ψ,i' c.low,i' c.high,.bool c.done])))<|Δ (y' 3 nR z z z)<|oE hr λF C hr=>H' z z (x' Ie z) (ib'.h C) z (⟨B,A,(X.mono D),(a.mono D),(Y.mono D),(W.mono D),(Z.mono D)⟩)<|θ z<|ju z<|ju z<|Ö z<|Ö z<|nr<|Δ (BR z)<|Δ (n' 2 eM z z z)<|θ z<|Δ (Wi z z)<|Δ (BR z)<|qJ 2 ([i' c.id,i' c.k.n,ε k c.k.eqs j,ε h c.k.δ f,i' c.q.kind,ε p c.q.p o,ε n c.q.o q,i' c.ψ,i' (if c.low<F.1 then F.1 else c.low),i' c.high,.bool c.done]).toArray z jV z z z (show 8<11 by decide) z z<|nx<|o'<|sr<|θ z<|dQ hr z (vO z z) z (λE hr=>?_) (λE hr=>?_)
 .exact Ι
 refine θ z<|nJ z<|Ê (M' z z) z<|Ê (M' z z) z<|Ê (M' z z) z<|Ê (M' z z) z<|sk z z z<|ο z<|nx<|tM z<|q'<|b'<|sr<|Δ (y' 2 uB z z z)<|fZ 4 tJ z<|nx<|m' ?_
 obtain rfl:_=r:=hr;exact j' z (kD (i:=4) uB z z z) ⟨_,_,_,_,_,_,_,_,z,y,s,B,A⟩
instance M0{Y M C k r}:SpcM ((xh Y M C k)) r (∀{ah ai D E},Cr 36 #[.agg ((ga Y ah ai)).toArray,i' M,ε D C E,i' k] (λG=>sl gi G ah ai Y.t/\sl rY G D E C) (ji r)):=.mk λhr {ah ai D E}=>by
 refine è ?_;intro w0 G0 aj cF _ bd b1 b2 A b0 ag x t p q O L Q P aA au _ _ b3 hr _;refine o'<|sr<|θ z<|Δ (kE z)<|nx<|jM hr z (λcV hr=>?_) (λcV hr=>?_)
 .exact Ι
 refine q'<|b'<|WC.nB hr [1,2,3,4,8,10] [4,10] (λ(⟨bi,aW,aX⟩:Zd×ŀ Addr×Nat)=>⟨[],P6 Y M C k A bi,λa1=>sl gi a1 aW aX bi.t,[(8,û b2 (ga bi aW aX) 26)]⟩) ?_
 rintro a1 ⟨bi,aW,aX⟩ hr F bV;refine Ρ ?_;intro hr;refine WC.mB hr [1,2,3,4,8,10,36,37] [4,10] [1,2,3,4,8,10] [4,10] (λ(⟨aV,a5,aI,aF⟩:Int×Zd×ŀ Addr×Nat)=>⟨(aV,a5),[(38,i' aV)],λa3=>sl gi a3 aI aF a5.t,[(8,û b2 (ga a5 aI aF) 26)]⟩) (λ(⟨aH,U,S⟩:Zd×ŀ Addr×Nat)=>⟨(.inr aH),[],λbz=>sl gi bz U S aH.t,[(8,û b2 (ga aH U S) 26)]⟩) ⟨0,bi,aW,aX⟩ ?_;rintro bz ⟨aH,U,S⟩ hr X cW;refine Ρ ?_;intro hr;refine oE hr λbv ck hr=>H' z z (x' yB z) (yF _ _ _ _ _ _ ck) z (⟨(aA.mono (mx F X)),(au.mono (mx F X))⟩)<|Υ z<|o'<|fM [ff,ff,ff,ff,ff,ff,ff] eR İ λhb=>?_
 refine è ?_;intro hr;refine oE hr λB ct hr=>γ.pJ (f:=70) (r:=gi) (e:=56) (xs:=B) (λ_=>z) (λu G' a4 hu=>?_) ?_
 .exact⟨_,_,_,λ_=>x' O6 z,V5.h ct,z,((bd.mono (mx (mx ag F) X)).mono a4)⟩
 refine Ρ ?_;intro hr;refine γ.lK (r:=gi) (e:=56) (kk:=54) (xs:=B) (λJ I=>.agg ([ε J B I,i' Y.next]).toArray) (λ_=>z) z İ İ (λu G' a4 hu=>?_) ?_
 .obtain⟨bS,_⟩:=(show(gx gi 56 54 B) (u 54) G'/\True from hu);exact⟨u 54,bS,λcp cc cL _=>l5 (vs:=#[(0,ε cp B cc),(1,i' Y.next)]) (by simp only[ς,iD,ġ,ő,cL]<;>rfl) z (λ_=>İ)⟩
 refine kJ (λ_=>z) z26<|GR λdu c7 c3 X1 bq bM aK cz=>tQ bM (λb4 cH cO=>?_)
 subst cH;replace aK:=lj.drop aK ĳ cO;refine WL.oC aK (λJ I bP cd bL dn=>?_);subst cd;refine l7 (show WL _ _ _ _ _ _ (St w0 G0 X1.m _)from ?_);refine è ?_;intro hr;refine WC.mD hr [1,2,3,8,14,15,59,60] [8] [8,15] [8] (λ(⟨ab,H,s,y⟩:(Ŀ Ze)×ŀ Ow×Int×Int)=>⟨(ab,s,y),[(61,i' s)],λar=>Ε gi 56 ar (ε J B I) ab H,[(15,û b4 ([ε J B I,i' y]) 26),(57,H)]⟩) (λ(⟨bs,aZ,aJ⟩:(Ŀ Ze)×ŀ Ow×Int)=>⟨(bs,aJ),[],λbw=>Ε gi 56 bw (ε J B I) bs aZ,[(15,û b4 ([ε J B I,i' aJ]) 26),(57,aZ)]⟩) ⟨B,bP,0,Y.next⟩ ?_ ?_
 .rintro _ ar ⟨ab,H,s,y⟩ ao K hr;refine Ρ ?_;intro _ x1 hr b8;obtain⟨ak,ap,ae,aa,a6,a7,ba,a9,cE,aL,av,bt,bx⟩:=MS (om K b8);refine Δ (vV _ uB K (key:=57) z z z ĳ cE) ?_;refine è ?_;intro b5 hr;refine WC.nC hr [1,2,3,8,14,15,16,17,59,60,61] [8,15,57] (λ(⟨c,h,j,d,g,o,l,n,m⟩:Ze×ŀ Addr×Nat×ŀ Addr×Nat×ŀ Addr×Nat×ŀ Addr×Nat)=>⟨[],yI M k ab s y c,λaz=>sq az h j c.k.eqs/\sq az d g c.k.δ/\sl c' az o l c.q.p/\sv az n m c.q.o,[(17,û b5 (fz c h j d g o l n m) 56)]⟩) ?_;refine Ρ ?_;intro hr;refine oE hr λdw cq hr=>H' z z (x' yB z) (yF _ _ _ _ _ _ cq) z (⟨aL,av⟩) ?_;refine è ?_;intro hr;refine I' hr z (λcI hr=>?_) (λcI hr=>?_)
  .refine Ρ ?_;intro hr;refine WC.mC hr [1,2,3,8,14,15,16,17,59,60,61,71,72] [8,15,57] [1,2,3,8,14,15,16,17,59,60,61] [8,15,57] (λ(⟨aT,a,af,Z,V,R,ay,aD,aC,aE⟩:Int×Ze×ŀ Addr×Nat×ŀ Addr×Nat×ŀ Addr×Nat×ŀ Addr×Nat)=>⟨(aT,a),[(73,i' aT)],λN=>sq N af Z a.k.eqs/\sq N V R a.k.δ/\sl c' N ay aD a.q.p/\sv N aC aE a.q.o,[(17,û b5 (fz a af Z V R ay aD aC aE) 56)]⟩) (λ(⟨v,ac,ad,W,T,aB,ax,aG,aw⟩:Ze×ŀ Addr×Nat×ŀ Addr×Nat×ŀ Addr×Nat×ŀ Addr×Nat)=>⟨v,[],λaR=>sq aR ac ad v.k.eqs/\sq aR W T v.k.δ/\sl c' aR aB ax v.q.p/\sv aR aG aw v.q.o,[(17,û b5 (fz v ac ad W T aB ax aG aw) 56)]⟩) ⟨0,x1,ak,ap,ae,aa,a6,a7,ba,a9⟩ ?_;rintro _ N ⟨aT,a,af,Z,V,R,ay,aD,aC,aE⟩ aU ⟨aY,aQ,bk,bf⟩ hr;refine sr<|kv z<|nx<|o'<|I' hr z (λcS hr=>?_) (λcS hr=>?_)
   .refine q'<|b'<|o'<|Y'<|sr<|oE hr λx4 bX hr=>Δ (kf MR tc (aj.mono (mx (mx (mx (mx (mx ag F) X) bq) ao) aU)) z z bX) ?_
    obtain⟨da,c5,c9,dk,c2,c1,dp,dj,dd,dm,cA,cf,cg,cr,cb,ch⟩:=Wm (T' (iM aj bX) (mx (mx (mx (mx (mx ag F) X) bq) ao) aU));refine Δ (mY _ nR z z cA)<|W' 19 z HT z λb6=>fZ 19 tc z<|nx<|w'<|Δ (y' 17 uB z z z)<|Δ (y' 19 nR z z z)<|oE hr λcC b9 hr=>gd z z (x' Ym z) (iJ'.h b9) z (⟨aY,aQ,bk,bf,cf,cg,cr,cb,ch⟩) (λc0 cQ bR bB=>?_)
    obtain⟨bn,br,bj,bc,bN,bI,bJ,bH,rfl,bo,be,bO,bF⟩:=bB;exact fZ 17 tJ z<|Ι
   exact Ι
  exact Ι
 rintro bw ⟨bs,aZ,aJ⟩ hr cX bT;refine b'<|sr<|pP (r:=gi) (e:=56) 57 bT z (by rw[cF];rfl) λds dt cZ bp cY=>Δ (y' 15 lJ z z z)<|fZ 8 rZ z<|Υ z<|m' ?_
 obtain rfl:_=r:=hr;exact uw z (kD (i:=8) lJ z z z) z ⟨_,_,(by first|rw[qQ bp]|(unfold ε;rw[qQ bp])),(rq bp)⟩
instance eY'{d c r}:SpcM ((JN d c)) r (∀{k j e g u q m t l i f h o s n p},Cr 21 #[.agg ((fz d k j e g u q m t)).toArray,.agg ((fz c l i f h o s n p)).toArray] (λG=>sq G k j d.k.eqs/\sq G e g d.k.δ/\sl c' G u q d.q.p/\sv G m t d.q.o/\sq G l i c.k.eqs/\sq G f h c.k.δ/\sl c' G o s c.q.p/\sv G n p c.q.o) (λG v=>v=.bool r)):=.mk λhr {k j e g u q m t l i f h o s n p}=>by
 refine Ρ ?_;intro _ _ _ _ _ B _ y _ _ _ _ _ A _ x _ _ _ _ _ _ _ _ hr _;refine oE hr λK J hr=>H' (C' z z) z (x' D0 z) (Es _ _ _ _ _ _ _ _ _ _ _ J) z (⟨B,y,A,x⟩) ?_;cases K
 .exact Ι
 exact Ι
instance We{B u r}:SpcM ((Bf B u)) r (∀{i n k h},Cr 14 #[.agg ((ga B i n)).toArray,.agg ((ga u k h)).toArray] (λG=>sl gi G i n B.t/\sl gi G k h u.t) (λG v=>v=.bool r)):=.mk λhr {i n k h}=>by refine Ρ ?_;intro V q _ _ _ W T _ _ hr _;refine WC.mA hr [2,3] [2,3] [] [] (λ(A:Int)=>⟨A,[(5,i' A)],tr,[]⟩) (λ(_:Unit)=>⟨(.inr ()),[],tr,[]⟩) 0
instance ix'{c r}:SpcM ((KA c)) r (∀{g f e d k i j h},Cr 45 #[.agg ((fz c g f e d k i j h)).toArray] (λG=>sq G g f c.k.eqs/\sq G e d c.k.δ/\sl c' G k i c.q.p/\sv G j h c.q.o) (λG v=>v=.bool r)):=.mk λhr {g f e d k i j h}=>by
 refine è ?_;intro w0 O _ _ _ p _ m s J hr t;refine WC.nB hr [1] [1] (λ(_:Unit)=>⟨[],JI c,tr,[]⟩) ?_;intro B _ hr l _;refine WC.nB hr [1] [1] (λ(_:Unit)=>⟨[],PR c,tr,[]⟩) ?_;intro I _ hr o _;refine Ρ ?_;intro hr;refine oE hr λP u hr=>gd z z (x' Ad z) (Aw _ _ _ _ _ _ u) z (⟨(p.mono (mx l o)),(m.mono (mx l o))⟩) (λau ag q E=>?_);obtain⟨Q,R,K,M,rfl,A,y⟩:=E;refine θ z<|ju z ?_
 refine è ?_;intro _ _ hr;refine o'<|o'<|fM [ff,ff,ff,ff] eR İ λL=>cn (λ_ n=>y' 3 l6 z z z)<|oE hr λaw S hr=>uA z (λ_=>x' yB z) (yF _ _ _ _ _ _ S) z (λG' n=>⟨(A.mono n),(y.mono n)⟩)<|cn (λ_ n=>BG z)<|cn (λ_ n=>R' ((Ã c.k g f e d)).toArray 1 l6 z z z (mK ([i' c.id]) ((Ã c.k g f e d)) ([i' c.q.kind,ε k c.q.p i,ε j c.q.o h,i' c.ψ,i' c.low,i' c.high,.bool c.done])))<|pE L<|oE hr λY W hr=>H' z z (x' yB z) (yF _ _ _ _ _ _ W) z (⟨(p.mono (mx (mx l o) q)),(m.mono (mx (mx l o) q))⟩)<|Δ (Y0.On xN z z)<|t'<|Λ<|b'<|I' hr z (λx hr=>?_) (λx hr=>?_)
 .exact Ι
 refine q'<|b'<|sr<|Δ (GF z)<|Δ (R' ([i' c.q.kind,ε k c.q.p i,ε j c.q.o h]).toArray 1 qK z z z (mK ([i' c.id,i' c.k.n,ε g c.k.eqs f,ε e c.k.δ d]) ([i' c.q.kind,ε k c.q.p i,ε j c.q.o h]) ([i' c.ψ,i' c.low,i' c.high,.bool c.done])))<|Δ (y' 4 r0 z z (U' _ _ _))<|oE hr λay U hr=>gd z z (x' Yh z) (go'.h U) z (⟨(s.mono (mx (mx l o) q)),(t.mono (mx (mx l o) q))⟩) (λav Z C F=>?_)
 obtain⟨ad,ac,af,ae,rfl,H,D⟩:=F;refine θ z<|ju z<|ju z<|W' 5 z z54 z λb4=>fZ 5 ns z<|Υ z<|o'<|fM [ff,ff,ff,ff,ff,ff,ff] eR İ λL=>fO z<|BL hr z (λ_ n=>eB z z) (λN hr=>?_) (λN hr=>?_)
 .refine Ρ ?_;intro hr;refine oE hr λaz T hr=>uA (C' z z) (λ_=>x' I5 z) (J5 _ _ _ _ _ _ T) z (λG' n=>⟨(H.mono n),(D.mono n)⟩) ?_;refine è ?_;intro hr;obtain⟨X,V,hr⟩:=hr;have a:=mx (mx (mx l o) q) C;refine H' (C' z z) z (x' I5 z) (J5 _ _ _ _ _ _ V) z (⟨(s.mono a),(t.mono a)⟩)<|gy z z (Y0.uF xN z z) z<|Κ z<|Ö z<|t'<|Λ<|b'<|m' (Û hr z z)
 exact Ι
instance pW{l r}:SpcM ((E5 l)) r (∀{i j},Cr 15 #[.agg ((ga l i j)).toArray] (λG=>sl gi G i j l.t) (λG v=>v=.bool r)):=.mk λhr {i j}=>by
 refine è ?_;intro Y O _ K hr _;refine WC.nB hr [1] [1] (λ(_:Unit)=>⟨[],P8 l,tr,[]⟩) ?_;intro J _ hr L _;refine sr<|WL.makeMap (ky:=rC) (Rv:=mF Rp.bool J) 4023 z z λP ad aj=>?_
 refine Ρ ?_;intro hr;refine WC.mC hr [1,25,26,3] [1] [] [] (λ(⟨V,t,R,A⟩:Int×Int×(Ŀ (Ĳ×Bool))×ŀ Ow)=>⟨(V,t,R),[(4,i' V),(27,i' t)],λI=>Ø rC (mF Rp.bool I) (.map (some P)) R A,[(4023,A)]⟩) (λ(_:Unit)=>⟨(.inr ()),[],tr,[]⟩) ⟨0,0,[],ad⟩ ?_;rintro _ I ⟨V,t,R,A⟩ F T hr;refine sr<|kv z<|nx<|o'<|I' hr z (λX hr=>?_) (λX hr=>?_)
 .refine è ?_;intro c _ _ f _ g _ e _ d _ m _ n _ p _ o _ _ _ _ B _ x D Z hr H;refine WC.nD hr [1,6,25,26,27,3] [1,6,4023] (λ(_:Unit)=>⟨[],P7 t R c,tr,[]⟩) ?_ ?_
  .refine Ρ ?_;intro _ _ W hr _;exact oA hr λS hr=>gy z z (Y0.lA (mk:=Value.bool) (k:=W) 4023 false (λh=>L3 h) BZ OY T z z z S) z<|Ι
  intro aa _ hr q _;refine Ρ ?_;intro ag ab s au ak _ hr _;refine WC.mD hr [1,6,25,26,27,58,59,3] [1,6,4023] [1,6,25,26,27,3] [1,6,4023] (λ(E:Int)=>⟨E,[(60,i' E)],tr,[]⟩) (λ(_:Unit)=>⟨(.inr ()),[],tr,[]⟩) 0 ?_ ?_
  .intro _ Q E u _ hr;refine Ρ ?_;intro _ _ _ _ _ _ _ _ _ _ _ _ _ _ _ _ _ N hr _;exact oA hr λC hr=>Δ (Y0.lA (mk:=Value.bool) (k:=N) 4023 false (λh=>L3 h) BZ OY (Ø.mono T (mx (mx q s) u)) z z z C)<|Δ (kE z)<|Ι
  intro M _ hr y _;refine b'<|sr<|θ z<|Δ (BG z)<|Δ (R' ((Ã c.k f g e d)).toArray 6 l6 z z z (mK ([i' c.id]) ((Ã c.k f g e d)) ([i' c.q.kind,ε m c.q.p n,ε p c.q.o o,i' c.ψ,i' c.low,i' c.high,.bool c.done])))<|Δ (GF z)<|Δ (R' ([i' c.q.kind,ε m c.q.p n,ε p c.q.o o]).toArray 6 qK z z z (mK ([i' c.id,i' c.k.n,ε f c.k.eqs g,ε e c.k.δ d]) ([i' c.q.kind,ε m c.q.p n,ε p c.q.o o]) ([i' c.ψ,i' c.low,i' c.high,.bool c.done]))) ?_
  obtain⟨af,ao,hr⟩:=hr;have a:=mx (mx q s) y;refine H' z z (x' I3 z) (E8 _ _ _ _ _ _ _ _ _ _ _ ao) z (⟨(B.mono a),(x.mono a),(D.mono a),(H.mono a)⟩) ?_;obtain⟨⟨U,aw⟩,hr⟩:=hr;exact WL.lR (Rv':=mF Rp.bool M) (k:=af) (z:=true) 4023 z BZ (Ø.mono T a) z z z z U z (λ_ _ _ _ h=>h) aw λay ap=>nx<|w'<|Δ (GJ z)<|Ι
 exact Ι
instance hG'{t u c r}:SpcM ((J0 t u c)) r (∀{B y x A p n D f g d e m l j i E},Cl 47 #[.agg ([i' t.kind,ε B t.p y,ε x t.o A]).toArray,iI D,iI E] [(5590,n),(103403,û D ([.map (some p)]) 102),(103408,û E (fz c f g d e m l j i) 56)] (λG=>sl c' G B y t.p/\sv G x A t.o/\Ø rC (mF Rp.bool G) (.map (some p)) u n/\sq G f g c.k.eqs/\sq G d e c.k.δ/\sl c' G m l c.q.p/\sv G j i c.q.o) (λG L v=>L=[(5590,n),(103403,û D ([.map (some p)]) 102),(103408,û E (fz c f g d e m l j i) 56)]/\v=.bool r)):=.mk λhr {B y x A p n D f g d e m l j i E}=>by
 refine rk (args:=[_,_,_]) (N:=12) func47 z z z (λS Q T H=>?_);obtain⟨F,I,C,s,q,K,M⟩:=H;refine sr<|jO 3 z z z λV=>Υ z<|o'<|fM [ff,ff,ff,ff,ff] eR İ λR=>cn (λ_ o=>n' 103403 wv z z z)<|cn (λ_ o=>BG z)<|cn (λ_ o=>R' ((Ã c.k f g d e)).toArray 103408 l6 z z z (mK ([i' c.id]) ((Ã c.k f g d e)) ([i' c.q.kind,ε m c.q.p l,ε j c.q.o i,i' c.ψ,i' c.low,i' c.high,.bool c.done])))<|cn (λ_ o=>y' 3 qK z z z)<|oE hr λP J hr=>uA z (λ_=>x' I3 z) (E8 _ _ _ _ _ _ _ _ _ _ _ J) z (λU o=>⟨(s.mono o),(q.mono o),(F.mono o),(I.mono o)⟩)<|pE R<|oA hr λO hr=>Δ (Y0.lA (mk:=Value.bool) (k:=P) 5590 false (λh=>L3 h) BZ OY C z z z O) ?_
 refine è ?_;intro hr;obtain rfl:_=r:=hr;refine mN (S':=St S Q Q [(5590,n),(103403,û D ([.map (some p)]) 102),(103408,û E (fz c f g d e m l j i) 56)]) (w3 z z z)<|j' z z ⟨z,z⟩
instance dN'{t r}:SpcM ((ZR t)) r (∀{f e j h},Cl 49 #[.slice f j e,.func (.func 50) #[] #[]] [(5000,h)] (λG=>Ε gi 56 G (.slice f j e) t h) (λG L v=>∃k,L=[(5000,k)]/\v=.tuple #[]/\Ε gi 56 G (.slice f j e) r k)):=.mk λhr {f e j h}=>by
 refine rk (args:=[_,_]) (N:=14) func49 z z z (λq A u m=>?_);have d:=m;have a:q.L.zero:=by rw[u];intro p o x B;simp only[Ď,ĝ,Ť]at o;subst o;exact BY d B
 refine sr<|θ z<|Δ (B3 uy d z)<|Υ z<|w' ?_
 refine è ?_;intro _ hr _;refine oE hr λE l hr=>mO z z (x' Yq z) (Za8 _ _ _ _ _ _ _ _ _ l) z (d) (lc z ln) a (λD s C y c=>?_);obtain⟨i,rfl,rfl,g⟩:=c;refine t'<|WE.iY ?_
 obtain rfl:_=r:=hr;refine mN (S':=St q A s [(5000,i)]) (w1 z)<|WE.iJ z  ⟨_,z,z,g⟩
instance dt'{M J m r}:SpcM ((ZW M J m)) r (∀{I P o n u e f c d k j h g y},Cl 95 #[ε I M P,.func (.func 47) #[] #[iI u,iI y]] [(5590,n),(103403,û u ([.map (some o)]) 102),(103408,û y (fz m e f c d k j h g) 56)] (λG=>sl tK G I P M/\Ø rC (mF Rp.bool G) (.map (some o)) J n/\sq G e f m.k.eqs/\sq G c d m.k.δ/\sl c' G k j m.q.p/\sv G h g m.q.o) (λG L v=>L=[(5590,n),(103403,û u ([.map (some o)]) 102),(103408,û y (fz m e f c d k j h g) 56)]/\v=i' r)):=.mk λhr {I P o n u e f c d k j h g y}=>by
 refine rk (args:=[_,_]) (N:=19) func95 z z z (λK A S U=>?_);obtain⟨O,B,t,q,E,F⟩:=U;have X:K.L.zero:=by
  rw[S];intro p Z x W;simp only[Ď,ĝ,Ť]at Z;rcases Z with rfl|rfl|rfl
  .exact Ø.zero B W
  .cases W;rfl
  cases W;rfl
 refine sr<|Υ z<|o'<|sr<|θ z<|Δ (P' MP O z)<|θ z<|nx<|WC.mD hr [0,1,7] [103403,103408,5590] [] [103403,103408,5590] (λ(s:Int)=>⟨s,[(8,i' s)],tr,[]⟩) (λ(_:Unit)=>⟨(.inr ()),[],tr,[]⟩) 0 ?_ ?_
 .intro _ C s l _ hr;refine Ρ ?_;intro _ _ _ _ _ _ _ _ _ _ _ _ _ _ V hr T;refine oE hr λam Y hr=>WL.lL z z (YC.yd X7 z z) (hG'.h Y) z (⟨V,T,(Ø.mono B l),(t.mono l),(q.mono l),(E.mono l),(F.mono l)⟩) (lc z (lc z (lc z ln))) (λi hi=>by simp only[ġ,ő,Ď,ĝ,Ť]at hi;rcases hi with rfl|rfl|rfl<;>exact z) X (λai R Q H=>?_);subst H;refine nx<|jM hr z (λa hr=>?_) (λa hr=>?_)
  .refine Ρ ?_;intro hr;obtain rfl:_=r:=hr;refine mN (S':=St K A R [(5590,n),(103403,û u ([.map (some o)]) 102),(103408,û y (fz m e f c d k j h g) 56)]) (w3 z z z)<|j' z z ⟨z,z⟩
  exact Ι
 intro D _ hr af _;refine b'<|sr<|Υ z<|m' ?_
 obtain rfl:_=r:=hr;refine mN (S':=St K A D [(5590,n),(103403,û u ([.map (some o)]) 102),(103408,û y (fz m e f c d k j h g) 56)]) (w3 z z z)<|j' z z ⟨z,z⟩
instance dl'{F A g r}:SpcM ((ZG F A g)) r (∀{D E n m B e f c d l k j h C},Cl 48 #[ε D F E,.func (.func 47) #[] #[iI B,iI C]] [(5590,m),(103403,û B ([.map (some n)]) 102),(103408,û C (fz g e f c d l k j h) 56)] (λG=>sl tK G D E F/\Ø rC (mF Rp.bool G) (.map (some n)) A m/\sq G e f g.k.eqs/\sq G c d g.k.δ/\sl c' G l k g.q.p/\sv G j h g.q.o) (λG L v=>L=[(5590,m),(103403,û B ([.map (some n)]) 102),(103408,û C (fz g e f c d l k j h) 56)]/\v=.bool r)):=.mk λhr {D E n m B e f c d l k j h C}=>by
 refine rk (args:=[_,_]) (N:=9) func48 z z z (λO U R H=>?_);obtain⟨P,s,q,o,t,u⟩:=H;have a:O.L.zero:=by
  rw[R];intro p M x I;simp only[Ď,ĝ,Ť]at M;rcases M with rfl|rfl|rfl
  .exact Ø.zero s I
  .cases I;rfl
  cases I;rfl
 refine sr<|Ö z<|nr<|θ z<|θ z<|oE hr λV J hr=>WL.lL z z (x' Yp z) (dt'.h J) z (⟨P,s,q,o,t,u⟩) (lc z (lc z (lc z ln))) (λi Q=>by simp only[ġ,ő,Ď,ĝ,Ť]at Q;rcases Q with rfl|rfl|rfl<;>exact z) a (λT K S y=>?_)
 subst y;refine Δ (vO z z)<|Υ z<|m' ?_
 obtain rfl:_=r:=hr;refine mN (S':=St O U K [(5590,m),(103403,û B ([.map (some n)]) 102),(103408,û C (fz g e f c d l k j h) 56)]) (w3 z z z)<|j' z z ⟨z,z⟩
instance gp'{J r}:SpcM ((KD J)) r (∀{C D},Cr 17 #[.agg ((ga J C D)).toArray] (λG=>sl gi G C D J.t) (fU (Rp.int .i64) r)):=.mk λhr {C D}=>by
 refine Ρ ?_;intro w0 G0 ao b1 hr B;have hz:=tU (w0:=w0);refine WL.makeMap (ky:=rC) (Rv:=mF Rp.bool G0) 5590 z z λt a0 a6=>W' 103403 z OS z λp=>?_;refine è ?_;intro hr;refine ny (X:=Int×(Ŀ (Ĳ×Bool))×ŀ Ow×Mem) hr (λ⟨W,aq,aa,af⟩=>⟨(W,aq),[(1,iI b1),(3,iI p),(15,ε C J.t D),(16,i' (J.t.length:Int)),(17,i' W)],Mem.le G0 af/\Ø rC (mF Rp.bool af) (.map (some t)) aq aa,St w0 G0 af [(1,û b1 (ga J C D) 26),(103403,û p ([.map (some t)]) 102),(5590,aa)]⟩) (λ(⟨aU,E,a⟩:(Ŀ (Ĳ×Bool))×ŀ Ow×Mem)=>⟨aU,[(1,iI b1),(3,iI p)],Mem.le G0 a/\Ø rC (mF Rp.bool a) (.map (some t)) aU E,St w0 G0 a [(1,û b1 (ga J C D) 26),(103403,û p ([.map (some t)]) 102),(5590,E)]⟩) ⟨0,[],a0,G0⟩ z (Å z) ⟨mr,a6⟩ (w3 z z z) ?_ ?_
 .rintro _ ⟨W,aq,aa,af⟩ ⟨V,aE⟩ hr;refine Ρ ?_;intro _ _ _ _ _ _ _ _ _ _ _ _ _ _ _ _ _ _ _ _ _ _ _ _ _ _ _ _ _ _ V a2 hr _;obtain⟨⟨bL,bm⟩,hr⟩:=hr;refine WL.lR (Rv':=mF Rp.bool af) (k:=a2) (z:=true) 5590 z BZ aE z z z z bL z (λ_ _ _ _ h=>h) bm λbt bg=>t'<|Λ<|E'<|b'<|w'<|iP z<|θ z<|t'<|N' ⟨i64.wrap (W+1),(eV aq a2 true),bt,af⟩ hr ⟨V,bg⟩ (Å z) (w3 z z z)
 rintro⟨aU,E,a⟩ ⟨hr,ay,bc⟩;refine Ρ ?_;intro hr;refine ny (X:=(Ŀ Ze)×ŀ Addr×Nat×ŀ Ow×Int×Mem) hr (λ⟨A,I,F,u,H,aj⟩=>⟨(A,H),[(3,iI p),(6,ε I A F),(31,ε C J.t D),(32,i' (J.t.length:Int)),(33,i' H)],Mem.le a aj/\Ε gi 56 aj (ε I A F) A u,St w0 G0 aj [(103403,û p ([.map (some t)]) 102),(4006,u),(5590,E)]⟩) (λ(⟨e,ah,ai,ak,Q⟩:(Ŀ Ze)×ŀ Addr×Nat×ŀ Ow×Mem)=>⟨e,[(6,ε ah e ai)],Mem.le a Q/\Ε gi 56 Q (ε ah e ai) e ak,St w0 G0 Q [(4006,ak),(5590,E)]⟩) ⟨[],none,0,none,0,a⟩ z (Å z) ⟨mr,Ε.nil⟩ (wk (lc z (lw (lc z ln)))) ?_ ?_
 .rintro _ ⟨A,I,F,u,H,aj⟩ ⟨y,U⟩ hr;refine sr<|kv z<|nx<|o'<|I' hr z (λbA hr=>?_) (λbA hr=>?_)
  .refine q'<|b'<|o'<|Y'<|sr<|oE hr λc a1 hr=>Δ (kf uy tJ (B.mono (mx ay y)) z z a1) ?_
   obtain⟨m,l,d,f,s,o,q,n,bs,ar,al,aB,az⟩:=MS (T' (iM B a1) (mx ay y));refine Δ (mY _ uB z z bs)<|W' 103408 z zR z λb4=>fZ 103408 tJ z<|nr<|Δ (Wj z z)<|Ö z<|nr<|Δ (MT z)<|dQ hr z (mZ (n' 103408 uY z z z) (đ Value.bool (nV _))) z (λbO hr=>?_) (λbO hr=>?_)
   .exact Ι
   refine Ρ ?_;intro _ _ _ g _ _ bl hr _;refine oE hr λch bh hr=>WL.lL (C' z z) z (x' X8 z) (dl'.h bh) z (⟨bl,(Ø.mono bc (mx y g)),(ar.mono g),(al.mono g),(aB.mono g),(az.mono g)⟩) (lc z (lc z (lc z ln))) (λi hi=>by simp only[ġ,ő,Ď,ĝ,Ť]at hi;rcases hi with rfl|rfl|rfl<;>exact z) hz (λb7 bK x aM=>?_);subst aM;refine gy z z (kE z) z<|Κ z<|nx<|jM hr z (λbG hr=>?_) (λbG hr=>?_)
   .exact Ι
   exact Ι
  exact Ι
 rintro⟨e,ah,ai,ak,Q⟩ ⟨hr,bS,aW⟩;refine b'<|sr<|θ z<|oE hr λbH ba hr=>mm (λw hs=>hs.Þ (i:=4006) (j:=5000) z (by rw[ao];rfl))<|mO z z (x' X9 z) (dN'.h ba) z (aW) (lc z ln) hz (λcc aR b9 bY aL=>?_)
 obtain⟨aQ,rfl,rfl,S⟩:=aL;refine mm (λw hs=>hs.Þ (i:=5000) (j:=4006) z (by rw[ao];rfl))<|nr<|Υ z<|o'<|sr<|θ z<|Δ (B3 uy S z)<|θ z<|nx<|ny (X:=(Ŀ Int)×ŀ Addr×Nat×ŀ Ow×Int×Mem) hr (λ⟨v,L,K,M,T,N⟩=>⟨(v,T),[(10,ε L v K),(61,ε ah e ai),(62,i' (bH.length:Int)),(63,i' T)],Mem.le aR N/\sl (Rp.int .i64) N L K v/\Tok 1 3 (ε L v K) v.length M,St w0 G0 N [(4006,aQ),(1010,M),(5590,E)]⟩) (λ(⟨O,Y,R,ad,P⟩:(Ŀ Int)×ŀ Addr×Nat×ŀ Ow×Mem)=>⟨O,[(10,ε Y O R)],Mem.le aR P/\sl (Rp.int .i64) P Y R O/\Tok 1 3 (ε Y O R) O.length ad,St w0 G0 P [(1010,ad),(5590,E)]⟩) ⟨[],none,0,none,0,aR⟩ z (Å z) ⟨mr,(X' _ _),kX⟩ (wk (lc z (lw (lc z ln)))) ?_ ?_
 .rintro _ ⟨v,L,K,M,T,N⟩ ⟨Z,aC,ap⟩ hr;refine Ρ ?_;intro _ x1 hr a4;obtain⟨bo,br,be,a7,bT,bU,bX,bV,bu,bp,bj,bQ,bW⟩:=MS (AtK.mono (om S a4) Z);refine Δ (vV _ uB (S.mono Z) (key:=4006) z z z ĳ bu) ?_;refine è ?_;intro _ _ _ aJ bC hr;refine oA hr λa8 hr=>jP (r:=(Rp.int .i64)) 1010 z z zw M7 z ĳ z z (aC.mono aJ) z (by rw[ao];rfl) ap bC a8 λp2 bI bi bD aY bF bd=>Ö z<|t'<|E'<|b'<|w'<|iP z<|θ z<|t'<|N' ⟨(v++[x1.id]),p2,bI,bi,i64.wrap (T+1),bD⟩ hr ⟨(mx (mx Z aJ) aY),bF,bd⟩ (Å z) (w3 z z z)
 rintro⟨O,Y,R,ad,P⟩ ⟨hr,bR,aS,bq⟩;exact Ι
set_option maxHeartbeats 2000000 in
instance dR'{r}:SpcM ((JG)) r (Cr 9 #[] (λG=>True) (λG v=>v=.bool r)):=.mk λhr=>by
 refine Ρ ?_;intro w0 G0 bl aI _ _ aA az bH hr _;refine mU (e:=50) (r:=(Rp.sl c')) (vs:=#[(0,ε aA aI.1 az)]) (cs:=[ε aA aI.1 az]++([])) ([aI.1]:Ŀ (Ŀ Za)) z z z z z ĳ (λ_=>İ) ⟨[ε aA aI.1 az],[],z,⟨_,z,bH⟩,z⟩ (key:=999) z (by rw[bl];rfl) λp1 eD dD a6=>Δ (l5 (vs:=#[(0,i' 1),(1,.slice p1 1 1)]) (v:=.agg ([i' 1,.slice p1 1 1,.slice none 0 0]).toArray) z z (λ_=>İ))<|W' 3 z pk z λb1=>fZ 3 rl z<|nx<|o'<|fM [ff,ff,ff,ff,ff,ff,tt,tt,ff] eR İ (λhb=>?_)
 refine oE hr λcw cV hr=>qH (post:=kC cw) (λ_=>z) (λ_ _=>x' HV z) (Nj.h cV) z (λg d=>trivial) (λv W V d h=>?_) ?_
 .obtain⟨a8,a7,rfl,ay⟩:=h;exact⟨_,_,z,ay.mono d⟩
 refine Ρ ?_;intro X hr _;refine oE hr λO cG hr=>mh (f:=27) (φ:=È O) (λ_=>z) (λv W V d h=>?_) (λu g d i=>?_) ?_
 .obtain⟨an,aq,rfl,S⟩:=h;exact⟨_,_,z,S.mono d⟩
 .obtain⟨⟨A,F,E,D,ce,av,aw⟩,⟨a8,a7,cd,ay⟩,_⟩:=(show(λG v=>∃A F E D,v=.agg ([i' X.kind,ε A X.p F,ε E X.o D]).toArray/\sl c' G A F X.p/\sv G E D X.o) g.m (u 38)/\(kC cw) g.m (u 36)/\True from i);exact⟨_,_,_,λ_=>x' yA z,zM.h cG,(by simp only[ce,cd]<;>rfl),⟨ay,(a6.mono d),(X' (Rp.sl c') _),av,aw⟩⟩
 refine km (φ:=È O) (λ_=>z) (λv W V d h=>?_) (λu g d i=>?_) ?_
 .obtain⟨p2,aJ,rfl,aE⟩:=h;exact⟨_,_,z,aE.mono d⟩
 .obtain⟨⟨an,aq,cc,S⟩,_,_,_⟩:=(show(È O) g.m (u 39)/\True/\True/\True from i);simp only[ς,cc];exact⟨_,k' z,an,aq,z,S⟩
 refine km (φ:=kC O.1) (λ_=>z) (λv W V d h=>?_) (λu g d i=>?_) ?_
 .obtain⟨p3,cp,rfl,a⟩:=h;exact⟨_,_,z,a.mono d⟩
 .obtain⟨⟨p2,aJ,am,aE⟩,_,_,_,_⟩:=(show(È O) g.m (u 35)/\True/\True/\True/\True from i);simp only[ς,am];exact⟨_,O' z z,p2,aJ,z,aE⟩
 refine na (c:=i' O.2.1) (λ_=>z) (λu g d i=>?_) ?_
 .obtain⟨_,⟨p2,aJ,am,aE⟩,_,_,_,_⟩:=(show True/\(È O) g.m (u 35)/\True/\True/\True/\True from i);simp only[ς,am];exact O' z z
 refine na (c:=i' O.2.2) (λ_=>z) (λu g d i=>?_) ?_
 .obtain⟨_,⟨p2,aJ,am,aE⟩,_,_,_,_⟩:=(show True/\(È O) g.m (u 35)/\True/\True/\True/\True from i);simp only[ς,am];exact O' z z
 refine kJ (λ_=>z) z26<|γ.nu (λew d2 dY dZ ee d7 X1 a1 bw bd bg bf bb bi=>?_)
 obtain⟨b2,rfl,cI⟩:=bw;obtain⟨p3,cp,rfl,a⟩:=bd;obtain⟨p2,aJ,rfl,aE⟩:=bg;obtain⟨an,aq,rfl,S⟩:=bf;obtain⟨A,F,E,D,rfl,av,aw⟩:=bb;obtain⟨a8,a7,rfl,ay⟩:=bi;refine pQ cI (l7 (show WL _ _ _ _ _ _ (St w0 G0 X1.m _)from ?_));refine fZ 4 rZ z<|Ö z<|Ö z<|t'<|Λ<|b'<|o'<|fM [ff,ff,ff,ff,ff,ff,tt,tt,ff] eR İ λhb=>cn (λ_ d=>y' 4 lJ z z z)<|cn (λ_ d=>y' 3 l6 z z z)<|oE hr λY c8 hr=>qH (post:=λG v=>∃C y B t,v=.agg ([i' Y.kind,ε C Y.p y,ε B Y.o t]).toArray/\sl c' G C y Y.p/\sv G B t Y.o) (λ_=>z) (λ_ _=>x' X5 z) (fM'.h c8) z (λg d=>trivial) (λv W V d h=>?_) ?_
 .obtain⟨C,y,B,t,rfl,ar,au⟩:=h;exact⟨_,_,_,_,z,ar.mono d,au.mono d⟩
 refine oE hr λaf cT hr=>mh (f:=27) (φ:=È af) (λ_=>z) (λv W V d h=>?_) (λu g d i=>?_) ?_
 .obtain⟨ao,ap,rfl,T⟩:=h;exact⟨_,_,z,T.mono d⟩
 .obtain⟨⟨C,y,B,t,ch,ar,au⟩,_⟩:=(show(λG v=>∃C y B t,v=.agg ([i' Y.kind,ε C Y.p y,ε B Y.o t]).toArray/\sl c' G C y Y.p/\sv G B t Y.o) g.m (u 46)/\True from i);exact⟨_,_,_,λ_=>x' yA z,zM.h cT,(by simp only[ch]<;>rfl),⟨(a.mono d),((a6.mono a1).mono d),(X' (Rp.sl c') _),ar,au⟩⟩
 refine km (φ:=È af) (λ_=>z) (λv W V d h=>?_) (λu g d i=>?_) ?_
 .obtain⟨p4,aG,rfl,aD⟩:=h;exact⟨_,_,z,aD.mono d⟩
 .obtain⟨⟨ao,ap,bZ,T⟩,_,_⟩:=(show(È af) g.m (u 47)/\True/\True from i);simp only[ς,bZ];exact⟨_,k' z,ao,ap,z,T⟩
 refine km (φ:=kC af.1) (λ_=>z) (λv W V d h=>?_) (λu g d i=>?_) ?_
 .obtain⟨p5,da,rfl,bu⟩:=h;exact⟨_,_,z,bu.mono d⟩
 .obtain⟨⟨p4,aG,ag,aD⟩,_,_,_⟩:=(show(È af) g.m (u 43)/\True/\True/\True from i);simp only[ς,ag];exact⟨_,O' z z,p4,aG,z,aD⟩
 refine na (c:=i' af.2.1) (λ_=>z) (λu g d i=>?_) ?_
 .obtain⟨_,⟨p4,aG,ag,aD⟩,_,_,_⟩:=(show True/\(È af) g.m (u 43)/\True/\True/\True from i);simp only[ς,ag];exact O' z z
 refine na (c:=i' af.2.2) (λ_=>z) (λu g d i=>?_) ?_
 .obtain⟨_,⟨p4,aG,ag,aD⟩,_,_,_⟩:=(show True/\(È af) g.m (u 43)/\True/\True/\True from i);simp only[ς,ag];exact O' z z
 refine kJ (λ_=>z) z26<|xX (λeG dT d8 ed eh X2 R bI aV bh be bc=>?_)
 obtain⟨b3,rfl,c2⟩:=bI;obtain⟨p5,da,rfl,bu⟩:=aV;obtain⟨p4,aG,rfl,aD⟩:=bh;obtain⟨ao,ap,rfl,T⟩:=be;obtain⟨C,y,B,t,rfl,ar,au⟩:=bc;refine pQ c2 (l7 (show WL _ _ _ _ _ _ (St w0 G0 X2.m _)from ?_));refine fZ 7 rZ z<|Ö z<|Ö z<|t'<|Λ<|b'<|sr<|Δ (y' 4 lJ z z z)<|θ z<|Δ (l5 (vs:=#[(0,i' 5),(2,i' 1)]) (v:=.agg ([i' 5,.slice none 0 0,i' 1,i' 0,i' 0,.slice none 0 0,.slice none 0 0,.slice none 0 0,.slice none 0 0]).toArray) z z (λ_=>İ))<|mU (e:=89) (r:=rY) (vs:=#[(0,.agg ([i' 5,.slice none 0 0,i' 1,i' 0,i' 0,.slice none 0 0,.slice none 0 0,.slice none 0 0,.slice none 0 0]).toArray)]) (cs:=[i' 5,.slice none 0 0,i' 1,i' 0,i' 0,.slice none 0 0,.slice none 0 0,.slice none 0 0,.slice none 0 0]++([])) ([(Zj.mk 5 [] 1 0 0 [] [] [] [])]:Ŀ Zj) z z z z z ĳ (λ_=>İ) ⟨[i' 5,.slice none 0 0,i' 1,i' 0,i' 0,.slice none 0 0,.slice none 0 0,.slice none 0 0,.slice none 0 0],[],z,⟨[i' 5],[.slice none 0 0,i' 1,i' 0,i' 0,.slice none 0 0,.slice none 0 0,.slice none 0 0,.slice none 0 0],z,z,⟨[.slice none 0 0],[i' 1,i' 0,i' 0,.slice none 0 0,.slice none 0 0,.slice none 0 0,.slice none 0 0],z,⟨_,z,(X' _ _)⟩,⟨[i' 1],[i' 0,i' 0,.slice none 0 0,.slice none 0 0,.slice none 0 0,.slice none 0 0],z,z,⟨[i' 0],[i' 0,.slice none 0 0,.slice none 0 0,.slice none 0 0,.slice none 0 0],z,z,⟨[i' 0],[.slice none 0 0,.slice none 0 0,.slice none 0 0,.slice none 0 0],z,z,⟨[.slice none 0 0],[.slice none 0 0,.slice none 0 0,.slice none 0 0],z,⟨_,z,(X' _ _)⟩,⟨[.slice none 0 0],[.slice none 0 0,.slice none 0 0],z,⟨_,z,(X' _ _)⟩,⟨[.slice none 0 0],[.slice none 0 0],z,⟨_,z,(X' _ _)⟩,⟨_,z,(X' _ _)⟩⟩⟩⟩⟩⟩⟩⟩⟩,z⟩ (key:=999) z (by rw[bl];rfl) (λp6 eE s dl=>?_)
 refine oE hr λeo cf hr=>gd z z (x' I2 z) (M0.h cf) z (⟨(a.mono (mx R s)),dl⟩) (λdG ex x aQ=>?_);obtain⟨cZ,cK,rfl,aZ⟩:=aQ;refine θ z<|ju z<|ju z<|W' 10 z z26 z λb4=>fZ 10 rZ z<|Υ z<|o'<|fM [ff,ff,ff,ff,ff,ff,tt,tt,ff] eR İ λhb=>cn (λ_ d=>y' 4 lJ z z z)<|cn (λ_ d=>y' 3 l6 z z z) ?_
 refine è ?_;intro I hr _;refine oE hr λM ck hr=>mh (f:=27) (φ:=È M) (λ_=>z) (λv W V d h=>?_) (λu g d i=>?_) ?_
 .obtain⟨ab,ac,rfl,J⟩:=h;exact⟨_,_,z,J.mono d⟩
 .obtain⟨⟨j,l,k,q,bj,aj,ak⟩,_⟩:=(show(λG v=>∃j l k q,v=.agg ([i' I.kind,ε j I.p l,ε k I.o q]).toArray/\sl c' G j l I.p/\sv G k q I.o) g.m (u 62)/\True from i);exact⟨_,_,_,λ_=>x' yA z,zM.h ck,(by simp only[bj]<;>rfl),⟨((a.mono (mx (mx R s) x)).mono d),((a6.mono (mx (mx (mx a1 R) s) x)).mono d),(X' (Rp.sl c') _),aj,ak⟩⟩
 refine km (φ:=È M) (λ_=>z) (λv W V d h=>?_) (λu g d i=>?_) ?_
 .obtain⟨p7,aF,rfl,N⟩:=h;exact⟨_,_,z,N.mono d⟩
 .obtain⟨⟨ab,ac,bk,J⟩,_,_⟩:=(show(È M) g.m (u 63)/\True/\True from i);simp only[ς,bk];exact⟨_,k' z,ab,ac,z,J⟩
 refine km (φ:=kC M.1) (λ_=>z) (λv W V d h=>?_) (λu g d i=>?_) ?_
 .obtain⟨p8,dx,rfl,ct⟩:=h;exact⟨_,_,z,ct.mono d⟩
 .obtain⟨⟨p7,aF,P,N⟩,_,_,_⟩:=(show(È M) g.m (u 59)/\True/\True/\True from i);simp only[ς,P];exact⟨_,O' z z,p7,aF,z,N⟩
 refine na (c:=i' M.2.1) (λ_=>z) (λu g d i=>?_) ?_
 .obtain⟨_,⟨p7,aF,P,N⟩,_,_,_⟩:=(show True/\(È M) g.m (u 59)/\True/\True/\True from i);simp only[ς,P];exact O' z z
 refine na (c:=i' M.2.2) (λ_=>z) (λu g d i=>?_) ?_
 .obtain⟨_,⟨p7,aF,P,N⟩,_,_,_⟩:=(show True/\(È M) g.m (u 59)/\True/\True/\True from i);simp only[ς,P];exact O' z z
 refine kJ (λ_=>z) z26<|xX (λeu dJ dS dK dB X3 ad bz aM a5 aT aX=>?_)
 obtain⟨b5,rfl,cW⟩:=bz;obtain⟨p8,dx,rfl,ct⟩:=aM;obtain⟨p7,aF,rfl,N⟩:=a5;obtain⟨ab,ac,rfl,J⟩:=aT;obtain⟨j,l,k,q,rfl,aj,ak⟩:=aX;refine pQ cW (l7 (show WL _ _ _ _ _ _ (St w0 G0 X3.m _)from ?_));refine è ?_;intro _ _ _ U _ _ _ _ _ _ _ ai _ _ _ _ _ cA ax _ _ _ _ _ _ _ _ _ _ _ _ _ hr _;refine WC.nD hr [3,4] [3,4] (λ(_:Unit)=>⟨[],Jd aI O,tr,[]⟩) ?_ ?_
 .refine sr<|θ z<|dQ hr z (pH z z) z (λdi hr=>?_) (λdi hr=>?_)
  .exact Ι
  refine θ z<|kO z<|dQ hr (C' z z) (pH z z) z (λdz hr=>?_) (λdz hr=>?_)
  .exact Ι
  refine ο z<|θ z<|kO z<|dQ hr (C' z z) (pH z z) z (λdt hr=>?_) (λdt hr=>?_)
  .exact Ι
  refine ο z<|θ z<|kO z<|dQ hr (C' z z) (pH z z) z (λdn hr=>?_) (λdn hr=>?_)
  .exact Ι
  refine ο z<|θ z<|kO z<|dQ hr (C' z z) (pH z z) z (λcQ hr=>?_) (λcQ hr=>?_)
  .exact Ι
  refine ο z<|θ z<|kO z<|dQ hr (C' z z) (pH z z) z (λc1 hr=>?_) (λc1 hr=>?_)
  .exact Ι
  refine ο z<|θ z<|kO z<|kO z<|dQ hr (C' z z) (pH z z) z (λcP hr=>?_) (λcP hr=>?_)
  .exact Ι
  refine ο z<|θ z<|gy z z (y' 4 lJ z z z) z<|gy z z (y' 7 lJ z z z) z ?_
  obtain⟨cL,bT,hr⟩:=hr;have N1:=mx (mx (mx (mx (mx (mx R s) x) ad) U) ai) ax;refine H' (C' z z) z (x' OZ z) (We.h bT) z (⟨(a.mono N1),(bu.mono (mx (mx (mx (mx (mx s x) ad) U) ai) ax))⟩) ?_;cases cL
  .exact Ι
  refine gy z z (kE z) z<|ο z<|θ z<|dQ hr (C' z z) (mZ (k' z) (đ Value.bool (nV _))) z (λc9 hr=>?_) (λc9 hr=>?_)
  .refine gy z z (kE z) z<|ο z<|θ z<|gy z z (MT z) z<|dQ hr (C' z z) (mZ (n' 19 uY z z z) (đ Value.bool (nV _))) z (λc4 hr=>?_) (λc4 hr=>?_)
   .exact Ι
   exact Ι
  exact Ι
 intro bJ _ hr a9 _;refine o'<|fM [ff,ff,ff,ff,ff,ff,tt,tt,ff] eR İ λhb=>cn (λ_ d=>y' 4 lJ z z z)<|cn (λ_ d=>y' 3 l6 z z z) ?_
 refine è ?_;intro H hr _;refine oE hr λK bW hr=>mh (f:=27) (φ:=È K) (λ_=>z) (λv W V d h=>?_) (λu g d i=>?_) ?_
 .obtain⟨Z,aa,rfl,L⟩:=h;exact⟨_,_,z,L.mono d⟩
 .obtain⟨⟨p,o,n,m,bm,ah,ae⟩,_⟩:=(show(λG v=>∃p o n m,v=.agg ([i' H.kind,ε p H.p o,ε n H.o m]).toArray/\sl c' G p o H.p/\sv G n m H.o) g.m (u 141)/\True from i);have N2:=mx (mx (mx (mx (mx (mx (mx (mx a1 R) s) x) ad) U) ai) ax) a9;have N3:=mx (mx (mx (mx (mx (mx (mx R s) x) ad) U) ai) ax) a9;exact⟨_,_,_,λ_=>x' yA z,zM.h bW,(by simp only[bm]<;>rfl),⟨((a.mono N3).mono d),((a6.mono N2).mono d),(X' (Rp.sl c') _),ah,ae⟩⟩
 refine km (φ:=È K) (λ_=>z) (λv W V d h=>?_) (λu g d i=>?_) ?_
 .obtain⟨p9,aH,rfl,aC⟩:=h;exact⟨_,_,z,aC.mono d⟩
 .obtain⟨⟨Z,aa,bs,L⟩,_,_⟩:=(show(È K) g.m (u 142)/\True/\True from i);simp only[ς,bs];exact⟨_,k' z,Z,aa,z,L⟩
 refine km (φ:=kC K.1) (λ_=>z) (λv W V d h=>?_) (λu g d i=>?_) ?_
 .obtain⟨db,cE,rfl,aS⟩:=h;exact⟨_,_,z,aS.mono d⟩
 .obtain⟨⟨p9,aH,Q,aC⟩,_,_,_⟩:=(show(È K) g.m (u 138)/\True/\True/\True from i);simp only[ς,Q];exact⟨_,O' z z,p9,aH,z,aC⟩
 refine na (c:=i' K.2.1) (λ_=>z) (λu g d i=>?_) ?_
 .obtain⟨_,⟨p9,aH,Q,aC⟩,_,_,_⟩:=(show True/\(È K) g.m (u 138)/\True/\True/\True from i);simp only[ς,Q];exact O' z z
 refine na (c:=i' K.2.2) (λ_=>z) (λu g d i=>?_) ?_
 .obtain⟨_,⟨p9,aH,Q,aC⟩,_,_,_⟩:=(show True/\(È K) g.m (u 138)/\True/\True/\True from i);simp only[ς,Q];exact O' z z
 refine kJ (λ_=>z) z26<|xX (λet dP dW dF dL X4 ea bB aY a2 aL a0=>?_)
 obtain⟨b9,rfl,cN⟩:=bB;obtain⟨db,cE,rfl,aS⟩:=aY;obtain⟨p9,aH,rfl,aC⟩:=a2;obtain⟨Z,aa,rfl,L⟩:=aL;obtain⟨p,o,n,m,rfl,ah,ae⟩:=a0;refine pQ cN (l7 (show WL _ _ _ _ _ _ (St w0 G0 X4.m _)from ?_));refine è ?_;intro hr;refine o'<|sr<|θ z<|Δ (pH z z)<|nx<|I' hr z (λdh hr=>?_) (λdh hr=>?_)
 .exact Ι
 refine q'<|b'<|sr<|Δ (y' 21 lJ z z z)<|θ z<|Δ (l5 (vs:=#[(0,i' 12),(2,i' 5)]) (v:=.agg ([i' 12,.slice none 0 0,i' 5,i' 0,i' 0,.slice none 0 0,.slice none 0 0,.slice none 0 0,.slice none 0 0]).toArray) z z (λ_=>İ))<|Δ (l5 (vs:=#[(0,i' 12),(2,i' 7)]) (v:=.agg ([i' 12,.slice none 0 0,i' 7,i' 0,i' 0,.slice none 0 0,.slice none 0 0,.slice none 0 0,.slice none 0 0]).toArray) z z (λ_=>İ))<|mU (e:=89) (r:=rY) (vs:=#[(0,.agg ([i' 12,.slice none 0 0,i' 5,i' 0,i' 0,.slice none 0 0,.slice none 0 0,.slice none 0 0,.slice none 0 0]).toArray),(1,.agg ([i' 12,.slice none 0 0,i' 7,i' 0,i' 0,.slice none 0 0,.slice none 0 0,.slice none 0 0,.slice none 0 0]).toArray)]) (cs:=[i' 12,.slice none 0 0,i' 5,i' 0,i' 0,.slice none 0 0,.slice none 0 0,.slice none 0 0,.slice none 0 0]++([i' 12,.slice none 0 0,i' 7,i' 0,i' 0,.slice none 0 0,.slice none 0 0,.slice none 0 0,.slice none 0 0]++([]))) ([(Zj.mk 12 [] 5 0 0 [] [] [] []),(Zj.mk 12 [] 7 0 0 [] [] [] [])]:Ŀ Zj) z z z z z ĳ (λ_=>İ) ⟨[i' 12,.slice none 0 0,i' 5,i' 0,i' 0,.slice none 0 0,.slice none 0 0,.slice none 0 0,.slice none 0 0],[i' 12,.slice none 0 0,i' 7,i' 0,i' 0,.slice none 0 0,.slice none 0 0,.slice none 0 0,.slice none 0 0]++([]),z,⟨[i' 12],[.slice none 0 0,i' 5,i' 0,i' 0,.slice none 0 0,.slice none 0 0,.slice none 0 0,.slice none 0 0],z,z,⟨[.slice none 0 0],[i' 5,i' 0,i' 0,.slice none 0 0,.slice none 0 0,.slice none 0 0,.slice none 0 0],z,⟨_,z,(X' _ _)⟩,⟨[i' 5],[i' 0,i' 0,.slice none 0 0,.slice none 0 0,.slice none 0 0,.slice none 0 0],z,z,⟨[i' 0],[i' 0,.slice none 0 0,.slice none 0 0,.slice none 0 0,.slice none 0 0],z,z,⟨[i' 0],[.slice none 0 0,.slice none 0 0,.slice none 0 0,.slice none 0 0],z,z,⟨[.slice none 0 0],[.slice none 0 0,.slice none 0 0,.slice none 0 0],z,⟨_,z,(X' _ _)⟩,⟨[.slice none 0 0],[.slice none 0 0,.slice none 0 0],z,⟨_,z,(X' _ _)⟩,⟨[.slice none 0 0],[.slice none 0 0],z,⟨_,z,(X' _ _)⟩,⟨_,z,(X' _ _)⟩⟩⟩⟩⟩⟩⟩⟩⟩,⟨[i' 12,.slice none 0 0,i' 7,i' 0,i' 0,.slice none 0 0,.slice none 0 0,.slice none 0 0,.slice none 0 0],[],z,⟨[i' 12],[.slice none 0 0,i' 7,i' 0,i' 0,.slice none 0 0,.slice none 0 0,.slice none 0 0,.slice none 0 0],z,z,⟨[.slice none 0 0],[i' 7,i' 0,i' 0,.slice none 0 0,.slice none 0 0,.slice none 0 0,.slice none 0 0],z,⟨_,z,(X' _ _)⟩,⟨[i' 7],[i' 0,i' 0,.slice none 0 0,.slice none 0 0,.slice none 0 0,.slice none 0 0],z,z,⟨[i' 0],[i' 0,.slice none 0 0,.slice none 0 0,.slice none 0 0,.slice none 0 0],z,z,⟨[i' 0],[.slice none 0 0,.slice none 0 0,.slice none 0 0,.slice none 0 0],z,z,⟨[.slice none 0 0],[.slice none 0 0,.slice none 0 0,.slice none 0 0],z,⟨_,z,(X' _ _)⟩,⟨[.slice none 0 0],[.slice none 0 0,.slice none 0 0],z,⟨_,z,(X' _ _)⟩,⟨[.slice none 0 0],[.slice none 0 0],z,⟨_,z,(X' _ _)⟩,⟨_,z,(X' _ _)⟩⟩⟩⟩⟩⟩⟩⟩⟩,z⟩⟩ (key:=999) z (by rw[bl];rfl) (λeH ez ci cY=>?_)
 refine oE hr λek cg hr=>gd z z (x' I2 z) (M0.h cg) z (⟨(aS.mono ci),cY⟩) (λdU ev dX aK=>?_);obtain⟨cM,cO,rfl,aN⟩:=aK;refine θ z<|ju z<|ju z<|W' 24 z z26 z λeF=>fZ 24 rZ z<|Ö z<|nr<|Δ (y' 24 lJ z z z)<|θ z<|oE hr λd9 b0 hr=>gd z z (x' O0 z) (V9.h b0) z (aN) (λdV el ds aP=>?_)
 obtain⟨bM,bL,bC,bt,cD,cr,cq,co,rfl,bP,bv,cv,cm⟩:=aP;refine θ z<|ju z<|ju z<|W' 26 z zR z λey=>fZ 26 tJ z<|Ö z<|nr<|θ z<|dQ hr z (eB z z) z (λdA hr=>?_) (λdA hr=>?_)
 .refine θ z<|dQ hr (C' z z) (mZ (k' z) (đ Value.bool (nV _))) z (λdp hr=>?_) (λdp hr=>?_)
  .refine Κ z<|θ z<|gy z z (cJ' z) z<|gy z z (n' 26 eM z z z) z<|dQ hr (C' z z) (eB z z) z (λdd hr=>?_) (λdd hr=>?_)
   .refine Κ z<|θ z<|gy z z (BR z) z<|gy z z (n' 26 eM z z z) z<|dQ hr (C' z z) (eB z z) z (λdq hr=>?_) (λdq hr=>?_)
    .refine Κ z<|θ z<|gy z z (MT z) z<|dQ hr (C' z z) (mZ (n' 26 uY z z z) (đ Value.bool (nV _))) z (λde hr=>?_) (λde hr=>?_)
     .exact Ι
     refine gy z z (kE z) z<|Κ z<|θ z<|oE hr λej bS hr=>gd (C' z z) z (x' HV z) (Nj.h bS) z (trivial) (λdO eq dg aO=>?_)
     obtain⟨dj,df,rfl,bq⟩:=aO;refine oE hr λcU bX hr=>H' (C' z z) z (x' XU z) (pW.h bX) z (bq) ?_;cases cU
     .exact Ι
     refine Κ z<|θ z<|oE hr λec bU hr=>gd (C' z z) z (x' HV z) (Nj.h bU) z (trivial) (λdC en dv a4=>?_)
     obtain⟨dm,dy,rfl,bo⟩:=a4;refine oE hr λei bY hr=>gd (C' z z) z (x' XV z) (gp'.h bY) z (bo) (λdI d5 dk aU=>?_);obtain⟨dM,dH,rfl,bR⟩:=aU;refine gy z z (P' zw bR z) z<|gy z z (eB z z) z<|Κ z<|Υ z<|m' (Û hr z z)
    exact Ι
   exact Ι
  exact Ι
 exact Ι
instance im'{r}:SpcM ((UA)) r (Cr 11 #[] (λG=>True) (kC r)):=.mk λhr=>Ι
instance jk'{c r}:SpcM ((Gg c)) r (Cr 118 #[.int .i8 c] (λG=>True) (λG v=>v=i' r)):=.mk λhr=>Ι
end Go.Proofs.YtepbagkffgddlaaGreat

