/- The law TaskValid holds for every input: a part of its proof (fY the code does, plain models, and fY they return). No condition. -/
import Derived.Test.YtepbagkffgddlaaGreatXV9g
set_option linter.unusedVariables false
set_option linter.unusedSimpArgs false
namespace Go.Proofs.YtepbagkffgddlaaGreat
open Go.IntKind (i8 i16 i32 i64 u8 u16 u32 u64)
open Go.Proofs.Tryz
open Go Go.EL Go.RowKit Go.Proofs
set_option maxHeartbeats 4000000
set_option maxRecDepth 20000
instance iO'{s d r}:SpcM ((Lb s d)) r (∀{i j e f k n l o},Cr 87 #[.agg ((Ä s i j e f)).toArray,.agg ([i' d.kind,δ k d.p n,δ l d.o o]).toArray] (λG=>sq G i j s.eqs/\sq G e f s.neqs/\sl c' G k n d.p/\sv G l o d.o) (λG v=>v=.bool r)):=.mk λhr {i j e f k n l o}=>by
 refine J' (args:=[_,_]) (N:=62) func87 z z z (λU A Z B=>?_);obtain⟨F,D,h,m⟩:=B;refine sr<|jU 2 z z z λa=>jU 3 z z z λM=>Ο z<|WC.nD hr [3] [3] (λ(_:Unit)=>⟨[],JT d,tr,[]⟩) ?_ ?_
 .refine o'<|fL [ff,ff,ff,ff,ff,ff,ff,ff,ff,ff,ff,ff,ff,ff,ff,ff,ff,ff,ff,ff,ff,ff,ff,ff,ff,ff,ff,ff,ff] eL İ λp=>cn (λ_ c=>Y0.ME z)<|cn (λ_ c=>n' 3 eC z z z)<|zK hr z (λ_ c=>Z' z z) (λQ hr=>?_) (λQ hr=>?_)
  .exact Η
  refine fN z<|cy z z (λ_ c=>Y0.ME z)<|cy z z (λ_ c=>n' 3 eC z z z)<|zK hr (rV z z) (λ_ c=>vJ z z) (λK hr=>?_) (λK hr=>?_)
  .exact Η
  refine cn (λ_ c=>f' z z)<|fN z<|cy z z (λ_ c=>Y0.VE z)<|cy z z (λ_ c=>n' 3 mH z z z)<|oE hr λH t hr=>uy (rV z z) (λ_=>x' Ir z) (gy'.h t) z (λE c=>(h.mono c)) ?_
  cases H
  .exact Η
  exact Η
 intro q _ hr g _;refine sr<|Ε (Y0.VE z)<|Ε (n' 3 mH z z z)<|Ε (P' Q' (h.mono g) z)<|eb hr z (eM z z) z (λR hr=>?_) (λR hr=>?_)
 .exact Η
 refine Ν ?_;intro hr _;refine È (Q7 z z) z<|È (Q7 z z) z<|È (Q7 z z) z<|sk z z z<|ο z<|Ο z<|m' (Ö hr z z)
instance fL'{a m r}:SpcM ((xA a m)) r (∀{Y Q F H af d c e},Cr 40 #[.agg ((Ä a Y Q F H)).toArray,.agg ([i' m.kind,δ af m.p d,δ c m.o e]).toArray] (λG=>sq G Y Q a.eqs/\sq G F H a.neqs/\sl c' G af d m.p/\sv G c e m.o) (OX r)):=.mk λhr {Y Q F H af d c e}=>Η
instance Nz{c r}:SpcM ((FT c)) r (∀{i n j m},Cr 91 #[.agg ([i' c.kind,δ i c.p n,δ j c.o m]).toArray] (λG=>sl c' G i n c.p/\sv G j m c.o) (fT xh r)):=.mk λhr {i n j m}=>by
 refine æ ?_;intro t k _ _ _ _ hr _;refine WC.nD hr [4] [] (λ(g:Bool)=>⟨[(5,.bool g)],J3 c g,tr,[]⟩) ?_ ?_
 .refine sr<|Ε (eM z z)<|Ο z<|I' hr z (λp hr=>?_) (λp hr=>?_)
  .exact Η
  exact Η
 intro d g hr D _;refine kh hr z (λB hr=>?_) (λB hr=>?_)
 .exact Η
 refine WC.nC hr [4] [] (λ(f:Bool)=>⟨[(10,.bool f)],J2 c f,tr,[]⟩) ?_;refine sr<|Ε (eM z z)<|Ο z<|I' hr z (λq hr=>?_) (λq hr=>?_)
 .exact Η
 exact Η
instance iP'{V F r}:SpcM ((Lq V F)) r (∀{a af M n m},Cl 141 #[δ a V af,δ n F m] [(5000,M)] (λG=>ru G (δ a V af) V M/\sv G n m F) (λG L v=>∃zp zc e,L=[(5000,e)]/\v=δ zp r zc/\ru G (δ zp r zc) r e)):=.mk λhr {a af M n m}=>by refine Ν ?_;intro I P _ _ _ _ j O _ x p T E hr _;refine WC.mC hr [1] [] [] [] (λ(⟨t,o,q,f,H⟩:(Ŀ Int)×ŀ Addr×Nat×ŀ Ow×Int)=>⟨(t,H),[(0,δ o t q),(5,i' H)],λd=>ru d (δ o t q) t f,[(5000,f)]⟩) (λ(⟨S,Q,R,i⟩:(Ŀ Int)×ŀ Addr×Nat×ŀ Ow)=>⟨S,[(0,δ Q S R)],λs=>ru s (δ Q S R) S i,[(5000,i)]⟩) ⟨j,x,p,T,0⟩ ?_;rintro _ d ⟨t,o,q,f,H⟩ c C hr;refine Ν ?_;intro _ hr;refine WC.mA hr [1,5] [] [1,5] [] (λ(⟨D,u,B,h,Z⟩:(Ŀ Int)×ŀ Addr×Nat×ŀ Ow×Int)=>⟨(D,Z),[(0,δ u D B),(6,i' Z)],λl=>ru l (δ u D B) D h,[(5000,h)]⟩) (λ(⟨J,y,A,g⟩:(Ŀ Int)×ŀ Addr×Nat×ŀ Ow)=>⟨J,[(0,δ y J A)],λk=>ru k (δ y J A) J g,[(5000,g)]⟩) ⟨t,o,q,f,0⟩
instance il'{k r}:SpcM ((Gu k)) r (∀{n s o q},Cr 80 #[.agg ([i' k.kind,δ n k.p s,δ o k.o q]).toArray] (λG=>sl c' G n s k.p/\sv G o q k.o) (λG v=>v=.string r)):=.mk λhr {n s o q}=>by
 refine J' (args:=[_]) (N:=14) func80 z z z (λw0 G0 g F=>?_);obtain⟨H,E⟩:=F;have hz:w0.L.zero:=by rw[g];intro p hp;simp at hp
 refine sr<|jU 1 z z z λR=>Ο z<|o'<|WC.nl (l:=iw [1,2,4,5,7,8,0,3,6,9,10,11] _) (FI İ) [(1,ú R ([i' k.kind,δ n k.p s,δ o k.o q]) 54)] (lc z ln) [tt,tt,tt,tt,tt,tt] eL İ λt=>nM z (Y0.ME z)<|nM z (n' 1 eC z z z)<|nM z (Y0.VE z)<|nM z (n' 1 mH z z z)<|nM z (Y0.VF z)<|nM z (n' 1 sW z z z)<|ye t<|oc (λw c=>c.weaken (lc z ln))<|WL.qZ (e:=5) (r:=(Rp.int .u8)) (vs:=#[]) (cs:=[]) ([]:Ŀ Int) 4003 z z z z z ĳ (λ_=>İ) (z) λp1 ac L=>n5<|oc (λw c=>c.weaken (lc z ln))<|oE hr λak K hr=>mw (λw c=>c.Ý (i:=4003) (j:=5000) z (by rw[g];rfl))<|mW z z (x' z1 z) (Wu.h K) z (L) (lc z ln) hz (λT ah S d x=>?_)
 obtain⟨aa,X,P,rfl,rfl,D⟩:=x;refine mw (λw c=>c.Ý (i:=5000) (j:=4006) z (by rw[g];rfl))<|n5<|oc (λw c=>(c.eI t d).weaken (lc z ln))<|oE hr λaj A hr=>mw (λw c=>c.Ý (i:=4006) (j:=5000) z (by rw[g];rfl))<|mW z z (x' Io z) (hA'.h A) z (⟨D,(H.mono d)⟩) (lc z ln) hz (λag an af f y=>?_)
 obtain⟨U,V,M,rfl,rfl,I⟩:=y;refine mw (λw c=>c.Ý (i:=5000) (j:=4009) z (by rw[g];rfl))<|n5<|oc (λw c=>(c.eI t (mx d f)).weaken (lc z ln))<|oE hr λam C hr=>mw (λw c=>c.Ý (i:=4009) (j:=5000) z (by rw[g];rfl))<|mW z z (x' Im z) (iP'.h C) z (⟨I,(E.mono (mx d f))⟩) (lc z ln) hz (λae ao Y m u=>?_)
 obtain⟨W,Z,Q,rfl,rfl,B⟩:=u;have a:=mx (mx d f) m;refine mw (λw c=>c.Ý (i:=5000) (j:=4012) z (by rw[g];rfl))<|pX (r:=(Rp.int .u8)) (e:=5) 4012 B z (by rw[g];rfl) λai al h J O=>n5<|eY.y0 (λw c=>(c.eI t (mx a h)).weaken (lc z ln)) z (Y0.kQ underlying32 GP xV J z) z<|eY.y0 (λw c=>(c.eI t (mx a h)).weaken (lc z ln)) z (rz z) z<|wb (λw c=>(c.eI t (mx a h)).weaken (lc z ln))<|Γ<|b'<|m' (Ö hr z z)
instance da'{e d r}:SpcM ((Ao e d)) r (∀{l f g k j m i h},Cr 34 #[.agg ([i' e.kind,δ l e.p f,δ g e.o k]).toArray,.agg ([i' d.kind,δ j d.p m,δ i d.o h]).toArray] (λG=>sl c' G l f e.p/\sv G g k e.o/\sl c' G j m d.p/\sv G i h d.o) (λG v=>v=.bool r)):=.mk λhr {l f g k j m i h}=>Η
instance gn'{E x l r}:SpcM ((BB E x l)) r (∀{p o h i e f m q n s},Cr 39 #[.agg ((fS E p o)).toArray,.agg ((Ä x h i e f)).toArray,.agg ([i' l.kind,δ m l.p q,δ n l.o s]).toArray] (λG=>sl Zr G p o E.t/\sq G h i x.eqs/\sq G e f x.neqs/\sl c' G m q l.p/\sv G n s l.o) (λG v=>v=i' r)):=.mk λhr {p o h i e f m q n s}=>by
 refine Ν ?_;intro w0 A _ _ _ g _ y _ u _ C V F hr _;refine WC.mC hr [3,4,5] [3,4,5] [] [] (λ(D:Int)=>⟨D,[(7,i' D)],tr,[]⟩) (λ(_:Unit)=>⟨(.inr ()),[],tr,[]⟩) 0 ?_;intro _ k D d _ hr;refine o' ?_;refine æ ?_;intro hr;refine I' hr z (λaf hr=>?_) (λaf hr=>?_)
 .refine q'<|b'<|o'<|Y'<|o'<|fL [ff,ff,ff,ff,ff,ff,ff,ff,ff,ff,ff,ff,ff,ff,ff,ff] eL İ λU=>cn (λ_ c=>Y0.Z7 z)<|cn (λ_ c=>n' 3 jc z z z)<|fN z<|oE hr λI H hr=>cn (λ_ c=>kp uv kW ((g.mono d).mono c) z z H)<|cn (λ_ c=>Y0.BA z) ?_
  obtain⟨a,Y,S,R,T,B,t⟩:=RO (T' (sd (xX (n2 (iQ g H)))) d);refine cn (λ_ c=>nL _ lJ z z (λj v P=>c _ _ _ (T j v P)))<|cn (λ_ c=>y' 4 lJ z z z)<|oE hr λZ Q hr=>uy z (λ_=>x' D8 z) (Ez _ _ _ _ _ _ _ _ _ _ _ Q) z (λG' c=>⟨(B.mono c),(t.mono c),((y.mono d).mono c),((u.mono d).mono c)⟩) ?_
  cases Z
  .exact Η
  exact Η
 exact Η
abbrev ES(s:Ze->Zd->Zc->Cq Zx):Prop:=∀(h:Ze) (a:Zd) (c:Zc) (j:ŀ Addr) (i:Nat) (g:ŀ Addr) (f:Nat) (e:ŀ Addr) (d:Nat) (n:ŀ Addr) (m:Nat) (l:ŀ Addr) (k:Nat) (r:Zx),(s h a c).ω r->Cr 43 #[.agg ([.slice j h.t.length i,.int .i64 h.next]).toArray,.agg ([.int .i64 a.n,.slice g a.eqs.length f,.slice e a.neqs.length d]).toArray,.agg ([.int .i64 c.kind,.slice n c.p.length m,.slice l c.o.length k]).toArray] (λG=>Δ Zr G (.slice j h.t.length i) h.t/\Δ (Rp.sl Zj) G (.slice g a.eqs.length f) a.eqs/\Δ (Rp.sl Zj) G (.slice e a.neqs.length d) a.neqs/\Δ Zj G (.slice n c.p.length m) c.p/\Δ (Rp.vec .i64 8) G (.slice l c.o.length k) c.o) (λG v=>∃q p,v=.agg ([.slice q r.b.t.length p,.int .i64 r.b.next,.int .i64 r.id,.int .i64 r.e]).toArray/\Δ Zr G (.slice q r.b.t.length p) r.b.t)
theorem Zqq:ES (λ_ _ _=>Cq.fail):=λl m n g f e d c a k j i h r hr=>False.elim hr
theorem QK(SF:Ze->Zd->Zc->Cq Zx)(bg:ES SF)(X:Ze)(N:Zd)(J:Zc)(T:ŀ Addr)(Y:Nat)(Q:ŀ Addr)(S:Nat)(L:ŀ Addr)(K:Nat)(aj:ŀ Addr)(ai:Nat)(an:ŀ Addr)(am:Nat)(r:Zx)(hr:(Ku SF X N J).ω r):Cr 43 #[.agg ((fS X T Y)).toArray,.agg ((Ä N Q S L K)).toArray,.agg ([i' J.kind,δ aj J.p ai,δ an J.o am]).toArray] (λG=>sl Zr G T Y X.t/\sq G Q S N.eqs/\sq G L K N.neqs/\sl c' G aj ai J.p/\sv G an am J.o) (qC r):=by
 refine Ν ?_;intro w0 G0 _ bj _ aC _ _ _ _ _ _ b1 _ _ b4 c _ _ aT k g f d o n p l F y W U b5 _ bl aE s a6 aY _ hr _;refine WC.mD hr [3,6,7,8] [7] [3,6,7] [7] (λ(⟨ae,ao,M,O,j,B,A⟩:Int×Ze×ŀ Addr×Nat×Zx×ŀ Addr×Nat)=>⟨(ae,ao,j),[(9,i' ae)],λab=>sl Zr ab M O ao.t/\sl Zr ab B A j.b.t,[(3,ú b1 (fS ao M O) 26),(6,ú b4 (ox j B A) 100)]⟩) (λ(⟨q,D,E,aw,V,R⟩:Ze×ŀ Addr×Nat×Zx×ŀ Addr×Nat)=>⟨(.inr (q,aw)),[],λap=>sl Zr ap D E q.t/\sl Zr ap V R aw.b.t,[(3,ú b1 (fS q D E) 26),(6,ú b4 (ox aw V R) 100)]⟩) ⟨0,X,T,Y,(Zx.mk (Ze.mk [] 0) 0 0),none,0⟩ ?_ ?_
 .rintro _ ab ⟨ae,ao,M,O,j,B,A⟩ x ⟨av,ak⟩ hr;refine o' ?_;refine æ ?_;intro hr;refine I' hr z (λbm hr=>?_) (λbm hr=>?_)
  .refine q'<|b'<|o'<|Y'<|o'<|fL [ff,ff,ff,ff,ff,ff,ff,ff,ff] eL İ λhb=>cn (λ_ m=>y' 3 uu z z z)<|cn (λ_ m=>Y0.VQ z) ?_
   refine æ ?_;intro _ _ _ _ _ _ _ _ _ _ _ _ _ bb hr a2;refine oE hr λZ a3 hr=>qM (post:=qC Z) (λ_=>z) (λ_ _=>x' Pa z) (bg _ _ _ _ _ _ _ _ _ _ _ _ _ _ a3) z (λG' m=>⟨(av.mono m),((F.mono (mx s x)).mono m),((y.mono (mx s x)).mono m),(bb.mono m),(a2.mono m)⟩) (λv G1 G2 m h=>?_) ?_
   .obtain⟨H,I,rfl,P⟩:=h;exact⟨_,_,z,P.mono m⟩
   refine lr (λ_=>z) yH<|γ.nF (λbV bJ X2 aG aH aA=>?_)
   obtain⟨b7,rfl,a1⟩:=aH;obtain⟨H,I,rfl,P⟩:=aA;refine pY a1 (mu (show WL _ _ _ _ _ _ (St w0 G0 X2.m _)from ?_));refine gu 10 s9 z<|t'<|Γ<|b'<|o' ?_
   exact Η
  exact Η
 rintro ap ⟨q,D,E,aw,V,R⟩ hr t ⟨C,bi⟩;refine Ν ?_;intro _ _ _ _ hr _;refine Ε (me (vs:=#[(0,i' q.next),(1,.agg ((Ä c.k k g f d)).toArray),(2,.agg ([i' c.q.kind,δ o c.q.p n,δ p c.q.o l]).toArray),(5,i' (-1))]) (v:=.agg ([i' q.next,i' c.k.n,δ k c.k.eqs g,δ f c.k.neqs d,i' c.q.kind,δ o c.q.p n,δ p c.q.o l,i' 0,i' 0,i' (-1),.bool false]).toArray) z z (λ_=>İ))<|W' 12 z D6 z λb6=>gu 12 kW z<|nx<|o'<|fL [ff,ff,ff,ff,ff,ff,ff,ff,ff,ff,ff,ff,ff] eL İ λhb=>γ.nw (r:=Zr) (e:=56) ([]:Ŀ Zb) (λ_=>z) z ĳ (λu G' m a=>?_) ?_
 .exact⟨#[],[],z,z,λ_=>by kernel_rfl,z⟩
 refine Ν ?_;intro hr;refine oA hr λa0 hr=>γ.mU (r:=Zr) (e:=56) (kk:=78) (xs:=([]:Ŀ Zb)) q.t (λ_=>z) z İ İ uv np z ĳ a0 (λu G' m a=>?_) ?_
 .obtain⟨aL,_⟩:=(show(gv Zr 56 78 ([]:Ŀ Zb)) (u 78) G'/\True from a);exact⟨u 78,δ D q.t E,aL,z,z,(C.mono m)⟩
 refine Ν ?_;intro hr;refine tO (r:=Zr) (e:=56) ([(Zb.mk q.next c.k c.q 0 0 (-1) false)]:Ŀ Zb) (λ_=>z) z ĳ (λu G' m a=>?_) ?_
 .exact⟨#[(0,.agg ([i' q.next,i' c.k.n,δ k c.k.eqs g,δ f c.k.neqs d,i' c.q.kind,δ o c.q.p n,δ p c.q.o l,i' 0,i' 0,i' (-1),.bool false]).toArray)],[i' q.next,i' c.k.n,δ k c.k.eqs g,δ f c.k.neqs d,i' c.q.kind,δ o c.q.p n,δ p c.q.o l,i' 0,i' 0,i' (-1),.bool false]++([]),z,z,λ_=>by kernel_rfl,⟨[i' q.next,i' c.k.n,δ k c.k.eqs g,δ f c.k.neqs d,i' c.q.kind,δ o c.q.p n,δ p c.q.o l,i' 0,i' 0,i' (-1),.bool false],[],z,⟨[i' q.next],[i' c.k.n,δ k c.k.eqs g,δ f c.k.neqs d,i' c.q.kind,δ o c.q.p n,δ p c.q.o l,i' 0,i' 0,i' (-1),.bool false],z,z,⟨(Ä c.k k g f d),[i' c.q.kind,δ o c.q.p n,δ p c.q.o l,i' 0,i' 0,i' (-1),.bool false],z,⟨[i' c.k.n],[δ k c.k.eqs g,δ f c.k.neqs d],z,z,⟨[δ k c.k.eqs g],[δ f c.k.neqs d],z,⟨_,z,((F.mono (mx s t)).mono m)⟩,⟨_,z,((y.mono (mx s t)).mono m)⟩⟩⟩,⟨[i' c.q.kind,δ o c.q.p n,δ p c.q.o l],[i' 0,i' 0,i' (-1),.bool false],z,⟨[i' c.q.kind],[δ o c.q.p n,δ p c.q.o l],z,z,⟨[δ o c.q.p n],[δ p c.q.o l],z,⟨_,z,((W.mono (mx s t)).mono m)⟩,⟨_,z,((U.mono (mx s t)).mono m)⟩⟩⟩,⟨[i' 0],[i' 0,i' (-1),.bool false],z,z,⟨[i' 0],[i' (-1),.bool false],z,z,⟨[i' (-1)],[.bool false],z,z,z⟩⟩⟩⟩⟩⟩,z⟩⟩
 refine oA hr λa7 hr=>γ.mU (r:=Zr) (e:=56) (kk:=81) (xs:=(([]:Ŀ Zb)++q.t)) [(Zb.mk q.next c.k c.q 0 0 (-1) false)] (λ_=>z) z İ İ uv np z ĳ a7 (λu G' m a=>?_) ?_
 .obtain⟨⟨p1,aJ,aQ,aV⟩,aP,_,_⟩:=(show(λG v=>∃p1 aJ,v=.slice p1 1 1/\jq Zr G (.slice p1 1 1) aJ [(Zb.mk q.next c.k c.q 0 0 (-1) false)]) G'.m (u 83)/\(gv Zr 56 81 (([]:Ŀ Zb)++q.t)) (u 81) G'/\True/\True from a);exact⟨u 81,.slice p1 1 1,aP,z,(by simp only[ς,iF,ġ,Ŕ,aQ]<;>rfl),aV⟩
 refine Ν ?_;intro hr;refine γ.lM (r:=Zr) (e:=56) (kk:=84) (xs:=((([]:Ŀ Zb)++q.t)++[(Zb.mk q.next c.k c.q 0 0 (-1) false)])) (λah af=>.agg ([.slice ah ((([]:Ŀ Zb)++q.t)++[(Zb.mk q.next c.k c.q 0 0 (-1) false)]).length af,i' (i64.wrap (q.next+1))]).toArray) (λ_=>z) z İ İ (λu G' m a=>?_) ?_
 .obtain⟨aK,_,_,_,_⟩:=(show(gv Zr 56 84 ((([]:Ŀ Zb)++q.t)++[(Zb.mk q.next c.k c.q 0 0 (-1) false)])) (u 84) G'/\True/\True/\True/\True from a);exact⟨u 84,aK,λcp cc bo _=>me (vs:=#[(0,.slice cp ((([]:Ŀ Zb)++q.t)++[(Zb.mk q.next c.k c.q 0 0 (-1) false)]).length cc),(1,i' (i64.wrap (q.next+1)))]) (by simp only[ς,iF,ġ,Ŕ,bo]<;>rfl) z (λ_=>İ)⟩
 refine Ν ?_;intro hr;refine yg (λbz bE bA bB bF X1 bP az bf ax be bd=>?_);obtain⟨p1,aJ,rfl,aV⟩:=ax;refine WL.oR az (λah af bv aZ bc bM=>?_);subst aZ;refine mu (show WL _ _ _ _ _ _ (St w0 G0 X1.m _)from ?_);refine æ ?_;intro hr;obtain rfl:_=r:=hr;refine uB (r:=Zr) (e:=56) 88 bc z (by rw[bj];rfl) λbR bS bw a8 bx=>j' z (kJ (i:=6) vL z z z) ⟨_,_,z,a8⟩
instance {i:Ze->Zd->Zc->Cq Zx}{h:Ze}{c:Zd}{J:Zc}{r:Zx}:SpcM ((Ku i h c J)) r (∀{j:ES i}{T:ŀ Addr}{Y:Nat}{Q:ŀ Addr}{S:Nat}{L:ŀ Addr}{K:Nat}{e:ŀ Addr}{d:Nat}{g:ŀ Addr}{f:Nat},Cr 43 #[.agg ((fS h T Y)).toArray,.agg ((Ä c Q S L K)).toArray,.agg ([i' J.kind,δ e J.p d,δ g J.o f]).toArray] (λG=>sl Zr G T Y h.t/\sq G Q S c.eqs/\sq G L K c.neqs/\sl c' G e d J.p/\sv G g f J.o) (qC r)):=⟨λa {j T Y Q S L K e d g f}=>QK _ j _ _ _ T Y Q S L K e d g f _ a⟩
theorem Rr:∀n,ES (A7 n)
 |0=>λl m p g f e d c a k j i h r hr=>Zqq l m p g f e d c a k j i h r hr
 |n+1=>λl m p g f e d c a k j i h r hr=>QK _ (Rr n) l m p g f e d c a k j i h r hr
instance jj'{m r}:SpcM ((Ms m)) r (Cr 41 #[i' m] (λG=>True) (iB c' r)):=.mk λhr=>Η
instance Nw{r}:SpcM ((F8)) r (Cr 10 #[] (λG=>True) (kI r)):=.mk λhr=>Η
instance fM'{c r}:SpcM ((Bf c)) r (Cr 42 #[i' c] (λG=>True) (λG v=>∃d f g e,v=.agg ([i' r.kind,δ d r.p f,δ g r.o e]).toArray/\sl c' G d f r.p/\sv G g e r.o)):=.mk λhr=>Η
instance iu'{R L r}:SpcM ((Rc R L)) r (∀{E H B F},Cr 190 #[δ E R H,δ B L F] (λG=>su G E H R/\su G B F L) (fT (Rp.int .u32) r)):=.mk λhr {E H B F}=>by
 refine æ ?_;intro U x _ A _ hr _;refine WC.nB hr [] [] (λ(⟨d,o,m,J,v,t⟩:(Ŀ Int)×ŀ Addr×Nat×(Ŀ Int)×ŀ Addr×Nat)=>⟨[(0,δ o d m),(1,δ v J t)],JO d J,λl=>su l o m d/\su l v t J,[]⟩) ?_;rintro l ⟨d,o,m,J,v,t⟩ hr X ⟨u,M⟩;refine Ν ?_;intro Q s W hr _;refine WC.mB hr [0,1,5,21] [] [0,5] [] (λ(⟨p,j,f,c⟩:(Ŀ Int)×ŀ Ow×Int×Int)=>⟨(p,f,c),[(6,.int .u64 f),(22,i' c)],λk=>Β (Rp.int .u32) 248 k (.slice Q (i64.wrap ((d.length:Int)+1)).toNat ((i64.wrap ((d.length:Int)+1)).toNat)) p j,[(4019,j)]⟩) (λ(⟨P,q,h⟩:(Ŀ Int)×ŀ Ow×Int)=>⟨(P,h),[(6,.int .u64 h)],λD=>Β (Rp.int .u32) 248 D (.slice Q (i64.wrap ((d.length:Int)+1)).toNat ((i64.wrap ((d.length:Int)+1)).toNat)) P q,[(4019,q)]⟩) ⟨(List.replicate (i64.wrap ((d.length:Int)+1)).toNat 0),s,0,0⟩ ?_;rintro D ⟨P,q,h⟩ hr V O;refine b'<|sr<|ν z<|ν z<|Ε (P' F' (u.mono V) z)<|ν z<|Ε (pJ tI uq z)<|oE hr λx1 a hr=>Ε (pQ F' tc O z z a)<|zM (r:=(Rp.int .u32)) (e:=248) (cs':=[.int .u32 (u32.wrap h)]) (i:=(d.length:Int)) (z':=u32.wrap h) 4019 z tc z O z z z z z a λC g=>nr<|ν z<|pX (r:=(Rp.int .u32)) (e:=248) 4019 g z (by rw[A];rfl) (λK az au T Z=>?_)
 refine oE hr λN y hr=>gW z z (x' qF z) (zH.h y) (by rw[qT T]) ((rD T)) (λaw S Y I=>?_);obtain⟨ay,ax,rfl,n⟩:=I;refine Ο z<|m' ?_
 obtain rfl:_=r:=hr;exact j' z z ⟨_,_,z,n⟩
instance fq'{g C r}:SpcM ((Jq g C)) r (∀{u y t x},Cr 191 #[δ u g y,δ t C x] (λG=>su G u y g/\su G t x C) (fT (Rp.int .u32) r)):=.mk λhr {u y t x}=>by
 refine Ν ?_;intro P B _ W _ _ E O Y hr _;refine WC.mB hr [0,1,5,13] [] [5] [] (λ(⟨k,h,d,c⟩:(Ŀ Int)×ŀ Ow×Int×Int)=>⟨(k,d,c),[(6,.int .u64 d),(14,i' c)],λj=>Β (Rp.int .u32) 248 j (.slice E (g.length:Int).toNat ((g.length:Int).toNat)) k h,[(4011,h)]⟩) (λ(⟨D,l⟩:(Ŀ Int)×ŀ Ow)=>⟨D,[],λv=>Β (Rp.int .u32) 248 v (.slice E (g.length:Int).toNat ((g.length:Int).toNat)) D l,[(4011,l)]⟩) ⟨(List.replicate (g.length:Int).toNat 0),O,0,0⟩ ?_;rintro v ⟨D,l⟩ hr a M;refine b'<|sr<|ν z<|pX (r:=(Rp.int .u32)) (e:=248) 4011 M z (by rw[W];rfl) (λF s m H f=>?_)
 refine oE hr λI R hr=>gW z z (x' qF z) (zH.h R) (by rw[qT H]) ((rD H)) (λn J i A=>?_);obtain⟨q,p,rfl,L⟩:=A;refine Ο z<|m' ?_
 obtain rfl:_=r:=hr;exact j' z z ⟨_,_,z,L⟩
instance fh'{i r}:SpcM ((yM i)) r (∀{j k},Cr 126 #[δ j i k] (λG=>sv G j k i) (λG v=>v=.bool r)):=.mk λhr {j k}=>by
 refine Ν ?_;intro B n _ _ m hr _;refine WC.mC hr [3,11,12] [] [] [] (λ(⟨d,t⟩:Int×(Fin 8->Bool))=>⟨(d,t),[(13,i' d)],tr,[(3,ú m (õ Value.bool 8 t) 143)]⟩) (λ(_:Unit)=>⟨(.inr ()),[],tr,[]⟩) ⟨0,(λ_=>false)⟩ ?_;rintro _ f ⟨d,t⟩ g _ hr;refine Ν ?_;intro _ p _ _ hr _;refine WC.mC hr [3,11,12,13,17] [] [3,11,12,13] [] (λ(⟨c,e⟩:Int×(Fin 8->Bool))=>⟨(c,e),[(18,i' c)],tr,[(3,ú m (õ Value.bool 8 e) 143)]⟩) (λ(q:(Fin 8->Bool))=>⟨(.inr q),[],tr,[(3,ú m (õ Value.bool 8 q) 143)]⟩) ⟨0,t⟩ ?_;rintro _ h ⟨c,e⟩ l _ hr;refine sr<|kD z<|nx<|o'<|I' hr z (λV hr=>?_) (λV hr=>?_)
 .refine æ ?_;intro hr _;refine WC.nC hr [3,6,7,11,12,13,17,18] [3] (λ(_:Unit)=>⟨[],Et p c e,tr,[]⟩) ?_;refine sr<|ν z<|eb hr z (Z' z z) z (λQ hr=>?_) (λQ hr=>?_)
  .refine Ν ?_;intro hr;refine È (Q7 z z) z<|È (Q7 z z) z<|È (Q7 z z) z<|È (Q7 z z) z<|sf z z z<|Θ z<|nx<|n1 z<|sr<|Ο z<|m'<|a'<|g'<|a'<|a'<|g'<|mT<|g'<|a'<|a'<|g'<|mT<|a' (Ö hr z z)
  refine Ν ?_;intro _ hr;refine È (Q7 z z) z<|È (Q7 z z) z<|È (Q7 z z) z<|È (Q7 z z) z<|sf z z z<|Θ z<|nx<|n1 z<|sr<|Ο z<|m'<|a'<|g'<|a'<|a'<|g'<|mT<|g'<|a'<|a'<|g'<|mT<|a' (Ö hr z z)
 exact Η
instance gZ'{t e r}:SpcM ((Fe t e)) r (∀{l m g h j n k o},Cr 68 #[.agg ((Ä t l m g h)).toArray,.agg ([i' e.kind,δ j e.p n,δ k e.o o]).toArray] (λG=>sq G l m t.eqs/\sq G g h t.neqs/\sl c' G j n e.p/\sv G k o e.o) (λG v=>v=.bool r)):=.mk λhr {l m g h j n k o}=>by
 refine æ ?_;intro H y _ _ _ _ _ _ _ L u hr _;refine WC.nB hr [2,3] [2,3] (λ(_:Unit)=>⟨[],QH t e,tr,[]⟩) ?_;intro s _ hr d _;refine WC.nB hr [3] [3] (λ(_:Unit)=>⟨[],Kg e,tr,[]⟩) ?_;intro p _ hr f _;refine WC.nD hr [3] [3] (λ(_:Unit)=>⟨[],Ep e,tr,[]⟩) ?_ ?_
 .refine Ν ?_;intro hr _;refine È (Q7 z z) z<|È (Q7 z z) z<|È (Q7 z z) z<|sf z z z<|Θ z<|nx<|n1 z<|sr<|Ο z<|m'<|a' (Ö hr z z)
 intro x _ hr q _;refine æ ?_;intro hr;refine o'<|sr<|Ε (eM z z)<|Ο z<|I' hr z (λc hr=>?_) (λc hr=>?_)
 .exact Η
 refine sr<|Ε (eM z z)<|Ο z<|I' hr z (λa hr=>?_) (λa hr=>?_)
 .exact Η
 exact Η
instance rF{m r}:SpcM ((Pr m)) r (∀{c h},Cl 267 #[δ c m h] [] (λG=>sv G c h m) (λG L v=>∃u x f,L=[(7000,f)]/\v=δ u r x/\Β (gf .i64 8) 71 G (δ u r x) r f)):=.mk λhr {c h}=>by
 refine Ν ?_;intro s d A hr g;refine Ε (Y0.sx tH z z)<|nx<|WC.Ê (p:=c=none) z (λk=>?_) (λk=>?_)
 .replace hr:=hr.1 (Δ.VY g k);refine sr<|Ο z<|m'<|a' ?_
  obtain rfl:_=r:=hr;refine mV (S':=St s d d [(7000,none)]) (wk (lw ln))<|j' z z ⟨_,_,_,z,z,(Β.nil (r:=(gf .i64 8)) (e:=71))⟩
 replace hr:=hr.2;refine q'<|b'<|sr<|WL.qZ (e:=71) (r:=(gf .i64 8)) (vs:=#[]) (cs:=[]) ([]:Ŀ (Fin 8->Int)) 4005 z z z z z ĳ (λ_=>İ) (z) λE B t=>ν z<|oA hr λq hr=>WL.hM (r:=(gf .i64 8)) (e:=71) 4005 z z tH od z ĳ z z t z g q λD C l y=>Ο z<|m' ?_
 obtain rfl:_=r:=hr;refine mV (S':=St s d d [(7000,l)]) ?_ ?_
 .intro w o;have o:=o.Ý (i:=4005) (j:=7000) z (by rw[A];rfl);exact o.weaken (lc z ln)
 exact j' z z ⟨_,_,_,z,z,y⟩
instance hE'{h c r}:SpcM ((Kb h c)) r (∀{g j i},Cl 311 #[.agg (g).toArray,iK i] [(153609,ú i ([i' c]) 3)] (λG=>É tx 8 G g j h) (λG L v=>L=[(153609,ú i ([i' c]) 3)]/\v=.bool r)):=.mk λhr {g j i}=>by
 refine Ν ?_;intro u s _ _ hr f;refine oE hr λB n hr=>Ε (rB oC wB z z (rE f n)) ?_;obtain⟨o,l,m,k,t,d,e⟩:=Zvu (wa f n);refine Ε (R' _ 2 rX z z z t)<|oE hr λx q hr=>H' z z (x' H8 z) (cT'.h q) z (⟨d,e⟩)<|Ε (qO z z)<|Ο z<|m' ?_
 obtain rfl:_=r:=hr;refine mV (S':=St u s s [(153609,ú i ([i' c]) 3)]) (w1 z)<|j' z z ⟨z,z⟩
instance hV'{j r}:SpcM ((QY j)) r (∀{e c g f},Cr 329 #[.agg ((Τ j e c g f)).toArray] (λG=>su G e c j.num.υ/\su G g f j.den.υ) (iA r)):=.mk λhr {e c g f}=>Η
instance Nx{I D r}:SpcM ((EC I D)) r (∀{k f h g j d c e},Cr 312 #[.agg ((Τ I k f h g)).toArray,.agg ((Τ D j d c e)).toArray] (λG=>su G k f I.num.υ/\su G h g I.den.υ/\su G j d D.num.υ/\su G c e D.den.υ) (iA r)):=.mk λhr {k f h g j d c e}=>Η
instance hX'{m r}:SpcM ((QZ m)) r (∀{g f e c},Cr 331 #[.agg ((Τ m g f e c)).toArray] (λG=>su G g f m.num.υ/\su G e c m.den.υ) (eB r)):=.mk λhr {g f e c}=>Η
instance iv'{L K r}:SpcM ((Q8 L K)) r (∀{j g l k},Cr 340 #[.agg ((ζ L j g)).toArray,.agg ((ζ K l k)).toArray] (λG=>su G j g L.υ/\su G l k K.υ) (Ï r)):=.mk λhr {j g l k}=>Η
instance hY'{s q r}:SpcM ((QX s q)) r (∀{n p j k m o c g},Cr 330 #[.agg ((Τ s n p j k)).toArray,.agg ((Τ q m o c g)).toArray] (λG=>su G n p s.num.υ/\su G j k s.den.υ/\su G m o q.num.υ/\su G c g q.den.υ) (eB r)):=.mk λhr {n p j k m o c g}=>by
 refine J' (args:=[_,_]) (N:=27) func330 z z z (λw0 G0 a0 aI=>?_);obtain⟨O,C,P,B⟩:=aI;refine sr<|jU 2 z z z λb2=>jU 3 z z z λb3=>W' 4 z D4 z λb4=>nx<|o'<|fL [ff,ff,ff,ff,ff,ff,ff,ff,ff,ff,ff,ff,ff,ff] eL İ λhb=>cn (λ_ l=>xW z)<|cn (λ_ l=>R' ((ζ s.num n p)).toArray 2 pK z z z (UZ ([]) ((ζ s.num n p)) ((ζ s.den j k))))<|cn (λ_ l=>Y0.Vr z) ?_
 refine æ ?_;intro hr;refine tO (r:=rW) (e:=118) ([s.num,q.den]:Ŀ Zg) (λ_=>z) z ĳ (λu D l E=>?_) ?_
 .exact⟨#[(0,.agg ((ζ s.num n p)).toArray),(1,.agg ((ζ q.den c g)).toArray)],(ζ s.num n p)++((ζ q.den c g)++([])),z,z,λ_=>by kernel_rfl,⟨(ζ s.num n p),(ζ q.den c g)++([]),z,⟨[.bool s.num.neg],[δ n s.num.υ p],z,z,⟨_,z,(O.mono l)⟩⟩,⟨(ζ q.den c g),[],z,⟨[.bool q.den.neg],[δ c q.den.υ g],z,z,⟨_,z,(B.mono l)⟩⟩,z⟩⟩⟩
 refine oE hr λaw aE hr=>mm (f:=229) (φ:=Ï aw) (λ_=>z) (λv a G2 l h=>?_) (λu D l E=>?_) ?_
 .obtain⟨F,I,rfl,x⟩:=h;exact⟨_,_,z,x.mono l⟩
 .obtain⟨⟨p1,ag,al,ax⟩,_⟩:=(show(λG v=>∃p1 ag,v=.slice p1 2 2/\jq rW G (.slice p1 2 2) ag [s.num,q.den]) D.m (u 10)/\True from E);exact⟨_,_,_,λ_=>x' oJ z,x0.h aE,(by simp only[al]<;>rfl),ax⟩
 refine Ν ?_;intro hr;refine tO (r:=rW) (e:=118) ([q.num,s.den]:Ŀ Zg) (λ_=>z) z ĳ (λu D l E=>?_) ?_
 .exact⟨#[(0,.agg ((ζ q.num m o)).toArray),(1,.agg ((ζ s.den j k)).toArray)],(ζ q.num m o)++((ζ s.den j k)++([])),z,z,λ_=>by kernel_rfl,⟨(ζ q.num m o),(ζ s.den j k)++([]),z,⟨[.bool q.num.neg],[δ m q.num.υ o],z,z,⟨_,z,(P.mono l)⟩⟩,⟨(ζ s.den j k),[],z,⟨[.bool s.den.neg],[δ j s.den.υ k],z,z,⟨_,z,(C.mono l)⟩⟩,z⟩⟩⟩
 refine oE hr λav aB hr=>mm (f:=229) (φ:=Ï av) (λ_=>z) (λv a G2 l h=>?_) (λu D l E=>?_) ?_
 .obtain⟨H,J,rfl,t⟩:=h;exact⟨_,_,z,t.mono l⟩
 .obtain⟨⟨p2,ad,ak,az⟩,_,_,_⟩:=(show(λG v=>∃p2 ad,v=.slice p2 2 2/\jq rW G (.slice p2 2 2) ad [q.num,s.den]) D.m (u 16)/\True/\True/\True from E);exact⟨_,_,_,λ_=>x' oJ z,x0.h aB,(by simp only[ak]<;>rfl),az⟩
 refine oE hr λaK aF hr=>mm (f:=340) (φ:=Ï aK) (λ_=>z) (λv a G2 l h=>?_) (λu D l E=>?_) ?_
 .obtain⟨aa,Y,rfl,A⟩:=h;exact⟨_,_,z,A.mono l⟩
 .obtain⟨⟨H,J,ai,t⟩,_,⟨F,I,aj,x⟩,_,_⟩:=(show(Ï av) D.m (u 17)/\True/\(Ï aw) D.m (u 11)/\True/\True from E);exact⟨_,_,_,λ_=>x' Jb z,iv'.h aF,(by simp only[ai,aj]<;>rfl),⟨x,t⟩⟩
 refine lr (λ_=>z) D3<|γ.nG (λa3 aP aT aQ aU aV X1 ae af W U Z ab T=>?_)
 obtain⟨b5,rfl,aD⟩:=af;obtain⟨aa,Y,rfl,A⟩:=W;obtain⟨H,J,rfl,t⟩:=U;obtain⟨p2,ad,rfl,az⟩:=Z;obtain⟨F,I,rfl,x⟩:=ab;obtain⟨p1,ag,rfl,ax⟩:=T;refine pY aD (mu (show WL _ _ _ _ _ _ (St w0 G0 X1.m _)from ?_));refine gu 5 wA z<|t'<|Γ<|b'<|o'<|fL [ff,ff,ff,ff,ff,ff,ff] eL İ λhb=>cn (λ_ l=>y' 5 pK z z z) ?_
 refine æ ?_;intro hr;refine tO (r:=rW) (e:=118) ([s.den,q.den]:Ŀ Zg) (λ_=>z) z ĳ (λu D l E=>?_) ?_
 .exact⟨#[(0,.agg ((ζ s.den j k)).toArray),(1,.agg ((ζ q.den c g)).toArray)],(ζ s.den j k)++((ζ q.den c g)++([])),z,z,λ_=>by kernel_rfl,⟨(ζ s.den j k),(ζ q.den c g)++([]),z,⟨[.bool s.den.neg],[δ j s.den.υ k],z,z,⟨_,z,((C.mono ae).mono l)⟩⟩,⟨(ζ q.den c g),[],z,⟨[.bool q.den.neg],[δ c q.den.υ g],z,z,⟨_,z,((B.mono ae).mono l)⟩⟩,z⟩⟩⟩
 refine oE hr λaA aG hr=>mm (f:=229) (φ:=Ï aA) (λ_=>z) (λv a G2 l h=>?_) (λu D l E=>?_) ?_
 .obtain⟨X,S,rfl,y⟩:=h;exact⟨_,_,z,y.mono l⟩
 .obtain⟨⟨Q,M,an,ay⟩,_⟩:=(show(λG v=>∃Q M,v=.slice Q 2 2/\jq rW G (.slice Q 2 2) M [s.den,q.den]) D.m (u 24)/\True from E);exact⟨_,_,_,λ_=>x' oJ z,x0.h aG,(by simp only[an]<;>rfl),ay⟩
 refine γ.tg (d:=25) (post:=Ï aA) (d':=24) (post':=λG v=>∃Q M,v=.slice Q 2 2/\jq rW G (.slice Q 2 2) M [s.den,q.den]) (λaS aO a2 au ac R=>?_);obtain⟨X,S,rfl,y⟩:=ac;obtain⟨Q,M,rfl,ay⟩:=R;refine oE hr λaY aJ hr=>gW z z (x' wP z) (Nl.h aJ) z (⟨(A.mono au),y⟩) (λaN aZ aL V=>?_);obtain⟨aq,ao,ar,am,rfl,L,K⟩:=V;refine gu 4 wB z<|t'<|Γ<|b'<|m' ?_
 obtain rfl:_=r:=hr;exact j' z (kJ (i:=4) rX z z z) ⟨_,_,_,_,z,L,K⟩
instance hZ'{M I r}:SpcM ((EE M I)) r (∀{o k m l n g f j},Cr 313 #[.agg ((Τ M o k m l)).toArray,.agg ((Τ I n g f j)).toArray] (λG=>su G o k M.num.υ/\su G m l M.den.υ/\su G n g I.num.υ/\su G f j I.den.υ) (eB r)):=.mk λhr {o k m l n g f j}=>Η
instance dK'{o c r}:SpcM ((ZO o c)) r (∀{m s f},Cl 310 #[δ m o s,.func (.func 311) #[] #[iK f]] [(153609,ú f ([i' c]) 3)] (λG=>sl (Rp.arr tx 8) G m s o) (λG L v=>L=[(153609,ú f ([i' c]) 3)]/\v=i' r)):=.mk λhr {m s f}=>by
 refine ry (args:=[_,_]) (N:=19) func310 z z z (λn g J C=>?_);have q:=C;have a:n.L.zero:=by rw[J];intro p F x Q;simp only[Ď,ĝ,ţ]at F;subst F;cases Q;rfl
 refine sr<|Ο z<|o'<|sr<|ν z<|Ε (P' oU q z)<|ν z<|nx<|WC.mD hr [0,1,7] [153609] [] [153609] (λ(e:Int)=>⟨e,[(8,i' e)],tr,[]⟩) (λ(_:Unit)=>⟨(.inr ()),[],tr,[]⟩) 0 ?_ ?_
 .intro _ h e d _ hr;refine Ν ?_;intro _ hr;refine oE hr λU B hr=>Ε (kp oU wG (q.mono d) z z B) ?_;obtain⟨T,t,E⟩:=(T' (iQ q B) d);refine Ε (nL _ kx z (lL (u:=()) t) (λj v R=>E j v (by simpa using R)))<|oE hr λS D hr=>WL.lN z z (YC.ym I5 z z) (hE'.h D) z ((show É _ _ _ _ () _ from t)) (lc z ln) (λi I=>by simp only[ġ,Ŕ,Ď,ĝ,ţ]at I;subst I;exact z) a (λO A y l=>?_)
  subst l;refine nx<|kh hr z (λH hr=>?_) (λH hr=>?_)
  .refine Ν ?_;intro hr;obtain rfl:_=r:=hr;refine mV (S':=St n g A [(153609,ú f ([i' c]) 3)]) (w1 z)<|j' z z ⟨z,z⟩
  exact Η
 intro k _ hr M _;refine b'<|sr<|Ο z<|m' ?_
 obtain rfl:_=r:=hr;refine mV (S':=St n g k [(153609,ú f ([i' c]) 3)]) (w1 z)<|j' z z ⟨z,z⟩
instance iG'{k r}:SpcM ((Fc k)) r (∀{ai aw},Cr 268 #[δ ai k aw] (λG=>sv G ai aw k) (λG v=>v=i' r)):=.mk λhr {ai aw}=>by
 refine Ν ?_;intro w0 G0 _ hr _;have hz:=tS (w0:=w0);refine oA hr λcI hr=>WL.wo (r:=(Rp.arr tx 8)) (e:=325) (n:=(k.length:Int)) (zx:=(List.replicate 8 (Zf.mk (Zg.mk false []) (Zg.mk false [])))) 4017 z z oU vZ z ĳ ĳ (show É tx 8 G0 ([.bool false,.slice none 0 0,.bool false,.slice none 0 0,.bool false,.slice none 0 0,.bool false,.slice none 0 0,.bool false,.slice none 0 0,.bool false,.slice none 0 0,.bool false,.slice none 0 0,.bool false,.slice none 0 0,.bool false,.slice none 0 0,.bool false,.slice none 0 0,.bool false,.slice none 0 0,.bool false,.slice none 0 0,.bool false,.slice none 0 0,.bool false,.slice none 0 0,.bool false,.slice none 0 0,.bool false,.slice none 0 0]:Ŀ Value) () _ from zN (G:=G0) (r:=tx) (n:=8) (zc:=[.bool false,.slice none 0 0,.bool false,.slice none 0 0]) (z:=(Zf.mk (Zg.mk false []) (Zg.mk false []))) ⟨[.bool false,.slice none 0 0],[.bool false,.slice none 0 0],z,⟨[.bool false],[.slice none 0 0],z,z,⟨_,z,(X' _ _)⟩⟩,⟨[.bool false],[.slice none 0 0],z,z,⟨_,z,(X' _ _)⟩⟩⟩) z z cI λY ct cV=>?_;refine æ ?_;intro hr;refine WC.mD hr [3,18,19] [] [3] [] (λ(⟨aE,ab,L⟩:(Ŀ (Ŀ Zf))×ŀ Ow×Int)=>⟨(aE,L),[(20,i' L)],λan=>Β (Rp.arr tx 8) 325 an (.slice Y (k.length:Int).toNat ((k.length:Int).toNat)) aE ab,[(4017,ab)]⟩) (λ(⟨aO,au⟩:(Ŀ (Ŀ Zf))×ŀ Ow)=>⟨aO,[],λaJ=>Β (Rp.arr tx 8) 325 aJ (.slice Y (k.length:Int).toNat ((k.length:Int).toNat)) aO au,[(4017,au)]⟩) ⟨(List.replicate (k.length:Int).toNat (List.replicate 8 (Zf.mk (Zg.mk false []) (Zg.mk false [])))),ct,0⟩ ?_ ?_
 .rintro _ an ⟨aE,ab,L⟩ az bg hr;refine Ν ?_;intro _ bu _ _ hr _;refine WC.mC hr [3,4,18,19,20,25] [] [3,18,19,20] [] (λ(⟨aI,av,ae⟩:(Ŀ (Ŀ Zf))×ŀ Ow×Int)=>⟨(aI,ae),[(26,i' ae)],λaK=>Β (Rp.arr tx 8) 325 aK (.slice Y (k.length:Int).toNat ((k.length:Int).toNat)) aI av,[(4017,av)]⟩) (λ(⟨aR,ak⟩:(Ŀ (Ŀ Zf))×ŀ Ow)=>⟨aR,[],λa6=>Β (Rp.arr tx 8) 325 a6 (.slice Y (k.length:Int).toNat ((k.length:Int).toNat)) aR ak,[(4017,ak)]⟩) ⟨aE,ab,0⟩ ?_;rintro _ aK ⟨aI,av,ae⟩ aS aA hr;refine sr<|kD z<|nx<|o'<|I' hr z (λcX hr=>?_) (λcX hr=>?_)
  .refine q'<|b'<|o'<|Y'<|sr<|ν z<|oA hr λb4 hr=>Ε (Y0.index GO eC je z z b4 (tE _ _ _ b4))<|dQ z<|Ο z<|fL [ff,ff,ff,ff,ff,ff] eL İ λhb=>fN z ?_
   refine æ ?_;intro a hr _;refine oE hr λcW a8 hr=>cu (λ_ _ g=>pQ oU wG (aA.mono g) z z a8)<|γ.pz (d:=34) (post:=eB a) (λdg cM be bn=>?_)
   obtain⟨E,M,F,I,rfl,T,V⟩:=bn;exact oE hr λdl bp hr=>Ε (uF oC wB z z (uG (oF aA a8) bp))<|WL.qy (r:=tx) (e:=325) (m:=8) (cs':=(Τ a E M F I)) (i:=L) (j:=ae) (u':=a) 4017 z wB z z (aA.mono be) z z z z ⟨(ζ a.num E M),(ζ a.den F I),z,⟨[.bool a.num.neg],[δ E a.num.υ M],z,z,⟨_,z,T⟩⟩,⟨[.bool a.den.neg],[δ F a.den.υ I],z,z,⟨_,z,V⟩⟩⟩ a8 bp λcJ cw=>Η
  exact Η
 rintro aJ ⟨aO,au⟩ hr dc bR;refine Ν ?_;intro hr;refine WC.mC hr [3] [] [] [] (λ(⟨aF,ag,q,l⟩:(Ŀ (Ŀ Zf))×ŀ Ow×Int×Int)=>⟨(aF,q,l),[(8,i' q),(39,i' l)],λal=>Β (Rp.arr tx 8) 325 al (.slice Y (k.length:Int).toNat ((k.length:Int).toNat)) aF ag,[(4017,ag)]⟩) (λ(bb:Int)=>⟨bb,[(8,i' bb)],tr,[]⟩) ⟨aO,au,0,0⟩ ?_;rintro _ al ⟨aF,ag,q,l⟩ aM s hr;refine sr<|kD z<|nx<|o'<|I' hr z (λda hr=>?_) (λda hr=>?_)
 .refine q'<|b'<|o'<|Y'<|sr<|ν z<|W' 153609 z z3 z λb1=>rp 153609 ([i' l]).toArray z je z z z (by first|decide|simp) z z<|nr<|ν z<|ν z<|oA hr λc0 hr=>Ε (Y0.uC oU wG s z z c0)<|Ε (Y0.makeFunc z z)<|oE hr λch cy hr=>WL.uV (r:=(Rp.arr tx 8)) (e:=325) 4017 s z hz z z (λ_=>x' I4 z) (dK'.h cy) z (λG' g c8=>(Δ.B2 (sz:=32) z c8 ŉ)) (lc z ln) (λi hi=>by simp only[ġ,Ŕ,Ď,ĝ,ţ]at hi;subst hi;exact⟨z,ĳ⟩) hz<|Ο z<|o'<|sr<|ν z<|kD z<|nx<|I' hr z (λcT hr=>?_) (λcT hr=>?_)
  .exact Η
  refine q'<|b'<|o'<|fL [ff,ff,tt,tt,tt,tt,ff,ff,ff,ff,ff,ff,ff,ff,ff,ff] eL İ λhb=>?_
  refine æ ?_;intro hr;refine oE hr λx1 co hr=>cn (λ_ g=>pQ oU wG (s.mono g) z z co) ?_;obtain⟨cU,bB,cG⟩:=(oF s co);refine cn (λ_ g=>vV _ kx (s.mono g) (key:=4017) z z (lL (u:=()) bB) ĳ (λj v hv=>cG j v (by simpa using hv)))<|fN z<|fN z<|oE hr λx2 bX hr=>cn (λ_ g=>pQ oU wG (s.mono g) z z bX) ?_
  obtain⟨c5,bF,cx⟩:=(oF s bX);refine cn (λ_ g=>vV _ kx (s.mono g) (key:=4017) z z (lL (u:=()) bF) ĳ (λj v hv=>cx j v (by simpa using hv)))<|pL hb ?_
  refine æ ?_;intro _ hr b5;refine zM (r:=(Rp.arr tx 8)) (e:=325) (cs':=cU) (i:=q) (z':=x1) 4017 z wG z s z z z z (show É _ _ _ _ () _ from bB) b5 (λdk bC=>?_);refine æ ?_;intro _ hr b0;refine zM (r:=(Rp.arr tx 8)) (e:=325) (cs':=c5) (i:=i64.wrap (q+ch)) (z':=x2) 4017 z wG z bC z z z z (show É _ _ _ _ () _ from bF) b0 λc7 cz=>?_;refine æ ?_;intro hr;refine WC.mC hr [3,8,9,39] [153609] [3,8,39] [] (λ(⟨aG,aa,S⟩:(Ŀ (Ŀ Zf))×ŀ Ow×Int)=>⟨(aG,S),[(11,i' S)],λaT=>Β (Rp.arr tx 8) 325 aT (.slice Y (k.length:Int).toNat ((k.length:Int).toNat)) aG aa,[(4017,aa)]⟩) (λ(⟨aP,am⟩:(Ŀ (Ŀ Zf))×ŀ Ow)=>⟨aP,[],λaW=>Β (Rp.arr tx 8) 325 aW (.slice Y (k.length:Int).toNat ((k.length:Int).toNat)) aP am,[(4017,am)]⟩) ⟨((aF.set q.toNat x1).set (i64.wrap (q+ch)).toNat x2),c7,i64.wrap (q+1)⟩ ?_;rintro _ aT ⟨aG,aa,S⟩ bd y hr;refine o'<|sr<|ν z<|ν z<|Ε (Y0.nv oU y z)<|kD z<|nx<|I' hr z (λcY hr=>?_) (λcY hr=>?_)
  .refine q'<|b'<|o'<|Y'<|o'<|fL [ff,ff,ff,ff,ff,ff,ff,ff,ff,ff,ff,ff,ff,ff,ff,tt,ff] eL İ λhb=>fN z<|fN z ?_
   refine æ ?_;intro hr;refine oE hr λx5 bq hr=>cn (λ_ g=>pQ oU wG (y.mono g) z z bq)<|oE hr λx6 cg hr=>cn (λ_ g=>uF oC wB z z (uG (oF y bq) cg)) ?_
   obtain⟨ca,ci,cj,b7,cK,a4,a0⟩:=Zvu (AtK.arr (oF y bq) cg);refine cn (λ_ g=>vV _ rX (y.mono g) (key:=4017) z z z ĳ cK)<|fN z<|fN z<|cn (λ_ g=>n' 153609 eC z z z)<|oE hr λx7 bx hr=>cn (λ_ g=>pQ oU wG (y.mono g) z z bx)<|oE hr λx8 cl hr=>cn (λ_ g=>uF oC wB z z (uG (oF y bx) cl)) ?_
   obtain⟨b8,cc,ce,cf,cH,aV,a2⟩:=Zvu (AtK.arr (oF y bx) cl);refine cn (λ_ g=>vV _ rX (y.mono g) (key:=4017) z z z ĳ cH)<|oE hr λp cA hr=>qM (post:=iA p) (λ_=>z) (λ_ _=>x' I6 z) (Nx.h cA) z (λG' g=>⟨(a4.mono g),(a0.mono g),(aV.mono g),(a2.mono g)⟩) (λv G1 G2 g h=>?_) ?_
   .obtain⟨P,R,Q,O,rfl,t,A⟩:=h;exact⟨_,_,_,_,z,t.mono g,A.mono g⟩
   refine ko (φ:=iA p) (λ_=>z) (λv G1 G2 g h=>?_) (λu G' g x=>?_) ?_
   .obtain⟨p2,bf,p3,bc,rfl,X,N⟩:=h;exact⟨_,_,_,_,z,X.mono g,N.mono g⟩
   .obtain⟨⟨P,R,Q,O,bP,t,A⟩,_⟩:=(show(iA p) G'.m (u 88)/\True from x);simp only[ς,bP];exact⟨_,k' z,P,R,Q,O,z,t,A⟩
   refine ko (φ:=eB p.1) (λ_=>z) (λv G1 G2 g h=>?_) (λu G' g x=>?_) ?_
   .obtain⟨p4,b6,p5,bY,rfl,bs,bA⟩:=h;exact⟨_,_,_,_,z,bs.mono g,bA.mono g⟩
   .obtain⟨⟨p2,bf,p3,bc,aN,X,N⟩,_,_⟩:=(show(iA p) G'.m (u 75)/\True/\True from x);simp only[ς,aN];exact⟨_,O' z z,p2,bf,p3,bc,z,X,N⟩
   refine nh (c:=i' p.2) (λ_=>z) (λu G' g x=>?_) ?_
   .obtain⟨_,⟨p2,bf,p3,bc,aN,X,N⟩,_,_⟩:=(show True/\(iA p) G'.m (u 75)/\True/\True from x);simp only[ς,aN];exact O' z z
   refine lr (λ_=>z) D4<|γ.tj (λdp dh df di X1 bD bE bk bm bo=>?_)
   obtain⟨b2,rfl,cv⟩:=bE;obtain⟨p4,b6,p5,bY,rfl,bs,bA⟩:=bk;obtain⟨p2,bf,p3,bc,rfl,X,N⟩:=bm;obtain⟨P,R,Q,O,rfl,t,A⟩:=bo;refine pY cv (mu (show WL _ _ _ _ _ _ (St w0 G0 X1.m _)from ?_));refine gu 12 wB z ?_;refine æ ?_;intro hr;refine WC.mC hr [3,8,9,11,12,39] [153609,12] [3,8,9,11,39] [153609] (λ(⟨aH,ap,ad⟩:(Ŀ (Ŀ Zf))×ŀ Ow×Int)=>⟨(aH,ad),[(14,i' ad)],λa3=>Β (Rp.arr tx 8) 325 a3 (.slice Y (k.length:Int).toNat ((k.length:Int).toNat)) aH ap,[(4017,ap)]⟩) (λ(⟨aQ,ar⟩:(Ŀ (Ŀ Zf))×ŀ Ow)=>⟨aQ,[],λa7=>Β (Rp.arr tx 8) 325 a7 (.slice Y (k.length:Int).toNat ((k.length:Int).toNat)) aQ ar,[(4017,ar)]⟩) ⟨aG,aa,l⟩ ?_;rintro _ a3 ⟨aH,ap,ad⟩ aC o hr;refine o'<|sr<|ν z<|kD z<|nx<|I' hr z (λcS hr=>?_) (λcS hr=>?_)
   .refine q'<|b'<|o'<|Y'<|fL [ff,ff,ff,ff,ff,ff,ff,ff,ff,ff,ff,ff,ff,ff,ff,ff,ff,ff,ff] eL İ λhb=>fN z<|fN z<|fN z<|fN z<|fN z<|fN z<|oE hr λx9 bz hr=>cn (λ_ g=>pQ oU wG (o.mono g) z z bz)<|oE hr λdn bv hr=>cn (λ_ g=>uF oC wB z z (uG (oF o bz) bv)) ?_
    obtain⟨ck,cm,cd,b9,cQ,aX,aU⟩:=Zvu (AtK.arr (oF o bz) bv);refine cn (λ_ g=>vV _ rX (o.mono g) (key:=4017) z z z ĳ cQ)<|cn (λ_ g=>y' 12 rX z z z)<|fN z<|fN z<|fN z<|oE hr λdq ba hr=>cn (λ_ g=>pQ oU wG (o.mono g) z z ba)<|oE hr λdm bG hr=>cn (λ_ g=>uF oC wB z z (uG (oF o ba) bG)) ?_
    obtain⟨cp,cb,bZ,cq,cR,a1,a5⟩:=Zvu (AtK.arr (oF o ba) bG);refine cn (λ_ g=>vV _ rX (o.mono g) (key:=4017) z z z ĳ cR)<|oE hr λbH cC hr=>qM (post:=eB bH) (λ_=>z) (λ_ _=>x' Ix z) (fD'.h cC) z (λG' g=>⟨((bs.mono aC).mono g),((bA.mono aC).mono g),(a1.mono g),(a5.mono g)⟩) (λv G1 G2 g h=>?_) ?_
    .obtain⟨aq,ah,aj,ao,rfl,B,D⟩:=h;exact⟨_,_,_,_,z,B.mono g,D.mono g⟩
    refine oE hr λZ cr hr=>mm (f:=313) (φ:=eB Z) (λ_=>z) (λv G1 G2 g h=>?_) (λu G' g x=>?_) ?_
    .obtain⟨C,H,K,J,rfl,U,W⟩:=h;exact⟨_,_,_,_,z,U.mono g,W.mono g⟩
    .obtain⟨⟨aq,ah,aj,ao,bT,B,D⟩,_⟩:=(show(eB bH) G'.m (u 112)/\True from x);exact⟨_,_,_,λ_=>x' I7 z,hZ'.h cr,(by simp only[bT]<;>rfl),⟨(aX.mono g),(aU.mono g),B,D⟩⟩
    refine oE hr λc1 a9 hr=>cu (λ_ _ g=>pQ oU wG (o.mono g) z z a9)<|γ.tg (d:=113) (post:=eB Z) (d':=112) (post':=eB bH) (λdd de cZ bh bi bl=>?_)
    obtain⟨C,H,K,J,rfl,U,W⟩:=bi;obtain⟨aq,ah,aj,ao,rfl,B,D⟩:=bl;exact oE hr λdr bt hr=>Ε (uF oC wB z z (uG (oF o a9) bt))<|WL.qy (r:=tx) (e:=325) (m:=8) (cs':=(Τ Z C H K J)) (i:=S) (j:=ad) (u':=Z) 4017 z wB z z (o.mono bh) z z z z ⟨(ζ Z.num C H),(ζ Z.den K J),z,⟨[.bool Z.num.neg],[δ C Z.num.υ H],z,z,⟨_,z,U⟩⟩,⟨[.bool Z.den.neg],[δ K Z.den.υ J],z,z,⟨_,z,W⟩⟩⟩ a9 bt λc3 cF=>Η
   exact Η
  exact Η
 exact Η
instance iH'{d r}:SpcM ((K1 d)) r (Cr 269 #[.int .u8 d] (λG=>True) (λG v=>v=.agg (Ø r).toArray)):=.mk λhr=>by refine Ν ?_;intro p k _ l m hr _;refine WC.mA hr [0,2,3] [2] [2,3] [2] (λ(⟨c,e⟩:Int×(Fin 8->Int))=>⟨(c,e),[(5,i' c)],tr,[(3,ú m (Ø e) 71)]⟩) (λ(f:(Fin 8->Int))=>⟨f,[],tr,[(3,ú m (Ø f) 71)]⟩) ⟨0,(λ_=>0)⟩
instance iI'{R r}:SpcM ((K0 R)) r (∀{H I},Cr 211 #[δ H R I] (λG=>sv G H I R) (iB (gf .i64 8) r)):=.mk λhr {H I}=>by
 refine Ν ?_;intro T G0 t g _ _ hr _;have p:=tS (w0:=T);refine oE hr λa J hr=>mW z z (x' IW z) (rF.h J) z (t) ln p (λZ D W v A=>?_);obtain⟨M,P,F,rfl,rfl,E⟩:=A;refine mw (λw C=>C.Ý (i:=7000) (j:=4010) z (by rw[g];rfl))<|Ο z<|o'<|sr<|ν z<|oE hr λaz O hr=>H' z z (x' IX z) (iG'.h O) z ((t.mono v))<|Ε (eM z z)<|nx<|I' hr z (λm hr=>?_) (λm hr=>?_)
 .refine Ν ?_;intro hr;obtain rfl:_=r:=hr;refine uB (r:=(gf .i64 8)) (e:=71) 4010 E z (by rw[g];rfl) λav ay N L S=>ur z z z ⟨_,_,z,L⟩
 refine Ν ?_;intro _ hr;refine nJ (X:=(Ŀ (Fin 8->Int))×ŀ Addr×Nat×ŀ Ow×Int×Mem) hr (λ⟨f,l,h,c,d,o⟩=>⟨(f,d),[(4,δ l f h),(19,i' d)],Mem.le D o/\Β (gf .i64 8) 71 o (δ l f h) f c,St T G0 o [(4004,c)]⟩) (λ(⟨n,s,q,k,u⟩:(Ŀ (Fin 8->Int))×ŀ Addr×Nat×ŀ Ow×Mem)=>⟨n,[(4,δ s n q)],Mem.le D u/\Β (gf .i64 8) 71 u (δ s n q) n k,St T G0 u [(4004,k)]⟩) ⟨a,M,P,F,0,D⟩ z (Æ z) ⟨mr,E⟩ ?_ ?_ ?_
 .intro w C;have C:=C.Ý (i:=4010) (j:=4004) z (by rw[g];rfl);exact C.weaken (lc z ln)
 .rintro _ ⟨f,l,h,c,d,o⟩ ⟨x,B⟩ hr;exact Η
 rintro⟨n,s,q,k,u⟩ ⟨hr,K,Q⟩;refine Ν ?_;intro hr;obtain rfl:_=r:=hr;refine uB (r:=(gf .i64 8)) (e:=71) 4004 Q z (by rw[g];rfl) λaw y U Y V=>ur z z z ⟨_,_,z,Y⟩
instance hF'{H d r}:SpcM ((Ka H d)) r (∀{y B},Cr 127 #[δ y H B,.agg (Ø d).toArray] (λG=>sv G y B H) (iB (gf .i64 8) r)):=.mk λhr {y B}=>by
 refine Ν ?_;intro W K _ R I _ _ b2 hr _;refine WC.mB hr [0,3,6,19] [3] [0,3] [3] (λ(⟨m,P⟩:Int×(Fin 8->Bool))=>⟨(m,P),[(20,i' m)],tr,[(6,ú b2 (õ Value.bool 8 P) 143)]⟩) (λ(_:Unit)=>⟨(.inr ()),[],tr,[]⟩) ⟨0,(λ_=>false)⟩ ?_;intro af _ hr ag _;refine Ν ?_;intro c Z _ F C _ _ hr _;refine oA hr λY hr=>WL.wo (r:=(gf .i64 8)) (e:=71) (n:=(c.1.length:Int)) (zx:=(λ_=>0)) 4047 z z tH od z ĳ ĳ z z z Y λQ X aD=>?_;refine æ ?_;intro hr;refine WC.mD hr [3,11,48,49] [3] [11] [] (λ(⟨q,h,f⟩:(Ŀ (Fin 8->Int))×ŀ Ow×Int)=>⟨(q,f),[(50,i' f)],λo=>Β (gf .i64 8) 71 o (.slice Q (c.1.length:Int).toNat ((c.1.length:Int).toNat)) q h,[(4047,h)]⟩) (λ(⟨L,t⟩:(Ŀ (Fin 8->Int))×ŀ Ow)=>⟨L,[],λV=>Β (gf .i64 8) 71 V (.slice Q (c.1.length:Int).toNat ((c.1.length:Int).toNat)) L t,[(4047,t)]⟩) ⟨(List.replicate (c.1.length:Int).toNat (λ_=>0)),X,0⟩ ?_ ?_
 .rintro _ o ⟨q,h,f⟩ v M hr;refine Ν ?_;intro _ x1 _ _ hr _;refine WC.mC hr [3,11,12,48,49,50,55] [3] [3,11,48,49,50] [3] (λ(⟨s,k,g⟩:(Ŀ (Fin 8->Int))×ŀ Ow×Int)=>⟨(s,g),[(56,i' g)],λJ=>Β (gf .i64 8) 71 J (.slice Q (c.1.length:Int).toNat ((c.1.length:Int).toNat)) s k,[(4047,k)]⟩) (λ(⟨A,l⟩:(Ŀ (Fin 8->Int))×ŀ Ow)=>⟨A,[],λO=>Β (gf .i64 8) 71 O (.slice Q (c.1.length:Int).toNat ((c.1.length:Int).toNat)) A l,[(4047,l)]⟩) ⟨q,h,0⟩ ?_;rintro _ J ⟨s,k,g⟩ S D hr;refine sr<|kD z<|nx<|o'<|I' hr z (λN hr=>?_) (λN hr=>?_)
  .refine q'<|b'<|o'<|Y'<|sr<|ν z<|oA hr λx hr=>Ε (Y0.index GO eC je z z x (tE _ _ _ x))<|dQ z<|Ο z<|fL [ff,ff,ff,ff,ff,ff,ff] eL İ λhb=>fN z ?_
   refine æ ?_;intro hr _;refine oE hr λx2 p hr=>cn (λ_ E=>pQ tH ow (D.mono E) z z p) ?_;refine æ ?_;intro hr U;exact WL.u6 (e:=71) (i:=f) (j:=Ζ d g) (u:=Ζ x1 g) 4047 z je z D z z z p U λaI au=>Η
  exact Η
 rintro V ⟨L,t⟩ hr aM T;refine Ν ?_;intro hr;obtain rfl:_=r:=hr;refine uB (r:=(gf .i64 8)) (e:=71) 4047 T z (by rw[R];rfl) λaY a1 aS a aR=>ur z z z ⟨_,_,(by rw[qT a]),(rD a)⟩
instance go'{e l r}:SpcM ((Ev e l)) r (∀{o x p u},Cr 69 #[.agg ([i' e.kind,δ o e.p x,δ p e.o u]).toArray,.agg (Ø l).toArray] (λG=>sl c' G o x e.p/\sv G p u e.o) (λG v=>∃k g h j,v=.tuple #[.agg ([i' r.1.kind,δ k r.1.p g,δ h r.1.o j]).toArray,i' r.2]/\sl c' G k g r.1.p/\sv G h j r.1.o)):=.mk λhr {o x p u}=>Η
instance Wa{m r}:SpcM ((Z4 m)) r (∀{c h},Cl 70 #[δ c m h] [] (λG=>sl Zr G c h m) (λG L v=>∃u x f,L=[(7000,f)]/\v=δ u r x/\Β Zr 56 G (δ u r x) r f)):=.mk λhr {c h}=>by
 refine Ν ?_;intro s d A hr g;refine Ε (Y0.sx uv z z)<|nx<|WC.Ê (p:=c=none) z (λk=>?_) (λk=>?_)
 .replace hr:=hr.1 (Δ.VY g k);refine sr<|Ο z<|m'<|a' ?_
  obtain rfl:_=r:=hr;refine mV (S':=St s d d [(7000,none)]) (wk (lw ln))<|j' z z ⟨_,_,_,z,z,(Β.nil (r:=Zr) (e:=56))⟩
 replace hr:=hr.2;refine q'<|b'<|sr<|WL.qZ (e:=56) (r:=Zr) (vs:=#[]) (cs:=[]) ([]:Ŀ Zb) 4005 z z z z z ĳ (λ_=>İ) (z) λE B t=>ν z<|oA hr λq hr=>WL.hM (r:=Zr) (e:=56) 4005 z z uv np z ĳ z z t z g q λD C l y=>Ο z<|m' ?_
 obtain rfl:_=r:=hr;refine mV (S':=St s d d [(7000,l)]) ?_ ?_
 .intro w o;have o:=o.Ý (i:=4005) (j:=7000) z (by rw[A];rfl);exact o.weaken (lc z ln)
 exact j' z z ⟨_,_,_,z,z,y⟩
instance Cf{g P m r}:SpcM ((xI g P m)) r (∀{n o C D s p X Z ae ad},Cr 27 #[.agg ((fS g n o)).toArray,.agg ((Ä P C D s p)).toArray,.agg ([i' m.kind,δ X m.p Z,δ ae m.o ad]).toArray] (λG=>sl Zr G n o g.t/\sq G C D P.eqs/\sq G s p P.neqs/\sl c' G X Z m.p/\sv G ae ad m.o) (Ç r)):=.mk λhr {n o C D s p X Z ae ad}=>by
 refine æ ?_;intro w0 G0 _ v _ H _ E _ t _ b1 b2 b3 b4 hr _;refine WC.nD hr [3,4,5,6] [3,4,5] (λ(⟨ax,L,M⟩:Ze×ŀ Addr×Nat)=>⟨[],Rm g P m,λaF=>sl Zr aF L M ax.t,[(6,ú b4 (fS ax L M) 26)]⟩) ?_ ?_
 .refine Ν ?_;intro _ _ hr _;refine pN ⟨G0,(Ze.mk [] 0),none,0⟩ ⟨hr,mr,(X' _ _)⟩ (Æ z) (w4 z z z z)
 rintro aF ⟨ax,L,M⟩ hr l bH;refine sr<|Ε (y' 4 lJ z z z)<|oE hr λaD ba hr=>gW z z (x' O9 z) (PY _ _ _ _ _ _ ba) z (⟨(E.mono l),(t.mono l)⟩) (λbU bv A aI=>?_)
 obtain⟨S,T,K,I,rfl,aw,ao⟩:=aI;refine ν z<|lR z<|lR z<|W' 105409 z rK z λb5=>W' 10 z va z λb6=>gu 105409 py z ?_
 refine æ ?_;intro af aC y ai aj ag ah aG aK b7 hr _;refine o'<|sr<|ν z<|Ε (qO z z)<|nx<|I' hr z (λbD hr=>?_) (λbD hr=>?_)
 .exact Η
 refine q'<|b'<|sr<|WL.makeMap (ky:=rI) (Rv:=mN (Rp.int .i64) aC) 4044 z z λay a1 a7=>W' 105413 z z138 z λb8=>?_
 refine æ ?_;intro hr;refine WC.mD (hH:=by exact a7) hr [3,6,9,11,13,46,47] [3,6,105409,11,105413] [3,6,9,11,13] [3,6,105409,11,105413] (λ(⟨U,N,Y⟩:Int×(Ŀ (Ĳ×Int))×ŀ Ow)=>⟨(U,N),[(48,i' U)],λF=>Ù rI (mN (Rp.int .i64) F) (.map (some ay)) N Y,[(4044,Y)]⟩) (λ(⟨R,W⟩:(Ŀ (Ĳ×Int))×ŀ Ow)=>⟨R,[],λaE=>Ù rI (mN (Rp.int .i64) aE) (.map (some ay)) R W,[(4044,W)]⟩) ⟨0,[],a1⟩ ?_ ?_
 .rintro _ F ⟨U,N,Y⟩ V aP hr;refine Ν ?_;intro _ d _ _ _ _ _ _ _ _ _ _ _ _ _ _ _ _ _ _ _ _ _ _ _ _ _ _ _ _ a3 hr _;obtain⟨⟨bA,bl⟩,hr⟩:=hr;refine WL.lT (Rv':=mN (Rp.int .i64) F) (k:=a3) (z:=d.id) 4044 z underlying138 aP z z z z bA z (λ_ _ _ _ h=>h) bl λbB bb=>t'<|Γ<|E'<|b'<|w'<|iP z<|ν z<|t'<|N' ⟨F,i64.wrap (U+1),(eV N a3 d.id),bB⟩ hr ⟨V,bb⟩ (Æ z) (w6 z z z z z z)
 rintro aE ⟨R,W⟩ hr J bd;refine b'<|o'<|fL [ff,ff,ff,ff,ff,ff,ff] eL İ λhb=>cn (λ_ c=>Y0.Z7 z)<|cn (λ_ c=>n' 3 jc z z z)<|oE hr λx bh hr=>γ.pS (f:=70) (r:=Zr) (e:=56) (xs:=x) (λ_=>z) (λu G' c hu=>?_) ?_
 .exact⟨_,_,_,λ_=>x' Pd z,Wa.h bh,z,((H.mono (mx (mx (mx l A) y) J)).mono c)⟩
 refine Ν ?_;intro hr;refine γ.lM (r:=Zr) (e:=56) (kk:=63) (xs:=x) (λO az=>.agg ([δ O x az,i' g.next]).toArray) (λ_=>z) z İ İ (λu G' c hu=>?_) ?_
 .obtain⟨aY,_⟩:=(show(gv Zr 56 63 x) (u 63) G'/\True from hu);exact⟨u 63,aY,λcp cc bt _=>me (vs:=#[(0,δ cp x cc),(1,i' g.next)]) (by simp only[ς,iF,ġ,Ŕ,bt]<;>rfl) z (λ_=>İ)⟩
 refine lr (λ_=>z) z26<|γ.yD λce bR bO X1 a aT Q bm=>vW aT (λb9 bq bx=>?_)
 subst bq;replace Q:=lq.drop Q ĳ bx;refine WL.oR Q (λO az aX a8 be bX=>?_);subst a8;refine mu (show WL _ _ _ _ _ _ (St w0 G0 X1.m _)from ?_);refine mw (λw B=>B.Ý (i:=16) (j:=105416) z (by rw[v];rfl))<|gu 105416 yB z<|t'<|Γ<|b'<|sr<|W' 105417 z O1 z λbw=>nr ?_
 refine æ ?_;intro hr;refine oE hr λcf bg hr=>mw (λw B=>B.Ý (i:=66) (j:=5000) z (by rw[v];rfl))<|mw (λw B=>B.Ý (i:=4044) (j:=5590) z (by rw[v];rfl))<|mW z z (YC.ym Pe z z) (Qh 5 _ _ _ _ _ _ _ _ _ _ _ _ _ _ _ _ _ (O,az,aX,W) _ bg) z ⟨⟨be,(Ù.mono bd a)⟩,⟨(aw.mono (mx (mx y J) a)),(ao.mono (mx (mx y J) a))⟩,(aG.mono (mx J a)),(aK.mono (mx J a))⟩ (lc z (lc z (lc z (lc z (lc z (lc z ln)))))) (by rw[v];intro q hq;cases hq) (λbN cd bL bK aL=>?_)
 obtain⟨⟨bS,bY,bG,bE⟩,rfl,rfl,⟨a9,bF⟩⟩:=aL;refine æ ?_;intro hr;refine o'<|sr<|ν z<|Ε (qO z z)<|nx<|I' hr z (λbs hr=>?_) (λbs hr=>?_)
 .exact Η
 refine q'<|b'<|sr<|pX (r:=Zr) (e:=56) 5000 a9 z (by rw[v];rfl) λbZ ca bI bf bJ=>Ε (y' 105416 uu z z z)<|ν z<|gu 6 yB z<|dQ z<|Ο z<|m' ?_
 obtain rfl:_=r:=hr;exact WE.Dp z (kJ (i:=6) uu z z z) z z ⟨_,_,z,bf⟩
instance dm'{W Z r}:SpcM ((A1 W Z)) r (∀{S R},Cr 19 #[.agg ((fS W S R)).toArray,i' Z] (λG=>sl Zr G S R W.t) (λG v=>∃J E u t P O K L,v=.tuple #[.agg ((fA r.1 J E u t P O K L)).toArray,.bool r.2]/\sq G J E r.1.k.eqs/\sq G u t r.1.k.neqs/\sl c' G P O r.1.q.p/\sv G K L r.1.q.o)):=.mk λhr {S R}=>by refine Ν ?_;intro w0 Y _ _ a hr _;refine WC.mA hr [1,4,9,10] [] [4] [] (λ(⟨x,p,e,f,c,d,l,h,m,j⟩:Int×Zb×ŀ Addr×Nat×ŀ Addr×Nat×ŀ Addr×Nat×ŀ Addr×Nat)=>⟨(x,p),[(11,i' x)],λq=>sq q e f p.k.eqs/\sq q c d p.k.neqs/\sl c' q l h p.q.p/\sv q m j p.q.o,[(4,ú a (fA p e f c d l h m j) 56)]⟩) (λ(⟨C,o,n,k,g,D,B,A,F⟩:Zb×ŀ Addr×Nat×ŀ Addr×Nat×ŀ Addr×Nat×ŀ Addr×Nat)=>⟨(.inr C),[],λI=>sq I o n C.k.eqs/\sq I k g C.k.neqs/\sl c' I D B C.q.p/\sv I A F C.q.o,[(4,ú a (fA C o n k g D B A F) 56)]⟩) ⟨0,(Zb.mk 0 (Zd.mk 0 [] []) (Zc.mk 0 [] []) 0 0 0 false),none,0,none,0,none,0,none,0⟩
instance fG'{i l r}:SpcM ((fu i l)) r (∀{f e c d k j},Cr 320 #[.agg ((Ä i.k f e c d)).toArray,δ k l j] (λG=>sq G f e i.k.eqs/\sq G c d i.k.neqs/\sl c' G k j l) (λG v=>v=.bool r)):=.mk λhr {f e c d k j}=>Η
instance dT'{s h r}:SpcM ((Pn s h)) r (∀{q p e f c d},Cr 319 #[δ q s p,.func (.func 320) #[.agg ((Ä h.k e f c d)).toArray] #[]] (λG=>sq G q p s/\sq G e f h.k.eqs/\sq G c d h.k.neqs) (λG v=>v=.bool r)):=.mk λhr {q p e f c d}=>by
 refine Ν ?_;intro B n _ _ _ _ k hr i;refine WC.mC hr [1,7,8] [] [] [] (λ(j:Int)=>⟨j,[(9,i' j)],tr,[]⟩) (λ(_:Unit)=>⟨(.inr ()),[],tr,[]⟩) 0 ?_;intro _ l j g _ hr;refine Ν ?_;intro _ _ _ _ _ _ _ _ _ hr C;exact oE hr λH x hr=>H' z z (YC.C9 I8 z z) (fG'.h x) z (⟨(k.mono g),(i.mono g),C⟩)<|Ε (k8 z)<|Η
instance fy'{i n r}:SpcM ((fk i n)) r (∀{f e c d k j},Cr 285 #[.agg ((Ä i.k f e c d)).toArray,δ k n j] (λG=>sq G f e i.k.eqs/\sq G c d i.k.neqs/\sq G k j n) (λG v=>v=.bool r)):=.mk λhr {f e c d k j}=>Η
instance ej'{i n r}:SpcM ((Å i n)) r (∀{f e c d l k},Cr 222 #[.agg ((Ä i.k f e c d)).toArray,δ l n k] (λG=>sq G f e i.k.eqs/\sq G c d i.k.neqs/\sq G l k n) (λG v=>v=.bool r)):=.mk λhr {f e c d l k}=>Η
instance fu'{c r}:SpcM ((Ej c)) r (Cr 223 #[i' c] (λG=>True) (λG v=>v=.bool r)):=.mk λhr=>Η
instance ha'{k r}:SpcM ((JB k)) r (∀{d e c g i j h f},Cr 321 #[.agg ((wJ k d e c g i j h f)).toArray] (λG=>su G d e k.lo.num.υ/\su G c g k.lo.den.υ/\su G i j k.hi.num.υ/\su G h f k.hi.den.υ) (λG v=>v=.bool r)):=.mk λhr {d e c g i j h f}=>Η
instance eX'{i r}:SpcM ((tC i)) r (∀{g d h f},Cr 322 #[.agg ((Τ i g d h f)).toArray] (λG=>su G g d i.num.υ/\su G h f i.den.υ) (λG v=>v=.bool r)):=.mk λhr {g d h f}=>Η
instance fH'{A Q r}:SpcM ((dR A Q)) r (∀{t s p q D S},Cr 287 #[.agg ((Ä A.k t s p q)).toArray,.agg (D).toArray] (λG=>sq G t s A.k.eqs/\sq G p q A.k.neqs/\É Z3 8 G D S Q) (λG v=>v=.bool r)):=.mk λhr {t s p q D S}=>by
 refine Ν ?_;intro W B _ _ _ _ _ Y _ hr E;refine Ε (y' 3 mR z z (lL E))<|ν z<|nx<|WC.mC hr [2,7] [2] [] [] (λ(u:Int)=>⟨u,[(8,i' u)],tr,[]⟩) (λ(_:Unit)=>⟨(.inr ()),[],tr,[]⟩) 0 ?_
 intro _ x u o _ hr;refine Ν ?_;intro _ hr;obtain⟨y,F,hr⟩:=hr;obtain⟨h,c,g,e,d,j,f,i,Z,l,n,m,k⟩:=Pz (wa (E.mono o) F);refine Ε (Y0.uI zO r5 ke z z (E.mono o) F Z z)<|W' 6 z O3 z λI=>dQ z<|gu 6 ke z<|nr<|ν z<|Ε (Y0.UH z)<|Ε (rA z)<|Ε (n' 2 eC z z z)<|eb hr z (Z' z z) z (λC hr=>?_) (λC hr=>?_)
 .refine ν z<|gy z z (y' 6 r5 z z z) z<|oE hr λU P hr=>H' (rV z z) z (x' I9 z) (ha'.h P) z (⟨l,n,m,k⟩) ?_
  cases U
  .refine Ν ?_;intro hr;refine È (Q7 z z) z<|È (Q7 z z) z<|È (Q7 z z) z<|È (Q7 z z) z<|È (Q7 z z) z<|È (Q7 z z) z<|È (Q7 z z) z<|È (Q7 z z) z<|È (Q7 z z) z<|sf z z z<|Θ z<|nx<|n1 z<|sr<|Ο z<|m'<|g'<|a'<|a'<|g'<|mT<|a' (Ö hr z z)
  refine gy z z (k8 z) z<|Θ z<|ν z<|kS z<|gy z z (Y0.UH z) z<|gy z z (rA z) z<|gy z z (n' 2 eC z z z) z<|eb hr (rV z z) (vP z z) z (λa hr=>?_) (λa hr=>?_)
  .exact Η
  exact kS z<|nT z<|È (Q7 z z) z<|È (Q7 z z) z<|È (Q7 z z) z<|yx z<|gy z z (f' z z) z<|ο z<|nx<|tM z<|Η
 refine ν z<|fz z<|ο z<|ν z<|kS z<|gy z z (Y0.UH z) z<|gy z z (rA z) z<|gy z z (n' 2 eC z z z) z<|eb hr (rV z z) (vP z z) z (λH hr=>?_) (λH hr=>?_)
 .exact Η
 exact kS z<|nT z<|È (Q7 z z) z<|È (Q7 z z) z<|È (Q7 z z) z<|yx z<|gy z z (f' z z) z<|ο z<|nx<|tM z<|Η
instance dV'{y h r}:SpcM ((Pp y h)) r (∀{x t e f c d},Cr 286 #[δ x y t,.func (.func 287) #[.agg ((Ä h.k e f c d)).toArray] #[]] (λG=>sl (Rp.arr Z3 8) G x t y/\sq G e f h.k.eqs/\sq G c d h.k.neqs) (λG v=>v=.bool r)):=.mk λhr {x t e f c d}=>by
 refine Ν ?_;intro F q _ _ _ p o hr l;refine WC.mC hr [1,7,8] [] [] [] (λ(m:Int)=>⟨m,[(9,i' m)],tr,[]⟩) (λ(_:Unit)=>⟨(.inr ()),[],tr,[]⟩) 0 ?_;intro _ i m g _ hr;refine Ν ?_;intro _ hr;refine oE hr λQ A hr=>Ε (kp uw l5 (p.mono g) z z A) ?_;obtain⟨M,k,D⟩:=(T' (iQ p A) g);exact Ε (nL _ mR z (lL (u:=()) k) (λj v K=>D j v (by simpa using K)))<|W' 6 z D5 z λP=>A' 6 z l5 z z z (lL (show É Z3 8 i jy () _ from zN (G:=i) (r:=Z3) (n:=8) (zc:=[.bool false,.slice none 0 0,.bool false,.slice none 0 0,.bool false,.slice none 0 0,.bool false,.slice none 0 0]) (z:=(Zl.mk (Zf.mk (Zg.mk false []) (Zg.mk false [])) (Zf.mk (Zg.mk false []) (Zg.mk false [])))) ⟨[.bool false,.slice none 0 0,.bool false,.slice none 0 0],[.bool false,.slice none 0 0,.bool false,.slice none 0 0],z,⟨[.bool false,.slice none 0 0],[.bool false,.slice none 0 0],z,⟨[.bool false],[.slice none 0 0],z,z,⟨_,z,(X' _ _)⟩⟩,⟨[.bool false],[.slice none 0 0],z,z,⟨_,z,(X' _ _)⟩⟩⟩,⟨[.bool false,.slice none 0 0],[.bool false,.slice none 0 0],z,⟨[.bool false],[.slice none 0 0],z,z,⟨_,z,(X' _ _)⟩⟩,⟨[.bool false],[.slice none 0 0],z,z,⟨_,z,(X' _ _)⟩⟩⟩⟩)) (lL (show É _ _ _ _ () _ from k)) (É.one (show É _ _ _ _ () _ from k))<|nr<|ν z<|Ε (y' 6 mR z z (lL (show É _ _ _ _ () _ from k)))<|oE hr λL C hr=>H' z z (YC.C9 I0 z z) (fH'.h C) z (⟨(o.mono g),(l.mono g),(show É _ _ _ _ () _ from k)⟩)<|Ε (k8 z)<|Η
instance eg'{i m r}:SpcM ((Â i m)) r (∀{f e c d j k},Cr 224 #[.agg ((Ä i.k f e c d)).toArray,δ j m k] (λG=>sq G f e i.k.eqs/\sq G c d i.k.neqs/\sl (Rp.arr Z3 8) G j k m) (λG v=>v=.bool r)):=.mk λhr {f e c d j k}=>Η
instance ia'{d r}:SpcM ((JY d)) r (Cr 226 #[i' d] (λG=>True) (λG v=>v=.bool r)):=.mk λhr=>Η
instance cB'{c r}:SpcM ((ZP c)) r (∀{j l d e i g k m f h},Cr 227 #[.agg ((jY c j l d e i g k m f h)).toArray] (λG=>sl c' G j l c.p/\sv G d e c.o/\sq G i g c.l/\sl (Rp.int .i64) G k m c.s/\sl (Rp.arr Z3 8) G f h c.b) (λG v=>v=.bool r)):=.mk λhr {j l d e i g k m f h}=>by
 refine J' (args:=[_]) (N:=51) func227 z z z (λJ I F s=>?_);obtain⟨o,t,p,n,q⟩:=s;refine sr<|jU 1 z z z λH=>dQ z<|nr<|Ε (zD z)<|Ε (n' 1 eC z z z)<|eb hr z (eM z z) z (λD hr=>?_) (λD hr=>?_)
 .refine ν z<|gy z z (zF z) z<|gy z z (n' 1 eC z z z) z<|eb hr (rV z z) (eM z z) z (λy hr=>?_) (λy hr=>?_)
  .refine Θ z<|ν z<|gy z z (xY z) z<|gy z z (n' 1 eC z z z) z<|eb hr (rV z z) (eM z z) z (λE hr=>?_) (λE hr=>?_)
   .refine Θ z<|ν z<|gy z z (zJ z) z<|gy z z (n' 1 eC z z z) z ?_
    exact Η
   exact Η
  exact Η
 exact Η
instance fI'{k r}:SpcM ((Ji k)) r (∀{j i},Cr 225 #[δ j k i,.func (.func 226) #[] #[]] (λG=>sl (Rp.int .i64) G j i k) (λG v=>v=.bool r)):=.mk λhr {j i}=>by refine Ν ?_;intro p g _ hr _;refine WC.mA hr [1,7,8] [] [] [] (λ(d:Int)=>⟨d,[(9,i' d)],tr,[]⟩) (λ(_:Unit)=>⟨(.inr ()),[],tr,[]⟩) 0
set_option maxHeartbeats 2000000 in
instance fn'{c r}:SpcM ((eZ c)) r (∀{s q n o m l h i e d f g j k},Cr 147 #[.agg ((DT c s q n o m l h i e d f g j k)).toArray] (λG=>sq G s q c.rules.k.eqs/\sq G n o c.rules.k.neqs/\sl c' G m l c.c.p/\sv G h i c.c.o/\sq G e d c.c.l/\sl (Rp.int .i64) G f g c.c.s/\sl (Rp.arr Z3 8) G j k c.c.b) (λG v=>v=.bool r)):=.mk λhr {s q n o m l h i e d f g j k}=>by
 refine J' (args:=[_]) (N:=150) func147 z z z (λw0 L a8 ay=>?_);obtain⟨x,u,D,B,C,A,y⟩:=ay;refine sr<|jU 1 z z z λS=>Ο z<|o'<|sr<|Ε (Y0.UK z)<|Ε (R' ((Ä c.rules.k s q n o)).toArray 1 r0 z z z (UZ ([]) ((Ä c.rules.k s q n o)) ((jY c.c m l h i e d f g j k))))<|oE hr λbb Y hr=>H' z z (x' If z) (ec'.h Y) z (⟨x,u⟩)<|Ε (k8 z)<|nx<|kh hr z (λW hr=>?_) (λW hr=>?_)
 .exact Η
 refine q' ?_;refine æ ?_;intro O M hr;refine WC.nD hr [1,3,4,5,15] [1,3,4] (λ(K:Bool)=>⟨[(16,.bool K)],í c K,tr,[]⟩) ?_ ?_
 .refine sr<|Ε (eM z z)<|Ο z<|I' hr z (λao hr=>?_) (λao hr=>?_)
  .exact Η
  refine sr<|Ε (eM z z)<|Ο z<|I' hr z (λZ hr=>?_) (λZ hr=>?_)
  .exact Η
  exact Η
 intro I K hr p _;refine kh hr z (λQ hr=>?_) (λQ hr=>?_)
 .exact Η
 refine WC.nD hr [1,3,4,5,15] [1,3,4] (λ(J:Bool)=>⟨[(26,.bool J)],ù c J,tr,[]⟩) ?_ ?_
 .refine sr<|Ε (eM z z)<|Ο z<|I' hr z (λaz hr=>?_) (λaz hr=>?_)
  .exact Η
  exact Η
 intro H J hr t _;refine kh hr z (λU hr=>?_) (λU hr=>?_)
 .exact Η
 refine sr<|Ε (eM z z)<|Ο z<|I' hr z (λE hr=>?_) (λE hr=>?_)
 .exact Η
 refine sr<|Ε (eM z z)<|Ο z<|I' hr z (λV hr=>?_) (λV hr=>?_)
 .exact Η
 refine sr<|Ε (eM z z)<|Ο z<|I' hr z (λT hr=>?_) (λT hr=>?_)
 .exact Η
 refine sr<|Ε (eM z z)<|Ο z<|I' hr z (λa hr=>?_) (λa hr=>?_)
 .exact Η
 refine sr<|Ε (eM z z)<|Ο z<|I' hr z (λR hr=>?_) (λR hr=>?_)
 .refine sr<|Ε (Y0.UK z)<|Ε (R' ((Ä c.rules.k s q n o)).toArray 1 r0 z z z (UZ ([]) ((Ä c.rules.k s q n o)) ((jY c.c m l h i e d f g j k))))<|Ε (Y0.VI z) ?_
  exact Η
 refine sr<|Ε (eM z z)<|Ο z<|I' hr z (λP hr=>?_) (λP hr=>?_)
 .exact Η
 refine WC.nC hr [3,4] [3,4] (λ(F:Bool)=>⟨[(138,.bool F)],ø c F,tr,[]⟩) ?_;refine sr<|Ε (eM z z)<|Ο z<|I' hr z (λX hr=>?_) (λX hr=>?_)
 .exact Η
 exact Η
instance iw'{h g r}:SpcM ((E1 h g)) r (∀{e f c d o q i j n l p s k m},Cr 82 #[.agg ((Ä h e f c d)).toArray,.agg ((jY g o q i j n l p s k m)).toArray] (λG=>sq G e f h.eqs/\sq G c d h.neqs/\sl c' G o q g.p/\sv G i j g.o/\sq G n l g.l/\sl (Rp.int .i64) G p s g.s/\sl (Rp.arr Z3 8) G k m g.b) (λG v=>v=.bool r)):=.mk λhr {e f c d o q i j n l p s k m}=>by
 refine Ν ?_;intro _ _ _ _ _ _ _ _ _ _ _ _ _ _ _ _ _ _ _;refine Ε (me (vs:=#[(0,.agg ((Ä h e f c d)).toArray)]) (v:=.agg ((Ä h e f c d)).toArray) z z (λ_=>İ))<|Ε (y' 3 BJ z z z)<|Ε (me (vs:=#[(0,.agg ((Ä h e f c d)).toArray),(1,.agg ((jY g o q i j n l p s k m)).toArray)]) (v:=.agg ([i' h.n,δ e h.eqs f,δ c h.neqs d,i' g.kind,δ o g.p q,i' g.n,i' g.d,i' g.r,δ i g.o j,δ n g.l l,δ p g.s s,δ k g.b m]).toArray) z z (λ_=>İ)) ?_
 exact Η
instance tQ{m p r}:SpcM ((Er m p)) r (∀{j n h l},Cr 85 #[δ j m n,δ h p l] (λG=>sv G j n m/\sv G h l p) (λG v=>v=.bool r)):=.mk λhr {j n h l}=>by refine Ν ?_;intro x i _ _ _ _ hr _;refine WC.mA hr [0,1,12] [] [] [] (λ(e:Int)=>⟨e,[(13,i' e)],tr,[]⟩) (λ(_:Unit)=>⟨(.inr ()),[],tr,[]⟩) 0
instance gv'{l f d r}:SpcM ((J5 l f d)) r (∀{i j h g y x s B A p E C q o t D u F},Cr 37 #[.agg ((Ä l i j h g)).toArray,.agg ([i' f.kind,δ y f.p x,δ s f.o B]).toArray,.agg ((jY d A p E C q o t D u F)).toArray] (λG=>sq G i j l.eqs/\sq G h g l.neqs/\sl c' G y x f.p/\sv G s B f.o/\sl c' G A p d.p/\sv G E C d.o/\sq G q o d.l/\sl (Rp.int .i64) G t D d.s/\sl (Rp.arr Z3 8) G u F d.b) (λG v=>v=.bool r)):=.mk λhr {i j h g y x s B A p E C q o t D u F}=>by
 refine æ ?_;intro _ _ _ _ _ _ _ _ _ _ _ _ _ _ _ _ _ _ _ _ _ _ hr _;refine I' hr z (λa hr=>?_) (λa hr=>?_)
 .exact Η
 refine sr<|Ε (eM z z)<|Ο z<|I' hr z (λm hr=>?_) (λm hr=>?_)
 .refine Ν ?_;intro _ _ _ _ _ _ _ _ _ _ _ _ _ _ _ _ _ hr _;refine È (Q7 z z) z<|È (Q7 z z) z<|È (Q7 z z) z<|È (Q7 z z) z<|yx z<|È (Q7 z z) z<|È (Q7 z z) z<|È (Q7 z z) z<|È (Q7 z z) z<|sf z z z<|Θ z<|Ο z<|m'<|g'<|a' (Ö hr z z)
 refine sr<|Ε (eM z z)<|Ο z<|I' hr z (λI hr=>?_) (λI hr=>?_)
 .exact Η
 refine sr<|Ε (eM z z)<|Ο z<|I' hr z (λk hr=>?_) (λk hr=>?_)
 .exact Η
 refine sr<|Ε (eM z z)<|Ο z<|I' hr z (λJ hr=>?_) (λJ hr=>?_)
 .exact Η
 refine sr<|Ε (eM z z)<|Ο z<|I' hr z (λH hr=>?_) (λH hr=>?_)
 .exact Η
 refine sr<|Ε (eM z z)<|Ο z<|I' hr z (λc hr=>?_) (λc hr=>?_)
 .exact Η
 refine sr<|Ε (eM z z)<|Ο z<|I' hr z (λn hr=>?_) (λn hr=>?_)
 .refine sr<|Ε (zD z)<|Ε (n' 5 eC z z z)<|eb hr z (eM z z) z (λe hr=>?_) (λe hr=>?_)
  .refine Ν ?_;intro hr;refine È (Q7 z z) z<|È (Q7 z z) z<|È (Q7 z z) z<|sf z z z<|Θ z<|Ο z<|m'<|g'<|a' (Ö hr z z)
  refine Ν ?_;intro _ hr;refine È (Q7 z z) z<|È (Q7 z z) z<|È (Q7 z z) z<|sf z z z<|Θ z<|Ο z<|m'<|g'<|a' (Ö hr z z)
 exact Η
instance ib'{t d r}:SpcM ((JX t d)) r (∀{y D A E n q g h m k p s j l},Cr 148 #[.agg ([i' t.kind,δ y t.p D,δ A t.o E]).toArray,.agg ((jY d n q g h m k p s j l)).toArray] (λG=>sl c' G y D t.p/\sv G A E t.o/\sl c' G n q d.p/\sv G g h d.o/\sq G m k d.l/\sl (Rp.int .i64) G p s d.s/\sl (Rp.arr Z3 8) G j l d.b) (λG v=>v=.tuple #[i' r.1,i' r.2])):=.mk λhr {y D A E n q g h m k p s j l}=>by
 refine æ ?_;intro R B _ _ _ _ _ _ _ _ _ _ _ _ _ _ H hr _;refine I' hr z (λV hr=>?_) (λV hr=>?_)
 .exact Η
 refine WC.nD hr [3] [3] (λ(o:Bool)=>⟨[(22,.bool o)],Ex d o,tr,[]⟩) ?_ ?_
 .refine sr<|Ε (eM z z)<|Ο z<|I' hr z (λI hr=>?_) (λI hr=>?_)
  .exact Η
  exact Η
 intro e o hr u _;refine kh hr z (λM hr=>?_) (λM hr=>?_)
 .refine æ ?_;intro hr;refine I' hr z (λL hr=>?_) (λL hr=>?_)
  .exact Η
  refine WC.nC hr [3,26] [3] (λ(i:Bool)=>⟨[(33,.bool i)],Ec d i,tr,[]⟩) ?_;refine sr<|Ε (eM z z)<|Ο z<|I' hr z (λK hr=>?_) (λK hr=>?_)
  .exact Η
  exact Η
 exact Η
instance iJ'{d J r}:SpcM ((KO d J)) r (∀{m l g e t v x u S U L M R P T V O Q},Cr 83 #[.agg ((fA d m l g e t v x u)).toArray,.agg ((jY J S U L M R P T V O Q)).toArray] (λG=>sq G m l d.k.eqs/\sq G g e d.k.neqs/\sl c' G t v d.q.p/\sv G x u d.q.o/\sl c' G S U J.p/\sv G L M J.o/\sq G R P J.l/\sl (Rp.int .i64) G T V J.s/\sl (Rp.arr Z3 8) G O Q J.b) (DY r)):=.mk λhr {m l g e t v x u S U L M R P T V O Q}=>by
 refine æ ?_;intro w0 G0 _ _ _ _ _ _ _ _ _ _ _ X _ a _ Y W I K N hr Z;refine WC.nB hr [2,3,4] [3,4] (λ(⟨c,k,j,h,f,p,o,n,q⟩:Zb×ŀ Addr×Nat×ŀ Addr×Nat×ŀ Addr×Nat×ŀ Addr×Nat)=>⟨[],Eo J c,λH=>sq H k j c.k.eqs/\sq H h f c.k.neqs/\sl c' H p o c.q.p/\sv H n q c.q.o,[(2,ú I (fA c k j h f p o n q) 56)]⟩) ?_;rintro H ⟨c,k,j,h,f,p,o,n,q⟩ hr D ⟨y,s,B,A⟩;refine sr<|Ε (Y0.MG z)<|Ε (R' ([i' c.q.kind,δ p c.q.p o,δ n c.q.o q]).toArray 2 oS z z z (UZ ([i' c.id,i' c.k.n,δ k c.k.eqs j,δ h c.k.neqs f]) ([i' c.q.kind,δ p c.q.p o,δ n c.q.o q]) ([i' c.η,i' c.low,i' c.high,.bool c.done])))<|Ε (y' 3 BJ z z z)<|oE hr λF C hr=>H' z z (x' Iq z) (ib'.h C) z (⟨B,A,(X.mono D),(a.mono D),(Y.mono D),(W.mono D),(Z.mono D)⟩)<|ν z<|lR z<|lR z<|dQ z<|dQ z<|nr<|Ε (Y0.MI z)<|Ε (n' 2 eC z z z)<|ν z<|Ε (Y0.max2 z z)<|Ε (Y0.MI z)<|rp 2 ([i' c.id,i' c.k.n,δ k c.k.eqs j,δ h c.k.neqs f,i' c.q.kind,δ p c.q.p o,δ n c.q.o q,i' c.η,i' (if c.low<F.1 then F.1 else c.low),i' c.high,.bool c.done]).toArray z je z z z (show 8<11 by decide) z z<|nx<|o'<|sr<|ν z<|eb hr z (vP z z) z (λE hr=>?_) (λE hr=>?_)
 .exact Η
 refine ν z<|nT z<|È (Q7 z z) z<|È (Q7 z z) z<|È (Q7 z z) z<|È (Q7 z z) z<|sk z z z<|ο z<|nx<|tM z<|q'<|b'<|sr<|Ε (y' 2 xU z z z)<|gu 4 kW z<|nx<|m' ?_
 obtain rfl:_=r:=hr;exact j' z (kJ (i:=4) xU z z z) ⟨_,_,_,_,_,_,_,_,z,y,s,B,A⟩
instance Nh{Y M C k r}:SpcM ((xn Y M C k)) r (∀{ah ai D E},Cr 36 #[.agg ((fS Y ah ai)).toArray,i' M,δ D C E,i' k] (λG=>sl Zr G ah ai Y.t/\sl yP G D E C) (jn r)):=.mk λhr {ah ai D E}=>by
 refine æ ?_;intro w0 G0 aj cF _ bd b1 b2 A b0 ag x t p q O L Q P aA au _ _ b3 hr _;refine o'<|sr<|ν z<|Ε (k8 z)<|nx<|kh hr z (λcV hr=>?_) (λcV hr=>?_)
 .exact Η
 refine q'<|b'<|WC.nB hr [1,2,3,4,8,10] [4,10] (λ(⟨bi,aW,aX⟩:Ze×ŀ Addr×Nat)=>⟨[],Qd Y M C k A bi,λa1=>sl Zr a1 aW aX bi.t,[(8,ú b2 (fS bi aW aX) 26)]⟩) ?_
 rintro a1 ⟨bi,aW,aX⟩ hr F bV;refine Ν ?_;intro hr;refine WC.mB hr [1,2,3,4,8,10,36,37] [4,10] [1,2,3,4,8,10] [4,10] (λ(⟨aV,a5,aI,aF⟩:Int×Ze×ŀ Addr×Nat)=>⟨(aV,a5),[(38,i' aV)],λa3=>sl Zr a3 aI aF a5.t,[(8,ú b2 (fS a5 aI aF) 26)]⟩) (λ(⟨aH,U,S⟩:Ze×ŀ Addr×Nat)=>⟨(.inr aH),[],λbz=>sl Zr bz U S aH.t,[(8,ú b2 (fS aH U S) 26)]⟩) ⟨0,bi,aW,aX⟩ ?_;rintro bz ⟨aH,U,S⟩ hr X cW;refine Ν ?_;intro hr;refine oE hr λbv ck hr=>H' z z (x' yI z) (yJ _ _ _ _ _ _ ck) z (⟨(aA.mono (mx F X)),(au.mono (mx F X))⟩)<|Ο z<|o'<|fL [ff,ff,ff,ff,ff,ff,ff] eL İ λhb=>?_
 refine æ ?_;intro hr;refine oE hr λB ct hr=>γ.pS (f:=70) (r:=Zr) (e:=56) (xs:=B) (λ_=>z) (λu G' a4 hu=>?_) ?_
 .exact⟨_,_,_,λ_=>x' Pd z,Wa.h ct,z,((bd.mono (mx (mx ag F) X)).mono a4)⟩
 refine Ν ?_;intro hr;refine γ.lM (r:=Zr) (e:=56) (kk:=54) (xs:=B) (λJ I=>.agg ([δ J B I,i' Y.next]).toArray) (λ_=>z) z İ İ (λu G' a4 hu=>?_) ?_
 .obtain⟨bS,_⟩:=(show(gv Zr 56 54 B) (u 54) G'/\True from hu);exact⟨u 54,bS,λcp cc cL _=>me (vs:=#[(0,δ cp B cc),(1,i' Y.next)]) (by simp only[ς,iF,ġ,Ŕ,cL]<;>rfl) z (λ_=>İ)⟩
 refine lr (λ_=>z) z26<|γ.yD λdu c7 c3 X1 bq bM aK cz=>vW bM (λb4 cH cO=>?_)
 subst cH;replace aK:=lq.drop aK ĳ cO;refine WL.oR aK (λJ I bP cd bL dn=>?_);subst cd;refine mu (show WL _ _ _ _ _ _ (St w0 G0 X1.m _)from ?_);refine æ ?_;intro hr;refine WC.mD hr [1,2,3,8,14,15,59,60] [8] [8,15] [8] (λ(⟨ab,H,s,y⟩:(Ŀ Zb)×ŀ Ow×Int×Int)=>⟨(ab,s,y),[(61,i' s)],λar=>Β Zr 56 ar (δ J B I) ab H,[(15,ú b4 ([δ J B I,i' y]) 26),(57,H)]⟩) (λ(⟨bs,aZ,aJ⟩:(Ŀ Zb)×ŀ Ow×Int)=>⟨(bs,aJ),[],λbw=>Β Zr 56 bw (δ J B I) bs aZ,[(15,ú b4 ([δ J B I,i' aJ]) 26),(57,aZ)]⟩) ⟨B,bP,0,Y.next⟩ ?_ ?_
 .rintro _ ar ⟨ab,H,s,y⟩ ao K hr;refine Ν ?_;intro _ x1 hr b8;obtain⟨ak,ap,ae,aa,a6,a7,ba,a9,cE,aL,av,bt,bx⟩:=KF (oF K b8);refine Ε (vV _ xU K (key:=57) z z z ĳ cE) ?_;refine æ ?_;intro b5 hr;refine WC.nC hr [1,2,3,8,14,15,16,17,59,60,61] [8,15,57] (λ(⟨c,h,j,d,g,o,l,n,m⟩:Zb×ŀ Addr×Nat×ŀ Addr×Nat×ŀ Addr×Nat×ŀ Addr×Nat)=>⟨[],yR M k ab s y c,λaz=>sq az h j c.k.eqs/\sq az d g c.k.neqs/\sl c' az o l c.q.p/\sv az n m c.q.o,[(17,ú b5 (fA c h j d g o l n m) 56)]⟩) ?_;refine Ν ?_;intro hr;refine oE hr λdw cq hr=>H' z z (x' yI z) (yJ _ _ _ _ _ _ cq) z (⟨aL,av⟩) ?_;refine æ ?_;intro hr;refine I' hr z (λcI hr=>?_) (λcI hr=>?_)
  .refine Ν ?_;intro hr;refine WC.mC hr [1,2,3,8,14,15,16,17,59,60,61,71,72] [8,15,57] [1,2,3,8,14,15,16,17,59,60,61] [8,15,57] (λ(⟨aT,a,af,Z,V,R,ay,aD,aC,aE⟩:Int×Zb×ŀ Addr×Nat×ŀ Addr×Nat×ŀ Addr×Nat×ŀ Addr×Nat)=>⟨(aT,a),[(73,i' aT)],λN=>sq N af Z a.k.eqs/\sq N V R a.k.neqs/\sl c' N ay aD a.q.p/\sv N aC aE a.q.o,[(17,ú b5 (fA a af Z V R ay aD aC aE) 56)]⟩) (λ(⟨v,ac,ad,W,T,aB,ax,aG,aw⟩:Zb×ŀ Addr×Nat×ŀ Addr×Nat×ŀ Addr×Nat×ŀ Addr×Nat)=>⟨v,[],λaR=>sq aR ac ad v.k.eqs/\sq aR W T v.k.neqs/\sl c' aR aB ax v.q.p/\sv aR aG aw v.q.o,[(17,ú b5 (fA v ac ad W T aB ax aG aw) 56)]⟩) ⟨0,x1,ak,ap,ae,aa,a6,a7,ba,a9⟩ ?_;rintro _ N ⟨aT,a,af,Z,V,R,ay,aD,aC,aE⟩ aU ⟨aY,aQ,bk,bf⟩ hr;refine sr<|kD z<|nx<|o'<|I' hr z (λcS hr=>?_) (λcS hr=>?_)
   .refine q'<|b'<|o'<|Y'<|sr<|oE hr λx4 bX hr=>Ε (kp M7 td (aj.mono (mx (mx (mx (mx (mx ag F) X) bq) ao) aU)) z z bX) ?_
    obtain⟨da,c5,c9,dk,c2,c1,dp,dj,dd,dm,cA,cf,cg,cr,cb,ch⟩:=QF (T' (iQ aj bX) (mx (mx (mx (mx (mx ag F) X) bq) ao) aU));refine Ε (nL _ BJ z z cA)<|W' 19 z H5 z λb6=>gu 19 td z<|nx<|w'<|Ε (y' 17 xU z z z)<|Ε (y' 19 BJ z z z)<|oE hr λcC b9 hr=>gW z z (x' Ys z) (iJ'.h b9) z (⟨aY,aQ,bk,bf,cf,cg,cr,cb,ch⟩) (λc0 cQ bR bB=>?_)
    obtain⟨bn,br,bj,bc,bN,bI,bJ,bH,rfl,bo,be,bO,bF⟩:=bB;exact gu 17 kW z<|Η
   exact Η
  exact Η
 rintro bw ⟨bs,aZ,aJ⟩ hr cX bT;refine b'<|sr<|pX (r:=Zr) (e:=56) 57 bT z (by rw[cF];rfl) λds dt cZ bp cY=>Ε (y' 15 uu z z z)<|gu 8 yB z<|Ο z<|m' ?_
 obtain rfl:_=r:=hr;exact ur z (kJ (i:=8) uu z z z) z ⟨_,_,(by first|rw[qT bp]|(unfold δ;rw[qT bp])),(rD bp)⟩
instance eY'{d c r}:SpcM ((JU d c)) r (∀{k j e g u q m t l i f h o s n p},Cr 21 #[.agg ((fA d k j e g u q m t)).toArray,.agg ((fA c l i f h o s n p)).toArray] (λG=>sq G k j d.k.eqs/\sq G e g d.k.neqs/\sl c' G u q d.q.p/\sv G m t d.q.o/\sq G l i c.k.eqs/\sq G f h c.k.neqs/\sl c' G o s c.q.p/\sv G n p c.q.o) (λG v=>v=.bool r)):=.mk λhr {k j e g u q m t l i f h o s n p}=>by
 refine Ν ?_;intro _ _ _ _ _ B _ y _ _ _ _ _ A _ x _ _ _ _ _ _ _ _ hr _;refine oE hr λK J hr=>H' (rV z z) z (x' D8 z) (Ez _ _ _ _ _ _ _ _ _ _ _ J) z (⟨B,y,A,x⟩) ?_;cases K
 .exact Η
 exact Η
instance eZ'{B u r}:SpcM ((FX B u)) r (∀{i n k h},Cr 14 #[.agg ((fS B i n)).toArray,.agg ((fS u k h)).toArray] (λG=>sl Zr G i n B.t/\sl Zr G k h u.t) (λG v=>v=.bool r)):=.mk λhr {i n k h}=>by refine Ν ?_;intro V q _ _ _ W T _ _ hr _;refine WC.mA hr [2,3] [2,3] [] [] (λ(A:Int)=>⟨A,[(5,i' A)],tr,[]⟩) (λ(_:Unit)=>⟨(.inr ()),[],tr,[]⟩) 0
instance ix'{c r}:SpcM ((KK c)) r (∀{g f e d k i j h},Cr 45 #[.agg ((fA c g f e d k i j h)).toArray] (λG=>sq G g f c.k.eqs/\sq G e d c.k.neqs/\sl c' G k i c.q.p/\sv G j h c.q.o) (λG v=>v=.bool r)):=.mk λhr {g f e d k i j h}=>by
 refine æ ?_;intro w0 O _ _ _ p _ m s J hr t;refine WC.nB hr [1] [1] (λ(_:Unit)=>⟨[],JR c,tr,[]⟩) ?_;intro B _ hr l _;refine WC.nB hr [1] [1] (λ(_:Unit)=>⟨[],PW c,tr,[]⟩) ?_;intro I _ hr o _;refine Ν ?_;intro hr;refine oE hr λP u hr=>gW z z (x' O9 z) (PY _ _ _ _ _ _ u) z (⟨(p.mono (mx l o)),(m.mono (mx l o))⟩) (λau ag q E=>?_);obtain⟨Q,R,K,M,rfl,A,y⟩:=E;refine ν z<|lR z ?_
 refine æ ?_;intro _ _ hr;refine o'<|o'<|fL [ff,ff,ff,ff] eL İ λL=>cn (λ_ n=>y' 3 lJ z z z)<|oE hr λaw S hr=>uy z (λ_=>x' yI z) (yJ _ _ _ _ _ _ S) z (λG' n=>⟨(A.mono n),(y.mono n)⟩)<|cn (λ_ n=>Y0.BA z)<|cn (λ_ n=>R' ((Ä c.k g f e d)).toArray 1 lJ z z z (UZ ([i' c.id]) ((Ä c.k g f e d)) ([i' c.q.kind,δ k c.q.p i,δ j c.q.o h,i' c.η,i' c.low,i' c.high,.bool c.done])))<|pL L<|oE hr λY W hr=>H' z z (x' yI z) (yJ _ _ _ _ _ _ W) z (⟨(p.mono (mx (mx l o) q)),(m.mono (mx (mx l o) q))⟩)<|Ε (Y0.Oy xV z z)<|t'<|Γ<|b'<|I' hr z (λx hr=>?_) (λx hr=>?_)
 .exact Η
 refine q'<|b'<|sr<|Ε (Y0.MG z)<|Ε (R' ([i' c.q.kind,δ k c.q.p i,δ j c.q.o h]).toArray 1 oS z z z (UZ ([i' c.id,i' c.k.n,δ g c.k.eqs f,δ e c.k.neqs d]) ([i' c.q.kind,δ k c.q.p i,δ j c.q.o h]) ([i' c.η,i' c.low,i' c.high,.bool c.done])))<|Ε (y' 4 lK z z (Zz _ _ _))<|oE hr λay U hr=>gW z z (x' Yn z) (go'.h U) z (⟨(s.mono (mx (mx l o) q)),(t.mono (mx (mx l o) q))⟩) (λav Z C F=>?_)
 obtain⟨ad,ac,af,ae,rfl,H,D⟩:=F;refine ν z<|lR z<|lR z<|W' 5 z z54 z λb4=>gu 5 ov z<|Ο z<|o'<|fL [ff,ff,ff,ff,ff,ff,ff] eL İ λL=>fN z<|zK hr z (λ_ n=>eM z z) (λN hr=>?_) (λN hr=>?_)
 .refine Ν ?_;intro hr;refine oE hr λaz T hr=>uy (rV z z) (λ_=>x' Jf z) (Kh _ _ _ _ _ _ T) z (λG' n=>⟨(H.mono n),(D.mono n)⟩) ?_;refine æ ?_;intro hr;obtain⟨X,V,hr⟩:=hr;have a:=mx (mx (mx l o) q) C;refine H' (rV z z) z (x' Jf z) (Kh _ _ _ _ _ _ V) z (⟨(s.mono a),(t.mono a)⟩)<|gy z z (Y0.uD xV z z) z<|Θ z<|dQ z<|t'<|Γ<|b'<|m' (Ö hr z z)
 exact Η
instance oZ{l r}:SpcM ((AQ l)) r (∀{i j},Cr 15 #[.agg ((fS l i j)).toArray] (λG=>sl Zr G i j l.t) (λG v=>v=.bool r)):=.mk λhr {i j}=>by
 refine æ ?_;intro Y O _ K hr _;refine WC.nB hr [1] [1] (λ(_:Unit)=>⟨[],Qf l,tr,[]⟩) ?_;intro J _ hr L _;refine sr<|WL.makeMap (ky:=rI) (Rv:=mN Rp.bool J) 4023 z z λP ad aj=>?_
 refine Ν ?_;intro hr;refine WC.mC hr [1,25,26,3] [1] [] [] (λ(⟨V,t,R,A⟩:Int×Int×(Ŀ (Ĳ×Bool))×ŀ Ow)=>⟨(V,t,R),[(4,i' V),(27,i' t)],λI=>Ù rI (mN Rp.bool I) (.map (some P)) R A,[(4023,A)]⟩) (λ(_:Unit)=>⟨(.inr ()),[],tr,[]⟩) ⟨0,0,[],ad⟩ ?_;rintro _ I ⟨V,t,R,A⟩ F T hr;refine sr<|kD z<|nx<|o'<|I' hr z (λX hr=>?_) (λX hr=>?_)
 .refine æ ?_;intro c _ _ f _ g _ e _ d _ m _ n _ p _ o _ _ _ _ B _ x D Z hr H;refine WC.nD hr [1,6,25,26,27,3] [1,6,4023] (λ(_:Unit)=>⟨[],Qe t R c,tr,[]⟩) ?_ ?_
  .refine Ν ?_;intro _ _ W hr _;exact oA hr λS hr=>gy z z (Y0.lE (mk:=Value.bool) (k:=W) 4023 false (λh=>LU h) B6 O5 T z z z S) z<|Η
  intro aa _ hr q _;refine Ν ?_;intro ag ab s au ak _ hr _;refine WC.mD hr [1,6,25,26,27,58,59,3] [1,6,4023] [1,6,25,26,27,3] [1,6,4023] (λ(E:Int)=>⟨E,[(60,i' E)],tr,[]⟩) (λ(_:Unit)=>⟨(.inr ()),[],tr,[]⟩) 0 ?_ ?_
  .intro _ Q E u _ hr;refine Ν ?_;intro _ _ _ _ _ _ _ _ _ _ _ _ _ _ _ _ _ N hr _;exact oA hr λC hr=>Ε (Y0.lE (mk:=Value.bool) (k:=N) 4023 false (λh=>LU h) B6 O5 (Ù.mono T (mx (mx q s) u)) z z z C)<|Ε (k8 z)<|Η
  intro M _ hr y _;refine b'<|sr<|ν z<|Ε (Y0.BA z)<|Ε (R' ((Ä c.k f g e d)).toArray 6 lJ z z z (UZ ([i' c.id]) ((Ä c.k f g e d)) ([i' c.q.kind,δ m c.q.p n,δ p c.q.o o,i' c.η,i' c.low,i' c.high,.bool c.done])))<|Ε (Y0.MG z)<|Ε (R' ([i' c.q.kind,δ m c.q.p n,δ p c.q.o o]).toArray 6 oS z z z (UZ ([i' c.id,i' c.k.n,δ f c.k.eqs g,δ e c.k.neqs d]) ([i' c.q.kind,δ m c.q.p n,δ p c.q.o o]) ([i' c.η,i' c.low,i' c.high,.bool c.done]))) ?_
  obtain⟨af,ao,hr⟩:=hr;have a:=mx (mx q s) y;refine H' z z (x' Jd z) (Fg _ _ _ _ _ _ _ _ _ _ _ ao) z (⟨(B.mono a),(x.mono a),(D.mono a),(H.mono a)⟩) ?_;obtain⟨⟨U,aw⟩,hr⟩:=hr;exact WL.lT (Rv':=mN Rp.bool M) (k:=af) (z:=true) 4023 z B6 (Ù.mono T a) z z z z U z (λ_ _ _ _ h=>h) aw λay ap=>nx<|w'<|Ε (Y0.MF z)<|Η
 exact Η
instance hG'{t u c r}:SpcM ((Kc t u c)) r (∀{B y x A p n D f g d e m l j i E},Cl 47 #[.agg ([i' t.kind,δ B t.p y,δ x t.o A]).toArray,iK D,iK E] [(5590,n),(103403,ú D ([.map (some p)]) 102),(103408,ú E (fA c f g d e m l j i) 56)] (λG=>sl c' G B y t.p/\sv G x A t.o/\Ù rI (mN Rp.bool G) (.map (some p)) u n/\sq G f g c.k.eqs/\sq G d e c.k.neqs/\sl c' G m l c.q.p/\sv G j i c.q.o) (λG L v=>L=[(5590,n),(103403,ú D ([.map (some p)]) 102),(103408,ú E (fA c f g d e m l j i) 56)]/\v=.bool r)):=.mk λhr {B y x A p n D f g d e m l j i E}=>by
 refine ry (args:=[_,_,_]) (N:=12) func47 z z z (λS Q T H=>?_);obtain⟨F,I,C,s,q,K,M⟩:=H;refine sr<|jU 3 z z z λV=>Ο z<|o'<|fL [ff,ff,ff,ff,ff] eL İ λR=>cn (λ_ o=>n' 103403 wx z z z)<|cn (λ_ o=>Y0.BA z)<|cn (λ_ o=>R' ((Ä c.k f g d e)).toArray 103408 lJ z z z (UZ ([i' c.id]) ((Ä c.k f g d e)) ([i' c.q.kind,δ m c.q.p l,δ j c.q.o i,i' c.η,i' c.low,i' c.high,.bool c.done])))<|cn (λ_ o=>y' 3 oS z z z)<|oE hr λP J hr=>uy z (λ_=>x' Jd z) (Fg _ _ _ _ _ _ _ _ _ _ _ J) z (λU o=>⟨(s.mono o),(q.mono o),(F.mono o),(I.mono o)⟩)<|pL R<|oA hr λO hr=>Ε (Y0.lE (mk:=Value.bool) (k:=P) 5590 false (λh=>LU h) B6 O5 C z z z O) ?_
 refine æ ?_;intro hr;obtain rfl:_=r:=hr;refine mV (S':=St S Q Q [(5590,n),(103403,ú D ([.map (some p)]) 102),(103408,ú E (fA c f g d e m l j i) 56)]) (w3 z z z)<|j' z z ⟨z,z⟩
instance dN'{t r}:SpcM ((ZS t)) r (∀{f e j h},Cl 49 #[.slice f j e,.func (.func 50) #[] #[]] [(5000,h)] (λG=>Β Zr 56 G (.slice f j e) t h) (λG L v=>∃k,L=[(5000,k)]/\v=.tuple #[]/\Β Zr 56 G (.slice f j e) r k)):=.mk λhr {f e j h}=>by
 refine ry (args:=[_,_]) (N:=14) func49 z z z (λq A u m=>?_);have d:=m;have a:q.L.zero:=by rw[u];intro p o x B;simp only[Ď,ĝ,ţ]at o;subst o;exact B5 d B
 refine sr<|ν z<|Ε (Y0.nv uv d z)<|Ο z<|w' ?_
 refine æ ?_;intro _ hr _;refine oE hr λE l hr=>mW z z (x' Yw z) (Zbb _ _ _ _ _ _ _ _ _ l) z (d) (lc z ln) a (λD s C y c=>?_);obtain⟨i,rfl,rfl,g⟩:=c;refine t'<|WE.jb ?_
 obtain rfl:_=r:=hr;refine mV (S':=St q A s [(5000,i)]) (w1 z)<|WE.iL z  ⟨_,z,z,g⟩
instance dt'{M J m r}:SpcM ((ZX M J m)) r (∀{I P o n u e f c d k j h g y},Cl 95 #[δ I M P,.func (.func 47) #[] #[iK u,iK y]] [(5590,n),(103403,ú u ([.map (some o)]) 102),(103408,ú y (fA m e f c d k j h g) 56)] (λG=>sl xh G I P M/\Ù rI (mN Rp.bool G) (.map (some o)) J n/\sq G e f m.k.eqs/\sq G c d m.k.neqs/\sl c' G k j m.q.p/\sv G h g m.q.o) (λG L v=>L=[(5590,n),(103403,ú u ([.map (some o)]) 102),(103408,ú y (fA m e f c d k j h g) 56)]/\v=i' r)):=.mk λhr {I P o n u e f c d k j h g y}=>by
 refine ry (args:=[_,_]) (N:=19) func95 z z z (λK A S U=>?_);obtain⟨O,B,t,q,E,F⟩:=U;have X:K.L.zero:=by
  rw[S];intro p Z x W;simp only[Ď,ĝ,ţ]at Z;rcases Z with rfl|rfl|rfl
  .exact Ù.zero B W
  .cases W;rfl
  cases W;rfl
 refine sr<|Ο z<|o'<|sr<|ν z<|Ε (P' M5 O z)<|ν z<|nx<|WC.mD hr [0,1,7] [103403,103408,5590] [] [103403,103408,5590] (λ(s:Int)=>⟨s,[(8,i' s)],tr,[]⟩) (λ(_:Unit)=>⟨(.inr ()),[],tr,[]⟩) 0 ?_ ?_
 .intro _ C s l _ hr;refine Ν ?_;intro _ _ _ _ _ _ _ _ _ _ _ _ _ _ V hr T;refine oE hr λam Y hr=>WL.lN z z (YC.ym Yd z z) (hG'.h Y) z (⟨V,T,(Ù.mono B l),(t.mono l),(q.mono l),(E.mono l),(F.mono l)⟩) (lc z (lc z (lc z ln))) (λi hi=>by simp only[ġ,Ŕ,Ď,ĝ,ţ]at hi;rcases hi with rfl|rfl|rfl<;>exact z) X (λai R Q H=>?_);subst H;refine nx<|kh hr z (λa hr=>?_) (λa hr=>?_)
  .refine Ν ?_;intro hr;obtain rfl:_=r:=hr;refine mV (S':=St K A R [(5590,n),(103403,ú u ([.map (some o)]) 102),(103408,ú y (fA m e f c d k j h g) 56)]) (w3 z z z)<|j' z z ⟨z,z⟩
  exact Η
 intro D _ hr af _;refine b'<|sr<|Ο z<|m' ?_
 obtain rfl:_=r:=hr;refine mV (S':=St K A D [(5590,n),(103403,ú u ([.map (some o)]) 102),(103408,ú y (fA m e f c d k j h g) 56)]) (w3 z z z)<|j' z z ⟨z,z⟩
instance dl'{F A g r}:SpcM ((ZG F A g)) r (∀{D E n m B e f c d l k j h C},Cl 48 #[δ D F E,.func (.func 47) #[] #[iK B,iK C]] [(5590,m),(103403,ú B ([.map (some n)]) 102),(103408,ú C (fA g e f c d l k j h) 56)] (λG=>sl xh G D E F/\Ù rI (mN Rp.bool G) (.map (some n)) A m/\sq G e f g.k.eqs/\sq G c d g.k.neqs/\sl c' G l k g.q.p/\sv G j h g.q.o) (λG L v=>L=[(5590,m),(103403,ú B ([.map (some n)]) 102),(103408,ú C (fA g e f c d l k j h) 56)]/\v=.bool r)):=.mk λhr {D E n m B e f c d l k j h C}=>by
 refine ry (args:=[_,_]) (N:=9) func48 z z z (λO U R H=>?_);obtain⟨P,s,q,o,t,u⟩:=H;have a:O.L.zero:=by
  rw[R];intro p M x I;simp only[Ď,ĝ,ţ]at M;rcases M with rfl|rfl|rfl
  .exact Ù.zero s I
  .cases I;rfl
  cases I;rfl
 refine sr<|dQ z<|nr<|ν z<|ν z<|oE hr λV J hr=>WL.lN z z (x' Yv z) (dt'.h J) z (⟨P,s,q,o,t,u⟩) (lc z (lc z (lc z ln))) (λi Q=>by simp only[ġ,Ŕ,Ď,ĝ,ţ]at Q;rcases Q with rfl|rfl|rfl<;>exact z) a (λT K S y=>?_)
 subst y;refine Ε (vP z z)<|Ο z<|m' ?_
 obtain rfl:_=r:=hr;refine mV (S':=St O U K [(5590,m),(103403,ú B ([.map (some n)]) 102),(103408,ú C (fA g e f c d l k j h) 56)]) (w3 z z z)<|j' z z ⟨z,z⟩
instance gp'{J r}:SpcM ((KN J)) r (∀{C D},Cr 17 #[.agg ((fS J C D)).toArray] (λG=>sl Zr G C D J.t) (fT (Rp.int .i64) r)):=.mk λhr {C D}=>by
 refine Ν ?_;intro w0 G0 ao b1 hr B;have hz:=tS (w0:=w0);refine WL.makeMap (ky:=rI) (Rv:=mN Rp.bool G0) 5590 z z λt a0 a6=>W' 103403 z OZ z λp=>?_;refine æ ?_;intro hr;refine nJ (X:=Int×(Ŀ (Ĳ×Bool))×ŀ Ow×Mem) hr (λ⟨W,aq,aa,af⟩=>⟨(W,aq),[(1,iK b1),(3,iK p),(15,δ C J.t D),(16,i' (J.t.length:Int)),(17,i' W)],Mem.le G0 af/\Ù rI (mN Rp.bool af) (.map (some t)) aq aa,St w0 G0 af [(1,ú b1 (fS J C D) 26),(103403,ú p ([.map (some t)]) 102),(5590,aa)]⟩) (λ(⟨aU,E,a⟩:(Ŀ (Ĳ×Bool))×ŀ Ow×Mem)=>⟨aU,[(1,iK b1),(3,iK p)],Mem.le G0 a/\Ù rI (mN Rp.bool a) (.map (some t)) aU E,St w0 G0 a [(1,ú b1 (fS J C D) 26),(103403,ú p ([.map (some t)]) 102),(5590,E)]⟩) ⟨0,[],a0,G0⟩ z (Æ z) ⟨mr,a6⟩ (w3 z z z) ?_ ?_
 .rintro _ ⟨W,aq,aa,af⟩ ⟨V,aE⟩ hr;refine Ν ?_;intro _ _ _ _ _ _ _ _ _ _ _ _ _ _ _ _ _ _ _ _ _ _ _ _ _ _ _ _ _ _ V a2 hr _;obtain⟨⟨bL,bm⟩,hr⟩:=hr;refine WL.lT (Rv':=mN Rp.bool af) (k:=a2) (z:=true) 5590 z B6 aE z z z z bL z (λ_ _ _ _ h=>h) bm λbt bg=>t'<|Γ<|E'<|b'<|w'<|iP z<|ν z<|t'<|N' ⟨i64.wrap (W+1),(eV aq a2 true),bt,af⟩ hr ⟨V,bg⟩ (Æ z) (w3 z z z)
 rintro⟨aU,E,a⟩ ⟨hr,ay,bc⟩;refine Ν ?_;intro hr;refine nJ (X:=(Ŀ Zb)×ŀ Addr×Nat×ŀ Ow×Int×Mem) hr (λ⟨A,I,F,u,H,aj⟩=>⟨(A,H),[(3,iK p),(6,δ I A F),(31,δ C J.t D),(32,i' (J.t.length:Int)),(33,i' H)],Mem.le a aj/\Β Zr 56 aj (δ I A F) A u,St w0 G0 aj [(103403,ú p ([.map (some t)]) 102),(4006,u),(5590,E)]⟩) (λ(⟨e,ah,ai,ak,Q⟩:(Ŀ Zb)×ŀ Addr×Nat×ŀ Ow×Mem)=>⟨e,[(6,δ ah e ai)],Mem.le a Q/\Β Zr 56 Q (δ ah e ai) e ak,St w0 G0 Q [(4006,ak),(5590,E)]⟩) ⟨[],none,0,none,0,a⟩ z (Æ z) ⟨mr,Β.nil⟩ (wk (lc z (lw (lc z ln)))) ?_ ?_
 .rintro _ ⟨A,I,F,u,H,aj⟩ ⟨y,U⟩ hr;refine sr<|kD z<|nx<|o'<|I' hr z (λbA hr=>?_) (λbA hr=>?_)
  .refine q'<|b'<|o'<|Y'<|sr<|oE hr λc a1 hr=>Ε (kp uv kW (B.mono (mx ay y)) z z a1) ?_
   obtain⟨m,l,d,f,s,o,q,n,bs,ar,al,aB,az⟩:=KF (T' (iQ B a1) (mx ay y));refine Ε (nL _ xU z z bs)<|W' 103408 z D6 z λb4=>gu 103408 kW z<|nr<|Ε (Y0.makeFunc z z)<|dQ z<|nr<|Ε (Y0.VG z)<|eb hr z (nN (n' 103408 uY z z z) (Ē Value.bool (M6 _))) z (λbO hr=>?_) (λbO hr=>?_)
   .exact Η
   refine Ν ?_;intro _ _ _ g _ _ bl hr _;refine oE hr λch bh hr=>WL.lN (rV z z) z (x' Ye z) (dl'.h bh) z (⟨bl,(Ù.mono bc (mx y g)),(ar.mono g),(al.mono g),(aB.mono g),(az.mono g)⟩) (lc z (lc z (lc z ln))) (λi hi=>by simp only[ġ,Ŕ,Ď,ĝ,ţ]at hi;rcases hi with rfl|rfl|rfl<;>exact z) hz (λb7 bK x aM=>?_);subst aM;refine gy z z (k8 z) z<|Θ z<|nx<|kh hr z (λbG hr=>?_) (λbG hr=>?_)
   .exact Η
   exact Η
  exact Η
 rintro⟨e,ah,ai,ak,Q⟩ ⟨hr,bS,aW⟩;refine b'<|sr<|ν z<|oE hr λbH ba hr=>mw (λw hs=>hs.Ý (i:=4006) (j:=5000) z (by rw[ao];rfl))<|mW z z (x' Yf z) (dN'.h ba) z (aW) (lc z ln) hz (λcc aR b9 bY aL=>?_)
 obtain⟨aQ,rfl,rfl,S⟩:=aL;refine mw (λw hs=>hs.Ý (i:=5000) (j:=4006) z (by rw[ao];rfl))<|nr<|Ο z<|o'<|sr<|ν z<|Ε (Y0.nv uv S z)<|ν z<|nx<|nJ (X:=(Ŀ Int)×ŀ Addr×Nat×ŀ Ow×Int×Mem) hr (λ⟨v,L,K,M,T,N⟩=>⟨(v,T),[(10,δ L v K),(61,δ ah e ai),(62,i' (bH.length:Int)),(63,i' T)],Mem.le aR N/\sl (Rp.int .i64) N L K v/\Tok 1 3 (δ L v K) v.length M,St w0 G0 N [(4006,aQ),(1010,M),(5590,E)]⟩) (λ(⟨O,Y,R,ad,P⟩:(Ŀ Int)×ŀ Addr×Nat×ŀ Ow×Mem)=>⟨O,[(10,δ Y O R)],Mem.le aR P/\sl (Rp.int .i64) P Y R O/\Tok 1 3 (δ Y O R) O.length ad,St w0 G0 P [(1010,ad),(5590,E)]⟩) ⟨[],none,0,none,0,aR⟩ z (Æ z) ⟨mr,(X' _ _),la⟩ (wk (lc z (lw (lc z ln)))) ?_ ?_
 .rintro _ ⟨v,L,K,M,T,N⟩ ⟨Z,aC,ap⟩ hr;refine Ν ?_;intro _ x1 hr a4;obtain⟨bo,br,be,a7,bT,bU,bX,bV,bu,bp,bj,bQ,bW⟩:=KF (AtK.mono (oF S a4) Z);refine Ε (vV _ xU (S.mono Z) (key:=4006) z z z ĳ bu) ?_;refine æ ?_;intro _ _ _ aJ bC hr;refine oA hr λa8 hr=>jV (r:=(Rp.int .i64)) 1010 z z zB Nn z ĳ z z (aC.mono aJ) z (by rw[ao];rfl) ap bC a8 λp2 bI bi bD aY bF bd=>dQ z<|t'<|E'<|b'<|w'<|iP z<|ν z<|t'<|N' ⟨(v++[x1.id]),p2,bI,bi,i64.wrap (T+1),bD⟩ hr ⟨(mx (mx Z aJ) aY),bF,bd⟩ (Æ z) (w3 z z z)
 rintro⟨O,Y,R,ad,P⟩ ⟨hr,bR,aS,bq⟩;exact Η
set_option maxHeartbeats 2000000 in
instance dR'{r}:SpcM ((JP)) r (Cr 9 #[] (λG=>True) (λG v=>v=.bool r)):=.mk λhr=>by
 refine Ν ?_;intro w0 G0 bl aI _ _ aA az bH hr _;refine nb (e:=50) (r:=(Rp.sl c')) (vs:=#[(0,δ aA aI.1 az)]) (cs:=[δ aA aI.1 az]++([])) ([aI.1]:Ŀ (Ŀ Za)) z z z z z ĳ (λ_=>İ) ⟨[δ aA aI.1 az],[],z,⟨_,z,bH⟩,z⟩ (key:=999) z (by rw[bl];rfl) λp1 eD dD a6=>Ε (me (vs:=#[(0,i' 1),(1,.slice p1 1 1)]) (v:=.agg ([i' 1,.slice p1 1 1,.slice none 0 0]).toArray) z z (λ_=>İ))<|W' 3 z rK z λb1=>gu 3 py z<|nx<|o'<|fL [ff,ff,ff,ff,ff,ff,tt,tt,ff] eL İ (λhb=>?_)
 refine oE hr λcw cV hr=>qM (post:=kI cw) (λ_=>z) (λ_ _=>x' H7 z) (Nw.h cV) z (λg d=>trivial) (λv W V d h=>?_) ?_
 .obtain⟨a8,a7,rfl,ay⟩:=h;exact⟨_,_,z,ay.mono d⟩
 refine Ν ?_;intro X hr _;refine oE hr λO cG hr=>mm (f:=27) (φ:=Ç O) (λ_=>z) (λv W V d h=>?_) (λu g d i=>?_) ?_
 .obtain⟨an,aq,rfl,S⟩:=h;exact⟨_,_,z,S.mono d⟩
 .obtain⟨⟨A,F,E,D,ce,av,aw⟩,⟨a8,a7,cd,ay⟩,_⟩:=(show(λG v=>∃A F E D,v=.agg ([i' X.kind,δ A X.p F,δ E X.o D]).toArray/\sl c' G A F X.p/\sv G E D X.o) g.m (u 38)/\(kI cw) g.m (u 36)/\True from i);exact⟨_,_,_,λ_=>x' Ag z,Cf.h cG,(by simp only[ce,cd]<;>rfl),⟨ay,(a6.mono d),(X' (Rp.sl c') _),av,aw⟩⟩
 refine ko (φ:=Ç O) (λ_=>z) (λv W V d h=>?_) (λu g d i=>?_) ?_
 .obtain⟨p2,aJ,rfl,aE⟩:=h;exact⟨_,_,z,aE.mono d⟩
 .obtain⟨⟨an,aq,cc,S⟩,_,_,_⟩:=(show(Ç O) g.m (u 39)/\True/\True/\True from i);simp only[ς,cc];exact⟨_,k' z,an,aq,z,S⟩
 refine ko (φ:=kI O.1) (λ_=>z) (λv W V d h=>?_) (λu g d i=>?_) ?_
 .obtain⟨p3,cp,rfl,a⟩:=h;exact⟨_,_,z,a.mono d⟩
 .obtain⟨⟨p2,aJ,am,aE⟩,_,_,_,_⟩:=(show(Ç O) g.m (u 35)/\True/\True/\True/\True from i);simp only[ς,am];exact⟨_,O' z z,p2,aJ,z,aE⟩
 refine nh (c:=i' O.2.1) (λ_=>z) (λu g d i=>?_) ?_
 .obtain⟨_,⟨p2,aJ,am,aE⟩,_,_,_,_⟩:=(show True/\(Ç O) g.m (u 35)/\True/\True/\True/\True from i);simp only[ς,am];exact O' z z
 refine nh (c:=i' O.2.2) (λ_=>z) (λu g d i=>?_) ?_
 .obtain⟨_,⟨p2,aJ,am,aE⟩,_,_,_,_⟩:=(show True/\(Ç O) g.m (u 35)/\True/\True/\True/\True from i);simp only[ς,am];exact O' z z
 refine lr (λ_=>z) z26<|γ.nG (λew d2 dY dZ ee d7 X1 a1 bw bd bg bf bb bi=>?_)
 obtain⟨b2,rfl,cI⟩:=bw;obtain⟨p3,cp,rfl,a⟩:=bd;obtain⟨p2,aJ,rfl,aE⟩:=bg;obtain⟨an,aq,rfl,S⟩:=bf;obtain⟨A,F,E,D,rfl,av,aw⟩:=bb;obtain⟨a8,a7,rfl,ay⟩:=bi;refine pY cI (mu (show WL _ _ _ _ _ _ (St w0 G0 X1.m _)from ?_));refine gu 4 yB z<|dQ z<|dQ z<|t'<|Γ<|b'<|o'<|fL [ff,ff,ff,ff,ff,ff,tt,tt,ff] eL İ λhb=>cn (λ_ d=>y' 4 uu z z z)<|cn (λ_ d=>y' 3 lJ z z z)<|oE hr λY c8 hr=>qM (post:=λG v=>∃C y B t,v=.agg ([i' Y.kind,δ C Y.p y,δ B Y.o t]).toArray/\sl c' G C y Y.p/\sv G B t Y.o) (λ_=>z) (λ_ _=>x' Yb z) (fM'.h c8) z (λg d=>trivial) (λv W V d h=>?_) ?_
 .obtain⟨C,y,B,t,rfl,ar,au⟩:=h;exact⟨_,_,_,_,z,ar.mono d,au.mono d⟩
 refine oE hr λaf cT hr=>mm (f:=27) (φ:=Ç af) (λ_=>z) (λv W V d h=>?_) (λu g d i=>?_) ?_
 .obtain⟨ao,ap,rfl,T⟩:=h;exact⟨_,_,z,T.mono d⟩
 .obtain⟨⟨C,y,B,t,ch,ar,au⟩,_⟩:=(show(λG v=>∃C y B t,v=.agg ([i' Y.kind,δ C Y.p y,δ B Y.o t]).toArray/\sl c' G C y Y.p/\sv G B t Y.o) g.m (u 46)/\True from i);exact⟨_,_,_,λ_=>x' Ag z,Cf.h cT,(by simp only[ch]<;>rfl),⟨(a.mono d),((a6.mono a1).mono d),(X' (Rp.sl c') _),ar,au⟩⟩
 refine ko (φ:=Ç af) (λ_=>z) (λv W V d h=>?_) (λu g d i=>?_) ?_
 .obtain⟨p4,aG,rfl,aD⟩:=h;exact⟨_,_,z,aD.mono d⟩
 .obtain⟨⟨ao,ap,bZ,T⟩,_,_⟩:=(show(Ç af) g.m (u 47)/\True/\True from i);simp only[ς,bZ];exact⟨_,k' z,ao,ap,z,T⟩
 refine ko (φ:=kI af.1) (λ_=>z) (λv W V d h=>?_) (λu g d i=>?_) ?_
 .obtain⟨p5,da,rfl,bu⟩:=h;exact⟨_,_,z,bu.mono d⟩
 .obtain⟨⟨p4,aG,ag,aD⟩,_,_,_⟩:=(show(Ç af) g.m (u 43)/\True/\True/\True from i);simp only[ς,ag];exact⟨_,O' z z,p4,aG,z,aD⟩
 refine nh (c:=i' af.2.1) (λ_=>z) (λu g d i=>?_) ?_
 .obtain⟨_,⟨p4,aG,ag,aD⟩,_,_,_⟩:=(show True/\(Ç af) g.m (u 43)/\True/\True/\True from i);simp only[ς,ag];exact O' z z
 refine nh (c:=i' af.2.2) (λ_=>z) (λu g d i=>?_) ?_
 .obtain⟨_,⟨p4,aG,ag,aD⟩,_,_,_⟩:=(show True/\(Ç af) g.m (u 43)/\True/\True/\True from i);simp only[ς,ag];exact O' z z
 refine lr (λ_=>z) z26<|yg (λeG dT d8 ed eh X2 R bI aV bh be bc=>?_)
 obtain⟨b3,rfl,c2⟩:=bI;obtain⟨p5,da,rfl,bu⟩:=aV;obtain⟨p4,aG,rfl,aD⟩:=bh;obtain⟨ao,ap,rfl,T⟩:=be;obtain⟨C,y,B,t,rfl,ar,au⟩:=bc;refine pY c2 (mu (show WL _ _ _ _ _ _ (St w0 G0 X2.m _)from ?_));refine gu 7 yB z<|dQ z<|dQ z<|t'<|Γ<|b'<|sr<|Ε (y' 4 uu z z z)<|ν z<|Ε (me (vs:=#[(0,i' 5),(2,i' 1)]) (v:=.agg ([i' 5,.slice none 0 0,i' 1,i' 0,i' 0,.slice none 0 0,.slice none 0 0,.slice none 0 0,.slice none 0 0]).toArray) z z (λ_=>İ))<|nb (e:=89) (r:=yP) (vs:=#[(0,.agg ([i' 5,.slice none 0 0,i' 1,i' 0,i' 0,.slice none 0 0,.slice none 0 0,.slice none 0 0,.slice none 0 0]).toArray)]) (cs:=[i' 5,.slice none 0 0,i' 1,i' 0,i' 0,.slice none 0 0,.slice none 0 0,.slice none 0 0,.slice none 0 0]++([])) ([(Zk.mk 5 [] 1 0 0 [] [] [] [])]:Ŀ Zk) z z z z z ĳ (λ_=>İ) ⟨[i' 5,.slice none 0 0,i' 1,i' 0,i' 0,.slice none 0 0,.slice none 0 0,.slice none 0 0,.slice none 0 0],[],z,⟨[i' 5],[.slice none 0 0,i' 1,i' 0,i' 0,.slice none 0 0,.slice none 0 0,.slice none 0 0,.slice none 0 0],z,z,⟨[.slice none 0 0],[i' 1,i' 0,i' 0,.slice none 0 0,.slice none 0 0,.slice none 0 0,.slice none 0 0],z,⟨_,z,(X' _ _)⟩,⟨[i' 1],[i' 0,i' 0,.slice none 0 0,.slice none 0 0,.slice none 0 0,.slice none 0 0],z,z,⟨[i' 0],[i' 0,.slice none 0 0,.slice none 0 0,.slice none 0 0,.slice none 0 0],z,z,⟨[i' 0],[.slice none 0 0,.slice none 0 0,.slice none 0 0,.slice none 0 0],z,z,⟨[.slice none 0 0],[.slice none 0 0,.slice none 0 0,.slice none 0 0],z,⟨_,z,(X' _ _)⟩,⟨[.slice none 0 0],[.slice none 0 0,.slice none 0 0],z,⟨_,z,(X' _ _)⟩,⟨[.slice none 0 0],[.slice none 0 0],z,⟨_,z,(X' _ _)⟩,⟨_,z,(X' _ _)⟩⟩⟩⟩⟩⟩⟩⟩⟩,z⟩ (key:=999) z (by rw[bl];rfl) (λp6 eE s dl=>?_)
 refine oE hr λeo cf hr=>gW z z (x' Jc z) (Nh.h cf) z (⟨(a.mono (mx R s)),dl⟩) (λdG ex x aQ=>?_);obtain⟨cZ,cK,rfl,aZ⟩:=aQ;refine ν z<|lR z<|lR z<|W' 10 z z26 z λb4=>gu 10 yB z<|Ο z<|o'<|fL [ff,ff,ff,ff,ff,ff,tt,tt,ff] eL İ λhb=>cn (λ_ d=>y' 4 uu z z z)<|cn (λ_ d=>y' 3 lJ z z z) ?_
 refine æ ?_;intro I hr _;refine oE hr λM ck hr=>mm (f:=27) (φ:=Ç M) (λ_=>z) (λv W V d h=>?_) (λu g d i=>?_) ?_
 .obtain⟨ab,ac,rfl,J⟩:=h;exact⟨_,_,z,J.mono d⟩
 .obtain⟨⟨j,l,k,q,bj,aj,ak⟩,_⟩:=(show(λG v=>∃j l k q,v=.agg ([i' I.kind,δ j I.p l,δ k I.o q]).toArray/\sl c' G j l I.p/\sv G k q I.o) g.m (u 62)/\True from i);exact⟨_,_,_,λ_=>x' Ag z,Cf.h ck,(by simp only[bj]<;>rfl),⟨((a.mono (mx (mx R s) x)).mono d),((a6.mono (mx (mx (mx a1 R) s) x)).mono d),(X' (Rp.sl c') _),aj,ak⟩⟩
 refine ko (φ:=Ç M) (λ_=>z) (λv W V d h=>?_) (λu g d i=>?_) ?_
 .obtain⟨p7,aF,rfl,N⟩:=h;exact⟨_,_,z,N.mono d⟩
 .obtain⟨⟨ab,ac,bk,J⟩,_,_⟩:=(show(Ç M) g.m (u 63)/\True/\True from i);simp only[ς,bk];exact⟨_,k' z,ab,ac,z,J⟩
 refine ko (φ:=kI M.1) (λ_=>z) (λv W V d h=>?_) (λu g d i=>?_) ?_
 .obtain⟨p8,dx,rfl,ct⟩:=h;exact⟨_,_,z,ct.mono d⟩
 .obtain⟨⟨p7,aF,P,N⟩,_,_,_⟩:=(show(Ç M) g.m (u 59)/\True/\True/\True from i);simp only[ς,P];exact⟨_,O' z z,p7,aF,z,N⟩
 refine nh (c:=i' M.2.1) (λ_=>z) (λu g d i=>?_) ?_
 .obtain⟨_,⟨p7,aF,P,N⟩,_,_,_⟩:=(show True/\(Ç M) g.m (u 59)/\True/\True/\True from i);simp only[ς,P];exact O' z z
 refine nh (c:=i' M.2.2) (λ_=>z) (λu g d i=>?_) ?_
 .obtain⟨_,⟨p7,aF,P,N⟩,_,_,_⟩:=(show True/\(Ç M) g.m (u 59)/\True/\True/\True from i);simp only[ς,P];exact O' z z
 refine lr (λ_=>z) z26<|yg (λeu dJ dS dK dB X3 ad bz aM a5 aT aX=>?_)
 obtain⟨b5,rfl,cW⟩:=bz;obtain⟨p8,dx,rfl,ct⟩:=aM;obtain⟨p7,aF,rfl,N⟩:=a5;obtain⟨ab,ac,rfl,J⟩:=aT;obtain⟨j,l,k,q,rfl,aj,ak⟩:=aX;refine pY cW (mu (show WL _ _ _ _ _ _ (St w0 G0 X3.m _)from ?_));refine æ ?_;intro _ _ _ U _ _ _ _ _ _ _ ai _ _ _ _ _ cA ax _ _ _ _ _ _ _ _ _ _ _ _ _ hr _;refine WC.nD hr [3,4] [3,4] (λ(_:Unit)=>⟨[],Jo aI O,tr,[]⟩) ?_ ?_
 .refine sr<|ν z<|eb hr z (qO z z) z (λdi hr=>?_) (λdi hr=>?_)
  .exact Η
  refine ν z<|kS z<|eb hr (rV z z) (qO z z) z (λdz hr=>?_) (λdz hr=>?_)
  .exact Η
  refine ο z<|ν z<|kS z<|eb hr (rV z z) (qO z z) z (λdt hr=>?_) (λdt hr=>?_)
  .exact Η
  refine ο z<|ν z<|kS z<|eb hr (rV z z) (qO z z) z (λdn hr=>?_) (λdn hr=>?_)
  .exact Η
  refine ο z<|ν z<|kS z<|eb hr (rV z z) (qO z z) z (λcQ hr=>?_) (λcQ hr=>?_)
  .exact Η
  refine ο z<|ν z<|kS z<|eb hr (rV z z) (qO z z) z (λc1 hr=>?_) (λc1 hr=>?_)
  .exact Η
  refine ο z<|ν z<|kS z<|kS z<|eb hr (rV z z) (qO z z) z (λcP hr=>?_) (λcP hr=>?_)
  .exact Η
  refine ο z<|ν z<|gy z z (y' 4 uu z z z) z<|gy z z (y' 7 uu z z z) z ?_
  obtain⟨cL,bT,hr⟩:=hr;have N1:=mx (mx (mx (mx (mx (mx R s) x) ad) U) ai) ax;refine H' (rV z z) z (x' XY z) (eZ'.h bT) z (⟨(a.mono N1),(bu.mono (mx (mx (mx (mx (mx s x) ad) U) ai) ax))⟩) ?_;cases cL
  .exact Η
  refine gy z z (k8 z) z<|ο z<|ν z<|eb hr (rV z z) (nN (k' z) (Ē Value.bool (M6 _))) z (λc9 hr=>?_) (λc9 hr=>?_)
  .refine gy z z (k8 z) z<|ο z<|ν z<|gy z z (Y0.VG z) z<|eb hr (rV z z) (nN (n' 19 uY z z z) (Ē Value.bool (M6 _))) z (λc4 hr=>?_) (λc4 hr=>?_)
   .exact Η
   exact Η
  exact Η
 intro bJ _ hr a9 _;refine o'<|fL [ff,ff,ff,ff,ff,ff,tt,tt,ff] eL İ λhb=>cn (λ_ d=>y' 4 uu z z z)<|cn (λ_ d=>y' 3 lJ z z z) ?_
 refine æ ?_;intro H hr _;refine oE hr λK bW hr=>mm (f:=27) (φ:=Ç K) (λ_=>z) (λv W V d h=>?_) (λu g d i=>?_) ?_
 .obtain⟨Z,aa,rfl,L⟩:=h;exact⟨_,_,z,L.mono d⟩
 .obtain⟨⟨p,o,n,m,bm,ah,ae⟩,_⟩:=(show(λG v=>∃p o n m,v=.agg ([i' H.kind,δ p H.p o,δ n H.o m]).toArray/\sl c' G p o H.p/\sv G n m H.o) g.m (u 141)/\True from i);have N2:=mx (mx (mx (mx (mx (mx (mx (mx a1 R) s) x) ad) U) ai) ax) a9;have N3:=mx (mx (mx (mx (mx (mx (mx R s) x) ad) U) ai) ax) a9;exact⟨_,_,_,λ_=>x' Ag z,Cf.h bW,(by simp only[bm]<;>rfl),⟨((a.mono N3).mono d),((a6.mono N2).mono d),(X' (Rp.sl c') _),ah,ae⟩⟩
 refine ko (φ:=Ç K) (λ_=>z) (λv W V d h=>?_) (λu g d i=>?_) ?_
 .obtain⟨p9,aH,rfl,aC⟩:=h;exact⟨_,_,z,aC.mono d⟩
 .obtain⟨⟨Z,aa,bs,L⟩,_,_⟩:=(show(Ç K) g.m (u 142)/\True/\True from i);simp only[ς,bs];exact⟨_,k' z,Z,aa,z,L⟩
 refine ko (φ:=kI K.1) (λ_=>z) (λv W V d h=>?_) (λu g d i=>?_) ?_
 .obtain⟨db,cE,rfl,aS⟩:=h;exact⟨_,_,z,aS.mono d⟩
 .obtain⟨⟨p9,aH,Q,aC⟩,_,_,_⟩:=(show(Ç K) g.m (u 138)/\True/\True/\True from i);simp only[ς,Q];exact⟨_,O' z z,p9,aH,z,aC⟩
 refine nh (c:=i' K.2.1) (λ_=>z) (λu g d i=>?_) ?_
 .obtain⟨_,⟨p9,aH,Q,aC⟩,_,_,_⟩:=(show True/\(Ç K) g.m (u 138)/\True/\True/\True from i);simp only[ς,Q];exact O' z z
 refine nh (c:=i' K.2.2) (λ_=>z) (λu g d i=>?_) ?_
 .obtain⟨_,⟨p9,aH,Q,aC⟩,_,_,_⟩:=(show True/\(Ç K) g.m (u 138)/\True/\True/\True from i);simp only[ς,Q];exact O' z z
 refine lr (λ_=>z) z26<|yg (λet dP dW dF dL X4 ea bB aY a2 aL a0=>?_)
 obtain⟨b9,rfl,cN⟩:=bB;obtain⟨db,cE,rfl,aS⟩:=aY;obtain⟨p9,aH,rfl,aC⟩:=a2;obtain⟨Z,aa,rfl,L⟩:=aL;obtain⟨p,o,n,m,rfl,ah,ae⟩:=a0;refine pY cN (mu (show WL _ _ _ _ _ _ (St w0 G0 X4.m _)from ?_));refine æ ?_;intro hr;refine o'<|sr<|ν z<|Ε (qO z z)<|nx<|I' hr z (λdh hr=>?_) (λdh hr=>?_)
 .exact Η
 refine q'<|b'<|sr<|Ε (y' 21 uu z z z)<|ν z<|Ε (me (vs:=#[(0,i' 12),(2,i' 5)]) (v:=.agg ([i' 12,.slice none 0 0,i' 5,i' 0,i' 0,.slice none 0 0,.slice none 0 0,.slice none 0 0,.slice none 0 0]).toArray) z z (λ_=>İ))<|Ε (me (vs:=#[(0,i' 12),(2,i' 7)]) (v:=.agg ([i' 12,.slice none 0 0,i' 7,i' 0,i' 0,.slice none 0 0,.slice none 0 0,.slice none 0 0,.slice none 0 0]).toArray) z z (λ_=>İ))<|nb (e:=89) (r:=yP) (vs:=#[(0,.agg ([i' 12,.slice none 0 0,i' 5,i' 0,i' 0,.slice none 0 0,.slice none 0 0,.slice none 0 0,.slice none 0 0]).toArray),(1,.agg ([i' 12,.slice none 0 0,i' 7,i' 0,i' 0,.slice none 0 0,.slice none 0 0,.slice none 0 0,.slice none 0 0]).toArray)]) (cs:=[i' 12,.slice none 0 0,i' 5,i' 0,i' 0,.slice none 0 0,.slice none 0 0,.slice none 0 0,.slice none 0 0]++([i' 12,.slice none 0 0,i' 7,i' 0,i' 0,.slice none 0 0,.slice none 0 0,.slice none 0 0,.slice none 0 0]++([]))) ([(Zk.mk 12 [] 5 0 0 [] [] [] []),(Zk.mk 12 [] 7 0 0 [] [] [] [])]:Ŀ Zk) z z z z z ĳ (λ_=>İ) ⟨[i' 12,.slice none 0 0,i' 5,i' 0,i' 0,.slice none 0 0,.slice none 0 0,.slice none 0 0,.slice none 0 0],[i' 12,.slice none 0 0,i' 7,i' 0,i' 0,.slice none 0 0,.slice none 0 0,.slice none 0 0,.slice none 0 0]++([]),z,⟨[i' 12],[.slice none 0 0,i' 5,i' 0,i' 0,.slice none 0 0,.slice none 0 0,.slice none 0 0,.slice none 0 0],z,z,⟨[.slice none 0 0],[i' 5,i' 0,i' 0,.slice none 0 0,.slice none 0 0,.slice none 0 0,.slice none 0 0],z,⟨_,z,(X' _ _)⟩,⟨[i' 5],[i' 0,i' 0,.slice none 0 0,.slice none 0 0,.slice none 0 0,.slice none 0 0],z,z,⟨[i' 0],[i' 0,.slice none 0 0,.slice none 0 0,.slice none 0 0,.slice none 0 0],z,z,⟨[i' 0],[.slice none 0 0,.slice none 0 0,.slice none 0 0,.slice none 0 0],z,z,⟨[.slice none 0 0],[.slice none 0 0,.slice none 0 0,.slice none 0 0],z,⟨_,z,(X' _ _)⟩,⟨[.slice none 0 0],[.slice none 0 0,.slice none 0 0],z,⟨_,z,(X' _ _)⟩,⟨[.slice none 0 0],[.slice none 0 0],z,⟨_,z,(X' _ _)⟩,⟨_,z,(X' _ _)⟩⟩⟩⟩⟩⟩⟩⟩⟩,⟨[i' 12,.slice none 0 0,i' 7,i' 0,i' 0,.slice none 0 0,.slice none 0 0,.slice none 0 0,.slice none 0 0],[],z,⟨[i' 12],[.slice none 0 0,i' 7,i' 0,i' 0,.slice none 0 0,.slice none 0 0,.slice none 0 0,.slice none 0 0],z,z,⟨[.slice none 0 0],[i' 7,i' 0,i' 0,.slice none 0 0,.slice none 0 0,.slice none 0 0,.slice none 0 0],z,⟨_,z,(X' _ _)⟩,⟨[i' 7],[i' 0,i' 0,.slice none 0 0,.slice none 0 0,.slice none 0 0,.slice none 0 0],z,z,⟨[i' 0],[i' 0,.slice none 0 0,.slice none 0 0,.slice none 0 0,.slice none 0 0],z,z,⟨[i' 0],[.slice none 0 0,.slice none 0 0,.slice none 0 0,.slice none 0 0],z,z,⟨[.slice none 0 0],[.slice none 0 0,.slice none 0 0,.slice none 0 0],z,⟨_,z,(X' _ _)⟩,⟨[.slice none 0 0],[.slice none 0 0,.slice none 0 0],z,⟨_,z,(X' _ _)⟩,⟨[.slice none 0 0],[.slice none 0 0],z,⟨_,z,(X' _ _)⟩,⟨_,z,(X' _ _)⟩⟩⟩⟩⟩⟩⟩⟩⟩,z⟩⟩ (key:=999) z (by rw[bl];rfl) (λeH ez ci cY=>?_)
 refine oE hr λek cg hr=>gW z z (x' Jc z) (Nh.h cg) z (⟨(aS.mono ci),cY⟩) (λdU ev dX aK=>?_);obtain⟨cM,cO,rfl,aN⟩:=aK;refine ν z<|lR z<|lR z<|W' 24 z z26 z λeF=>gu 24 yB z<|dQ z<|nr<|Ε (y' 24 uu z z z)<|ν z<|oE hr λd9 b0 hr=>gW z z (x' X0 z) (dm'.h b0) z (aN) (λdV el ds aP=>?_)
 obtain⟨bM,bL,bC,bt,cD,cr,cq,co,rfl,bP,bv,cv,cm⟩:=aP;refine ν z<|lR z<|lR z<|W' 26 z D6 z λey=>gu 26 kW z<|dQ z<|nr<|ν z<|eb hr z (eM z z) z (λdA hr=>?_) (λdA hr=>?_)
 .refine ν z<|eb hr (rV z z) (nN (k' z) (Ē Value.bool (M6 _))) z (λdp hr=>?_) (λdp hr=>?_)
  .refine Θ z<|ν z<|gy z z (Y0.MJ z) z<|gy z z (n' 26 eC z z z) z<|eb hr (rV z z) (eM z z) z (λdd hr=>?_) (λdd hr=>?_)
   .refine Θ z<|ν z<|gy z z (Y0.MI z) z<|gy z z (n' 26 eC z z z) z<|eb hr (rV z z) (eM z z) z (λdq hr=>?_) (λdq hr=>?_)
    .refine Θ z<|ν z<|gy z z (Y0.VG z) z<|eb hr (rV z z) (nN (n' 26 uY z z z) (Ē Value.bool (M6 _))) z (λde hr=>?_) (λde hr=>?_)
     .exact Η
     refine gy z z (k8 z) z<|Θ z<|ν z<|oE hr λej bS hr=>gW (rV z z) z (x' H7 z) (Nw.h bS) z (trivial) (λdO eq dg aO=>?_)
     obtain⟨dj,df,rfl,bq⟩:=aO;refine oE hr λcU bX hr=>H' (rV z z) z (x' O6 z) (oZ.h bX) z (bq) ?_;cases cU
     .exact Η
     refine Θ z<|ν z<|oE hr λec bU hr=>gW (rV z z) z (x' H7 z) (Nw.h bU) z (trivial) (λdC en dv a4=>?_)
     obtain⟨dm,dy,rfl,bo⟩:=a4;refine oE hr λei bY hr=>gW (rV z z) z (x' XZ z) (gp'.h bY) z (bo) (λdI d5 dk aU=>?_);obtain⟨dM,dH,rfl,bR⟩:=aU;refine gy z z (P' zB bR z) z<|gy z z (eM z z) z<|Θ z<|Ο z<|m' (Ö hr z z)
    exact Η
   exact Η
  exact Η
 exact Η
instance im'{r}:SpcM ((Va)) r (Cr 11 #[] (λG=>True) (kI r)):=.mk λhr=>Η
instance jk'{c r}:SpcM ((Gt c)) r (Cr 118 #[.int .i8 c] (λG=>True) (λG v=>v=i' r)):=.mk λhr=>Η
end Go.Proofs.YtepbagkffgddlaaGreat

