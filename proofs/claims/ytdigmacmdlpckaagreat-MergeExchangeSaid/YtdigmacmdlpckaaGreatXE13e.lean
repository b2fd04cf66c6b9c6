/- The law MergeExchange holds for every input: a part of its proof (what the code does, plain models, and what they return). No condition. -/
import Derived.Test.YtdigmacmdlpckaaGreatXE13d
import Derived.Test.YtdigmacmdlpckaaGreatXE13c
import Derived.Test.YtdigmacmdlpckaaGreatXE13b
set_option linter.unusedVariables false
set_option linter.unusedSimpArgs false
namespace Go.Proofs.YtdigmacmdlpckaaGreat
open Go.IntKind (i8 i16 i32 i64 u8 u16 u32 u64)
open Go.Proofs.Tryz
open Go Go.EL Go.RowKit Go.Proofs
theorem dx'{k r}(a:(Mf k).ο r):ò prog 102 #[.slice none 0 0,i' k] [] (λ_=>True) (λG L v=>∃ s t f,L=[(7000,f)]/\v=ε s r t/\Η (Rp.sl n') 49 G (ε s r t) r f):=by
 obtain⟨⟨C,D⟩,a⟩:=a
 replace a:[]=r:=a
 subst a
 obtain⟨m,rfl⟩:∃ m:Nat,k=m:=⟨k.toNat,by omega⟩
 refine qz (args:=[_,_]) (N:=27) func102 z z z λn e u _=>sr<|θ z<|c'<|sr<|δ z<|Ï z<|nx<|lJ (by rw[show decide ((m:Int)<0)=false from ċ (by omega)]; rfl)<|o'<|a'<|c'<|sr<|δ z<|δ z<|γ (Y0.B6 Ζ z)<|δ z<|γ (Y0.mU Ζ z)<|γ (nU z z)<|γ (nU z z) ?_
 have y:i64.wrap ((m:Int)-i64.wrap (((0:Nat):Int)-((0:Nat):Int)))=m:=by simp only[Į]; omega
 rw[y]
 refine θ z<|sr<|δ z<|γ (kr z z)<|nx<|WC.iD (p:=(0:Int)<(m:Int)) z (λA=>?_) (λA=>?_)
 .refine p'<|δ z<|δ z<|γ (Y0.B6 Ζ z)<|γ (Y0.Lg Ζ iG z z)<|δ z<|WL.tr (sz:=1) (bytes:=24) (m:=m) 7001 z z Ζ nQ o9 z (by decide) (by decide) z z (by omega) (by simp only[small]; omega) λq c g x B=>δ z<|γ (Y0.mU Ζ z)<|γ (Y0.FQ (l:=0) (h:=0) (m:=c) (b:=q) (o:=0) Ζ iG z z ⟨_,z⟩ z (č _) (ġ _) (č _)) ?_
  simp only[fT,ŷ,ite_self,fP]
  refine ς z<|q'<|a'<|sr<|δ z<|θ z<|m'<|oZ (S':=St n e e [(7000,Ξ q g 49)]) (λw d=>?_) (k' z z ⟨_,_,_,z,z,⟨c,[],g,z,z,z,z,B,x,ġ _⟩⟩)
  have d:=d.î (i:=7001) (j:=7000) z (by rw[u]; rfl)
  exact d.weaken (lc z ln)
 refine o'<|a'<|sr<|δ z<|θ z<|m'<|oZ (S':=St n e e [(7000,none)]) (λw d=>d.weaken (lw ln)) (k' z z ⟨_,_,_,z,z,Η.nil⟩)
theorem TD(l:Ŀ Ĳ)(p:ŀ Addr)(c n:Nat)(e:ŀ Ow)(r:Ŀ Ĳ)(a:(Dq l).ο r):ò prog 57 #[.slice p n c] [(5000,e)] (λG=>Η Rp.str 9 G (.slice p n c) l e) (λG L v=>∃ d,L=[(5000,d)]/\v = .tuple #[]/\Η Rp.str 9 G (.slice p n c) r d):=by
 obtain⟨f,a⟩:=a
 obtain rfl:_=r:=a
 by_cases g:n=l.length
 .subst g
  exact uj Tryz.uj z 9 p c l e (by omega)
 exact ò.absurd λG h=>g (aar h.eqv).2.1
theorem TP(l:Ŀ Int)(p:ŀ Addr)(c n:Nat)(e:ŀ Ow)(r:Ŀ Int)(a:(Z8 l).ο r):ò prog 89 #[.slice p n c] [(5000,e)] (λG=>Η (Rp.int .i64) 3 G (.slice p n c) l e) (λG L v=>∃ d,L=[(5000,d)]/\v = .tuple #[]/\Η (Rp.int .i64) 3 G (.slice p n c) r d):=by
 obtain⟨f,a⟩:=a
 obtain rfl:_=r:=a
 by_cases g:n=l.length
 .subst g
  exact ui Tryz.ui z 3 p c l e (by omega)
 exact ò.absurd λG h=>g (aar h.eqv).2.1
theorem KM{l i r}(a:(zl l i).ο r):ä prog 144 #[.agg (Ι l).toArray,.agg (Ι i).toArray] (λG=>True) (λG v=>v=i' r):=by
 refine E' (args:=[_,_]) (N:=25) func144 z z z λu g C B=>sr<|ý 2 z z z λk=>ý 3 z z z λj=>θ z<|c'<|sr<|γ (w' 2 iL z z (M' _ _ _))<|γ (w' 3 iL z z (M' _ _ _))<|γ (Y0.yB lK nQ ñ gh vt z z)<|nx<|J' a z (λy a=>?_) (λy a=>?_)
 .refine sr<|θ z<|m'<|b' (Μ a z z)
 refine o'<|a'<|sr<|θ z<|c'<|Z' (X:=Int×Mem) a (λ⟨f,d⟩=>⟨f,[(2,Τ k),(3,Τ j),(5,i' f)],Mem.le g d,St u g d [(2,Ξ k (Ι l) 99),(3,Ξ j (Ι i) 99)]⟩) (λ(⟨s,h⟩:Int×Mem)=>⟨s,[(2,Τ k),(3,Τ j),(5,i' s)],Mem.le g h,St u g h [(2,Ξ k (Ι l) 99),(3,Ξ j (Ι i) 99)]⟩) ⟨0,g⟩ z (υ z) mr (w2 z z) ?_ ?_
 .rintro _ ⟨f,d⟩ e a
  refine c'<|c'<|hZ [ff,ff,ff,ff,ff,ff] gp (by kernel_rfl) λq=>ù z<|oA a λp a=>cn (λ_ c=>k0 lK gh z z p)<|cn (λ_ c=>f' 2 ñ z z (mh _ _ _ p))<|ù z<|oA a λo a=>cn (λ_ c=>k0 lK gh z z o)<|cn (λ_ c=>f' 3 ñ z z (mh _ _ _ o))<|jz q<|γ (iI z z)<|q'<|fh<|a'<|J' a z (λx a=>?_) (λx a=>?_)
  .refine o'<|a'<|V'<|p'<|δ z<|é z<|ς z<|q'<|A'<|K' ⟨i64.wrap (f+1),d⟩ a e (υ z) (w2 z z)
  refine Æ<|g'<|g'<|H'<|Ë ⟨f,d⟩ ⟨a,e⟩ (υ z) (w2 z z)
 rintro⟨s,h⟩ ⟨a,A⟩
 refine a'<|c'<|c'<|hZ [ff,ff,ff,ff,ff,ff] gp (by kernel_rfl) λq=>ù z<|oA a λm a=>cn (λ_ c=>k0 lK gh z z m)<|cn (λ_ c=>f' 2 ñ z z (mh _ _ _ m))<|ù z<|oA a λn a=>cn (λ_ c=>k0 lK gh z z n)<|cn (λ_ c=>f' 3 ñ z z (mh _ _ _ n))<|jz q<|Ï z<|q'<|fh<|a'<|J' a z (λt a=>?_) (λt a=>?_)
 .refine sr<|θ z<|m'<|b' (Μ a z z)
 refine o'<|a'<|sr<|θ z<|m' (Μ a z z)
theorem eE'{l k j h g f i d c e r}(a:(Mi l k).ο r):ä prog 155 #[.agg (((χ l.c j h g f):Ŀ Value)++(Ι l.m)).toArray,.agg (((χ k.c i d c e):Ŀ Value)++(Ι k.m)).toArray] (λG=>sl (Rp.int .u32) G j h l.c.num.Α/\sl (Rp.int .u32) G g f l.c.den.Α/\sl (Rp.int .u32) G i d k.c.num.Α/\sl (Rp.int .u32) G c e k.c.den.Α) (λG v=>v=i' r):=by
 refine E' (args:=[_,_]) (N:=10) func155 z z z (λA y u q=>?_)
 obtain⟨m,n,p,o⟩:=q
 refine sr<|ý 2 z z z λB=>ý 3 z z z λx=>ς z<|nr<|γ (lV z)<|γ (gZ (Ι k.m).toArray 3 iL z z (M' _ _ _) (hC ((χ k.c i d c e)) (Ι k.m) ([])))<|γ (lV z)<|γ (gZ (Ι l.m).toArray 2 iL z z (M' _ _ _) (hC ((χ l.c j h g f)) (Ι l.m) ([])))<|oE a λt s a=>I' z z (x' xj z) (KM s) z (trivial)<|θ z<|m' (Μ a z z)
theorem gT':Go.Sort.SWO (Go.Proofs.ltOf (λa b:Za=>gO b.m a.m)):=⟨λx=>yP.irrefl x.m,λx y z=>yP.trans x.m y.m z.m,λx y z=>yP.ntrans x.m y.m z.m⟩
theorem cI'{l a b i p c n C r}(V:(ZW l a b i).ο r):ò prog 214 #[.slice p n c,i' a,i' b,i' i,.func (.func 155) #[] #[]] [(5000,C)] (λG=>Η n' 159 G (.slice p n c) l C) (λG L v=>∃ s,L=[(5000,s)]/\v = .tuple #[]/\Η n' 159 G (.slice p n c) r s):=by
 obtain⟨⟨rfl,rfl,⟨R,U⟩,Q⟩,V⟩:=V
 obtain⟨k,rfl⟩:∃ k:Nat,i=k:=⟨i.toNat,by omega⟩
 refine (Lm (r:=n') (sz:=12) z (by decide) gT' Tryz.CX z (λ_=>by kernel_rfl) (λ_=>by kernel_rfl) (λx y T S w G O K=>?_) Gl 159 p n c l C k (by omega) (by omega)).mono (λ_ h=>h) (λG L v ⟨E,D,H,P,I,N,J⟩=>?_)
 .obtain⟨M,F⟩:=K
  obtain⟨u,B,o,j,rfl,g,d⟩:=NB M
  obtain⟨A,m,t,q,rfl,f,e⟩:=NB F
  exact eE' (show (Mi x y).ο (gO y.m x.m) from ⟨_,Hq y.m x.m,z⟩) w G O ⟨g,d,f,e⟩
 have:E=r:=V E ⟨N,J.imp (λh=>by simpa [Go.Proofs.ltOf] using h)⟩
 subst this
 exact⟨D,H,P,I⟩
theorem fj'{n r}(a:(MS n).ο r):ä prog 166 #[.int .u64 n] (λG=>True) (λG v=>v=i' r):=by
 refine E' (args:=[_]) (N:=25) func166 z z z λm f B A=>sr<|θ z<|k5 a (λ(⟨i,j,d⟩:Int×Int×Mem)=>⟨[(0,.int .u64 i),(2,i' j)],Mt i j,Mem.le f d,St m f d []⟩) ?_ ?_
 .refine sr<|δ z<|γ (kO z z)<|nx<|J' a z (λq a=>?_) (λq a=>?_)
  .exact (show False from a).elim
  refine o'<|ia ⟨n,0,f⟩ ⟨a,mr⟩ (υ z) (wk ln)
 rintro⟨i,j,d⟩ ⟨a,u⟩
 refine k5 a (λ(⟨g,h,c⟩:Int×Int×Mem)=>⟨[(0,.int .u64 g),(2,i' h)],Ms g h,Mem.le d c,St m f c []⟩) ?_ ?_
 .refine sr<|δ z<|γ (kO z z)<|nx<|J' a z (λp a=>?_) (λp a=>?_)
  .exact (show False from a).elim
  refine o'<|ia ⟨i,j,d⟩ ⟨a,mr⟩ (υ z) (wk ln)
 rintro⟨g,h,c⟩ ⟨a,y⟩
 refine k5 a (λ(⟨k,l,e⟩:Int×Int×Mem)=>⟨[(0,.int .u64 k),(2,i' l)],Mr k l,Mem.le c e,St m f e []⟩) ?_ ?_
 .refine sr<|δ z<|γ (kO z z)<|nx<|J' a z (λt a=>?_) (λt a=>?_)
  .exact (show False from a).elim
  refine o'<|ia ⟨g,h,c⟩ ⟨a,mr⟩ (υ z) (wk ln)
 rintro⟨k,l,e⟩ ⟨a,x⟩
 refine sr<|δ z<|δ z<|γ (jF Y' pJ z) ?_
 obtain⟨o,a⟩:=a
 refine γ (yz (s:=HK) qq z z o)<|γ (jF pJ nQ z)<|é z<|θ z<|m' (Μ a z z)
theorem RZ{d r}(a:(v7 d).ο r):ä prog 101 #[.int .u64 d] (λG=>True) (λG v=>v=i' r):=by
 refine E' (args:=[_]) (N:=8) func101 z z z λh i g e=>sr<|θ z<|c'<|lJ z<|o'<|a'<|sr<|δ z<|oE a λf c a=>I' z z (x' Gm z) (fj' c) z (trivial)<|θ z<|m' (Μ a z z)
theorem cB'{t f e j h r}(a:(ZE t).ο r):ò prog 154 #[.slice f j e,.func (.func 155) #[] #[]] [(5000,h)] (λG=>Η n' 159 G (.slice f j e) t h) (λG L v=>∃ k,L=[(5000,k)]/\v = .tuple #[]/\Η n' 159 G (.slice f j e) r k):=by
 refine qz (args:=[_,_]) (N:=14) func154 z z z (λq A u m=>?_)
 have d:=m
 have w:q.L.zero:=by
  rw[u]; intro p o x B
  simp only[ą,ĝ,ŝ] at o
  subst o; exact wK d B
 refine sr<|δ z<|γ (Y0.tW F' d z)<|θ z<|p'<|δ z<|δ z<|δ z<|γ (jF nQ underlying188 z)<|oE a λF n a=>I' z z (x' z8 z) (RZ n) z (trivial)<|δ z<|oE a λE l a=>nO z z (x' GD z) (cI' l) z (d) (lc z ln) w (λD s C y c=>?_)
 obtain⟨i,rfl,rfl,g⟩:=c
 refine q'<|FJ ?_
 obtain rfl:_=r:=a
 refine oZ (S':=St q A s [(5000,i)]) (w1 z)<|FK z  ⟨_,z,z,g⟩
theorem zQ{f d c r}(a:(xF f).ο r):ä prog 176 #[.agg ((ι f d c)).toArray] (λG=>sl (Rp.int .u32) G d c f.Α) (λG v=>v=i' r):=by
 refine E' (args:=[_]) (N:=9) func176 z z z (λl m j g=>?_)
 have e:=g
 refine sr<|ý 1 z z z λk=>θ z<|c'<|sr<|γ (jk z)<|γ (f' 1 jm z z z)<|γ (N' t' e z)<|γ (iI z z)<|nx<|J' a z (λi a=>?_) (λi a=>?_)
 .refine sr<|θ z<|m'<|b' (Μ a z z)
 refine o'<|a'<|c'<|sr<|γ (mM z)<|γ (f' 1 kX z z z)<|nx<|iC a z (λh a=>?_) (λh a=>?_)
 .refine sr<|θ z<|m'<|b' (Μ a z z)
 refine o'<|a'<|sr<|θ z<|m' (Μ a z z)
theorem yq{h d c f e r}(a:(ZL h).ο r):ä prog 107 #[.agg ((χ h d c f e)).toArray] (λG=>sl (Rp.int .u32) G d c h.num.Α/\sl (Rp.int .u32) G f e h.den.Α) (λG v=>v=i' r):=by
 refine E' (args:=[_]) (N:=6) func107 z z z (λo p m j=>?_)
 obtain⟨g,i⟩:=j
 refine sr<|ý 1 z z z λn=>ς z<|nr<|γ (pn z)<|γ (gZ ((ι h.num d c)).toArray 1 Ò z z z (hC ([]) ((ι h.num d c)) ((ι h.den f e))))<|oE a λl k a=>I' z z (x' r7 z) (zQ k) z (g)<|θ z<|m' (Μ a z z)
theorem KH{o l h r}(a:(AQ o).ο r):ò prog 98 #[.map (some l)] [(5500,h)] (λG=>ü mq (kp pj G) (.map (some l)) o h) (λG L v=>L=[(5500,h)]/\(∃ zp zc,v=ε zp r zc/\sl n' G zp zc r)):=by
 refine qz (args:=[_]) (N:=28) func98 z z z (λw0 T D ak=>?_)
 have q:=ak
 have hz:w0.L.zero:=by
  rw[D]; intro p hp x hx
  simp only[ą,ĝ,ŝ] at hp
  subst hp; exact ü.zero q hx
 refine sr<|ς z<|nr<|δ z<|γ (Y0.K8 5500 B4 q z z)<|oA a λal a=>WL.wR (r:=n') (e:=159) (n:=(o.length:Int)) 4008 z z F' oh z (by decide) z z al λp1 aB ae av=>θ z<|c'<|sr<|δ z<|WL.uf 5500 4010 z z B4 q z z λab Z ag=>nx<|Z' (X:=(Ŀ Za)×ŀ Addr×Nat×ŀ Ow×Ŀ ((Fin 8->Int)×Zj)×ŀ Ow×Mem) a (λ⟨s,C,B,m,R1,P,A⟩=>⟨(s,R1),[(3,ε C s B),(0,.map (some l)),(10,ab)],Mem.le T A/\Η n' 159 A (ε C s B) s m/\je mq (kp pj A) h ab R1 none P,St w0 T A [(4003,m),(5500,h),(4010,P)]⟩) (λ(⟨I,K,J,E,R⟩:(Ŀ Za)×ŀ Addr×Nat×ŀ Ow×Mem)=>⟨I,[(3,ε K I J),(0,.map (some l))],Mem.le T R/\Η n' 159 R (ε K I J) I E,St w0 T R [(4003,E),(5500,h)]⟩) ⟨([]:Ŀ Za),p1,aB,ae,o,Z,T⟩ z (υ z) ⟨mr,av,(Cb ag)⟩ ?_ ?_ ?_
 .intro w O
  have O:=O.î (i:=4008) (j:=4003) z (by rw[D]; rfl)
  exact O.weaken (lc z (lc z (lc z ln)))
 .rintro _ ⟨s,C,B,m,R1,P,A⟩ ⟨F,M,am⟩ a
  refine sr<|WL.wS 5500 4010 z z am z z z (λRa k Rb U Y Q aN aP=>?_) (λY=>?_)
  .replace a:=a.2 _ _ _ Y
   generalize Ra++Rb=R2 at a Q
   refine Û z<|nx<|c'<|iS z<|o'<|a'<|V'<|sr<|WL.tR 5500 4010 z z Q z z z (λu1 az aS=>?_)
   obtain⟨aW,rfl,aC⟩:=az
   obtain⟨c,g,f,d,rfl,y,t⟩:=Ol aC
   refine Û z<|Û z<|T' 4 z r5 z λb1=>T' 5 z ru z λb2=>y' 4 z ov z z z (M' _ _ _) (M' _ _ _) (λu hu=>Rp.one (pt .i64 8) (G:=A) (x:=k.1) (cs:=Ι k.1) z u (by first|simpa using hu|simpa [Value.cells] using hu))<|ø 5 mD z<|nr<|γ (w' 5 kf z z z)<|oE a λaT ai a=>I' z z (x' qS z) (yq ai) z (⟨y,t⟩)<|γ (ly z z)<|nx<|J' a z (λaD a=>?_) (λaD a=>?_)
   .refine p'<|δ z<|γ (w' 5 kf z z z)<|γ (w' 4 iL z z (M' _ _ _))<|γ (iK (vs:=#[(0,.agg ((χ k.2 c g f d)).toArray),(1,.agg (Ι k.1).toArray)]) (v:=.agg (((χ k.2 c g f d):Ŀ Value)++(Ι k.1)).toArray) z z (λ_=>by kernel_rfl))<|jL (e:=159) (r:=n') (vs:=#[(0,.agg (((χ k.2 c g f d):Ŀ Value)++(Ι k.1)).toArray)]) (cs:=(((χ k.2 c g f d):Ŀ Value)++(Ι k.1))++([])) ([(Za.mk k.2 k.1)]:Ŀ Za) z z z z z (by decide) (λ_=>by kernel_rfl) ⟨((χ k.2 c g f d):Ŀ Value)++(Ι k.1),[],z,⟨(χ k.2 c g f d),Ι k.1,z,⟨(ι k.2.num c g),(ι k.2.den f d),z,⟨[.bool k.2.num.neg],[ε c k.2.num.Α g],z,z,⟨_,z,y⟩⟩,⟨[.bool k.2.den.neg],[ε f k.2.den.Α d],z,z,⟨_,z,t⟩⟩⟩,z⟩,z⟩ (key:=999) z (by rw[D]; rfl) (λp2 an H ax=>?_)
    refine oA a λaf a=>wF (r:=n') (e:=159) 4003 z z F' oh z (by decide) z z (M.mono H) z ax af λp3 ar ac aw=>ς z<|q'<|A'<|K' ⟨(s++[(Za.mk k.2 k.1)]),p3,ar,ac,R2,U,an⟩ a ⟨(mx F H),aw,(Cb (je.rP Q H))⟩ (υ z) (w3 z z z)
   refine o'<|A'<|K' ⟨s,C,B,m,R2,U,A⟩ a ⟨F,M,(Cb Q)⟩ (υ z) (w3 z z z)
  replace a:=a.1 Y
  refine Û z<|nx<|c'<|lJ z<|Æ<|g'<|g'<|H'<|Ë ⟨s,C,B,m,A⟩ ⟨a,F,M⟩ (υ z) (w2 z z)
 rintro⟨I,K,J,E,R⟩ ⟨a,aF,aj⟩
 refine a'<|sr<|δ z<|oE a λaV ah a=>kq (λw O=>O.î (i:=4003) (j:=5000) z (by rw[D]; rfl))<|nO z z (x' Gk z) (cB' ah) z (aj) (lc z ln) hz (λaO aU aL aH S=>?_)
 obtain⟨au,rfl,rfl,V⟩:=S
 refine kq (λw O=>O.î (i:=5000) (j:=4003) z (by rw[D]; rfl))<|nr<|δ z<|θ z<|m' ?_
 obtain rfl:_=r:=a
 refine WE.kT (r:=n') (e:=159) 4003 V z (by rw[D]; rfl) λaR ao aE W aG=>oZ (S':=St w0 T ao [(5500,h)]) (w1 z)<|k' z z ⟨z,⟨_,_,(tz W),(tA W)⟩⟩
theorem Se{i r}(a:(Dz i).ο r):ä prog 143 #[.agg (Ι i).toArray] (λG=>True) (λG v=>v = .bool r):=by
 refine E' (args:=[_]) (N:=16) func143 z z z λk f q o=>sr<|ý 1 z z z λs=>θ z<|c'<|sr<|γ (w' 1 iL z z (M' _ _ _))<|δ z<|nx<|Z' (X:=Int×Mem) a (λ⟨c,d⟩=>⟨c,[(5,.agg (Ι i).toArray),(6,i' c)],Mem.le f d,St k f d []⟩) (λ(p:Mem)=>match p with|g=>⟨(.inr ()),[],Mem.le f g,St k f g []⟩) ⟨0,f⟩ z (υ z) mr (wk ln) ?_ ?_
 .rintro _ ⟨c,d⟩ e a
  refine sr<|Ï z<|nx<|c'<|J' a z (λm a=>?_) (λm a=>?_)
  .refine o'<|a'<|c'<|V'<|sr<|oA a λh a=>γ (wE lK ñ gh z z h (mh _ _ _ h))<|ς z<|nr<|δ z<|eZ a z (nb z z) z (λl a=>?_) (λl a=>?_)
   .refine δ z<|lk z<|Δ z<|nx<|iS z<|sr<|θ z<|m'<|B'<|b'<|b'<|B'<|jl<|b' (Μ a z z)
   refine δ z<|Â z<|gy z z (kr z z) z<|Γ z<|nx<|J' a z (λj a=>?_) (λj a=>?_)
   .exact (show False from a).elim
   refine o'<|A'<|a'<|p'<|é z<|δ z<|q'<|K' ⟨i64.wrap (c+1),d⟩ a e (υ z) (wk ln)
  refine Æ<|g'<|g'<|H'<|Ë d ⟨a,e⟩ fn (wk ln)
 rintro g ⟨a,n⟩
 refine a'<|sr<|θ z<|m' (Μ a z z)
theorem R4{q k r}(a:(DO q k).ο r):ä prog 151 #[.agg (Ι q).toArray,.agg (Ι k).toArray] (λG=>True) (λG v=>v = .tuple #[.agg (Ι r.1).toArray,i' r.2]):=by
 refine E' (args:=[_,_]) (N:=24) func151 z z z λA l J H=>sr<|ý 2 z z z λm=>ý 3 z z z λt=>T' 4 z r5 z λn=>θ z<|c'<|sr<|δ z<|nx<|Z' (X:=Int×(Fin 8->Int)×Mem) a (λ⟨c,d,f⟩=>⟨(c,d),[(2,Τ m),(3,Τ t),(4,Τ n),(7,i' c)],Mem.le l f,St A l f [(2,Ξ m (Ι d) 99),(3,Ξ t (Ι k) 99),(4,Ξ n (Ι (λ_=>0)) 99)]⟩) (λ(⟨e,h⟩:(Fin 8->Int)×Mem)=>⟨e,[(2,Τ m),(4,Τ n)],Mem.le l h,St A l h [(2,Ξ m (Ι e) 99),(4,Ξ n (Ι (λ_=>0)) 99)]⟩) ⟨0,q,l⟩ z (υ z) mr (w3 z z z) ?_ ?_
 .rintro _ ⟨c,d,f⟩ j a
  refine sr<|Ï z<|nx<|c'<|J' a z (λy a=>?_) (λy a=>?_)
  .refine o'<|a'<|c'<|V'<|sr<|δ z<|θ z<|hZ [ff,ff,ff,ff,ff,ff] gp (by kernel_rfl) λF=>ù z<|oA a λo a=>cn (λ_ g=>k0 lK gh z z o)<|cn (λ_ g=>f' 2 ñ z z (mh _ _ _ o))<|ù z<|oA a λp a=>cn (λ_ g=>k0 lK gh z z p)<|cn (λ_ g=>f' 3 ñ z z (mh _ _ _ p))<|jz F<|é z<|oA a λC a=>γ (k0 lK gh z z C)<|kN 2 (Ι (å d c.toNat (i64.wrap ((Κ d c)+(Κ k c))))).toArray z gh z z z (by first|(rw[M']; omega)|(show _<(í _ _ _).toArray.size; rw[M']; omega)) z (qR _ _ _ _ _)<|q'<|fh<|A'<|a'<|p'<|é z<|δ z<|q'<|K' ⟨i64.wrap (c+1),å d c.toNat (i64.wrap ((Κ d c)+(Κ k c))),f⟩ a j (υ z) (w3 z z z)
  refine Æ<|g'<|g'<|H'<|Ë ⟨d,f⟩ ⟨a,j⟩ (υ z) (w2 z z)
 rintro⟨e,h⟩ ⟨a,E⟩
 refine a'<|c'<|sr<|γ (w' 2 iL z z (M' _ _ _))<|oE a λI s a=>I' z z (x' Ai z) (Se s) z (trivial)<|γ (gP z)<|nx<|iC a z (λD a=>?_) (λD a=>?_)
 .exact (show False from a).elim
 refine o'<|a'<|sr<|γ (w' 2 iL z z (M' _ _ _))<|y' 4 z ov z z z (M' _ _ _) (M' _ _ _) (λu B=>Rp.one (pt .i64 8) (G:=h) (x:=e) (cs:=Ι e) z u (by first|simpa using B|simpa [Value.cells] using B))<|θ z<|m' ?_
 obtain rfl:_=r:=a
 exact l5 z (hQ (i:=4) iL z z (M' _ _ _)) z z
theorem zP{g e d r}(a:(xJ g).ο r):ä prog 202 #[.agg ((ι g e d)).toArray] (λG=>sl (Rp.int .u32) G e d g.Α) (λG v=>v = .bool r):=by
 refine E' (args:=[_]) (N:=19) func202 z z z (λm o k h=>?_)
 have c:=h
 refine sr<|ý 1 z z z λl=>ς z<|nr<|γ (mM z)<|eZ a z (oM (f' 1 kX z z z) (ć Value.bool (nu _))) z (λi a=>?_) (λi a=>?_)
 .refine γ (gP z)<|δ z<|ke z<|Γ z<|δ z<|pd z<|Γ z<|θ z<|m' (Μ a z z)
 refine γ (gP z)<|δ z<|gy z z (jk z) z<|gy z z (f' 1 jm z z z) z<|gy z z (N' t' c z) z<|eZ a (W' z z) (iI z z) z (λj a=>?_) (λj a=>?_)
 .refine Δ z<|δ z<|gy z z (jk z) z<|gy z z (f' 1 jm z z z) z<|oE a λn f a=>gy z z (X' t' kz c z z f) z<|gy z z (il nD z (lH (Á c f))) z<|gy z z (iI z z) z<|Δ z<|θ z<|m' (Μ a z z)
 refine Δ z<|δ z<|pd z<|Γ z<|θ z<|m' (Μ a z z)
theorem vk{h f g r}(a:(Z9 h).ο r):ä prog 170 #[ε f h g] (λG=>sl (Rp.int .u32) G f g h) (jx (Rp.int .u32) r):=by
 refine E' (args:=[_]) (N:=21) func170 z z z (λq j x n=>?_)
 have e:=n
 refine sr<|ς z<|nr<|δ z<|γ (N' t' e z)<|θ z<|c'<|Z' (X:=Int×Mem) a (λ⟨i,d⟩=>⟨i,[(0,ε f h g),(3,i' i)],Mem.le j d,St q j d []⟩) (λ(⟨o,k⟩:Int×Mem)=>⟨o,[(0,ε f h g),(3,i' o)],Mem.le j k,St q j k []⟩) ⟨(h.length:Int),j⟩ z (υ z) mr (wk ln) ?_ ?_
 .rintro _ ⟨i,d⟩ c a
  refine c'<|sr<|δ z<|eZ a z (kr z z) z (λt a=>?_) (λt a=>?_)
  .refine δ z<|Â z<|Â z<|gy z z (nU z z) z<|oE a λA m a=>gy z z (X' t' kz (e.mono c) z z m) z<|gy z z (il nD z (lH (R' (Á e m) c))) z<|gy z z (iI z z) z<|Δ z<|nx<|J' a z (λu a=>?_) (λu a=>?_)
   .refine o'<|a'<|V'<|p'<|δ z<|γ (nU z z)<|ς z<|q'<|A'<|K' ⟨i64.wrap (i-1),d⟩ a c (υ z) (wk ln)
   refine Æ<|g'<|g'<|H'<|Ë ⟨i,d⟩ ⟨a,c⟩ (υ z) (wk ln)
  refine δ z<|qK z<|Γ z<|nx<|lJ z<|Æ<|g'<|g'<|H'<|Ë ⟨i,d⟩ ⟨a,c⟩ (υ z) (wk ln)
 rintro⟨o,k⟩ ⟨a,l⟩
 refine a'<|sr<|δ z<|δ z<|oA a λp a=>WL.rV (r:=(Rp.int .u32)) z z t' kz z (e.mono l) z z p λy v s=>θ z<|m' ?_
 obtain rfl:_=r:=a
 exact k' z z ⟨_,_,z,s⟩
theorem KA{e c d r}(a:(DP e).ο r):ä prog 169 #[ε c e d] (λG=>sl (Rp.int .u32) G c d e) (jx (Rp.int .u32) r):=by
 refine E' (args:=[_]) (N:=5) func169 z z z (λq s i g=>?_)
 have h:=g
 refine sr<|ς z<|nr<|δ z<|oA a λf a=>nt (r:=(Rp.int .u32)) 2004 z z t' oP z (by decide) z z (gi (Rp.int .u32) _) z (by rw[i]; rfl) qC h f λp n l o k j m=>θ z<|m' ?_
 obtain rfl:_=r:=a
 exact k' z z ⟨_,_,z,j⟩
theorem yi{c d f e r}(a:(vZ c d).ο r):ä prog 167 #[.bool c,ε f d e] (λG=>sl (Rp.int .u32) G f e d) (jb r):=by
 refine E' (args:=[_,_]) (N:=14) func167 z z z (λA y u n=>?_)
 have l:=n
 refine sr<|T' 4 z oe z λx=>nr<|δ z<|oE a λm o a=>U' z z (x' pF z) (vk o) z (l) (λs t q g=>?_)
 obtain⟨k,j,rfl,h⟩:=g
 refine θ z<|c'<|sr<|δ z<|γ (N' t' h z)<|γ (iI z z)<|nx<|J' a z (λp a=>?_) (λp a=>?_)
 .refine sr<|γ (iK (vs:=#[]) (v:=.agg ([.bool false,.slice none 0 0]).toArray) z z (λ_=>by kernel_rfl))<|ø 4 lx z<|nx<|m'<|b' ?_
  obtain rfl:_=r:=a
  exact k' z (hQ (i:=4) Ò z z z) ⟨_,_,z,(gi (Rp.int .u32) _)⟩
 refine o'<|a'<|sr<|δ z<|δ z<|γ (iK (vs:=#[(0,.bool c),(1,ε k m j)]) (v:=.agg ([.bool c,ε k m j]).toArray) z z (λ_=>by kernel_rfl))<|ø 4 lx z<|nx<|m' ?_
 obtain rfl:_=r:=a
 exact k' z (hQ (i:=4) Ò z z z) ⟨_,_,z,h⟩
theorem R0{k i l r}(a:(Hy k).ο r):ä prog 171 #[ε i k l] (λG=>sl (Rp.int .u32) G i l k) (λG v=>v = .int .u64 r):=by
 refine E' (args:=[_]) (N:=22) func171 z z z (λq h x o=>?_)
 have f:=o
 refine sr<|ς z<|nr<|θ z<|c'<|sr<|δ z<|γ (N' t' f z)<|δ z<|nx<|Z' (X:=Int×Int×Mem) a (λ⟨g,d,e⟩=>⟨(g,d),[(0,ε i k l),(3,.int .u64 g),(6,i' (k.length:Int)),(7,i' d)],Mem.le h e,St q h e []⟩) (λ(⟨n,j⟩:Int×Mem)=>⟨n,[(3,.int .u64 n)],Mem.le h j,St q h j []⟩) ⟨0,0,h⟩ z (υ z) mr (wk ln) ?_ ?_
 .rintro _ ⟨g,d,e⟩ c a
  refine sr<|Ï z<|nx<|c'<|J' a z (λs a=>?_) (λs a=>?_)
  .refine o'<|a'<|c'<|V'<|sr<|δ z<|θ z<|p'<|δ z<|δ z<|δ z<|oE a λu m a=>γ (X' t' kz (f.mono c) z z m)<|γ (il nD z (lH (R' (Á f m) c)))<|γ (jF nq Y' z)<|δ z<|γ (vp z z)<|oA a λp a=>γ (Y0.shl z z p)<|γ (Y0.or z z)<|ς z<|q'<|A'<|a'<|p'<|é z<|δ z<|q'<|K' ⟨u64.wrap (BitVec.ofInt u64.bits g ||| BitVec.ofInt u64.bits (u64.wrap ((u64.wrap u)*2 ^ (min (i64.wrap (32*d)).toNat u64.bits)))).toNat,i64.wrap (d+1),e⟩ a c (υ z) (wk ln)
  refine Æ<|g'<|g'<|H'<|Ë ⟨g,e⟩ ⟨a,c⟩ (f1 z) (wk ln)
 rintro⟨n,j⟩ ⟨a,t⟩
 refine a'<|sr<|δ z<|θ z<|m' (Μ a z z)
theorem KB{c r}(a:(DQ c).ο r):ä prog 168 #[.int .u64 c] (λG=>True) (jx (Rp.int .u32) r):=by
 refine E' (args:=[_]) (N:=10) func168 z z z λv t i o=>sr<|ς z<|nr<|δ z<|γ (jF Y' nq z)<|δ z<|γ (uR z z (by decide))<|γ (jF Y' nq z)<|jL (e:=250) (r:=(Rp.int .u32)) (vs:=#[(0,.int .u32 (u32.wrap c)),(1,.int .u32 (u32.wrap (Int.fdiv c (2 ^ (min (32:Int).toNat u64.bits)))))]) (cs:=[.int .u32 (u32.wrap c)]++([.int .u32 (u32.wrap (Int.fdiv c (2 ^ (min (32:Int).toNat u64.bits))))]++([]))) ([u32.wrap c,u32.wrap (Int.fdiv c (2 ^ (min (32:Int).toNat u64.bits)))]:Ŀ Int) z z z z z (by decide) (λ_=>by kernel_rfl) ⟨[.int .u32 (u32.wrap c)],[.int .u32 (u32.wrap (Int.fdiv c (2 ^ (min (32:Int).toNat u64.bits))))]++([]),z,z,⟨[.int .u32 (u32.wrap (Int.fdiv c (2 ^ (min (32:Int).toNat u64.bits))))],[],z,z,z⟩⟩ (key:=999) z (by rw[i]; rfl) (λu p k h=>?_)
 refine oE a λq g a=>U' z z (x' pF z) (vk g) z (h) (λl s j d=>?_)
 obtain⟨n,m,rfl,f⟩:=d
 refine θ z<|m' ?_
 obtain rfl:_=r:=a
 exact k' z z ⟨_,_,z,f⟩
theorem Ku{m o j n h l r}(a:(Dt m o).ο r):ä prog 203 #[ε j m n,ε h o l] (λG=>sl (Rp.int .u32) G j n m/\sl (Rp.int .u32) G h l o) (λG v=>v=i' r):=by
 refine E' (args:=[_,_]) (N:=41) func203 z z z (λD i J y=>?_)
 obtain⟨e,f⟩:=y
 refine sr<|θ z<|c'<|sr<|δ z<|γ (N' t' e z)<|δ z<|γ (N' t' f z)<|γ (ly z z)<|nx<|J' a z (λF a=>?_) (λF a=>?_)
 .refine c'<|sr<|δ z<|γ (N' t' e z)<|δ z<|γ (N' t' f z)<|Ï z<|nx<|J' a z (λC a=>?_) (λC a=>?_)
  .refine sr<|θ z<|m'<|b'<|b' (Μ a z z)
  refine o'<|a'<|sr<|θ z<|m'<|b' (Μ a z z)
 refine o'<|a'<|c'<|sr<|δ z<|γ (N' t' e z)<|γ (nU z z)<|θ z<|Z' (X:=Int×Mem) a (λ⟨p,g⟩=>⟨p,[(0,ε j m n),(1,ε h o l),(5,i' p)],Mem.le i g,St D i g []⟩) (λ(I:Mem)=>match I with|k=>⟨(.inr ()),[],Mem.le i k,St D i k []⟩) ⟨i64.wrap ((m.length:Int)-1),i⟩ z (υ z) mr (wk ln) ?_ ?_
 .rintro _ ⟨p,g⟩ d a
  refine c'<|sr<|δ z<|γ (kO z z)<|nx<|J' a z (λE a=>?_) (λE a=>?_)
  .refine o'<|a'<|c'<|V'<|c'<|hZ [ff,ff,ff,ff,ff,ff,ff,ff] gp (by kernel_rfl) λx=>ù z<|ù z<|oE a λO u a=>cn (λ_ c=>X' t' kz ((e.mono d).mono c) z z u)<|cn (λ_ c=>il nD z (lH (R' (R' (Á e u) d) c)))<|ù z<|ù z<|oE a λM s a=>cn (λ_ c=>X' t' kz ((f.mono d).mono c) z z s)<|cn (λ_ c=>il nD z (lH (R' (R' (Á f s) d) c)))<|jz x<|γ (ly z z)<|q'<|fh<|a'<|J' a z (λB a=>?_) (λB a=>?_)
   .refine c'<|c'<|hZ [ff,ff,ff,ff,ff,ff,ff,ff] gp (by kernel_rfl) λx=>ù z<|ù z<|oE a λL q a=>cn (λ_ c=>X' t' kz ((e.mono d).mono c) z z q)<|cn (λ_ c=>il nD z (lH (R' (R' (Á e q) d) c)))<|ù z<|ù z<|oE a λK t a=>cn (λ_ c=>X' t' kz ((f.mono d).mono c) z z t)<|cn (λ_ c=>il nD z (lH (R' (R' (Á f t) d) c)))<|jz x<|Ï z<|q'<|fh<|a'<|J' a z (λA a=>?_) (λA a=>?_)
    .refine sr<|θ z<|m'<|b'<|B'<|b'<|b'<|B'<|jl<|b' (Μ a z z)
    refine o'<|a'<|sr<|θ z<|m'<|B'<|b'<|b'<|B'<|jl<|b' (Μ a z z)
   refine o'<|A'<|a'<|p'<|δ z<|γ (nU z z)<|ς z<|q'<|K' ⟨i64.wrap (p-1),g⟩ a d (υ z) (wk ln)
  refine Æ<|g'<|g'<|H'<|Ë g ⟨a,d⟩ fn (wk ln)
 rintro k ⟨a,H⟩
 refine a'<|sr<|θ z<|m' (Μ a z z)
theorem eH'{c k x A r}(a:(Mv c k).ο r):ä prog 221 #[ε x c A,.int .u64 k] (λG=>sl (Rp.int .u32) G x A c) (λG v=>∃ u s,v = .tuple #[ε u r.1 s,.int .u64 r.2]/\sl (Rp.int .u32) G u s r.1):=by
 refine E' (args:=[_,_]) (N:=41) func221 z z z (λU q V L=>?_)
 have l:=L
 refine sr<|ς z<|ς z<|nr<|δ z<|γ (N' t' l z)<|oA a λQ a=>wG (r:=(Rp.int .u32)) (e:=250) (n:=(c.length:Int)) (zx:=0) 4012 z z t' oP z (by decide) (by decide) z z z Q λD K W=>ς z<|nr<|θ z<|c'<|sr<|δ z<|γ (N' t' l z)<|γ (nU z z)<|θ z<|Z' (X:=(Ŀ Int)×ŀ Ow×Int×Int×Mem) a (λ⟨C,h,d,p,g⟩=>⟨(C,d,p),[(0,ε x c A),(1,.int .u64 k),(6,.slice D (c.length:Int).toNat ((c.length:Int).toNat)),(7,.int .u64 d),(8,i' p)],Mem.le q g/\Η (Rp.int .u32) 250 g (.slice D (c.length:Int).toNat ((c.length:Int).toNat)) C h,St U q g [(4012,h)]⟩) (λ(⟨I,j,t,m⟩:(Ŀ Int)×ŀ Ow×Int×Mem)=>⟨(I,t),[(6,.slice D (c.length:Int).toNat ((c.length:Int).toNat)),(7,.int .u64 t)],Mem.le q m/\Η (Rp.int .u32) 250 m (.slice D (c.length:Int).toNat ((c.length:Int).toNat)) I j,St U q m [(4012,j)]⟩) ⟨(List.replicate (c.length:Int).toNat 0),K,0,i64.wrap ((c.length:Int)-1),q⟩ z (υ z) ⟨mr,W⟩ (w1 z) ?_ ?_
 .rintro _ ⟨C,h,d,p,g⟩ ⟨f,y⟩ a
  refine c'<|sr<|δ z<|γ (kO z z)<|nx<|J' a z (λY a=>?_) (λY a=>?_)
  .refine o'<|a'<|c'<|V'<|sr<|δ z<|γ (Y0.shl z z (by decide))<|δ z<|δ z<|oE a λE H a=>γ (X' t' kz (l.mono f) z z H)<|γ (il nD z (lH (R' (Á l H) f)))<|γ (jF nq Y' z)<|γ (Y0.or z z)<|ς z<|nr<|δ z<|δ z<|δ z<|δ z<|oA a λS a=>γ (yu z z S)<|γ (jF Y' nq z)<|oE a λx2 F a=>γ (qV t' kz y z z F)<|sp (r:=(Rp.int .u32)) (e:=250) (cs':=[.int .u32 (u32.wrap (u64.wrap (Int.tdiv (u64.wrap (BitVec.ofInt u64.bits (u64.wrap (d*2 ^ (min (32:Int).toNat u64.bits))) ||| BitVec.ofInt u64.bits (u64.wrap E)).toNat) k)))]) (i:=p) (z':=u32.wrap (u64.wrap (Int.tdiv (u64.wrap (BitVec.ofInt u64.bits (u64.wrap (d*2 ^ (min (32:Int).toNat u64.bits))) ||| BitVec.ofInt u64.bits (u64.wrap E)).toNat) k))) 4012 z kz z y z z z z z F λR O=>nx<|p'<|δ z<|δ z<|oA a λP a=>γ (oI z z P)<|ς z<|q'<|A'<|a'<|p'<|δ z<|γ (nU z z)<|ς z<|q'<|K' ⟨(C.set p.toNat (u32.wrap (u64.wrap (Int.tdiv (u64.wrap (BitVec.ofInt u64.bits (u64.wrap (d*2 ^ (min (32:Int).toNat u64.bits))) ||| BitVec.ofInt u64.bits (u64.wrap E)).toNat) k)))),R,Int.tmod (u64.wrap (BitVec.ofInt u64.bits (u64.wrap (d*2 ^ (min (32:Int).toNat u64.bits))) ||| BitVec.ofInt u64.bits (u64.wrap E)).toNat) k,i64.wrap (p-1),g⟩ a ⟨f,O⟩ (υ z) (w1 z)
  refine Æ<|g'<|g'<|H'<|Ë ⟨C,h,d,g⟩ ⟨a,f,y⟩ (υ z) (w1 z)
 rintro⟨I,j,t,m⟩ ⟨a,Z,T⟩
 refine a'<|sr<|δ z<|qX (r:=(Rp.int .u32)) (e:=250) 4012 T z (by rw[V]; rfl) (λah ag ac B w=>?_)
 refine oE a λai M a=>U' z z (x' pF z) (vk M) (by rw[tz B]) ((tA B)) (λad aj ab o=>?_)
 obtain⟨af,ae,rfl,J⟩:=o
 refine δ z<|ς z<|θ z<|m' ?_
 obtain rfl:_=r:=a
 exact l5 z z z ⟨_,_,z,J⟩
theorem Sf{d e i f g j r}(a:(HE d e).ο r):ä prog 172 #[ε i d f,ε g e j] (λG=>sl (Rp.int .u32) G i f d/\sl (Rp.int .u32) G g j e) (λG v=>∃ t s p u,v = .tuple #[ε t r.1 s,ε p r.2 u]/\sl (Rp.int .u32) G t s r.1/\sl (Rp.int .u32) G p u r.2):=by
 refine E' (args:=[_,_]) (N:=88) func172 z z z (λw0 G0 ak J=>?_)
 obtain⟨B,x⟩:=J
 refine sr<|ς z<|ς z<|nr<|δ z<|oE a λae K a=>U' z z (x' pF z) (vk K) z (B) (λS ab A l=>?_)
 obtain⟨X,W,rfl,q⟩:=l
 refine δ z<|oE a λac D a=>U' z z (x' pF z) (vk D) z ((x.mono A)) (λw ai h n=>?_)
 obtain⟨R,T,rfl,c⟩:=n
 refine ς z<|θ z<|c'<|sr<|δ z<|δ z<|oE a λah I a=>I' z z (x' xt z) (Ku I) z (⟨(q.mono h),c⟩)<|Ï z<|nx<|J' a z (λP a=>?_) (λP a=>?_)
 .exact (show False from a).elim
 refine o'<|a'<|c'<|sr<|δ z<|γ (N' t' c z)<|γ (iI z z)<|nx<|J' a z (λM a=>?_) (λM a=>?_)
 .refine sr<|δ z<|δ z<|oE a λx1 C a=>γ (X' t' kz c z z C)<|γ (il nD z (lH (Á c C)))<|γ (jF nq Y' z)<|oE a λad H a=>U' z z (x' GF z) (eH' H) z ((q.mono h)) (λU ag Q m=>?_)
  obtain⟨O,L,rfl,o⟩:=m
  refine δ z<|Û z<|Û z<|ς z<|ς z<|nr<|δ z<|δ z<|oE a λaf E a=>U' z z (x' xk z) (KB E) z (trivial) (λY aj y k=>?_)
  obtain⟨V,Z,rfl,F⟩:=k
  refine ς z<|θ z<|m'<|b' ?_
  obtain rfl:_=r:=a
  exact l5 z z z ⟨_,_,_,_,z,(o.mono y),F⟩
 exact (show False from a).elim
theorem Fz{a1 b1 H D K I r}(a:(xD a1 b1).ο r):ä prog 104 #[.agg ((ι a1 H D)).toArray,.agg ((ι b1 K I)).toArray] (λG=>sl (Rp.int .u32) G H D a1.Α/\sl (Rp.int .u32) G K I b1.Α) (jb r):=by
 refine E' (args:=[_,_]) (N:=53) func104 z z z (λw0 G0 bI aY=>?_)
 obtain⟨au,ar⟩:=aY
 refine sr<|ý 2 z z z λb2=>ý 3 z z z λb3=>T' 4 z oe z λt=>nx<|c'<|hZ [ff,ff,ff,ff,ff,ff] gp (by kernel_rfl) λhb=>cn (λ_ g=>jk z)<|cn (λ_ g=>f' 2 jm z z z)<|oE a λap aM a=>mL (post:=jx (Rp.int .u32) ap) (λ_=>z) (λ_ _=>x' pF z) (vk aM) z (λG' g=>(au.mono g)) (λv G1 G2 g h=>?_) ?_
 .obtain⟨ax,ai,rfl,B⟩:=h
  exact⟨_,_,z,B.mono g⟩
 refine oE a λaj aN a=>sm (f:=169) (φ:=jx (Rp.int .u32) aj) (λ_=>z) (λv G1 G2 g h=>?_) (λu G' g hu=>?_) ?_
 .obtain⟨ao,ah,rfl,R⟩:=h
  exact⟨_,_,z,R.mono g⟩
 .obtain⟨⟨ax,ai,aA,B⟩,_⟩:=(show (jx (Rp.int .u32) ap) G'.m (u 13)/\True from hu)
  exact⟨_,_,_,λ_=>x' xl z,KA aN,(by simp only[aA] <;> rfl),B⟩
 refine cu (λ_ _ g=>jk z)<|cu (λ_ _ g=>f' 3 jm z z z)<|η.rp (d:=14) (post:=jx (Rp.int .u32) aj) (d':=13) (post':=jx (Rp.int .u32) ap) (λbx bA bL aF ag Y=>?_)
 obtain⟨ao,ah,rfl,R⟩:=ag
 obtain⟨ax,ai,rfl,B⟩:=Y
 refine oE a λbK aV a=>U' z z (x' pF z) (vk aV) z ((ar.mono aF)) (λbs bH az af=>?_)
 obtain⟨bq,bC,rfl,aI⟩:=af
 refine oE a λba aG a=>U' z z (x' xl z) (KA aG) z (aI) (λbv al aD Z=>?_)
 obtain⟨aT,aR,rfl,aP⟩:=Z
 refine ς z<|ς z<|q'<|fh<|a'<|c'<|Z' (X:=(Ŀ Int)×ŀ Addr×Nat×(Ŀ Int)×ŀ Addr×Nat×Zi×ŀ Addr×Nat×Mem) a (λ⟨P,J,E,o,q,p,k,e,c,l⟩=>⟨(P,o,k),[(4,Τ t),(5,ε J P E),(6,ε q o p)],Mem.le al l/\sl (Rp.int .u32) l J E P/\sl (Rp.int .u32) l q p o/\sl (Rp.int .u32) l e c k.Α,St w0 G0 l [(4,Ξ t (ι k e c) 95)]⟩) (λ(⟨x1,an,aw,V,m,n,L⟩:(Ŀ Int)×ŀ Addr×Nat×Zi×ŀ Addr×Nat×Mem)=>⟨(.inr (x1,V)),[(4,Τ t),(5,ε an x1 aw)],Mem.le al L/\sl (Rp.int .u32) L an aw x1/\sl (Rp.int .u32) L m n V.Α,St w0 G0 L [(4,Ξ t (ι V m n) 95)]⟩) ⟨aj,ao,ah,ba,aT,aR,(Zi.mk false []),none,0,al⟩ z (υ z) ⟨mr,(R.mono (mx az aD)),aP,(gi _ _)⟩ (w1 z) ?_ ?_
 .rintro _ ⟨P,J,E,o,q,p,k,e,c,l⟩ ⟨T,S,s,y⟩ a
  refine c'<|sr<|δ z<|γ (N' t' s z)<|γ (kr z z)<|nx<|J' a z (λbi a=>?_) (λbi a=>?_)
  .refine o'<|a'<|V'<|c'<|k5 a (λ(⟨A,x⟩:Bool×Mem)=>⟨[(4,Τ t),(5,ε J P E),(6,ε q o p),(29,.bool A)],HD P o k A,Mem.le l x,St w0 G0 x [(4,Ξ t (ι k e c) 95)]⟩) ?_ ?_
   .refine p'<|δ z<|γ (N' t' S z)<|eZ a z (oo z z) z (λbh a=>?_) (λbh a=>?_)
    .refine δ z<|Â z<|gy z z (N' t' s z) z<|gy z z (oo z z) z<|Δ z<|q'<|ia ⟨decide ((o.length:Int)<=2),l⟩ ⟨a,mr⟩ (υ z) (w1 z)
    refine δ z<|lu z<|Γ z<|q'<|ia ⟨false,l⟩ ⟨a,mr⟩ (υ z) (w1 z)
   rintro⟨A,x⟩ ⟨a,j⟩
   refine iC a z (λbb a=>?_) (λbb a=>?_)
   .refine sr<|δ z<|oE a λbf aX a=>I' z z (x' Al z) (R0 aX) z ((S.mono j))<|δ z<|oE a λa9 aZ a=>I' z z (x' Al z) (R0 aZ) z ((s.mono j))<|ς z<|θ z<|c'<|Z' (X:=Int×Int×Mem) a (λ⟨w,n1,F⟩=>⟨(w,n1),[(4,Τ t),(7,.int .u64 w),(8,.int .u64 n1)],Mem.le x F,St w0 G0 F [(4,Ξ t (ι k e c) 95)]⟩) (λ(⟨m1,ak⟩:Int×Mem)=>⟨m1,[(4,Τ t),(7,.int .u64 m1)],Mem.le x ak,St w0 G0 ak [(4,Ξ t (ι k e c) 95)]⟩) ⟨bf,a9,x⟩ z (υ z) mr (w1 z) ?_ ?_
    .rintro _ ⟨w,n1,F⟩ U a
     refine c'<|sr<|δ z<|γ (kr z z)<|nx<|J' a z (λbc a=>?_) (λbc a=>?_)
     .refine o'<|a'<|V'<|hZ [ff,ff,ff,ff,ff] gp (by kernel_rfl) λhb=>ù z<|ù z<|ù z<|oA a λbe a=>cn (λ_ g=>oI z z be)<|cn (λ_ g=>Y0.assign z)<|jz hb<|ς z<|q'<|fh<|A'<|K' ⟨n1,Int.tmod w n1,F⟩ a U (υ z) (w1 z)
     refine Æ<|g'<|g'<|H'<|Ë ⟨w,F⟩ ⟨a,U⟩ (υ z) (w1 z)
    rintro⟨m1,ak⟩ ⟨a,bo⟩
    refine a'<|sr<|δ z<|oE a λbM aK a=>U' z z (x' xk z) (KB aK) z (trivial) (λbz bG bp ab=>?_)
    obtain⟨bE,bt,rfl,aL⟩:=ab
    refine oE a λbw aE a=>U' z z (x' qT z) (yi aE) z (aL) (λbk bJ bj M=>?_)
    obtain⟨aO,aW,rfl,O⟩:=M
    refine ø 4 lx z<|nx<|m'<|b'<|B'<|b'<|B'<|jl<|b' ?_
    obtain rfl:_=r:=a
    exact k' z (hQ (i:=4) Ò z z z) ⟨_,_,z,O⟩
   refine o'<|a'<|sr<|δ z<|δ z<|oE a λaS aB a=>U' z z (x' Am z) (Sf aB) z (⟨(S.mono j),(s.mono j)⟩) (λbm bd C Q=>?_)
   obtain⟨a0,a4,ae,ad,rfl,a2,W⟩:=Q
   refine δ z<|Û z<|Û z<|ς z<|θ z<|p'<|δ z<|δ z<|ς z<|ς z<|q'<|A'<|K' ⟨o,q,p,aS.2,ae,ad,k,e,c,bd⟩ a ⟨(mx (mx T j) C),(s.mono (mx j C)),W,(y.mono (mx j C))⟩ (υ z) (w1 z)
  refine Æ<|g'<|g'<|H'<|Ë ⟨P,J,E,k,e,c,l⟩ ⟨a,T,S,y⟩ (υ z) (w1 z)
 rintro⟨x1,an,aw,V,m,n,L⟩ ⟨a,bl,bg,a3⟩
 refine a'<|sr<|δ z<|oE a λbN aU a=>U' z z (x' qT z) (yi aU) z (bg) (λbr bF bn aa=>?_)
 obtain⟨a6,a5,rfl,ac⟩:=aa
 refine ø 4 lx z<|nx<|m' ?_
 obtain rfl:_=r:=a
 exact k' z (hQ (i:=4) Ò z z z) ⟨_,_,z,ac⟩
theorem Kz{C B d c f e r}(a:(A1 C B).ο r):ä prog 105 #[.agg ((ι C d c)).toArray,.agg ((ι B f e)).toArray] (λG=>sl (Rp.int .u32) G d c C.Α/\sl (Rp.int .u32) G f e B.Α) (λG v=>∃ k l j h,v = .tuple #[.agg ((ι r.1 k l)).toArray,.agg ((ι r.2.1 j h)).toArray,i' r.2.2]/\sl (Rp.int .u32) G k l r.1.Α/\sl (Rp.int .u32) G j h r.2.1.Α):=by
 refine E' (args:=[_,_]) (N:=47) func105 z z z (λw0 G0 aD ag=>?_)
 obtain⟨S,s⟩:=ag
 refine sr<|ý 2 z z z λY=>ý 3 z z z λT=>T' 4 z oe z λZ=>T' 5 z oe z λU=>θ z<|c'<|sr<|γ (jk z)<|γ (f' 3 jm z z z)<|oE a λaH ab a=>U' z z (x' pF z) (vk ab) z (s) (λaz aG H J=>?_)
 obtain⟨aA,av,rfl,ad⟩:=J
 refine γ (N' t' ad z)<|γ (iI z z)<|nx<|J' a z (λaq a=>?_) (λaq a=>?_)
 .exact (show False from a).elim
 refine o'<|a'<|sr<|γ (jk z)<|γ (f' 2 jm z z z)<|γ (jk z)<|γ (f' 3 jm z z z)<|oE a λg ac a=>U' z z (x' Am z) (Sf ac) z (⟨(S.mono H),(s.mono H)⟩) (λay D ar O=>?_)
 obtain⟨u,p,q,t,rfl,P,o⟩:=O
 refine δ z<|Û z<|Û z<|ς z<|θ z<|k5 a (λ(⟨W,Q,R,E,A,y,x⟩:(Ŀ Int)×ŀ Addr×Nat×(Ŀ Int)×ŀ Addr×Nat×Mem)=>⟨[(2,Τ Y),(3,Τ T),(4,Τ Z),(5,Τ U),(7,ε Q W R),(8,ε A E y)],Mo C B W E,Mem.le D x/\sl (Rp.int .u32) x Q R W/\sl (Rp.int .u32) x A y E,St w0 G0 x [(2,Ξ Y (ι C d c) 95),(3,Ξ T (ι B f e) 95),(4,Ξ Z ([.bool false,.slice none 0 0]) 95),(5,Ξ U ([.bool false,.slice none 0 0]) 95)]⟩) ?_ ?_
 .refine k5 a (λ(⟨n,F⟩:Bool×Mem)=>⟨[(2,Τ Y),(3,Τ T),(4,Τ Z),(5,Τ U),(7,ε u g.1 p),(8,ε q g.2 t),(30,.bool n)],Hh C B g n,Mem.le D F,St w0 G0 F [(2,Ξ Y (ι C d c) 95),(3,Ξ T (ι B f e) 95),(4,Ξ Z ([.bool false,.slice none 0 0]) 95),(5,Ξ U ([.bool false,.slice none 0 0]) 95)]⟩) ?_ ?_
  .refine p'<|γ (mM z)<|eZ a z (oM (f' 2 kX z z z) (ć Value.bool (nu _))) z (λap a=>?_) (λap a=>?_)
   .refine δ z<|Â z<|gy z z (N' t' o z) z<|gy z z (kr z z) z<|Δ z<|q'<|ia ⟨decide (0<(g.2.length:Int)),D⟩ ⟨a,mr⟩ (υ z) (w4 z z z z)
   refine δ z<|lu z<|Γ z<|q'<|ia ⟨false,D⟩ ⟨a,mr⟩ (υ z) (w4 z z z z)
  rintro⟨n,F⟩ ⟨a,m⟩
  refine iC a z (λal a=>?_) (λal a=>?_)
  .exact (show False from a).elim
  refine o'<|ia ⟨g.1,u,p,g.2,q,t,F⟩ ⟨a,m,(P.mono m),(o.mono m)⟩ (υ z) (w4 z z z z)
 rintro⟨W,Q,R,E,A,y,x⟩ ⟨a,au,an,af⟩
 refine sr<|γ (mM z)<|γ (f' 2 kX z z z)<|γ (mM z)<|γ (f' 3 kX z z z)<|γ (Y0.tZ vl z z)<|δ z<|oE a λaE ae a=>U' z z (x' qT z) (yi ae) z (an) (λaw aF X L=>?_)
 obtain⟨aj,ah,rfl,M⟩:=L
 refine δ z<|oE a λaB w a=>U' z z (x' qT z) (yi w) z ((af.mono X)) (λax aC V K=>?_)
 obtain⟨ai,ak,rfl,I⟩:=K
 refine ø 4 lx z<|ø 5 lx z<|θ z<|m' ?_
 obtain rfl:_=r:=a
 exact rI z (hQ (i:=4) Ò z z z) (hQ (i:=5) Ò z z z) z ⟨_,_,_,_,z,(M.mono V),I⟩
theorem Kv{q p e c f d r}(a:(Du q p).ο r):ä prog 177 #[.agg ((ι q e c)).toArray,.agg ((ι p f d)).toArray] (λG=>sl (Rp.int .u32) G e c q.Α/\sl (Rp.int .u32) G f d p.Α) (lq r):=by
 refine E' (args:=[_,_]) (N:=36) func177 z z z (λw0 G0 af Q=>?_)
 obtain⟨h,g⟩:=Q
 refine sr<|ý 2 z z z λb1=>ý 3 z z z λb2=>T' 4 z ru z λb3=>nx<|c'<|sr<|γ (w' 3 Ò z z z)<|oE a λw R a=>I' z z (x' r9 z) (zP R) z (g)<|nx<|iC a z (λV a=>?_) (λV a=>?_)
 .refine sr<|γ (w' 2 Ò z z z)<|γ (w' 3 Ò z z z)<|γ (iK (vs:=#[(0,.agg ((ι q e c)).toArray),(1,.agg ((ι p f d)).toArray)]) (v:=.agg ([.bool q.neg,ε e q.Α c,.bool p.neg,ε f p.Α d]).toArray) z z (λ_=>by kernel_rfl))<|ø 4 mD z<|nx<|m'<|b' ?_
  obtain rfl:_=r:=a
  exact k' z (hQ (i:=4) kf z z z) ⟨_,_,_,_,z,h,g⟩
 refine o'<|a'<|sr<|γ (w' 2 Ò z z z)<|γ (w' 3 Ò z z z)<|oE a λZ L a=>U' z z (x' uV z) (Fz L) z (⟨h,g⟩) (λY ad o A=>?_)
 obtain⟨T,S,rfl,j⟩:=A
 refine T' 5 z oe z λb4=>ø 5 lx z<|nx<|c'<|sr<|γ (w' 5 Ò z z z)<|oE a λac P a=>I' z z (x' r9 z) (zP P) z (j)<|nx<|iC a z (λU a=>?_) (λU a=>?_)
 .refine sr<|γ (w' 2 Ò z z z)<|γ (w' 3 Ò z z z)<|γ (iK (vs:=#[(0,.agg ((ι q e c)).toArray),(1,.agg ((ι p f d)).toArray)]) (v:=.agg ([.bool q.neg,ε e q.Α c,.bool p.neg,ε f p.Α d]).toArray) z z (λ_=>by kernel_rfl))<|ø 4 mD z<|nx<|m'<|b' ?_
  obtain rfl:_=r:=a
  exact k' z (hQ (i:=4) kf z z z) ⟨_,_,_,_,z,(h.mono o),(g.mono o)⟩
 refine o'<|a'<|sr<|γ (w' 2 Ò z z z)<|γ (w' 5 Ò z z z)<|oE a λB O a=>U' z z (x' xd z) (Kz O) z (⟨(h.mono o),j⟩) (λW ab u y=>?_)
 obtain⟨n,m,I,J,rfl,s,K⟩:=y
 refine δ z<|Û z<|Û z<|Û z<|ø 2 lx z<|nr<|γ (w' 3 Ò z z z)<|γ (w' 5 Ò z z z)<|oE a λC M a=>U' z z (x' xd z) (Kz M) z (⟨(g.mono (mx o u)),(j.mono u)⟩) (λX ae D x=>?_)
 obtain⟨l,k,E,H,rfl,t,F⟩:=x
 refine δ z<|Û z<|Û z<|Û z<|ø 3 lx z<|nr<|γ (w' 2 Ò z z z)<|γ (w' 3 Ò z z z)<|γ (iK (vs:=#[(0,.agg ((ι B.1 n m)).toArray),(1,.agg ((ι C.1 l k)).toArray)]) (v:=.agg ([.bool B.1.neg,ε n B.1.Α m,.bool C.1.neg,ε l C.1.Α k]).toArray) z z (λ_=>by kernel_rfl))<|ø 4 mD z<|nx<|m' ?_
 obtain rfl:_=r:=a
 exact k' z (hQ (i:=4) kf z z z) ⟨_,_,_,_,z,(s.mono D),t⟩
theorem Cr{l r}(a:(zk l).ο r):ä prog 103 #[i' l] (λG=>True) (jb r):=by
 refine E' (args:=[_]) (N:=15) func103 z z z λE D B t=>sr<|T' 2 z oe z λC=>nr<|δ z<|γ (jF FA Y' z)<|θ z<|c'<|sr<|δ z<|Ï z<|nx<|J' a z (λm a=>?_) (λm a=>?_)
 .exact (show False from a).elim
 refine o'<|a'<|sr<|δ z<|Ï z<|δ z<|oE a λy h a=>U' z z (x' xk z) (KB h) z (trivial) (λp v o c=>?_)
 obtain⟨s,q,rfl,g⟩:=c
 refine oE a λx f a=>U' z z (x' qT z) (yi f) z (g) (λu A n e=>?_)
 obtain⟨k,j,rfl,d⟩:=e
 refine ø 2 lx z<|nx<|m' ?_
 obtain rfl:_=r:=a
 exact k' z (hQ (i:=2) Ò z z z) ⟨_,_,z,d⟩
theorem fl'{c d t o s u r}(a:(MR c d).ο r):ä prog 175 #[ε t c o,ε s d u] (λG=>sl (Rp.int .u32) G t o c/\sl (Rp.int .u32) G s u d) (jx (Rp.int .u32) r):=by
 refine E' (args:=[_,_]) (N:=70) func175 z z z (λY L ap ag=>?_)
 obtain⟨A,p⟩:=ag
 refine sr<|ς z<|nr<|δ z<|γ (N' t' A z)<|δ z<|γ (N' t' p z)<|é z<|oA a λak a=>wG (r:=(Rp.int .u32)) (e:=250) (n:=i64.wrap ((c.length:Int)+(d.length:Int))) (zx:=0) 4016 z z t' oP z (by decide) (by decide) z z z ak λJ af an=>θ z<|c'<|sr<|δ z<|γ (N' t' A z)<|δ z<|nx<|Z' (X:=(Ŀ Int)×ŀ Ow×Int×Mem) a (λ⟨E,j,f,x⟩=>⟨(E,f),[(0,ε t c o),(1,ε s d u),(5,.slice J (i64.wrap ((c.length:Int)+(d.length:Int))).toNat ((i64.wrap ((c.length:Int)+(d.length:Int))).toNat)),(18,i' (c.length:Int)),(19,i' f)],Mem.le L x/\Η (Rp.int .u32) 250 x (.slice J (i64.wrap ((c.length:Int)+(d.length:Int))).toNat ((i64.wrap ((c.length:Int)+(d.length:Int))).toNat)) E j,St Y L x [(4016,j)]⟩) (λ(⟨K,D,Q⟩:(Ŀ Int)×ŀ Ow×Mem)=>⟨K,[(5,.slice J (i64.wrap ((c.length:Int)+(d.length:Int))).toNat ((i64.wrap ((c.length:Int)+(d.length:Int))).toNat))],Mem.le L Q/\Η (Rp.int .u32) 250 Q (.slice J (i64.wrap ((c.length:Int)+(d.length:Int))).toNat ((i64.wrap ((c.length:Int)+(d.length:Int))).toNat)) K D,St Y L Q [(4016,D)]⟩) ⟨(List.replicate (i64.wrap ((c.length:Int)+(d.length:Int))).toNat 0),af,0,L⟩ z (υ z) ⟨mr,an⟩ (w1 z) ?_ ?_
 .rintro _ ⟨E,j,f,x⟩ ⟨h,O⟩ a
  refine sr<|Ï z<|nx<|c'<|J' a z (λaq a=>?_) (λaq a=>?_)
  .refine o'<|a'<|c'<|V'<|sr<|δ z<|ς z<|nr<|ς z<|nr<|δ z<|δ z<|oE a λT ac a=>γ (X' t' kz (A.mono h) z z ac)<|γ (il nD z (lH (R' (Á A ac) h)))<|γ (jF nq Y' z)<|θ z<|c'<|sr<|δ z<|γ (N' t' (p.mono h) z)<|δ z<|nx<|Z' (X:=(Ŀ Int)×ŀ Ow×Int×Int×Mem) a (λ⟨B,q,k,l,F⟩=>⟨(B,k,l),[(0,ε t c o),(1,ε s d u),(5,.slice J (i64.wrap ((c.length:Int)+(d.length:Int))).toNat ((i64.wrap ((c.length:Int)+(d.length:Int))).toNat)),(6,i' f),(7,.int .u64 k),(8,.int .u64 (u64.wrap T)),(18,i' (c.length:Int)),(19,i' f),(28,i' (d.length:Int)),(29,i' l)],Mem.le x F/\Η (Rp.int .u32) 250 F (.slice J (i64.wrap ((c.length:Int)+(d.length:Int))).toNat ((i64.wrap ((c.length:Int)+(d.length:Int))).toNat)) B q,St Y L F [(4016,q)]⟩) (λ(⟨H,C,v,I⟩:(Ŀ Int)×ŀ Ow×Int×Mem)=>⟨(H,v),[(0,ε t c o),(1,ε s d u),(5,.slice J (i64.wrap ((c.length:Int)+(d.length:Int))).toNat ((i64.wrap ((c.length:Int)+(d.length:Int))).toNat)),(6,i' f),(7,.int .u64 v),(18,i' (c.length:Int)),(19,i' f)],Mem.le x I/\Η (Rp.int .u32) 250 I (.slice J (i64.wrap ((c.length:Int)+(d.length:Int))).toNat ((i64.wrap ((c.length:Int)+(d.length:Int))).toNat)) H C,St Y L I [(4016,C)]⟩) ⟨E,j,0,0,x⟩ z (f10 z z z z z z z z z z) ⟨mr,O⟩ (w1 z) ?_ ?_
   .rintro _ ⟨B,q,k,l,F⟩ ⟨y,m⟩ a
    refine sr<|Ï z<|nx<|c'<|J' a z (λam a=>?_) (λam a=>?_)
    .refine o'<|a'<|c'<|V'<|sr<|δ z<|θ z<|c'<|hZ [ff,ff,ff,ff,ff,ff,ff,ff,ff,ff,ff,ff,ff,ff,ff,ff] gp (by kernel_rfl) λhb=>ù z<|ù z<|ù z<|oE a λV Z a=>cn (λ_ g=>X' t' kz ((p.mono (mx h y)).mono g) z z Z)<|cn (λ_ g=>il nD z (lH (R' (R' (Á p Z) (mx h y)) g)))<|cn (λ_ g=>jF nq Y' z)<|cn (λ_ g=>vp z z)<|ù z<|ù z<|ù z<|cn (λ_ g=>O' z z)<|oE a λU ab a=>cn (λ_ g=>qV t' kz (m.mono g) z z ab)<|cn (λ_ g=>RM nD (m.mono g) (key:=4016) z z (lH (RN m ab)))<|cn (λ_ g=>jF nq Y' z)<|cn (λ_ g=>O' z z)<|ù z<|jz hb<|é z<|ς z<|q'<|fh<|a'<|sr<|δ z<|δ z<|δ z<|é z<|δ z<|γ (jF Y' nq z)<|oE a λx5 ad a=>γ (qV t' kz m z z ad)<|sp (r:=(Rp.int .u32)) (e:=250) (cs':=[.int .u32 (u32.wrap (u64.wrap ((u64.wrap ((u64.wrap ((u64.wrap T)*(u64.wrap V)))+(u64.wrap U)))+k)))]) (i:=i64.wrap (f+l)) (z':=u32.wrap (u64.wrap ((u64.wrap ((u64.wrap ((u64.wrap T)*(u64.wrap V)))+(u64.wrap U)))+k))) 4016 z kz z m z z z z z ad λao ah=>nx<|p'<|δ z<|γ (uR z z (by decide))<|ς z<|q'<|A'<|a'<|p'<|é z<|δ z<|q'<|K' ⟨(B.set (i64.wrap (f+l)).toNat (u32.wrap (u64.wrap ((u64.wrap ((u64.wrap ((u64.wrap T)*(u64.wrap V)))+(u64.wrap U)))+k)))),ao,Int.fdiv (u64.wrap ((u64.wrap ((u64.wrap ((u64.wrap T)*(u64.wrap V)))+(u64.wrap U)))+k)) (2 ^ (min (32:Int).toNat u64.bits)),i64.wrap (l+1),F⟩ a ⟨y,ah⟩ (f10 z z z z z z z z z z) (w1 z)
    refine Æ<|g'<|g'<|H'<|Ë ⟨B,q,k,F⟩ ⟨a,y,m⟩ (υ z) (w1 z)
   rintro⟨H,C,v,I⟩ ⟨a,P,M⟩
   refine a'<|p'<|δ z<|δ z<|δ z<|γ (N' t' (p.mono (mx h P)) z)<|é z<|δ z<|γ (jF Y' nq z)<|oE a λx2 w a=>γ (qV t' kz M z z w)<|sp (r:=(Rp.int .u32)) (e:=250) (cs':=[.int .u32 (u32.wrap v)]) (i:=i64.wrap (f+(d.length:Int))) (z':=u32.wrap v) 4016 z kz z M z z z z z w λal aj=>q'<|A'<|a'<|p'<|é z<|δ z<|q'<|K' ⟨(H.set (i64.wrap (f+(d.length:Int))).toNat (u32.wrap v)),al,i64.wrap (f+1),I⟩ a ⟨(mx h P),aj⟩ (υ z) (w1 z)
  refine Æ<|g'<|g'<|H'<|Ë ⟨E,j,x⟩ ⟨a,h,O⟩ (f1 z) (w1 z)
 rintro⟨K,D,Q⟩ ⟨a,ar,W⟩
 refine a'<|sr<|δ z<|qX (r:=(Rp.int .u32)) (e:=250) 4016 W z (by rw[ap]; rfl) (λaC aB aw S au=>?_)
 refine oE a λaD ai a=>U' z z (x' pF z) (vk ai) (by rw[tz S]) ((tA S)) (λay aE av R=>?_)
 obtain⟨aA,az,rfl,ae⟩:=R
 refine θ z<|m' ?_
 obtain rfl:_=r:=a
 exact k' z z ⟨_,_,z,ae⟩
theorem R8{A t j f g e r}(a:(DW A t).ο r):ä prog 106 #[.agg ((ι A j f)).toArray,.agg ((ι t g e)).toArray] (λG=>sl (Rp.int .u32) G j f A.Α/\sl (Rp.int .u32) G g e t.Α) (jb r):=by
 refine E' (args:=[_,_]) (N:=16) func106 z z z (λT R M y=>?_)
 obtain⟨o,p⟩:=y
 refine sr<|ý 2 z z z λU=>ý 3 z z z λQ=>T' 4 z oe z λV=>nx<|c'<|hZ [ff,ff,ff,ff,ff,ff,ff,ff,ff,ff] gp (by kernel_rfl) λP=>cn (λ_ c=>mM z)<|cn (λ_ c=>f' 2 kX z z z)<|cn (λ_ c=>mM z)<|cn (λ_ c=>f' 3 kX z z z)<|cn (λ_ c=>Y0.tZ vl z z)<|cn (λ_ c=>jk z)<|cn (λ_ c=>f' 2 jm z z z)<|cn (λ_ c=>jk z)<|cn (λ_ c=>f' 3 jm z z z)<|oE a λq B a=>mL (post:=jx (Rp.int .u32) q) (λ_=>z) (λ_ _=>x' Gn z) (fl' B) z (λO c=>⟨(o.mono c),(p.mono c)⟩) (λv W S c h=>?_) ?_
 .obtain⟨x,u,rfl,k⟩:=h
  exact⟨_,_,z,k.mono c⟩
 refine rG (d:=14) (post:=jx (Rp.int .u32) q) (λH J F l=>?_)
 obtain⟨x,u,rfl,k⟩:=l
 refine oE a λK s a=>U' z z (x' qT z) (yi s) z (k) (λI L E n=>?_)
 obtain⟨D,C,rfl,m⟩:=n
 refine ø 4 lx z<|q'<|fh<|a'<|m' ?_
 obtain rfl:_=r:=a
 exact k' z (hQ (i:=4) Ò z z z) ⟨_,_,z,m⟩
theorem Fv{H F E r}(a:(AS H).ο r):ä prog 146 #[ε F H E] (λG=>sl tw G F E H) (jb r):=by
 refine E' (args:=[_]) (N:=25) func146 z z z (λw0 W ak S=>?_)
 have C:=S
 refine sr<|T' 2 z oe z λK=>nr<|oE a λV T a=>U' z z (x' sT z) (Cr T) z (trivial) (λaf D n u=>?_)
 obtain⟨s,t,rfl,y⟩:=u
 refine T' 3 z oe z λM=>ø 3 lx z<|nx<|c'<|sr<|δ z<|γ (N' underlying269 (C.mono n) z)<|δ z<|nx<|Z' (X:=Int×Zi×ŀ Addr×Nat×Mem) a (λ⟨j,m,d,c,k⟩=>⟨(j,m),[(2,Τ K),(3,Τ M),(7,ε F H E),(8,i' (H.length:Int)),(9,i' j)],Mem.le D k/\sl (Rp.int .u32) k d c m.Α,St w0 W k [(2,Ξ K ([.bool false,.slice none 0 0]) 95),(3,Ξ M (ι m d c) 95)]⟩) (λ(⟨o,g,h,p⟩:Zi×ŀ Addr×Nat×Mem)=>⟨o,[(2,Τ K),(3,Τ M)],Mem.le D p/\sl (Rp.int .u32) p g h o.Α,St w0 W p [(2,Ξ K ([.bool false,.slice none 0 0]) 95),(3,Ξ M (ι o g h) 95)]⟩) ⟨0,V,s,t,D⟩ z (υ z) ⟨mr,y⟩ (w2 z z) ?_ ?_
 .rintro _ ⟨j,m,d,c,k⟩ ⟨f,e⟩ a
  refine sr<|Ï z<|nx<|c'<|J' a z (λad a=>?_) (λad a=>?_)
  .refine o'<|a'<|c'<|V'<|sr<|oE a λx1 O a=>γ (X' underlying269 lx (C.mono (mx n f)) z z O) ?_
   obtain⟨I,J,w,l⟩:=Og (R' (Á C O) (mx n f))
   refine γ (jC _ Ò z z w)<|T' 5 z oe z λb3=>ø 5 lx z<|nx<|V'<|sr<|γ (w' 5 Ò z z z)<|oE a λai P a=>I' z z (x' r9 z) (zP P) z (l)<|θ z<|iC a z (λZ a=>?_) (λZ a=>?_)
   .refine o'<|A'<|A'<|a'<|p'<|é z<|δ z<|q'<|K' ⟨i64.wrap (j+1),m,d,c,k⟩ a ⟨f,e⟩ (υ z) (w2 z z)
   refine sr<|γ (w' 3 Ò z z z)<|oE a λaj R a=>I' z z (x' r9 z) (zP R) z (e)<|θ z<|iC a z (λac a=>?_) (λac a=>?_)
   .refine p'<|γ (w' 5 Ò z z z)<|ø 3 lx z<|q'<|A'<|A'<|a'<|p'<|é z<|δ z<|q'<|K' ⟨i64.wrap (j+1),x1,I,J,k⟩ a ⟨f,l⟩ (υ z) (w2 z z)
   refine p'<|γ (w' 3 Ò z z z)<|γ (w' 5 Ò z z z)<|oE a λU Q a=>U' z z (x' Aa z) (R8 Q) z (⟨e,l⟩) (λag Y L x=>?_)
   obtain⟨q,A,rfl,B⟩:=x
   refine ø 3 lx z<|q'<|A'<|A'<|a'<|p'<|é z<|δ z<|q'<|K' ⟨i64.wrap (j+1),U,q,A,Y⟩ a ⟨(mx f L),B⟩ (υ z) (w2 z z)
  refine Æ<|g'<|g'<|H'<|Ë ⟨m,d,c,k⟩ ⟨a,f,e⟩ (υ z) (w2 z z)
 rintro⟨o,g,h,p⟩ ⟨a,ae,v⟩
 refine a'<|sr<|γ (w' 3 Ò z z z)<|ø 2 lx z<|nx<|m' ?_
 obtain rfl:_=r:=a
 exact k' z (hQ (i:=2) Ò z z z) ⟨_,_,z,v⟩
theorem R5{K J t C x D s A y B r}(a:(uC K J).ο r):ä prog 152 #[.agg ((χ K t C x D)).toArray,.agg ((χ J s A y B)).toArray] (λG=>sl (Rp.int .u32) G t C K.num.Α/\sl (Rp.int .u32) G x D K.den.Α/\sl (Rp.int .u32) G s A J.num.Α/\sl (Rp.int .u32) G y B J.den.Α) (lq r):=by
 refine E' (args:=[_,_]) (N:=30) func152 z z z (λw0 G0 aH aw=>?_)
 obtain⟨T,W,U,V⟩:=aw
 refine sr<|ý 2 z z z λb2=>ý 3 z z z λb3=>T' 4 z ru z λb4=>nr<|γ (pn z)<|γ (gZ ((ι K.num t C)).toArray 2 Ò z z z (hC ([]) ((ι K.num t C)) ((ι K.den x D))))<|γ (oy z)<|γ (gZ ((ι J.den y B)).toArray 3 Ò z z z (hC ((ι J.num s A)) ((ι J.den y B)) ([])))<|oE a λq ar a=>U' z z (x' xn z) (Kv ar) z (⟨T,V⟩) (λaE aJ aa ac=>?_)
 obtain⟨o,n,l,m,rfl,P,O⟩:=ac
 refine T' 5 z ru z λb5=>ø 5 mD z<|nr<|γ (pn z)<|γ (gZ ((ι J.num s A)).toArray 3 Ò z z z (hC ([]) ((ι J.num s A)) ((ι J.den y B))))<|γ (oy z)<|γ (gZ ((ι K.den x D)).toArray 2 Ò z z z (hC ((ι K.num t C)) ((ι K.den x D)) ([])))<|oE a λp au a=>U' z z (x' xn z) (Kv au) z (⟨(U.mono aa),(W.mono aa)⟩) (λaD aG Z ah=>?_)
 obtain⟨c,j,g,k,rfl,R,Q⟩:=ah
 refine T' 6 z ru z λb6=>ø 6 mD z<|nx<|c'<|hZ [ff,ff,ff,ff,ff,ff,ff,ff,ff,ff,ff] gp (by kernel_rfl) λhb=>cn (λ_ E=>pn z)<|cn (λ_ E=>gZ ((ι q.num o n)).toArray 5 Ò z z z (hC ([]) ((ι q.num o n)) ((ι q.den l m))))<|cn (λ_ E=>pn z)<|cn (λ_ E=>gZ ((ι p.num c j)).toArray 6 Ò z z z (hC ([]) ((ι p.num c j)) ((ι p.den g k))))<|uP (r:=tw) (e:=95) ([q.num,p.num]:Ŀ Zi) (λ_=>z) z (by decide) (λu G' E hu=>?_) ?_
 .exact⟨#[(0,.agg ((ι q.num o n)).toArray),(1,.agg ((ι p.num c j)).toArray)],(ι q.num o n)++((ι p.num c j)++([])),z,z,λ_=>by kernel_rfl,⟨(ι q.num o n),(ι p.num c j)++([]),z,⟨[.bool q.num.neg],[ε o q.num.Α n],z,z,⟨_,z,((P.mono Z).mono E)⟩⟩,⟨(ι p.num c j),[],z,⟨[.bool p.num.neg],[ε c p.num.Α j],z,z,⟨_,z,(R.mono E)⟩⟩,z⟩⟩⟩
 refine oE a λS ap a=>sm (f:=146) (φ:=jb S) (λ_=>z) (λv G1 G2 E h=>?_) (λu G' E hu=>?_) ?_
 .obtain⟨H,I,rfl,F⟩:=h
  exact⟨_,_,z,F.mono E⟩
 .obtain⟨⟨Y,X,aj,al⟩,_⟩:=(show (λG v=>∃ Y X,v = .slice Y 2 2/\kM tw G (.slice Y 2 2) X [q.num,p.num]) G'.m (u 21)/\True from hu)
  exact⟨_,_,_,λ_=>x' uZ z,Fv ap,(by simp only[aj] <;> rfl),al⟩
 refine cu (λ_ _ E=>oy z)<|cu (λ_ _ E=>gZ ((ι q.den l m)).toArray 5 Ò z z z (hC ((ι q.num o n)) ((ι q.den l m)) ([])))<|cu (λ_ _ E=>oy z)<|cu (λ_ _ E=>gZ ((ι p.den g k)).toArray 6 Ò z z z (hC ((ι p.num c j)) ((ι p.den g k)) ([])))<|uP (r:=tw) (e:=95) ([q.den,p.den]:Ŀ Zi) (λ_=>z) z (by decide) (λu G' E hu=>?_) ?_
 .exact⟨#[(0,.agg ((ι q.den l m)).toArray),(1,.agg ((ι p.den g k)).toArray)],(ι q.den l m)++((ι p.den g k)++([])),z,z,λ_=>by kernel_rfl,⟨(ι q.den l m),(ι p.den g k)++([]),z,⟨[.bool q.den.neg],[ε l q.den.Α m],z,z,⟨_,z,((O.mono Z).mono E)⟩⟩,⟨(ι p.den g k),[],z,⟨[.bool p.den.neg],[ε g p.den.Α k],z,z,⟨_,z,(Q.mono E)⟩⟩,z⟩⟩⟩
 refine η.qk (d:=27) (post:=λG v=>∃ p2 am,v = .slice p2 2 2/\kM tw G (.slice p2 2 2) am [q.den,p.den]) (d':=22) (post':=jb S) (d'':=21) (post'':=λG v=>∃ Y X,v = .slice Y 2 2/\kM tw G (.slice Y 2 2) X [q.num,p.num]) (λaA aC aB aI ay ae ad ag=>?_)
 obtain⟨p2,am,rfl,ax⟩:=ae
 obtain⟨H,I,rfl,F⟩:=ad
 obtain⟨Y,X,rfl,al⟩:=ag
 refine oE a λw aq a=>U' z z (x' uZ z) (Fv aq) z (ax) (λaz aF ak ab=>?_)
 obtain⟨L,M,rfl,af⟩:=ab
 refine γ (iK (vs:=#[(0,.agg ((ι S H I)).toArray),(1,.agg ((ι w L M)).toArray)]) (v:=.agg ([.bool S.neg,ε H S.Α I,.bool w.neg,ε L w.Α M]).toArray) z z (λ_=>by kernel_rfl))<|ø 4 mD z<|q'<|fh<|a'<|m' ?_
 obtain rfl:_=r:=a
 exact k' z (hQ (i:=4) kf z z z) ⟨_,_,_,_,z,(F.mono ak),af⟩
theorem RX{m i q g j f c d e r}(a:(Dj m i q).ο r):ò prog 97 #[.map (some g),.agg ((χ i f c d e)).toArray,.agg (Ι q).toArray] [(5500,j)] (λG=>ü mq (kp pj G) (.map (some g)) m j/\sl (Rp.int .u32) G f c i.num.Α/\sl (Rp.int .u32) G d e i.den.Α) (λG L v=>∃ x,L=[(5500,x)]/\v = .tuple #[]/\ü mq (kp pj G) (.map (some g)) r x):=by
 refine qz (args:=[_,_,_]) (N:=21) func97 z z z (λP D Q E=>?_)
 obtain⟨l,o,n⟩:=E
 refine sr<|ý 4 z z z λS=>ý 5 z z z λU=>nx<|c'<|sr<|δ z<|γ (w' 5 iL z z (M' _ _ _)) ?_
 obtain⟨J,a⟩:=a
 obtain⟨O,p,a⟩:=a
 replace p:_=O:=p
 refine zT (r:=pj) (k:=q) (zc:=[.bool false,.slice none 0 0,.bool false,.slice none 0 0]) (z:=(Zj.mk (Zi.mk false []) (Zi.mk false []))) 5500 z z B4 LL ⟨[.bool false,.slice none 0 0],[.bool false,.slice none 0 0],z,⟨[.bool false],[.slice none 0 0],z,z,⟨_,z,(gi _ _)⟩⟩,⟨[.bool false],[.slice none 0 0],z,z,⟨_,z,(gi _ _)⟩⟩⟩ l z z z J (λR B=>?_)
 rw[p] at B
 obtain⟨C,A,t,s,rfl,u,y⟩:=Ol B
 refine δ z<|Û z<|Û z<|T' 6 z ru z λT=>ø 6 mD z<|ς z<|nr<|δ z<|nx<|iC a z (λM a=>?_) (λM a=>?_)
 .exact (show False from a).elim
 refine o'<|a'<|p'<|δ z<|γ (w' 5 iL z z (M' _ _ _))<|γ (w' 4 kf z z z) ?_
 obtain⟨⟨I,F⟩,a⟩:=a
 refine wL (Rv':=kp pj D) (k:=q) (z:=i) 5500 z B4 l z z z z I ⟨(χ i f c d e),z,⟨(ι i.num f c),(ι i.den d e),z,⟨[.bool i.num.neg],[ε f i.num.Α c],z,z,⟨_,z,o⟩⟩,⟨[.bool i.den.neg],[ε d i.den.Α e],z,z,⟨_,z,n⟩⟩⟩⟩ (λ_ _ _ _ h=>h) F λK H=>q'<|FJ ?_
 obtain rfl:_=r:=a
 refine oZ (S':=St P D D [(5500,K)]) (w1 z)<|FK z  ⟨_,z,z,H⟩
theorem MK(W:(Ŀ Za))(q1:(Ŀ Za))(ab:ŀ Addr)(ag:Nat)(Q:ŀ Addr)(R:Nat)(r:(Ŀ Za)×Int)(a:(xI W q1).ο r):ä prog 96 #[ε ab W ag,ε Q q1 R] (λG=>sl n' G ab ag W/\sl n' G Q R q1) (ny n' r):=by
 refine E' (args:=[_,_]) (N:=49) func96 z z z (λw0 G0 Z aP=>?_)
 obtain⟨ar,av⟩:=aP
 have hz:w0.L.zero:=by rw[Z]; intro p hp; simp at hp
 refine sr<|ς z<|ς z<|nr<|wH (ky:=mq) (Rv:=kp pj G0) 4013 z z λK aB aH=>θ z<|c'<|sr<|δ z<|γ (N' F' ar z)<|δ z<|nx<|Z' (X:=Int×(Ŀ ((Fin 8->Int)×Zj))×ŀ Ow×Mem) a (λ⟨C,ac,J,I⟩=>⟨(C,ac),[(1,ε Q q1 R),(14,ε ab W ag),(15,i' (W.length:Int)),(16,i' C),(6,.map (some K))],Mem.le G0 I/\ü mq (kp pj I) (.map (some K)) ac J,St w0 G0 I [(4013,J)]⟩) (λ(gx:(Ŀ ((Fin 8->Int)×Zj))×ŀ Ow×Mem)=>match gx with|⟨ax,U,al⟩=>⟨(.inr ax),[(6,.map (some K))],Mem.le G0 al/\ü mq (kp pj al) (.map (some K)) ax U,St w0 G0 al [(4013,U)]⟩) ⟨0,[],aB,G0⟩ z (υ z) ⟨mr,aH⟩ (w1 z) ?_ ?_
 .rintro _ ⟨C,ac,J,I⟩ ⟨q,ap⟩ a
  refine sr<|Ï z<|nx<|c'<|J' a z (λaY a=>?_) (λaY a=>?_)
  .refine o'<|a'<|c'<|V'<|sr<|oE a λt aF a=>γ (X' F' jA (ar.mono q) z z aF) ?_
   obtain⟨c,e,f,g,aQ,H,F⟩:=pr (R' (Á ar aF) q)
   refine γ (jC _ oz z z aQ)<|T' 8 z z159 z λb1=>y' 8 z jA z z z z z (λu hu=>Rp.one n' (G:=I) (x:=t) (cs:=((χ t.c c e f g):Ŀ Value)++(Ι t.m)) ⟨(χ t.c c e f g),Ι t.m,z,⟨(ι t.c.num c e),(ι t.c.den f g),z,⟨[.bool t.c.num.neg],[ε c t.c.num.Α e],z,z,⟨_,z,H⟩⟩,⟨[.bool t.c.den.neg],[ε f t.c.den.Α g],z,z,⟨_,z,F⟩⟩⟩,z⟩ u (by first|simpa using hu|simpa [Value.cells] using hu))<|nr<|δ z<|γ (N' F' (av.mono q) z)<|δ z<|nx<|Z' (X:=Int×(Ŀ ((Fin 8->Int)×Zj))×ŀ Ow×Mem) a (λ⟨M,ai,L,P⟩=>⟨(M,ai),[(1,ε Q q1 R),(8,Τ b1),(14,ε ab W ag),(15,i' (W.length:Int)),(16,i' C),(20,ε Q q1 R),(21,i' (q1.length:Int)),(22,i' M),(6,.map (some K))],Mem.le I P/\ü mq (kp pj P) (.map (some K)) ai L,St w0 G0 P [(8,Ξ b1 (((χ t.c c e f g):Ŀ Value)++(Ι t.m)) 159),(4013,L)]⟩) (λ(gx:(Ŀ ((Fin 8->Int)×Zj))×ŀ Ow×Mem)=>match gx with|⟨aj,O,aa⟩=>⟨(.inr aj),[(1,ε Q q1 R),(14,ε ab W ag),(15,i' (W.length:Int)),(16,i' C),(6,.map (some K))],Mem.le I aa/\ü mq (kp pj aa) (.map (some K)) aj O,St w0 G0 aa [(4013,O)]⟩) ⟨0,ac,J,I⟩ z (υ z) ⟨mr,ap⟩ (w2 z z) ?_ ?_
   .rintro _ ⟨M,ai,L,P⟩ ⟨B,au⟩ a
    refine sr<|Ï z<|nx<|c'<|J' a z (λaV a=>?_) (λaV a=>?_)
    .refine o'<|a'<|c'<|V'<|sr<|oE a λA aC a=>γ (X' F' jA (av.mono (mx q B)) z z aC) ?_
     obtain⟨l,k,m,n,aU,D,E⟩:=pr (R' (Á av aC) (mx q B))
     refine γ (jC _ oz z z aU)<|T' 10 z z159 z λb2=>y' 10 z jA z z z z z (λu hu=>Rp.one n' (G:=P) (x:=A) (cs:=((χ A.c l k m n):Ŀ Value)++(Ι A.m)) ⟨(χ A.c l k m n),Ι A.m,z,⟨(ι A.c.num l k),(ι A.c.den m n),z,⟨[.bool A.c.num.neg],[ε l A.c.num.Α k],z,z,⟨_,z,D⟩⟩,⟨[.bool A.c.den.neg],[ε m A.c.den.Α n],z,z,⟨_,z,E⟩⟩⟩,z⟩ u (by first|simpa using hu|simpa [Value.cells] using hu))<|nr<|γ (lV z)<|γ (gZ (Ι t.m).toArray 8 iL z z (M' _ _ _) (hC ((χ t.c c e f g)) (Ι t.m) ([])))<|γ (lV z)<|γ (gZ (Ι A.m).toArray 10 iL z z (M' _ _ _) (hC ((χ A.c l k m n)) (Ι A.m) ([])))<|oE a λaD aL a=>I' z z (x' Aj z) (R4 aL) z (trivial)<|δ z<|Û z<|Û z<|T' 11 z r5 z λb3=>y' 11 z ov z z z (M' _ _ _) (M' _ _ _) (λu hu=>Rp.one (pt .i64 8) (G:=P) (x:=aD.1) (cs:=Ι aD.1) z u (by first|simpa using hu|simpa [Value.cells] using hu))<|θ z<|c'<|sr<|δ z<|γ (ly z z)<|nx<|J' a z (λaW a=>?_) (λaW a=>?_)
     .exact (show False from a).elim
     refine o'<|a'<|hZ [ff,ff,ff,ff,ff,ff,ff] gp (by kernel_rfl) λhb=>ù z<|cn (λ_ o=>oq z)<|cn (λ_ o=>gZ ((χ t.c c e f g)).toArray 8 kf z z z (hC ([]) ((χ t.c c e f g)) ((Ι t.m))))<|cn (λ_ o=>oq z)<|cn (λ_ o=>gZ ((χ A.c l k m n)).toArray 10 kf z z z (hC ([]) ((χ A.c l k m n)) ((Ι A.m))))<|oE a λaE aO a=>mL (post:=lq aE) (λ_=>z) (λ_ _=>x' Ak z) (R5 aO) z (λG' o=>⟨((H.mono B).mono o),((F.mono B).mono o),(D.mono o),(E.mono o)⟩) (λv G1 G2 o h=>?_) ?_
     .obtain⟨Y,S,T,V,rfl,s,y⟩:=h
      exact⟨_,_,_,_,z,s.mono o,y.mono o⟩
     refine cu (λ_ _ o=>w' 11 iL z z (M' _ _ _))<|rG (d:=42) (post:=lq aE) (λa2 a8 ak ao=>?_)
     obtain⟨Y,S,T,V,rfl,s,y⟩:=ao
     refine oE a λaR aG a=>kq (λw hs=>hs.î (i:=4013) (j:=5500) z (by rw[Z]; rfl))<|nO z z (x' Me z) (RX aG) z (⟨(oX au ak),s,y⟩) (lc z ln) hz (λa3 aS a7 az an=>?_)
     obtain⟨aA,rfl,rfl,aq⟩:=an
     refine kq (λw hs=>hs.î (i:=5500) (j:=4013) z (by rw[Z]; rfl))<|q'<|fh<|A'<|a'<|p'<|é z<|δ z<|q'<|K' ⟨i64.wrap (M+1),aR,aA,aS⟩ a ⟨(mx (mx B ak) az),aq⟩ (υ z) (w2 z z)
    refine Æ<|g'<|g'<|H'<|Ë ⟨ai,L,P⟩ ⟨a,B,au⟩ (υ z) (w1 z)
   rintro⟨aj,O,aa⟩ ⟨a,ay,aJ⟩
   refine A'<|a'<|p'<|é z<|δ z<|q'<|K' ⟨i64.wrap (C+1),aj,O,aa⟩ a ⟨(mx q ay),aJ⟩ (υ z) (w1 z)
  refine Æ<|g'<|g'<|H'<|Ë ⟨ac,J,I⟩ ⟨a,q,ap⟩ (f1 z) (w1 z)
 rintro⟨ax,U,al⟩ ⟨a,aZ,aM⟩
 refine a'<|sr<|δ z<|oE a λba aK a=>kq (λw hs=>hs.î (i:=4013) (j:=5500) z (by rw[Z]; rfl))<|zY z z (x' He z) (KH aK) z (aM) (lc z ln) (λi hi=>by simp only[ė,ĵ,ą,ĝ,ŝ] at hi; subst hi; exact z) hz (λa4 a9 a0 am=>?_)
 obtain⟨a6,a1,rfl,aN⟩:=am
 refine kq (λw hs=>hs.î (i:=5500) (j:=4013) z (by rw[Z]; rfl))<|ς z<|θ z<|m' ?_
 obtain rfl:_=r:=a
 exact l5 z z z ⟨_,_,z,aN⟩
theorem eV'(W:Nat->Nat->Ŀ Za)(q:Ŀ (Ŀ Za))(e:Ŀ Value)(f:Unit):ò prog 95 #[.agg e.toArray] [] (λG=>iz (Rp.sl n') 8 G e f q) (λG L v=>∃ c d,v = .func (.func 150) #[] #[Τ c,Τ d]/\rC (Rp.sl n') 49 236 137 W q G L c d):=by
 refine qz (args:=[_]) (N:=5) func95 z z z λi j h g=>sr<|ý 8000103 z z z λd=>ς z<|nr<|T' 8000101 z z236 z λc=>nr<|γ (Y0.makeFunc z z)<|θ z<|m'<|k' z z ⟨_,_,z,_,qx.start g⟩
theorem TQ(W:Nat->Nat->Ŀ Za)(q:Ŀ (Ŀ Za))(kb qb:Nat)(T:Lo)(i e:Int)(Y:s8 xI q W)(hi:0<=i/\i<8)(he:1<=e/\e<=64):ò prog 150 #[.int .i64 i,.int .i64 e,.pointer (some ⟨kb,0,none⟩),.pointer (some ⟨qb,0,none⟩)] T (λG=>rC (Rp.sl Zo) 49 236 137 W q G T kb qb) (λG L v=>(∃ p c,v = .slice p (W i.toNat e.toNat).length c/\ë Zo G (.slice p (W i.toNat e.toNat).length c) (W i.toNat e.toNat))/\rC (Rp.sl Zo) 49 236 137 W q G L kb qb):=by
 obtain⟨j,rfl⟩:∃ j:Nat,i=j:=⟨i.toNat,by omega⟩
 obtain⟨m,rfl⟩:∃ m:Nat,e=m:=⟨e.toNat,by omega⟩
 have y:j<8:=by omega
 refine ò.enter (args:=[_,_,_,_]) (N:=58) func150 rfl rfl rfl (λw0 G0 an s=>?_)
 obtain⟨Nf,s⟩:=s
 have ad:∀ k,k<8000000->w0.L.get k=none:=λk Z=>by rw[an]; exact s.low Z
 obtain⟨cs,Z,au,av⟩:=s.known
 obtain⟨p0,c0,ao,aD⟩:=av j y
 obtain⟨qs,qu,ax,hq⟩:=s.box
 have aC:((j:Int)).toNat=j:=rfl
 refine sr<|sg rfl rfl<|nx ?_
 have aq:8000000<=kj (j:Int):=JF _
 refine WC.sE (X:=Mem×Lo) (λ_=>[(0,.int .i64 (j:Int)),(1,.int .i64 (m:Int)),(2,.pointer (some ⟨kb,0,none⟩)),(3,.pointer (some ⟨qb,0,none⟩))]) (λx=>Mem.le G0 x.1/\∃ Nf,1<=Nf j/\qx (Rp.sl Zo) 49 236 137 W q Nf x.1 x.2 kb qb) (λx=>St w0 G0 x.1 x.2) ?_ ?_
 .refine sr<|mv rfl rfl<|yy (Y0.jH underlying236 n3 rfl rfl hi) rfl<|yy (Y0.gN 8000101 lg rfl Z (by rw[ę]; exact ao)) rfl<|yy (Y0.mU underlying37 rfl) rfl<|yy (Y0.eql rfl rfl) rfl<|nx ?_
  refine WC.iD (p:=((Nf j:Nat):Int)=0) rfl (λhn=>?_) (λhn=>?_)
  .obtain⟨qp,qc,qe,qh⟩:=AtK.sl (iz.at hq (i:=(j:Int)) ⟨by omega,Y.1 j y⟩)
   refine WC.region<|mv rfl rfl<|mv rfl rfl<|yy (Y0.qF underlying137 iG rfl rfl (iz.lt hq (i:=(j:Int)) ⟨by omega,Y.1 j y⟩)) rfl<|yy (Y0.gN 8000103 ij rfl ax qe) rfl ?_
   refine WL.CD (e:=49) (r:=(Rp.sl Zo)) (vs:=#[(0,.slice qp (W j 1).length qc)]) (cs:=[.slice qp (W j 1).length qc]++([])) ([W j 1]:Ŀ (Ŀ Za)) (kj (j:Int)) Zf rfl rfl rfl rfl (by decide) (λ_=>by kernel_rfl) ⟨[.slice qp (W j 1).length qc],[],rfl,⟨_,rfl,qh⟩,rfl⟩ (λp tk h=>?_)
   refine yy (Y0.jH underlying236 n3 rfl rfl hi) rfl ?_
   refine WL.iE 8000101 (cs.set j (.slice p 1 1)).toArray Zf n3 rfl rfl (by rw[Lo.Zn,Ā (by rw[va]; omega)]; exact Z) (by rw[ĥ,au]; exact y) rfl (aaj ..) ?_
   refine WL.nil ?_
   refine WE.pZ (X:=Mem×Lo) (G0,_) ⟨Mem.le_refl _,_,?_,qx.put s Z (n:=1) y h⟩ (Fr.Ze rfl (Fr.Ze rfl (Fr.Ze rfl (Fr.Ze rfl (Fr.Zs _))))) (λw H=>H)
   simp
  refine WC.skip ?_
  exact WE.pZ (X:=Mem×Lo) (G0,T) ⟨Mem.le_refl _,Nf,by omega,s⟩ (Fr.Ze rfl (Fr.Ze rfl (Fr.Ze rfl (Fr.Ze rfl (Fr.Zs _))))) (λw H=>H)
 rintro⟨G1,T1⟩ ⟨V,U,aw,I⟩
 dsimp only at V I ⊢
 refine WC.sE (X:=Mem×Lo) (λ_=>[(0,.int .i64 (j:Int)),(1,.int .i64 (m:Int)),(2,.pointer (some ⟨kb,0,none⟩)),(3,.pointer (some ⟨qb,0,none⟩))]) (λx=>Mem.le G0 x.1/\∃ Nf,m<=Nf j/\qx (Rp.sl Zo) 49 236 137 W q Nf x.1 x.2 kb qb) (λx=>St w0 G0 x.1 x.2) ?_ ?_
 .refine WC.block ?_
  refine WC.kV (X:=Mem×Lo×Nat) (λ_=>[(0,.int .i64 (j:Int)),(1,.int .i64 (m:Int)),(2,.pointer (some ⟨kb,0,none⟩)),(3,.pointer (some ⟨qb,0,none⟩))]) (λx=>Mem.le G0 x.1/\∃ Nf,Nf j=x.2.2/\1<=Nf j/\qx (Rp.sl Zo) 49 236 137 W q Nf x.1 x.2.1 kb qb) (λx=>St w0 G0 x.1 x.2.1) (λx=>64-x.2.2) (G1,T1,U j) (Fr.Ze rfl (Fr.Ze rfl (Fr.Ze rfl (Fr.Ze rfl (Fr.Zs _))))) ⟨V,U,rfl,aw,I⟩ (λw H=>H) ?_
  rintro⟨G2,T2,n⟩ ⟨K,a,ag,ah,g⟩
  dsimp only at K ag g ⊢
  subst ag
  have P:=g.low (i:=999) (by omega)
  obtain⟨ak,t,aa,ab⟩:=g.known
  obtain⟨p2,c2,E,F⟩:=ab j y
  obtain⟨aF,aG,aj,ai⟩:=g.box
  refine WC.seq<|sr<|mv rfl rfl<|yy (Y0.jH underlying236 n3 rfl rfl hi) rfl<|yy (Y0.gN 8000101 lg rfl t (by rw[ę]; exact E)) rfl<|yy (Y0.mU underlying37 rfl) rfl<|mv rfl rfl<|yy (Y0.lss rfl rfl) rfl<|nx ?_
  refine WC.iD (p:=((a j:Nat):Int)<(m:Int)) rfl (λhn=>?_) (λhn=>?_)
  .have O:(nL W j (a j))[a j-1]? = some (W j (a j)):=by
    have:=Q2 W j (n:=a j) (k:=a j-1) (by omega)
    rwa [show a j-1+1=a j by omega] at this
   have l:(0:Int)<=((a j-1:Nat):Int)/\(nL W j (a j))[(((a j-1:Nat):Int)).toNat]? = some (W j (a j)):=⟨by omega,O⟩
   have R:i64.wrap (((a j:Nat):Int)-1)=((a j-1:Nat):Int):=by rw[Į]; omega
   obtain⟨xp,xc,xe,xh⟩:=AtK.sl (Η.at F l)
   obtain⟨qp,qc,qe,qh⟩:=AtK.sl (iz.at ai (i:=(j:Int)) ⟨by omega,Y.1 j y⟩)
   obtain⟨S,ae⟩:=Y.2 j y (a j) ah (by omega)
   refine WC.skip<|WE.then<|WC.block<|WC.seq ?_
   refine WC.drawn [false,false,false,false,false,false,false,false,false,false,false,false,false,false,false,false,true] gp (by kernel_rfl) (λhb=>?_)
   refine cn (λ_ d=>Y0.move rfl)<|cn (λ_ d=>Y0.jH underlying236 n3 rfl rfl hi)<|cn (λ_ d=>Y0.gN 8000101 lg rfl t (by rw[ę]; exact E)) ?_
   refine cn (λ_ d=>Y0.move rfl)<|cn (λ_ d=>Y0.jH underlying236 n3 rfl rfl hi)<|cn (λ_ d=>Y0.gN 8000101 lg rfl t (by rw[ę]; exact E))<|cn (λ_ d=>Y0.mU underlying37 rfl)<|cn (λ_ d=>Y0.eq (Y0.sub rfl rfl) (ć (Value.int .i64) R)) ?_
   refine cn (λ_ d=>Y0.pT underlying37 iG (F.mono d) rfl rfl l)<|cn (λ_ d=>Y0.loadT ij (F.mono d) (key:=kj (j:Int)) rfl rfl xe) ?_
   refine cn (λ_ d=>Y0.move rfl)<|cn (λ_ d=>Y0.qF underlying137 iG rfl rfl (iz.lt ai (i:=(j:Int)) ⟨by omega,Y.1 j y⟩))<|cn (λ_ d=>Y0.gN 8000103 ij rfl aj qe) ?_
   refine η.rJ (post:=λG v=>∃ f zc,v = .tuple #[.slice f (W j (a j+1)).length zc,.int .i64 S]/\ë Zo G (.slice f (W j (a j+1)).length zc) (W j (a j+1))) (λ_=>Zf) (λ_ _=>YC.of Md rfl) (MK _ _ _ _ _ _ _ ae) rfl (λG' d=>⟨xh.mono d,qh.mono d⟩) (λv G1 G2 d h=>?_) ?_
   .obtain⟨f,zc,rfl,A⟩:=h
    exact⟨_,_,rfl,A.mono d⟩
   refine η.ux (φ:=λG v=>∃ f zc,v = .tuple #[.slice f (W j (a j+1)).length zc,.int .i64 S]/\ë Zo G (.slice f (W j (a j+1)).length zc) (W j (a j+1))) (λ_=>Zf) (λv G1 G2 d h=>?_) (λu G' d hu=>?_) ?_
   .obtain⟨f,zc,rfl,A⟩:=h
    exact⟨_,_,rfl,A.mono d⟩
   .obtain⟨⟨f,zc,zu,A⟩,_⟩:=(show (λG v=>∃ f zc,v = .tuple #[.slice f (W j (a j+1)).length zc,.int .i64 S]/\ë Zo G (.slice f (W j (a j+1)).length zc) (W j (a j+1))) G'.m (u 40)/\True from hu)
    simp only[ψ,zu]
    exact⟨_,Y0.move rfl,f,zc,rfl,A⟩
   refine η.ux (φ:=λG v=>∃ f zc,v = .slice f (W j (a j+1)).length zc/\ë Zo G (.slice f (W j (a j+1)).length zc) (W j (a j+1))) (λ_=>Zf) (λv G1 G2 d h=>?_) (λu G' d hu=>?_) ?_
   .obtain⟨f,zc,rfl,A⟩:=h
    exact⟨_,_,rfl,A.mono d⟩
   .obtain⟨⟨f,zc,zu,A⟩,_,_⟩:=(show (λG v=>∃ f zc,v = .tuple #[.slice f (W j (a j+1)).length zc,.int .i64 S]/\ë Zo G (.slice f (W j (a j+1)).length zc) (W j (a j+1))) G'.m (u 26)/\True/\True from hu)
    simp only[ψ,zu]
    exact⟨_,Y0.extract rfl rfl,f,zc,rfl,A⟩
   refine η.pS (c:=.int .i64 S) (λ_=>Zf) (λu G' d hu=>?_) ?_
   .obtain⟨_,⟨f,zc,zu,A⟩,_,_⟩:=(show True/\(λG v=>∃ f zc,v = .tuple #[.slice f (W j (a j+1)).length zc,.int .i64 S]/\ë Zo G (.slice f (W j (a j+1)).length zc) (W j (a j+1))) G'.m (u 26)/\True/\True from hu)
    simp only[ψ,zu]
    exact Y0.extract rfl rfl
   refine η.uq (λaJ aH aI X J al aA aB=>?_)
   obtain⟨f,zc,rfl,A⟩:=al
   refine WL.FU (show WL _ _ _ _ _ _ (St w0 G0 X.m _) from ?_)
   refine sg rfl rfl<|sg rfl rfl<|WL.nil<|WE.nx<|WE.then<|WC.region ?_
   refine mv rfl rfl<|mv rfl rfl<|yy (Y0.jH underlying236 n3 rfl rfl hi) rfl<|yy (Y0.gN 8000101 lg rfl t (by rw[ę]; exact E)) rfl<|mv rfl rfl ?_
   refine WL.rb (e:=49) (r:=(Rp.sl Zo)) (vs:=#[(0,.slice f (W j (a j+1)).length zc)]) (cs:=[.slice f (W j (a j+1)).length zc]++([])) ([W j (a j+1)]:Ŀ (Ŀ Za)) Zf rfl rfl rfl rfl (by decide) (λ_=>by kernel_rfl) ⟨[.slice f (W j (a j+1)).length zc],[],rfl,⟨_,rfl,A⟩,rfl⟩ (key:=999) P (ad 999 (by omega)) (λlp G4 B lh=>?_)
   have hl:(nL W j (a j)++[W j (a j+1)]).length=a j+1:=by simp[Zue]
   refine WL.lQ (r:=(Rp.sl Zo)) (e:=49) (kj (j:Int)) Zf rfl underlying37 o9 rfl (by decide) rfl rfl (F.mono (Mem.le_trans J B)) rfl lh (by rw[hl]; simp only[small]; omega) (λnp nc aE nh=>?_)
   rw[hl] at nh ⊢
   rw[YQ] at nh
   refine yy (Y0.jH underlying236 n3 rfl rfl hi) rfl ?_
   refine WL.iE 8000101 (ak.set j (.slice np (a j+1) nc)).toArray Zf n3 rfl rfl (by rw[Lo.Zn,Ā (by rw[va]; omega)]; exact t) (by rw[ĥ,aa]; exact y) rfl (aaj ..) ?_
   refine WL.nil<|WE.inBlock ?_
   refine WE.kC (X:=Mem×Lo×Nat) (G4,_,a j+1) ⟨Mem.le_trans K (Mem.le_trans J B),_,?_,?_,qx.put (g.mono (Mem.le_trans J B)) t (n:=a j+1) y nh⟩ (Fr.Ze rfl (Fr.Ze rfl (Fr.Ze rfl (Fr.Ze rfl (Fr.Zs _))))) (λw H=>H) ?_
   .simp
   .simp
   show 64-(a j+1)<64-a j
   omega
  refine WC.exit<|WE.ã<|WE.ã<|WE.Ö ?_
  exact WE.pZ (X:=Mem×Lo) (G2,T2) ⟨K,a,by omega,g⟩ (Fr.Ze rfl (Fr.Ze rfl (Fr.Ze rfl (Fr.Ze rfl (Fr.Zs _))))) (λw H=>H)
 rintro⟨G3,T3⟩ ⟨am,D,ah,C⟩
 dsimp only at am C ⊢
 obtain⟨az,ar,ay,ac⟩:=C.known
 obtain⟨p3,c3,ap,Q⟩:=ac j y
 have O:(nL W j (D j))[m-1]? = some (W j m):=by
  have:=Q2 W j (n:=D j) (k:=m-1) (by omega)
  rwa [show m-1+1=m by omega] at this
 have l:(0:Int)<=((m-1:Nat):Int)/\(nL W j (D j))[(((m-1:Nat):Int)).toNat]? = some (W j m):=⟨by omega,O⟩
 have R:i64.wrap ((m:Int)-1)=((m-1:Nat):Int):=by rw[Į]; omega
 obtain⟨xp,xc,xe,xh⟩:=AtK.sl (Η.at Q l)
 refine sr<|mv rfl rfl<|yy (Y0.jH underlying236 n3 rfl rfl hi) rfl<|yy (Y0.gN 8000101 lg rfl ar (by rw[ę]; exact ap)) rfl<|mv rfl rfl<|yy (Y0.eq (Y0.sub rfl rfl) (ć (Value.int .i64) R)) rfl<|yy (Y0.pT underlying37 iG Q rfl rfl l) rfl<|yy (Y0.loadT ij Q (key:=kj (j:Int)) rfl rfl xe) rfl<|sg rfl rfl<|nx<|WC.ret ?_
 exact WE.mw rfl rfl ⟨⟨_,_,rfl,xh⟩,D,C⟩
theorem ga'{o k h f g e r}(a:(NF o k).ο r):ä prog 145 #[.agg ((ι o h f)).toArray,.agg ((ι k g e)).toArray] (λG=>sl (Rp.int .u32) G h f o.Α/\sl (Rp.int .u32) G g e k.Α) (λG v=>v=i' r):=by
 refine E' (args:=[_,_]) (N:=29) func145 z z z (λF E B n=>?_)
 obtain⟨c,d⟩:=n
 refine sr<|ý 2 z z z λH=>ý 3 z z z λD=>θ z<|c'<|hZ [ff,ff,ff] gp (by kernel_rfl) λt=>cn (λ_ i=>w' 2 Ò z z z)<|oE a λy p a=>sn z (λ_=>x' r7 z) (zQ p) z (λC i=>(c.mono i))<|cn (λ_ i=>w' 3 Ò z z z)<|jz t<|oE a λu j a=>I' z z (x' r7 z) (zQ j) z (d)<|ς z<|ς z<|q'<|fh<|a'<|c'<|sr<|δ z<|δ z<|γ (ly z z)<|nx<|J' a z (λs a=>?_) (λs a=>?_)
 .exact (show False from a).elim
 refine o'<|a'<|c'<|sr<|δ z<|Ï z<|nx<|J' a z (λq a=>?_) (λq a=>?_)
 .refine sr<|γ (jk z)<|γ (f' 3 jm z z z)<|γ (jk z)<|γ (f' 2 jm z z z)<|oE a λA m a=>I' z z (x' xt z) (Ku m) z (⟨d,c⟩)<|θ z<|m'<|b' (Μ a z z)
 refine o'<|a'<|sr<|γ (jk z)<|γ (f' 2 jm z z z)<|γ (jk z)<|γ (f' 3 jm z z z)<|oE a λx l a=>I' z z (x' xt z) (Ku l) z (⟨c,d⟩)<|θ z<|m' (Μ a z z)
theorem R6{q p m l j i n k c g r}(a:(xG q p).ο r):ä prog 87 #[.agg ((χ q m l j i)).toArray,.agg ((χ p n k c g)).toArray] (λG=>sl (Rp.int .u32) G m l q.num.Α/\sl (Rp.int .u32) G j i q.den.Α/\sl (Rp.int .u32) G n k p.num.Α/\sl (Rp.int .u32) G c g p.den.Α) (λG v=>v=i' r):=by
 refine E' (args:=[_,_]) (N:=30) func87 z z z (λw0 G0 aq Y=>?_)
 obtain⟨A,t,x,y⟩:=Y
 refine sr<|ý 2 z z z λb2=>ý 3 z z z λb3=>θ z<|c'<|c'<|hZ [ff,ff,ff] gp (by kernel_rfl) λw=>cn (λ_ o=>w' 2 kf z z z)<|oE a λam Z a=>sn z (λ_=>x' qS z) (yq Z) z (λL o=>⟨(A.mono o),(t.mono o)⟩)<|cn (λ_ o=>w' 3 kf z z z)<|jz w<|oE a λal S a=>I' z z (x' qS z) (yq S) z (⟨x,y⟩)<|ς z<|ς z<|q'<|fh<|a'<|sr<|δ z<|δ z<|γ (ly z z)<|nx<|J' a z (λad a=>?_) (λad a=>?_)
 .refine c'<|sr<|δ z<|δ z<|Ï z<|nx<|J' a z (λae a=>?_) (λae a=>?_)
  .refine sr<|θ z<|m'<|b'<|b' (Μ a z z)
  refine o'<|a'<|sr<|θ z<|m'<|b' (Μ a z z)
 refine o'<|a'<|c'<|hZ [ff,ff,ff,ff,ff,ff,ff,ff,ff,ff,ff] gp (by kernel_rfl) λw=>cn (λ_ o=>pn z)<|cn (λ_ o=>gZ ((ι q.num m l)).toArray 2 Ò z z z (hC ([]) ((ι q.num m l)) ((ι q.den j i))))<|cn (λ_ o=>oy z)<|cn (λ_ o=>gZ ((ι p.den c g)).toArray 3 Ò z z z (hC ((ι p.num n k)) ((ι p.den c g)) ([])))<|uP (r:=tw) (e:=95) ([q.num,p.den]:Ŀ Zi) (λ_=>z) z (by decide) (λu L o X=>?_) ?_
 .exact⟨#[(0,.agg ((ι q.num m l)).toArray),(1,.agg ((ι p.den c g)).toArray)],(ι q.num m l)++((ι p.den c g)++([])),z,z,λ_=>by kernel_rfl,⟨(ι q.num m l),(ι p.den c g)++([]),z,⟨[.bool q.num.neg],[ε m q.num.Α l],z,z,⟨_,z,(A.mono o)⟩⟩,⟨(ι p.den c g),[],z,⟨[.bool p.den.neg],[ε c p.den.Α g],z,z,⟨_,z,(y.mono o)⟩⟩,z⟩⟩⟩
 refine oE a λP U a=>sm (f:=146) (φ:=jb P) (λ_=>z) (λv G1 G2 o h=>?_) (λu L o X=>?_) ?_
 .obtain⟨E,K,rfl,s⟩:=h
  exact⟨_,_,z,s.mono o⟩
 .obtain⟨⟨C,B,O,R⟩,_⟩:=(show (λG v=>∃ C B,v = .slice C 2 2/\kM tw G (.slice C 2 2) B [q.num,p.den]) L.m (u 21)/\True from X)
  exact⟨_,_,_,λ_=>x' uZ z,Fv U,(by simp only[O] <;> rfl),R⟩
 refine cu (λ_ _ o=>pn z)<|cu (λ_ _ o=>gZ ((ι p.num n k)).toArray 3 Ò z z z (hC ([]) ((ι p.num n k)) ((ι p.den c g))))<|cu (λ_ _ o=>oy z)<|cu (λ_ _ o=>gZ ((ι q.den j i)).toArray 2 Ò z z z (hC ((ι q.num m l)) ((ι q.den j i)) ([])))<|uP (r:=tw) (e:=95) ([p.num,q.den]:Ŀ Zi) (λ_=>z) z (by decide) (λu L o X=>?_) ?_
 .exact⟨#[(0,.agg ((ι p.num n k)).toArray),(1,.agg ((ι q.den j i)).toArray)],(ι p.num n k)++((ι q.den j i)++([])),z,z,λ_=>by kernel_rfl,⟨(ι p.num n k),(ι q.den j i)++([]),z,⟨[.bool p.num.neg],[ε n p.num.Α k],z,z,⟨_,z,(x.mono o)⟩⟩,⟨(ι q.den j i),[],z,⟨[.bool q.den.neg],[ε j q.den.Α i],z,z,⟨_,z,(t.mono o)⟩⟩,z⟩⟩⟩
 refine η.qk (d:=27) (post:=λG v=>∃ T Q,v = .slice T 2 2/\kM tw G (.slice T 2 2) Q [p.num,q.den]) (d':=22) (post':=jb P) (d'':=21) (post'':=λG v=>∃ C B,v = .slice C 2 2/\kM tw G (.slice C 2 2) B [q.num,p.den]) (λaj ai ak ao ag D I H=>?_)
 obtain⟨T,Q,rfl,af⟩:=D
 obtain⟨E,K,rfl,s⟩:=I
 obtain⟨C,B,rfl,R⟩:=H
 refine oE a λan V a=>U' z z (x' uZ z) (Fv V) z (af) (λah ap M J=>?_)
 obtain⟨aa,ab,rfl,F⟩:=J
 refine oE a λar W a=>I' z z (x' Gg z) (ga' W) z (⟨(s.mono M),F⟩)<|ς z<|q'<|fh<|a'<|m' (Μ a z z)
theorem eW'{l k e i c d g j h f r}(a:(DD l k).ο r):ä prog 182 #[.agg (((χ l.c e i c d):Ŀ Value)++(Ι l.m)).toArray,.agg (((χ k.c g j h f):Ŀ Value)++(Ι k.m)).toArray] (λG=>sl (Rp.int .u32) G e i l.c.num.Α/\sl (Rp.int .u32) G c d l.c.den.Α/\sl (Rp.int .u32) G g j k.c.num.Α/\sl (Rp.int .u32) G h f k.c.den.Α) (λG v=>v=i' r):=by
 refine E' (args:=[_,_]) (N:=20) func182 z z z (λD C A s=>?_)
 obtain⟨p,o,m,n⟩:=s
 refine sr<|ý 2 z z z λB=>ý 3 z z z λE=>θ z<|c'<|sr<|γ (lV z)<|γ (gZ (Ι l.m).toArray 2 iL z z (M' _ _ _) (hC ((χ l.c e i c d)) (Ι l.m) ([])))<|γ (lV z)<|γ (gZ (Ι k.m).toArray 3 iL z z (M' _ _ _) (hC ((χ k.c g j h f)) (Ι k.m) ([])))<|γ (Y0.Lf lK nQ ñ gh vt z z)<|nx<|J' a z (λu a=>?_) (λu a=>?_)
 .refine sr<|γ (lV z)<|γ (gZ (Ι l.m).toArray 2 iL z z (M' _ _ _) (hC ((χ l.c e i c d)) (Ι l.m) ([])))<|γ (lV z)<|γ (gZ (Ι k.m).toArray 3 iL z z (M' _ _ _) (hC ((χ k.c g j h f)) (Ι k.m) ([])))<|oE a λy t a=>I' z z (x' xj z) (KM t) z (trivial)<|θ z<|m'<|b' (Μ a z z)
 refine o'<|a'<|sr<|γ (oq z)<|γ (gZ ((χ l.c e i c d)).toArray 2 kf z z z (hC ([]) ((χ l.c e i c d)) ((Ι l.m))))<|γ (oq z)<|γ (gZ ((χ k.c g j h f)).toArray 3 kf z z z (hC ([]) ((χ k.c g j h f)) ((Ι k.m))))<|oE a λx q a=>I' z z (x' Mb z) (R6 q) z (⟨p,o,m,n⟩)<|θ z<|m' (Μ a z z)
theorem cb'{l F m o y A r}(a:(Zy l F).ο r):ä prog 181 #[ε m l o,ε y F A,.func (.func 182) #[] #[]] (λG=>sl n' G m o l/\sl n' G y A F) (λG v=>v=i' r):=by
 refine E' (args:=[_,_,_]) (N:=39) func181 z z z (λU J ab P=>?_)
 obtain⟨C,B⟩:=P
 refine sr<|θ z<|c'<|sr<|δ z<|γ (N' F' C z)<|δ z<|nx<|Z' (X:=Int×Mem) a (λ⟨t,D⟩=>⟨t,[(0,ε m l o),(1,ε y F A),(2,.func (.func 182) #[] #[]),(11,ε m l o),(12,i' (l.length:Int)),(13,i' t)],Mem.le J D,St U J D []⟩) (λ(Z:Mem)=>match Z with|L=>⟨(.inr ()),[(0,ε m l o),(1,ε y F A)],Mem.le J L,St U J L []⟩) ⟨0,J⟩ z (υ z) mr (wk ln) ?_ ?_
 .rintro _ ⟨t,D⟩ k a
  refine sr<|Ï z<|nx<|c'<|J' a z (λT a=>?_) (λT a=>?_)
  .refine o'<|a'<|c'<|V'<|sr<|δ z<|oE a λH O a=>γ (X' F' jA (C.mono k) z z O) ?_
   obtain⟨g,j,i,e,V,p,q⟩:=pr (R' (Á C O) k)
   refine γ (jC _ oz z z V)<|T' 8 z z159 z λb1=>ς z<|y' 8 z jA z z z z z (λu K=>Rp.one n' (G:=D) (x:=H) (cs:=((χ H.c g j i e):Ŀ Value)++(Ι H.m)) ⟨(χ H.c g j i e),Ι H.m,z,⟨(ι H.c.num g j),(ι H.c.den i e),z,⟨[.bool H.c.num.neg],[ε g H.c.num.Α j],z,z,⟨_,z,p⟩⟩,⟨[.bool H.c.den.neg],[ε i H.c.den.Α e],z,z,⟨_,z,q⟩⟩⟩,z⟩ u (by first|simpa using K|simpa [Value.cells] using K))<|nx<|c'<|sr<|δ z<|δ z<|γ (N' F' (B.mono k) z)<|γ (kO z z)<|nx<|J' a z (λW a=>?_) (λW a=>?_)
   .refine sr<|θ z<|m'<|b'<|B'<|b'<|b'<|B'<|jl<|b' (Μ a z z)
   refine o'<|a'<|sr<|δ z<|δ z<|oE a λE M a=>γ (X' F' jA (B.mono k) z z M) ?_
   obtain⟨f,c,h,d,R,s,n⟩:=pr (R' (Á B M) k)
   refine γ (jC _ oz z z R)<|T' 9 z z159 z λb2=>y' 9 z jA z z z z z (λu K=>Rp.one n' (G:=D) (x:=E) (cs:=((χ E.c f c h d):Ŀ Value)++(Ι E.m)) ⟨(χ E.c f c h d),Ι E.m,z,⟨(ι E.c.num f c),(ι E.c.den h d),z,⟨[.bool E.c.num.neg],[ε f E.c.num.Α c],z,z,⟨_,z,s⟩⟩,⟨[.bool E.c.den.neg],[ε h E.c.den.Α d],z,z,⟨_,z,n⟩⟩⟩,z⟩ u (by first|simpa using K|simpa [Value.cells] using K))<|nr<|δ z<|γ (w' 8 oz z z z)<|γ (w' 9 oz z z z)<|oE a λw Q a=>I' z z (YC.vE Gu z z) (eW' Q) z (⟨p,q,s,n⟩)<|ς z<|nr<|δ z<|γ (ly z z)<|nx<|J' a z (λS a=>?_) (λS a=>?_)
   .refine sr<|δ z<|θ z<|m'<|B'<|b'<|b'<|B'<|jl<|b' (Μ a z z)
   refine o'<|A'<|a'<|p'<|é z<|δ z<|q'<|K' ⟨i64.wrap (t+1),D⟩ a k (υ z) (wk ln)
  refine Æ<|g'<|g'<|H'<|Ë D ⟨a,k⟩ (υ z) (wk ln)
 rintro L ⟨a,I⟩
 refine a'<|c'<|sr<|δ z<|γ (N' F' (C.mono I) z)<|δ z<|γ (N' F' (B.mono I) z)<|Ï z<|nx<|J' a z (λY a=>?_) (λY a=>?_)
 .refine sr<|θ z<|m'<|b' (Μ a z z)
 refine o'<|a'<|sr<|θ z<|m' (Μ a z z)
theorem MJ(g:(Ŀ Za))(i:(Ŀ Za))(e:ŀ Addr)(d:Nat)(c:ŀ Addr)(f:Nat)(r:Int)(a:(HJ g i).ο r):ä prog 115 #[ε e g d,ε c i f] (λG=>sl n' G e d g/\sl n' G c f i) (λG v=>v=i' r):=by
 refine E' (args:=[_,_]) (N:=8) func115 z z z (λo p n j=>?_)
 obtain⟨l,k⟩:=j
 refine sr<|ς z<|nr<|δ z<|δ z<|oE a λm h a=>I' z z (x' Gt z) (cb' h) z (⟨l,k⟩)<|θ z<|m' (Μ a z z)
theorem Tv(l:Ŀ (Ŀ Za))(a b d:Int)(p:ŀ Addr)(c n:Nat)(tk:ŀ Ow)(r:Ŀ (Ŀ Za))(g:(Z7 l a b d).ο r):ò prog 227 #[.slice p n c,.int .i64 a,.int .i64 b,.int .i64 d,.func (.func 115) #[] #[]] [(5000,tk)] (λG=>Η (Rp.sl Zo) 49 G (.slice p n c) l tk) (λG L v=>∃ i,L=[(5000,i)]/\v = .tuple #[]/\Η (Rp.sl Zo) 49 G (.slice p n c) r i):=by
 obtain⟨⟨rfl,rfl,⟨O,j⟩,m,t⟩,g⟩:=g
 replace g:_=r:=g
 subst g
 obtain⟨k,rfl⟩:∃ k:Nat,d=k:=⟨d.toNat,by omega⟩
 obtain⟨l',rfl⟩:∃ l':Ŀ pe,l'.map Subtype.val=l:=⟨l.attach.map λq=>⟨q.1,Ĕ.1 t _ q.2⟩,by rw[Ţ]; exact List.attach_map_subtype_val l⟩
 have f:l'.length=(l'.map Subtype.val).length:=by rw[Č]
 have C:∀ (x y:pe) (u v:Value),ä prog 115 #[u,v] (λG=>((Rp.sl Zo).via (Subtype.val:pe->_)).jJ G [u] x/\((Rp.sl Zo).via (Subtype.val:pe->_)).jJ G [v] y) (λ_ v=>v = .int .i64 (û x.1 y.1)):=λx y u v w G hi hp=>by
  obtain⟨⟨P,A,j⟩,⟨Q,B,m⟩⟩:=hp
  cases A
  cases B
  obtain⟨p1,K,rfl⟩:=j.form
  obtain⟨p2,N,rfl⟩:=m.form
  exact MJ _ _ _ _ _ _ _ (PC x.2 y.2) w G hi ⟨j,m⟩
 have H:=Ll (r:=(Rp.sl Zo).via (Subtype.val:pe->_)) rfl LA Tryz.CY rfl C Ab 49 p n c l' tk k (by omega) (by omega)
 rw[f] at H
 refine H.mono (λG h=>Η.via.2 h) (λG L v h=>?_)
 obtain⟨ys,s,D,E,F,I,J⟩:=h
 refine⟨s,D,E,?_⟩
 have e:mu (l'.map Subtype.val)=ys.map Subtype.val:=by
  refine NP ((wi _).trans (I.map Subtype.val).symm) (λp hp=>Ĕ.1 t _ ((wi _).mem_iff.1 hp)) (HW _) ?_
  rw[Ľ]
  refine J.imp (λ{a b} h=>?_)
  simp only[Go.Proofs.ltOf,ű,abu] at h
  have:=si a.1 b.1
  omega
 rw[e]
 exact Η.via.1 F
theorem eL'{l k e i c d g j h f r}(a:(zg l k).ο r):ä prog 86 #[.agg (((χ l.c e i c d):Ŀ Value)++(Ι l.m)).toArray,.agg (((χ k.c g j h f):Ŀ Value)++(Ι k.m)).toArray] (λG=>sl (Rp.int .u32) G e i l.c.num.Α/\sl (Rp.int .u32) G c d l.c.den.Α/\sl (Rp.int .u32) G g j k.c.num.Α/\sl (Rp.int .u32) G h f k.c.den.Α) (λG v=>v = .bool r):=by
 refine E' (args:=[_,_]) (N:=18) func86 z z z (λB A x q=>?_)
 obtain⟨p,o,m,n⟩:=q
 refine sr<|ý 2 z z z λy=>ý 3 z z z λC=>ς z<|nr<|γ (lV z)<|γ (gZ (Ι l.m).toArray 2 iL z z (M' _ _ _) (hC ((χ l.c e i c d)) (Ι l.m) ([])))<|γ (lV z)<|γ (gZ (Ι k.m).toArray 3 iL z z (M' _ _ _) (hC ((χ k.c g j h f)) (Ι k.m) ([])))<|eZ a z (Y0.yB lK nQ ñ gh vt z z) z (λt a=>?_) (λt a=>?_)
 .refine δ z<|gy z z (oq z) z<|gy z z (gZ ((χ l.c e i c d)).toArray 2 kf z z z (hC ([]) ((χ l.c e i c d)) ((Ι l.m)))) z<|gy z z (oq z) z<|gy z z (gZ ((χ k.c g j h f)).toArray 3 kf z z z (hC ([]) ((χ k.c g j h f)) ((Ι k.m)))) z<|oE a λu s a=>I' (W' z z) z (x' Mb z) (R6 s) z (⟨p,o,m,n⟩)<|gy z z (iI z z) z<|Δ z<|θ z<|m' (Μ a z z)
 refine δ z<|qK z<|Γ z<|θ z<|m' (Μ a z z)
theorem cc'{s H B C D E r}(a:(Zu s H).ο r):ä prog 85 #[ε B s C,ε D H E,.func (.func 86) #[] #[]] (λG=>sl n' G B C s/\sl n' G D E H) (λG v=>v = .bool r):=by
 refine E' (args:=[_,_,_]) (N:=32) func85 z z z (λS I w O=>?_)
 obtain⟨q,F⟩:=O
 refine sr<|θ z<|c'<|sr<|δ z<|γ (N' F' q z)<|δ z<|γ (N' F' F z)<|γ (ly z z)<|nx<|J' a z (λV a=>?_) (λV a=>?_)
 .refine sr<|θ z<|m'<|b' (Μ a z z)
 refine o'<|a'<|c'<|sr<|δ z<|γ (N' F' q z)<|δ z<|nx<|Z' (X:=Int×Mem) a (λ⟨p,t⟩=>⟨p,[(1,ε D H E),(2,.func (.func 86) #[] #[]),(15,ε B s C),(16,i' (s.length:Int)),(17,i' p)],Mem.le I t,St S I t []⟩) (λ(Y:Mem)=>match Y with|K=>⟨(.inr ()),[],Mem.le I K,St S I K []⟩) ⟨0,I⟩ z (υ z) mr (wk ln) ?_ ?_
 .rintro _ ⟨p,t⟩ k a
  refine sr<|Ï z<|nx<|c'<|J' a z (λR a=>?_) (λR a=>?_)
  .refine o'<|a'<|c'<|V'<|sr<|δ z<|oE a λA M a=>γ (X' F' jA (q.mono k) z z M) ?_
   obtain⟨g,j,i,e,T,m,n⟩:=pr (R' (Á q M) k)
   refine γ (jC _ oz z z T)<|T' 8 z z159 z λb1=>ς z<|y' 8 z jA z z z z z (λu J=>Rp.one n' (G:=t) (x:=A) (cs:=((χ A.c g j i e):Ŀ Value)++(Ι A.m)) ⟨(χ A.c g j i e),Ι A.m,z,⟨(ι A.c.num g j),(ι A.c.den i e),z,⟨[.bool A.c.num.neg],[ε g A.c.num.Α j],z,z,⟨_,z,m⟩⟩,⟨[.bool A.c.den.neg],[ε i A.c.den.Α e],z,z,⟨_,z,n⟩⟩⟩,z⟩ u (by first|simpa using J|simpa [Value.cells] using J))<|nr<|δ z<|δ z<|oE a λy L a=>γ (X' F' jA (F.mono k) z z L) ?_
   obtain⟨f,c,h,d,Q,o,l⟩:=pr (R' (Á F L) k)
   refine γ (jC _ oz z z Q)<|T' 9 z z159 z λb2=>y' 9 z jA z z z z z (λu J=>Rp.one n' (G:=t) (x:=y) (cs:=((χ y.c f c h d):Ŀ Value)++(Ι y.m)) ⟨(χ y.c f c h d),Ι y.m,z,⟨(ι y.c.num f c),(ι y.c.den h d),z,⟨[.bool y.c.num.neg],[ε f y.c.num.Α c],z,z,⟨_,z,o⟩⟩,⟨[.bool y.c.den.neg],[ε h y.c.den.Α d],z,z,⟨_,z,l⟩⟩⟩,z⟩ u (by first|simpa using J|simpa [Value.cells] using J))<|nr<|δ z<|γ (w' 8 oz z z z)<|γ (w' 9 oz z z z)<|oE a λZ P a=>I' z z (YC.vE Tk z z) (eL' P) z (⟨m,n,o,l⟩)<|γ (gP z)<|nx<|iC a z (λU a=>?_) (λU a=>?_)
   .refine sr<|θ z<|m'<|B'<|b'<|b'<|B'<|jl<|b' (Μ a z z)
   refine o'<|A'<|a'<|p'<|é z<|δ z<|q'<|K' ⟨i64.wrap (p+1),t⟩ a k (υ z) (wk ln)
  refine Æ<|g'<|g'<|H'<|Ë t ⟨a,k⟩ fn (wk ln)
 rintro K ⟨a,W⟩
 refine a'<|sr<|θ z<|m' (Μ a z z)
theorem AP(g:(Ŀ Za))(i:(Ŀ Za))(e:ŀ Addr)(d:Nat)(c:ŀ Addr)(f:Nat)(r:Bool)(a:(xH g i).ο r):ä prog 43 #[ε e g d,ε c i f] (λG=>sl n' G e d g/\sl n' G c f i) (λG v=>v = .bool r):=by
 refine E' (args:=[_,_]) (N:=8) func43 z z z (λo p n j=>?_)
 obtain⟨l,k⟩:=j
 refine sr<|ς z<|nr<|δ z<|δ z<|oE a λm h a=>I' z z (x' Tj z) (cc' h) z (⟨l,k⟩)<|θ z<|m' (Μ a z z)
theorem Tu(t:(Ŀ (Ŀ Za)))(f:ŀ Addr)(e:Nat)(j:Nat)(h:ŀ Ow)(r:(Ŀ (Ŀ Za)))(a:(Z0 t).ο r):ò prog 179 #[.slice f j e,.func (.func 115) #[] #[]] [(5000,h)] (λG=>Η (Rp.sl n') 49 G (.slice f j e) t h) (λG L v=>∃ k,L=[(5000,k)]/\v = .tuple #[]/\Η (Rp.sl n') 49 G (.slice f j e) r k):=by
 refine qz (args:=[_,_]) (N:=14) func179 z z z (λq A u m=>?_)
 have d:=m
 have w:q.L.zero:=by
  rw[u]; intro p o x B
  simp only[ą,ĝ,ŝ] at o
  subst o; exact wK d B
 refine sr<|δ z<|γ (Y0.tW Ζ d z)<|θ z<|p'<|δ z<|δ z<|δ z<|γ (jF nQ underlying188 z)<|oE a λF n a=>I' z z (x' z8 z) (RZ n) z (trivial)<|δ z<|oE a λE l a=>nO z z (x' GH z) (Tv _ _ _ _ _ _ _ _ _ l) z (d) (lc z ln) w (λD s C y c=>?_)
 obtain⟨i,rfl,rfl,g⟩:=c
 refine q'<|FJ ?_
 obtain rfl:_=r:=a
 refine oZ (S':=St q A s [(5000,i)]) (w1 z)<|FK z  ⟨_,z,z,g⟩
abbrev RP:Rp (Ŀ Za):=Rp.sl Zo
theorem Zsa(l:Ŀ (Ŀ Za))(p:ŀ Addr)(n c:Nat):ä prog 114 #[.slice p n c] (λG=>ë RP G (.slice p n c) l) (λG v=>∃ b,v = .func (.func 180) #[] #[.pointer (some ⟨b,0,none⟩)]/\G b 0=some (.slice p n c)/\ë RP G (.slice p n c) l):=by
 refine ä.enter (args:=[_]) (N:=4) func114 rfl rfl rfl (λw0 G0 a e=>?_)
 refine sr<|WL.yj 1 rfl Zf rfl rfl (λb=>?_)
 refine sg rfl rfl<|WL.nil<|WE.then ?_
 refine WC.kv 1 rfl (by rw[a]; rfl) (λg d f _=>?_)
 refine sr<|yy (Y0.makeFunc rfl rfl) rfl<|sg rfl rfl<|nx<|WC.ret ?_
 exact WE.mw rfl rfl ⟨_,rfl,f 0 _ rfl,e.mono d⟩
def EP(l:Ŀ (Ŀ Za))(j:Nat)(u:Value)(G:Mem):Prop:=∃ x,l[j]? = some x/\∃ p c,u = .slice p x.length c/\ë Zo G u x
theorem Yv(b:Nat)(l:Ŀ (Ŀ Za))(p:ŀ Addr)(n c:Nat):sZ prog 180 #[.pointer (some ⟨b,0,none⟩)] l.length (EP l) (λG=>G b 0=some (.slice p n c)/\ë RP G (.slice p n c) l):=by
 intro σ Z I L C H v O Y t S
 refine ò.enter (args:=[_,_]) (N:=16) func180 rfl rfl rfl (λw0 G0 u hp=>?_)
 obtain⟨⟨E,a⟩,m⟩:=hp
 have B:w0.L.zero:=by rw[u]; exact S
 have F:l.length<=9223372036854775807:=by obtain⟨_,_,_,_,h,_⟩:=a; omega
 rw[a.eqv] at E
 have a:=a.SG
 refine sr<|yy (Y0.kU lg rfl E) rfl<|yy (Y0.mU underlying37 rfl) rfl<|mv rfl rfl<|nx<|WC.block ?_
 refine WC.kV (X:=Nat×σ×Mem) (λe=>match e with|⟨k,_,_⟩=>[(0,.func (.yield Z) #[] #[]),(5,.slice p l.length c),(6,.int .i64 (l.length:Int)),(7,.int .i64 (k:Int))])
  (λe=>match e with|⟨k,s,G⟩=>k<=l.length/\Mem.le G0 G/\I k s/\C s G)
  (λe=>match e with|⟨_,s,G⟩=>St w0 G0 G (L s)) (λe=>l.length-e.1) ⟨0,Y,G0⟩ (fc rfl (fc rfl (fc rfl (fc rfl fn)))) ⟨ġ _,Mem.le_refl _,t,m⟩ (λw A=>A) ?_
 rintro⟨k,s,G⟩ ⟨hk,d,D,hp⟩
 refine sr<|yy (Y0.lss rfl rfl) rfl<|nx<|WC.seq ?_
 refine WC.iD (p:=(k:Int)<(l.length:Int)) rfl (λP=>?_) (λP=>?_)
 .have f:k<l.length:=by omega
  have J:(0:Int)<=(k:Int)/\l[(k:Int).toNat]? = some l[k]:=⟨by omega,by simp[f]⟩
  obtain⟨q,T,U,V⟩:=AtK.sl (ë.at a J)
  have Q:i64.wrap ((k:Int)+1)=((k+1:Nat):Int):=by rw[Į]; omega
  refine WC.skip<|WE.then<|WC.seq<|WC.block<|sr<|yy (Y0.tT underlying37 iG (a.mono d) rfl rfl J) rfl<|yy (Y0.kU ij rfl (d _ _ _ U)) rfl<|sg rfl rfl<|nx<|WC.seq<|WC.qi<|nM.y0 Zf (Y0.move rfl) (λc h=>by cases h) rfl<|nM.y0 Zf (Y0.move rfl) (λc h=>by cases h) rfl ?_
  refine nM.wC (R:=[]) Zf rfl rfl rfl (O k _ s f D) ⟨hp,l[k],by simp[f],q,T,rfl,V.mono d⟩ B (λi hi=>by cases hi) (λb K L1 j g=>?_)
  obtain⟨rfl,W,r,rfl,y⟩:=g
  refine nM.y0 Zf (Y0.not rfl) (λc h=>by cases h) rfl<|nM.nil<|WE.then<|WC.qD rfl<|WC.skip ?_
  refine WE.inBlock<|WE.then<|WC.region<|yy (Y0.add rfl rfl) rfl ?_
  rw[Q]
  exact mv rfl rfl<|WL.nil<|WE.kC (x:=(k,s,G)) (k+1,W,K) ⟨by omega,Mem.le_trans d j,r,y⟩ (fc rfl (fc rfl (fc rfl (fc rfl fn)))) (λw A=>A) (by show l.length-(k+1)<l.length-k; omega)
 have:k=l.length:=by omega
 subst this
 refine WC.exit<|WE.ã<|WE.ã<|WE.Ö<|WE.n0 ?_
 exact WE.nI rfl ⟨rfl,s,D,rfl,hp⟩
theorem XX(b:Nat)(l:Ŀ (Ŀ Za))(p:ŀ Addr)(n c:Nat)(hl:l.length<=1000000):ò prog 226 #[.slice none 0 0,.func (.func 180) #[] #[.pointer (some ⟨b,0,none⟩)]] [] (λG=>G b 0=some (.slice p n c)/\ë RP G (.slice p n c) l)
  (λG L v=>∃ q D tk,L=[(7000,tk)]/\v = .slice q l.length D/\Η RP 49 G v l tk):=by
 refine ò.tQ (args:=[_,_]) (N:=13) func226 rfl rfl rfl (λw0 G0 J A=>?_)
 refine sr<|WL.yj 2 rfl Zf rfl rfl (λb2=>?_)
 refine sg rfl rfl<|nx<|WC.seq<|sr<|mv rfl rfl<|nx ?_
 refine WC.qJ (t:=7) (f:=180) rfl Gs (λac d lp r ha U Q W R has O=>?_)
 let m:Nat×ŀ Addr×Nat×ŀ Ow->Lo:=λs=>[(8001,some ⟨lp,.loop r,0⟩),(8002,some ⟨d,.deferred (some []),0⟩),(2,some ⟨b2,.cells #[.slice s.2.1 s.1 s.2.2.1] 37 (0,0),0⟩),(7000,s.2.2.2)]
 refine⟨_,m (0,none,0,none),_,lc rfl (lc rfl (lc rfl (lw ln))),λi _=>by rw[J]; rfl,
  Yv b l p n c lp (λj s=>s.1=j/\j<=l.length) m (λs G=>Η RP 49 G (.slice s.2.1 s.1 s.2.2.1) (l.take s.1) s.2.2.2) (λs i hi=>?_) (λG G' s w h=>h.mono w) (λj u s hj hI=>?_) _ ⟨rfl,ġ _⟩ ?_,⟨A,Η.nil⟩,λG' L' v w g=>?_⟩
 .simp only[m]
  rw[Lo.Zn,Ā (by omega),Lo.Zn,Ā (by omega),Lo.Zn,Ā (by omega),Lo.Zn,Ā (by omega)]; rfl
 .obtain⟨k,q,D,tk⟩:=s
  obtain⟨rfl,hk⟩:=hI
  dsimp only at hj hk ⊢
  refine sd.Qr (N:=13) rfl U Q R (by rw[W]; exact ha.round (by decide)) (λaa G I hG=>?_)
  obtain⟨a,x,Y,up,Z,rfl,X⟩:=hG
  refine Fm has ?_
  refine jy.region NJ rfl (sg rfl rfl<|WL.nil (λa1 v1 K S=>⟨_,_,_,K,S,rfl,?_⟩))
  refine Fm O ?_
  refine jy.block<|jy.region (xO xP) rfl<|yy (Y0.gN 2 lg rfl rfl rfl) rfl<|mv rfl rfl ?_
  refine WL.rb (e:=49) (r:=RP) (vs:=#[(0,.slice up x.length Z)]) (cs:=[.slice up x.length Z]) ([x]:Ŀ (Ŀ Za)) Zf rfl rfl rfl rfl (by decide) (λ_=>by kernel_rfl) ⟨[.slice up x.length Z],[],rfl,⟨_,rfl,X⟩,rfl⟩ (key:=999) rfl (by rw[I]; rfl) (λp1 G1 y h1=>?_)
  have B:(l.take k).length=k:=by rw[Đ]; omega
  have V:l.take k++[x]=l.take (k+1):=by
   obtain⟨P,rfl⟩:=Ć.1 Y
   exact (ĩ P).symm
  refine WL.lQ (r:=RP) (e:=49) (xs:=l.take k) (ys:=[x]) 7000 Zf rfl underlying37 o9 rfl (by decide) rfl rfl (a.mono y) rfl h1 (by rw[ā,B]; show k+1<=small; simp only[small]; omega) (λp2 E C H=>?_)
  rw[show (l.take k++[x]).length=k+1 by rw[ā,B]; rfl] at H ⊢
  rw[V] at H
  refine WL.iE 2 #[.slice p2 (k+1) E] Zf n3 rfl rfl rfl fw rfl rfl<|WL.nil<|WE.inBlock ?_
  exact λa2 w2 _ T=>⟨_,_,m (k+1,p2,E,C),T,rfl,lc rfl (lc rfl (lc rfl (lc rfl ln))),rfl,(k+1,p2,E,C),⟨rfl,by omega⟩,rfl,H⟩
 .intro q hq x Y
  simp only[m,ą,ĝ,ŝ] at hq
  rcases hq with rfl|rfl|rfl|rfl <;> cases Y <;> rfl
 obtain⟨rfl,⟨k,q,D,tk⟩,⟨rfl,_⟩,rfl,a⟩:=g
 dsimp only at a
 rw[ě] at a
 refine⟨rfl,pg.seq<|pg.region<|yy (Y0.gN 2 lg rfl rfl rfl) rfl<|sg rfl rfl<|WL.nil<|pg.then<|pg.ret ?_⟩
 refine WE.CT (rvs:=[.tmp 4]) [(7000,tk)] [.slice q l.length D] rfl rfl rfl (λi rv v F e2=>?_) (lc rfl ln) ⟨_,_,_,rfl,rfl,a⟩
 match i with
 | 0=>simp at F e2; subst F e2; rfl
 | i+1=>simp at F
theorem Yt(xs:Ŀ (Ŀ Za))(hg:xs.all hV=true)(am:xs.length<=1000000)(p:ŀ Addr)(c n:Nat)(tk:ŀ Ow):ò prog 116 #[.slice p n c,.func (.func 43) #[] #[]] [(5000,tk)] (λG=>Η RP 49 G (.slice p n c) xs tk)
  (λG L v=>∃ A q W,L=[(5000,A)]/\v = .slice q (jq xs).length W/\Η RP 49 G (.slice q (jq xs).length W) (jq xs) A):=by
 refine ò.enter (args:=[_,_]) (N:=66) func116 rfl rfl rfl (λw0 G0 an d=>?_)
 obtain rfl:n=xs.length:=(aar d.eqv).2.1
 refine sr<|sg rfl rfl<|nx<|WC.seq<|sr<|mv rfl rfl<|yy (Y0.mU underlying37 rfl) rfl<|yy (Y0.lss rfl rfl) rfl<|nx ?_
 refine WC.iD (p:=(xs.length:Int)<2) rfl (λhc=>?_) (λhc=>?_)
 .refine sr<|mv rfl rfl<|sg rfl rfl<|nx<|WC.ret<|WE.kY ?_
  have e:=Om (xs:=xs) (by omega)
  exact WE.mw rfl rfl ⟨tk,p,c,rfl,by rw[e],by rw[e]; exact d⟩
 have K:∀ {G:Mem}{ys:Ŀ (Ŀ Za)}{A:ŀ Ow},Η RP 49 G (.slice p ys.length c) ys A->∀ i (hi:i<ys.length),∃ q W,qt A (i*1) (.slice q ys[i].length W)/\ë Zo G (.slice q ys[i].length W) ys[i]:=λ{G ys A} h i hi=>by
  have:=AtK.sl (Η.at h (i:=(i:Int)) (x:=ys[i]) ⟨by omega,by simp[hi]⟩)
  rw[ģ] at this
  exact this
 have ku:∀ i (hi:i<xs.length),hV xs[i]=true:=λi hi=>Ĕ.1 hg _ (Ċ hi)
 obtain⟨b,rfl⟩:∃ b,p=some ⟨b,0,none⟩:=by
  cases tk with
  | none=>obtain⟨rfl,_⟩:=d; simp at hc
  | some y=>obtain⟨cap,cs,rest,h1,_⟩:=d; exact⟨y.b,(aar h1).1⟩
 have S:xs.length<=c:=by
  cases tk with
  | none=>obtain⟨rfl,_⟩:=d; simp at hc
  | some y=>obtain⟨cap,cs,rest,h1,_,_,_,_,_,h7⟩:=d; rw[(aar h1).2.2]; exact h7
 refine WC.skip<|WE.then<|WC.seq<|sr<|sg rfl rfl<|nx<|WC.block ?_
 refine WC.kV (X:=Nat×Mem) (λB=>match B with|⟨k,_⟩=>[(0,.slice (some ⟨b,0,none⟩) xs.length c),(1,.func (.func 43) #[] #[]),(5,.int .i64 (k:Int))])
  (λB=>match B with|⟨k,G⟩=>1<=k/\k<=xs.length/\Mem.le G0 G/\jq (xs.take k)=xs.take k)
  (λB=>match B with|⟨_,G⟩=>St w0 G0 G [(5000,tk)]) (λB=>xs.length-B.1) ⟨1,G0⟩ (fc rfl (fc rfl (fc rfl fn))) ⟨č _,by omega,Mem.le_refl _,Om (by rw[Đ]; omega)⟩ (λw I=>I) ?_
 rintro⟨k,G⟩ ⟨R,Z,a,s⟩
 dsimp only at R Z a s ⊢
 have d:=d.mono a
 refine WC.seq<|sr<|mv rfl rfl<|mv rfl rfl<|yy (Y0.mU underlying37 rfl) rfl<|yy (Y0.lss rfl rfl) rfl<|nx ?_
 refine WC.iD (p:=(k:Int)<(xs.length:Int)) rfl (λab=>?_) (λab=>?_)
 .have E:k<xs.length:=by omega
  have ag:i64.wrap ((k:Int)-1)=((k-1:Nat):Int):=by rw[Į]; omega
  have ah:i64.wrap ((k:Int)+1)=((k+1:Nat):Int):=by rw[Į]; omega
  obtain⟨q1,c1,e1,s1⟩:=K d k E
  obtain⟨q2,c2,e2,s2⟩:=K d (k-1) (by omega)
  have f:=Pq R E
  refine WC.skip<|WE.then<|WC.seq<|WC.block<|WC.seq ?_
  refine WC.drawn [false,false,false,false,false,false,false,false,false,false] gp (by kernel_rfl) (λhb=>?_)
  refine cn (λ_ a=>Y0.move rfl)<|cn (λ_ a=>Y0.move rfl)<|cn (λ_ a=>Y0.move rfl)<|cn (λ_ a=>Y0.lR underlying37 iG rfl rfl E)<|cn (λ_ a=>Y0.loadT ij (d.mono a) (key:=5000) rfl rfl (by simpa using e1)) ?_
  refine cn (λ_ a=>Y0.move rfl)<|cn (λ_ a=>Y0.move rfl)<|cn (λ_ a=>Y0.eq (Y0.sub rfl rfl) (ć (Value.int .i64) ag))<|cn (λ_ a=>Y0.lR underlying37 iG rfl rfl (show k-1<xs.length by omega))<|cn (λ_ a=>Y0.loadT ij (d.mono a) (key:=5000) rfl rfl (by simpa using e2)) ?_
  refine η.om hb<|WL.nf Zf rfl (YC.vE AD rfl rfl) (AP _ _ _ _ _ _ _ (Ir (ku k E) (ku (k-1) (by omega)))) rfl ⟨s1,s2⟩<|WL.nil<|WE.nx<|WE.then ?_
  refine WC.iD (p:=û xs[k] xs[k-1]=0) rfl (λP=>?_) (λP=>?_)
  .rw[Ă P,s] at f
   by_cases ad:c=k
   .omega
   refine sr<|mv rfl rfl<|mv rfl rfl<|yy (Y0.Lz underlying37 iG rfl rfl Z S ad) rfl<|sg rfl rfl<|nx<|WC.seq<|sr<|sg rfl rfl<|nx<|WC.block ?_
   refine WC.kV (X:=Nat×Ŀ (Ŀ Za)×ŀ Ow×Mem) (λB=>match B with|⟨m,_,_,_⟩=>[(0,.slice (some ⟨b,0,none⟩) xs.length c),(1,.func (.func 43) #[] #[]),(5,.int .i64 ((jq (xs.take (k+m))).length:Int)),(6,.slice (some ⟨b,k*1,none⟩) (xs.length-k) (c-k)),(7,.int .i64 (m:Int))])
    (λB=>match B with|⟨m,ys,A,G'⟩=>1<=m/\k+m<=xs.length/\Mem.le G G'/\Η RP 49 G' (.slice (some ⟨b,0,none⟩) xs.length c) ys A/\ys.length=xs.length/\ys.take (jq (xs.take (k+m))).length=jq (xs.take (k+m))/\(jq (xs.take (k+m))).length<=k+m-1/\∀ t,k+m-1<=t->ys[t]? = xs[t]?)
    (λB=>match B with|⟨_,_,A,G'⟩=>St w0 G0 G' [(5000,A)]) (λB=>xs.length-(k+B.1)) ⟨1,xs,tk,G⟩ (fc rfl (fc rfl (fc (by rw[f,Đ,aae Z]; rfl) (fc rfl (fc rfl fn))))) ⟨č _,by omega,Mem.le_refl _,d,rfl,by rw[f,Đ,aae Z],by rw[f,Đ]; omega,λ_ _=>rfl⟩ (λw I=>I) ?_
   rintro⟨m,ys,A,G'⟩ ⟨aa,hm,F,l,D,J,T,g⟩
   dsimp only at aa hm F l D J T g ⊢
   refine WC.seq<|sr<|mv rfl rfl<|mv rfl rfl<|yy (Y0.mU underlying37 rfl) rfl<|yy (Y0.lss rfl rfl) rfl<|nx ?_
   refine WC.iD (p:=(m:Int)<((xs.length-k:Nat):Int)) rfl (λac=>?_) (λac=>?_)
   .have U:k+m<xs.length:=by omega
    have ai:i64.wrap ((m:Int)-1)=((m-1:Nat):Int):=by rw[Į]; omega
    have V:i64.wrap ((m:Int)+1)=((m+1:Nat):Int):=by rw[Į]; omega
    have O:Η RP 49 G' (.slice (some ⟨b,0,none⟩) ys.length c) ys A:=by rw[D]; exact l
    have y1:ys[k+m]'(by omega)=xs[k+m]:=by have:=g (k+m) (by omega); rw[Ą (by omega),Ą (by omega)] at this; exact Ŵ this
    have y2:ys[k+m-1]'(by omega)=xs[k+m-1]'(by omega):=by have:=g (k+m-1) (by omega); rw[Ą (by omega),Ą (by omega)] at this; exact Ŵ this
    obtain⟨q3,c3,e3,s3⟩:=K O (k+m) (by omega)
    obtain⟨q4,c4,e4,s4⟩:=K O (k+m-1) (by omega)
    rw[y1] at e3 s3
    rw[y2] at e4 s4
    have a3:qt A (k*1+m*1) (.slice q3 xs[k+m].length c3):=by rw[<- ŋ]; exact e3
    have a4:qt A (k*1+(m-1)*1) (.slice q4 (xs[k+m-1]'(by omega)).length c4):=by rw[<- ŋ,show k+(m-1)=k+m-1 by omega]; exact e4
    have C:=Pq (xs:=xs) (j:=k+m) (by omega) U
    refine WC.skip<|WE.then<|WC.seq<|WC.block<|WC.seq ?_
    refine WC.drawn [false,false,false,false,false,false,false,false,false,false] gp (by kernel_rfl) (λhb=>?_)
    refine cn (λ_ a=>Y0.move rfl)<|cn (λ_ a=>Y0.move rfl)<|cn (λ_ a=>Y0.move rfl)<|cn (λ_ a=>Y0.lR underlying37 iG rfl rfl (show m<xs.length-k by omega))<|cn (λ_ a=>Y0.loadT ij (l.mono a) (key:=5000) rfl rfl a3) ?_
    refine cn (λ_ a=>Y0.move rfl)<|cn (λ_ a=>Y0.move rfl)<|cn (λ_ a=>Y0.eq (Y0.sub rfl rfl) (ć (Value.int .i64) ai))<|cn (λ_ a=>Y0.lR underlying37 iG rfl rfl (show m-1<xs.length-k by omega))<|cn (λ_ a=>Y0.loadT ij (l.mono a) (key:=5000) rfl rfl a4) ?_
    refine η.om hb<|WL.nf Zf rfl (YC.vE AD rfl rfl) (AP _ _ _ _ _ _ _ (Ir (ku (k+m) U) (ku (k+m-1) (by omega)))) rfl ⟨s3,s4⟩<|yy (Y0.Lh rfl) rfl<|WL.nil<|WE.nx<|WE.then ?_
    refine WC.iD (p:=¬ û xs[k+m] (xs[k+m-1]'(by omega))=0) rfl (λQ=>?_) (λQ=>?_)
    .rw[Ā Q] at C
     have H:(jq (xs.take (k+(m+1)))).length=(jq (xs.take (k+m))).length+1:=by rw[<- ż,C,ā]; rfl
     have aj:i64.wrap (((jq (xs.take (k+m))).length:Int)+1)=(((jq (xs.take (k+m))).length+1:Nat):Int):=by rw[Į]; omega
     refine sr<|mv rfl rfl<|mv rfl rfl<|mv rfl rfl<|mv rfl rfl<|yy (Y0.lR underlying37 iG rfl rfl (show m<xs.length-k by omega)) rfl<|yy (Y0.loadT ij l (key:=5000) rfl rfl a3) rfl ?_
     have hz:(0:Int)<=((jq (xs.take (k+m))).length:Int)/\ys[((jq (xs.take (k+m))).length:Int).toNat]? = some (ys[(jq (xs.take (k+m))).length]'(by omega)):=⟨by omega,by rw[ģ,Ą]⟩
     refine yy (Y0.pT underlying37 iG l rfl rfl hz) rfl ?_
     refine WL.storeT (r:=RP) (e:=49) (cs':=[.slice q3 xs[k+m].length c3]) (i:=((jq (xs.take (k+m))).length:Int)) (z':=xs[k+m]) 5000 Zf iG rfl l rfl rfl rfl rfl ⟨_,rfl,s3⟩ hz (λak h3=>?_)
     rw[ģ] at h3
     refine nx<|WC.region<|mv rfl rfl<|yy (Y0.add rfl rfl) rfl ?_
     rw[aj]
     refine sg rfl rfl<|WL.nil<|WE.inBlock<|WE.then<|WC.region<|mv rfl rfl<|yy (Y0.add rfl rfl) rfl ?_
     rw[V]
     refine sg rfl rfl<|WL.nil<|WE.kC (x:=(m,ys,A,G')) (m+1,ys.set (jq (xs.take (k+m))).length xs[k+m],ak,G') ⟨by omega,by omega,F,h3,by rw[Ũ]; exact D,?_,by show (jq (xs.take (k+(m+1)))).length<=k+(m+1)-1; omega,λt ht=>?_⟩ (fc rfl (fc rfl (fc (by rw[H]; rfl) (fc rfl (fc rfl fn))))) (λw I=>I.weaken (lc rfl ln)) (by show xs.length-(k+(m+1))<xs.length-(k+m); omega)
     .rw[H,<- ż,C,ĩ (by rw[Ũ]; omega),List.getElem_set_self]
      rw[List.take_set_of_le (č _),J]
     rw[List.getElem?_set_ne (by omega)]
     exact g t (by omega)
    rw[Ă (aaJ.1 Q)] at C
    refine WC.skip<|WE.inBlock<|WE.then<|WC.region<|mv rfl rfl<|yy (Y0.add rfl rfl) rfl ?_
    rw[V]
    exact sg rfl rfl<|WL.nil<|WE.kC (x:=(m,ys,A,G')) (m+1,ys,A,G') ⟨by omega,by omega,F,l,D,by rw[<- ż,C]; exact J,by rw[<- ż,C]; omega,λt ht=>g t (by omega)⟩ (fc rfl (fc rfl (fc (by rw[<- ż,C]; rfl) (fc rfl (fc rfl fn))))) (λw I=>I) (by show xs.length-(k+(m+1))<xs.length-(k+m); omega)
   have u:k+m=xs.length:=by omega
   rw[u,ě] at J T
   refine WC.exit<|WE.ã<|WE.ã<|WE.Ö<|WE.then<|sr<|mv rfl rfl<|mv rfl rfl ?_
   rw[<- D] at l
   refine WL.sq (r:=RP) (e:=49) (xs:=ys) (lo:=((jq (xs.take (k+m))).length:Int)) (zx:=([]:Ŀ Za)) 5000 rfl underlying37 o9 rfl rfl (Ĕ.1 rfl) (by decide) ⟨_,rfl,ë.nil _ _⟩ l rfl (by rw[D]; rfl) rfl (by rw[u,ě]; omega) (λv5 Y h5=>?_)
   rw[u,ě,ģ,J] at h5
   rw[D] at h5
   have al:=QD (xs:=xs)
   refine nx<|sr<|mv rfl rfl<|mv rfl rfl ?_
   refine WL.vO (r:=RP) (e:=49) (hi:=((jq (xs.take (k+m))).length:Int)) Zf rfl underlying37 iG rfl h5 rfl rfl ⟨by omega,by omega,by rw[u,ě,ā,aag]; omega⟩ (λh6=>?_)
   rw[u,ě,ģ,abI] at h6
   rw[ģ]
   refine sg rfl rfl<|nx<|WC.ret<|WE.kF<|WE.kY<|WE.kY<|WE.kF<|WE.kY ?_
   refine WE.Ì (S':=St w0 G0 G' [(5000,Y)]) (λw I=>I.weaken (lc rfl ln)) (WE.mw rfl rfl ⟨Y,_,c,rfl,?_,h6⟩)
   rw[u,ě]
  rw[Ā P,s] at f
  refine WC.skip<|WE.inBlock<|WE.then<|WC.region<|mv rfl rfl<|yy (Y0.add rfl rfl) rfl ?_
  rw[ah]
  exact sg rfl rfl<|WL.nil<|WE.kC (x:=(k,G)) (k+1,G) ⟨by omega,by omega,a,by rw[f]; exact (ĩ E).symm⟩ (fc rfl (fc rfl (fc rfl fn))) (λw I=>I) (by show xs.length-(k+1)<xs.length-k; omega)
 have ae:k=xs.length:=by omega
 subst ae
 rw[ě] at s
 refine WC.exit<|WE.ã<|WE.ã<|WE.Ö<|WE.then<|sr<|mv rfl rfl<|sg rfl rfl<|nx<|WC.ret ?_
 exact WE.mw rfl rfl ⟨tk,_,c,rfl,by rw[s],by rw[s]; exact d⟩
theorem V3(b:Nat)(l:Ŀ (Ŀ Za))(Q:l.all hV=true)(R:l.length<=100)(p:ŀ Addr)(n c:Nat):ò prog 113 #[.func (.func 180) #[] #[.pointer (some ⟨b,0,none⟩)],.func (.func 115) #[] #[]] [] (λG=>G b 0=some (.slice p n c)/\ë RP G (.slice p n c) l)
  (λG L v=>∃ q m tk,L=[(5000,tk)]/\v = .slice q (mu l).length m/\Η RP 49 G v (mu l) tk):=by
 refine ò.enter (args:=[_,_]) (N:=12) func113 rfl rfl rfl (λw0 G0 r t=>?_)
 have E:w0.L.zero:=by rw[r]; intro p hp; cases hp
 have J:∀ i,w0.L.get i=none:=λi=>by rw[r]; rfl
 have h:(Z0 l).ο (mu l):=by
  obtain⟨v,K,O,P⟩:=Y2 R
  exact⟨v,K,mu l,⟨⟨rfl,rfl,⟨O,P⟩,by omega,Q⟩,rfl⟩,rfl⟩
 have f:(mu l).length=l.length:=(wi l).length_eq
 have collect:ò prog 178 #[.func (.func 180) #[] #[.pointer (some ⟨b,0,none⟩)]] [] (λG=>G b 0=some (.slice p n c)/\ë RP G (.slice p n c) l)
   (λG L v=>∃ q m tk,L=[(7000,tk)]/\v = .slice q l.length m/\Η RP 49 G v l tk):=by
  refine ò.enter (args:=[_]) (N:=5) func178 rfl rfl rfl (λw1 F A g=>?_)
  have B:w1.L.zero:=by rw[A]; intro p hp; cases hp
  refine sr<|sg rfl rfl<|nx<|sr<|mv rfl rfl ?_
  refine WL.lW Zf rfl (YC.of GG rfl) (XX b l p n c (by omega)) rfl g (Lo.Zs _) B (λv C I s a=>?_)
  obtain⟨q,m,tk,rfl,rfl,d⟩:=a
  refine sg rfl rfl<|nx<|WC.ret ?_
  exact WE.Ì (S':=St w1 F C [(7000,tk)]) (λw u=>u.weaken (lc rfl ln)) (WE.mw rfl rfl ⟨q,m,tk,rfl,rfl,d⟩)
 refine sr<|sg rfl rfl<|nx<|sr<|mv rfl rfl ?_
 refine WL.lW Zf rfl (YC.of Gp rfl) collect rfl t (Lo.Zs _) E (λv C I s a=>?_)
 obtain⟨q,m,tk,rfl,rfl,d⟩:=a
 refine sg rfl rfl<|nx<|sr<|mv rfl rfl<|mv rfl rfl ?_
 refine WL.Ì (λw u=>u.î (i:=7000) (j:=5000) rfl (J _)) ?_
 refine WL.lW Zf rfl (YC.of Gq rfl) (Tu _ _ _ _ _ _ h) rfl d (lc rfl ln) E (λv H S D a=>?_)
 obtain⟨y,rfl,rfl,e⟩:=a
 refine nx<|sr<|mv rfl rfl<|sg rfl rfl<|nx<|WC.ret ?_
 rw[<- f] at e
 refine WE.Ì (S':=St w0 G0 H [(5000,y)]) (λw u=>u.weaken (lc rfl ln)) (WE.mw rfl rfl ⟨q,m,y,rfl,?_,?_⟩)
 .rw[f]
 rw[<- f]; exact e
theorem MI(l:Ŀ (Ŀ Za))(p:ŀ Addr)(c:Nat)(r:Ŀ (Ŀ Za))(f:(DU l).ο r):ä prog 64 #[.slice p l.length c] (λG=>ë RP G (.slice p l.length c) l) (λG v=>∃ q m,v = .slice q r.length m/\ë RP G (.slice q r.length m) r):=by
 obtain⟨⟨D,t⟩,f⟩:=f
 replace f:_=r:=f
 subst f
 have B:∀ {w0:Bs},w0.L=[]->w0.L.zero:=λh=>by rw[h]; intro p hp; cases hp
 have E:(mu l).length=l.length:=(wi l).length_eq
 have n:(mu l).all hV=true:=Ĕ.2 λx F=>Ĕ.1 t x ((wi l).mem_iff.1 F)
 refine ä.enter (args:=[_]) (N:=9) func64 rfl rfl rfl (λw0 G0 d s=>?_)
 refine sr<|sg rfl rfl<|nx<|sr<|mv rfl rfl ?_
 refine WL.call Zf rfl (YC.of F4 rfl) (Zsa l p l.length c) rfl s (λv K u a=>?_)
 obtain⟨b,rfl,C,i⟩:=a
 refine WL.lW Zf rfl (YC.of F3 rfl) (V3 b l t D p l.length c) rfl ⟨C,i⟩ (Lo.Zs _) (B d) (λv L Q w a=>?_)
 obtain⟨q,m,tk,rfl,rfl,g⟩:=a
 refine sg rfl rfl<|nx<|sr<|mv rfl rfl ?_
 refine WL.lW Zf rfl (YC.of F5 rfl) (Yt (mu l) n (by omega) q m _ tk) rfl g (lc rfl ln) (B d) (λv O R y a=>?_)
 obtain⟨I,S,H,rfl,rfl,e⟩:=a
 refine sg rfl rfl<|nx<|WC.ret ?_
 refine WE.kT 5000 e rfl (by rw[d]; rfl) (λJ P A j _=>?_)
 exact WE.mw rfl rfl ⟨_,_,rfl,j⟩
theorem R3{g e d r}(a:(Hx g).ο r):ä prog 201 #[.agg ((ι g e d)).toArray] (λG=>sl (Rp.int .u32) G e d g.Α) (λG v=>v = .bool r):=by
 refine E' (args:=[_]) (N:=19) func201 z z z (λl n j h=>?_)
 have c:=h
 refine sr<|ý 1 z z z λk=>ς z<|nr<|γ (jk z)<|γ (f' 1 jm z z z)<|γ (N' t' c z)<|θ z<|c'<|sr<|δ z<|γ (iI z z)<|nx<|J' a z (λi a=>?_) (λi a=>?_)
 .refine sr<|γ (mM z)<|γ (f' 1 kX z z z)<|γ (gP z)<|θ z<|m'<|b' (Μ a z z)
 refine o'<|a'<|sr<|γ (jk z)<|γ (f' 1 jm z z z)<|δ z<|γ (nU z z)<|oE a λm f a=>γ (X' t' kz c z z f)<|γ (il nD z (lH (Á c f)))<|γ (ly z z)<|θ z<|m' (Μ a z z)
theorem fz'{g f e d c r}(a:(DB g).ο r):ä prog 142 #[.agg ((χ g f e d c)).toArray] (λG=>sl (Rp.int .u32) G f e g.num.Α/\sl (Rp.int .u32) G d c g.den.Α) (λG v=>v = .bool r):=by
 refine E' (args:=[_]) (N:=30) func142 z z z (λI t Q u=>?_)
 obtain⟨i,h⟩:=u
 refine sr<|ý 1 z z z λB=>θ z<|k5 a (λ(J:Mem)=>match J with|m=>⟨[(1,Τ B)],Mq g,Mem.le t m,St I t m [(1,Ξ B (χ g f e d c) 97)]⟩) ?_ ?_
 .refine sr<|γ (pn z)<|γ (gZ ((ι g.num f e)).toArray 1 Ò z z z (hC ([]) ((ι g.num f e)) ((ι g.den d c))))<|oE a λC p a=>I' z z (x' Au z) (R3 p) z (i) ?_
  cases C
  .refine γ (gP z)<|δ z<|ke z<|Δ z<|δ z<|ke z<|Δ z<|nx<|iS z<|sr<|θ z<|m'<|b' (Μ a z z)
  refine γ (gP z)<|δ z<|gy z z (oy z) z<|gy z z (gZ ((ι g.den d c)).toArray 1 Ò z z z (hC ((ι g.num f e)) ((ι g.den d c)) ([]))) z<|oE a λE o a=>I' (W' z z) z (x' Au z) (R3 o) z (h) ?_
  cases E
  .refine gy z z (gP z) z<|Γ z<|δ z<|ke z<|Δ z<|nx<|iS z<|sr<|θ z<|m'<|b' (Μ a z z)
  refine gy z z (gP z) z<|Γ z<|δ z<|gy z z (oy z) z<|gy z z (gZ ((ι g.den d c)).toArray 1 Ò z z z (hC ((ι g.num f e)) ((ι g.den d c)) ([]))) z<|oE a λM q a=>I' (W' z z) z (x' r7 z) (zQ q) z (h)<|gy z z (oo z z) z<|Γ z<|nx<|J' a z (λF a=>?_) (λF a=>?_)
  .exact (show False from a).elim
  refine o'<|ia t ⟨a,mr⟩ (f1 z) (w1 z)
 rintro m ⟨a,j⟩
 refine sr<|γ (oy z)<|γ (gZ ((ι g.den d c)).toArray 1 Ò z z z (hC ((ι g.num f e)) ((ι g.den d c)) ([])))<|oE a λD x a=>I' z z (x' r9 z) (zP x) z ((h.mono j)) ?_
 cases D
 .refine δ z<|gy z z (pn z) z<|gy z z (gZ ((ι g.num f e)).toArray 1 Ò z z z (hC ([]) ((ι g.num f e)) ((ι g.den d c)))) z<|gy z z (oy z) z<|gy z z (gZ ((ι g.den d c)).toArray 1 Ò z z z (hC ((ι g.num f e)) ((ι g.den d c)) ([]))) z<|oE a λL n a=>U' (W' z z) z (x' uV z) (Fz n) z (⟨(i.mono j),(h.mono j)⟩) (λK P H l=>?_)
  obtain⟨A,y,rfl,k⟩:=l
  refine oE a λO s a=>I' (W' z z) z (x' r9 z) (zP s) z (k)<|Γ z<|θ z<|m' (Μ a z z)
 refine δ z<|qK z<|Δ z<|θ z<|m' (Μ a z z)
theorem Sd{o q p r}(a:(DE o).ο r):ä prog 84 #[ε q o p] (λG=>sl n' G q p o) (λG v=>v = .bool r):=by
 refine E' (args:=[_]) (N:=43) func84 z z z (λH y ab I=>?_)
 have t:=I
 refine sr<|θ z<|c'<|sr<|δ z<|γ (N' F' t z)<|δ z<|nx<|Z' (X:=Int×Mem) a (λ⟨l,n⟩=>⟨l,[(0,ε q o p),(5,ε q o p),(6,i' (o.length:Int)),(7,i' l)],Mem.le y n,St H y n []⟩) (λ(J:Mem)=>match J with|A=>⟨(.inr ()),[],Mem.le y A,St H y A []⟩) ⟨0,y⟩ z (υ z) mr (wk ln) ?_ ?_
 .rintro _ ⟨l,n⟩ k a
  refine sr<|Ï z<|nx<|c'<|J' a z (λV a=>?_) (λV a=>?_)
  .refine o'<|a'<|c'<|V'<|sr<|δ z<|oE a λg C a=>γ (X' F' jA (t.mono k) z z C) ?_
   obtain⟨d,f,e,c,R,i,j⟩:=pr (R' (Á t C) k)
   refine γ (jC _ oz z z R)<|T' 4 z z159 z λL=>ς z<|y' 4 z jA z z z z z (λu Q=>Rp.one n' (G:=n) (x:=g) (cs:=((χ g.c d f e c):Ŀ Value)++(Ι g.m)) ⟨(χ g.c d f e c),Ι g.m,z,⟨(ι g.c.num d f),(ι g.c.den e c),z,⟨[.bool g.c.num.neg],[ε d g.c.num.Α f],z,z,⟨_,z,i⟩⟩,⟨[.bool g.c.den.neg],[ε e g.c.den.Α c],z,z,⟨_,z,j⟩⟩⟩,z⟩ u (by first|simpa using Q|simpa [Value.cells] using Q))<|nx<|k5 a (λ(J:Mem)=>match J with|s=>⟨[(0,ε q o p),(3,i' l),(4,Τ L),(5,ε q o p),(6,i' (o.length:Int)),(7,i' l)],Dm o l g,Mem.le n s,St H y s [(4,Ξ L (((χ g.c d f e c):Ŀ Value)++(Ι g.m)) 159)]⟩) ?_ ?_
   .refine sr<|γ (oq z)<|γ (gZ ((χ g.c d f e c)).toArray 4 kf z z z (hC ([]) ((χ g.c d f e c)) ((Ι g.m))))<|oE a λM D a=>I' z z (x' Gf z) (fz' D) z (⟨i,j⟩) ?_
    cases M
    .refine γ (gP z)<|δ z<|ke z<|Δ z<|δ z<|ke z<|Δ z<|nx<|iS z<|sr<|θ z<|m'<|b'<|B'<|b'<|b'<|B'<|jl<|b' (Μ a z z)
    refine γ (gP z)<|δ z<|gy z z (oq z) z<|gy z z (gZ ((χ g.c d f e c)).toArray 4 kf z z z (hC ([]) ((χ g.c d f e c)) ((Ι g.m)))) z<|oE a λw F a=>I' (W' z z) z (x' qS z) (yq F) z (⟨i,j⟩)<|eZ a (W' z z) (iI z z) z (λS a=>?_) (λS a=>?_)
    .refine Γ z<|δ z<|ke z<|Δ z<|nx<|iS z<|sr<|θ z<|m'<|b'<|B'<|b'<|b'<|B'<|jl<|b' (Μ a z z)
    refine Γ z<|δ z<|gy z z (lV z) z<|gy z z (gZ (Ι g.m).toArray 4 iL z z (M' _ _ _) (hC ((χ g.c d f e c)) (Ι g.m) ([]))) z<|oE a λY E a=>I' (W' z z) z (x' Ai z) (Se E) z (trivial)<|gy z z (gP z) z<|Γ z<|nx<|iC a z (λU a=>?_) (λU a=>?_)
    .refine sr<|θ z<|m'<|b'<|B'<|b'<|b'<|B'<|jl<|b' (Μ a z z)
    refine o'<|ia n ⟨a,mr⟩ (υ z) (w1 z)
   rintro s ⟨a,m⟩
   refine c'<|hZ [ff,ff,ff,ff,ff,ff,ff,ff,ff,ff,ff] gp (by kernel_rfl) λO=>ù z<|su a z (λ_ h=>kr z z) (λT a=>?_) (λT a=>?_)
   .refine ù z<|cy z z (λ_ h=>h' z)<|cy z z (λ_ h=>h' z)<|cy z z (λ_ h=>nU z z)<|oE a λx2 B a=>cy z z (λ_ h=>X' F' jA ((t.mono (mx k m)).mono h) z z B)<|cy z z (λ_ h=>lV z)<|cy z z (λ_ h=>jC _ iL z (M' _ _ _) (sO (R' (R' (pP (mi (Á t B))) (mx k m)) h)))<|cy z z (λ_ h=>lV z)<|cy z z (λ_ h=>gZ (Ι g.m).toArray 4 iL z z (M' _ _ _) (hC ((χ g.c d f e c)) (Ι g.m) ([])))<|jz O<|oE a λZ K a=>I' (W' z z) z (x' xj z) (KM K) z (trivial)<|gy z z (oo z z) z<|Δ z<|q'<|fh<|a'<|J' a z (λP a=>?_) (λP a=>?_)
    .exact (show False from a).elim
    refine o'<|A'<|a'<|p'<|é z<|δ z<|q'<|K' ⟨i64.wrap (l+1),s⟩ a (mx k m) (υ z) (wk ln)
   refine ù z<|ct z z<|ct z z<|ct z z<|ct z z<|ct z z<|ct z z<|ct z z<|ct z z<|jz O<|lk z<|Γ z<|q'<|fh<|a'<|lJ z<|o'<|A'<|a'<|p'<|é z<|δ z<|q'<|K' ⟨i64.wrap (l+1),s⟩ a (mx k m) (υ z) (wk ln)
  refine Æ<|g'<|g'<|H'<|Ë n ⟨a,k⟩ fn (wk ln)
 rintro A ⟨a,W⟩
 refine a'<|sr<|θ z<|m' (Μ a z z)
theorem eZ'{j r}(a:(Hr j).ο r):ä prog 91 #[.agg (Ι j).toArray] (λG=>True) (λG v=>v = .int .u8 r):=by
 refine E' (args:=[_]) (N:=19) func91 z z z λn g s q=>sr<|ý 1 z z z λt=>ς z<|nr<|θ z<|c'<|sr<|γ (w' 1 iL z z (M' _ _ _))<|δ z<|nx<|Z' (X:=Int×Int×Mem) a (λ⟨f,c,d⟩=>⟨(f,c),[(3,.int .u8 f),(6,.agg (Ι j).toArray),(7,i' c)],Mem.le g d,St n g d []⟩) (λ(⟨k,h⟩:Int×Mem)=>⟨k,[(3,.int .u8 k)],Mem.le g h,St n g h []⟩) ⟨0,0,g⟩ z (υ z) mr (wk ln) ?_ ?_
 .rintro _ ⟨f,c,d⟩ e a
  refine sr<|Ï z<|nx<|c'<|J' a z (λo a=>?_) (λo a=>?_)
  .refine o'<|a'<|c'<|V'<|sr<|δ z<|oA a λi a=>γ (wE lK ñ gh z z i (mh _ _ _ i))<|ς z<|ς z<|nr<|δ z<|γ (kr z z)<|nx<|J' a z (λm a=>?_) (λm a=>?_)
   .refine p'<|δ z<|δ z<|oA a λl a=>γ (Y0.shl z z l)<|γ (Y0.or z z)<|ς z<|q'<|A'<|a'<|p'<|é z<|δ z<|q'<|K' ⟨u8.wrap (BitVec.ofInt u8.bits f ||| BitVec.ofInt u8.bits (u8.wrap (1*2 ^ (min (c).toNat u8.bits)))).toNat,i64.wrap (c+1),d⟩ a e (υ z) (wk ln)
   refine o'<|A'<|a'<|p'<|é z<|δ z<|q'<|K' ⟨f,i64.wrap (c+1),d⟩ a e (υ z) (wk ln)
  refine Æ<|g'<|g'<|H'<|Ë ⟨f,d⟩ ⟨a,e⟩ (f1 z) (wk ln)
 rintro⟨k,h⟩ ⟨a,p⟩
 refine a'<|sr<|δ z<|θ z<|m' (Μ a z z)
theorem Kx{o q p r}(a:(AO o).ο r):ä prog 52 #[ε q o p] (λG=>sl n' G q p o) (λG v=>v = .int .u8 r):=by
 refine E' (args:=[_]) (N:=19) func52 z z z (λE n K B=>?_)
 have t:=B
 refine sr<|ς z<|nr<|θ z<|c'<|sr<|δ z<|γ (N' F' t z)<|δ z<|nx<|Z' (X:=Int×Int×Mem) a (λ⟨m,l,i⟩=>⟨(m,l),[(3,.int .u8 m),(6,ε q o p),(7,i' (o.length:Int)),(8,i' l)],Mem.le n i,St E n i []⟩) (λ(⟨A,s⟩:Int×Mem)=>⟨A,[(3,.int .u8 A)],Mem.le n s,St E n s []⟩) ⟨0,0,n⟩ z (υ z) mr (wk ln) ?_ ?_
 .rintro _ ⟨m,l,i⟩ h a
  refine sr<|Ï z<|nx<|c'<|J' a z (λI a=>?_) (λI a=>?_)
  .refine o'<|a'<|c'<|V'<|sr<|oE a λg y a=>γ (X' F' jA (t.mono h) z z y) ?_
   obtain⟨d,f,e,c,H,j,k⟩:=pr (R' (Á t y) h)
   refine γ (jC _ oz z z H)<|T' 5 z z159 z λL=>y' 5 z jA z z z z z (λu F=>Rp.one n' (G:=i) (x:=g) (cs:=((χ g.c d f e c):Ŀ Value)++(Ι g.m)) ⟨(χ g.c d f e c),Ι g.m,z,⟨(ι g.c.num d f),(ι g.c.den e c),z,⟨[.bool g.c.num.neg],[ε d g.c.num.Α f],z,z,⟨_,z,j⟩⟩,⟨[.bool g.c.den.neg],[ε e g.c.den.Α c],z,z,⟨_,z,k⟩⟩⟩,z⟩ u (by first|simpa using F|simpa [Value.cells] using F))<|nx<|p'<|δ z<|γ (lV z)<|γ (gZ (Ι g.m).toArray 5 iL z z (M' _ _ _) (hC ((χ g.c d f e c)) (Ι g.m) ([])))<|oE a λD C a=>I' z z (x' To z) (eZ' C) z (trivial)<|γ (Y0.or z z)<|ς z<|q'<|A'<|a'<|p'<|é z<|δ z<|q'<|K' ⟨u8.wrap (BitVec.ofInt u8.bits m ||| BitVec.ofInt u8.bits D).toNat,i64.wrap (l+1),i⟩ a h (υ z) (wk ln)
  refine Æ<|g'<|g'<|H'<|Ë ⟨m,i⟩ ⟨a,h⟩ (f1 z) (wk ln)
 rintro⟨A,s⟩ ⟨a,J⟩
 refine a'<|sr<|δ z<|θ z<|m' (Μ a z z)
theorem fm'{i r}(a:(Hm i).ο r):ä prog 112 #[.agg (Ι i).toArray] (λG=>True) (λG v=>v=i' r):=by
 refine E' (args:=[_]) (N:=15) func112 z z z λl h p o=>sr<|ý 1 z z z λq=>ς z<|nr<|θ z<|c'<|sr<|γ (w' 1 iL z z (M' _ _ _))<|δ z<|nx<|Z' (X:=Int×Int×Mem) a (λ⟨f,c,d⟩=>⟨(f,c),[(3,i' f),(6,.agg (Ι i).toArray),(7,i' c)],Mem.le h d,St l h d []⟩) (λ(⟨k,g⟩:Int×Mem)=>⟨k,[(3,i' k)],Mem.le h g,St l h g []⟩) ⟨0,0,h⟩ z (υ z) mr (wk ln) ?_ ?_
 .rintro _ ⟨f,c,d⟩ e a
  refine sr<|Ï z<|nx<|c'<|J' a z (λm a=>?_) (λm a=>?_)
  .refine o'<|a'<|c'<|V'<|sr<|oA a λj a=>γ (wE lK ñ gh z z j (mh _ _ _ j))<|θ z<|p'<|δ z<|δ z<|é z<|ς z<|q'<|A'<|a'<|p'<|é z<|δ z<|q'<|K' ⟨i64.wrap (f+(Κ i c)),i64.wrap (c+1),d⟩ a e (υ z) (wk ln)
  refine Æ<|g'<|g'<|H'<|Ë ⟨f,d⟩ ⟨a,e⟩ (f1 z) (wk ln)
 rintro⟨k,g⟩ ⟨a,n⟩
 refine a'<|sr<|δ z<|θ z<|m' (Μ a z z)
theorem Ca{o q p r}(a:(Z6 o).ο r):ä prog 63 #[ε q o p] (λG=>sl n' G q p o) (λG v=>v=i' r):=by
 refine E' (args:=[_]) (N:=19) func63 z z z (λE n K C=>?_)
 have t:=C
 refine sr<|ς z<|nr<|θ z<|c'<|sr<|δ z<|γ (N' F' t z)<|δ z<|nx<|Z' (X:=Int×Int×Mem) a (λ⟨m,l,i⟩=>⟨(m,l),[(3,i' m),(6,ε q o p),(7,i' (o.length:Int)),(8,i' l)],Mem.le n i,St E n i []⟩) (λ(⟨B,s⟩:Int×Mem)=>⟨B,[(3,i' B)],Mem.le n s,St E n s []⟩) ⟨(-1),0,n⟩ z (υ z) mr (wk ln) ?_ ?_
 .rintro _ ⟨m,l,i⟩ h a
  refine sr<|Ï z<|nx<|c'<|J' a z (λI a=>?_) (λI a=>?_)
  .refine o'<|a'<|c'<|V'<|sr<|oE a λg A a=>γ (X' F' jA (t.mono h) z z A) ?_
   obtain⟨d,f,e,c,H,j,k⟩:=pr (R' (Á t A) h)
   refine γ (jC _ oz z z H)<|T' 5 z z159 z λL=>y' 5 z jA z z z z z (λu F=>Rp.one n' (G:=i) (x:=g) (cs:=((χ g.c d f e c):Ŀ Value)++(Ι g.m)) ⟨(χ g.c d f e c),Ι g.m,z,⟨(ι g.c.num d f),(ι g.c.den e c),z,⟨[.bool g.c.num.neg],[ε d g.c.num.Α f],z,z,⟨_,z,j⟩⟩,⟨[.bool g.c.den.neg],[ε e g.c.den.Α c],z,z,⟨_,z,k⟩⟩⟩,z⟩ u (by first|simpa using F|simpa [Value.cells] using F))<|nx<|p'<|δ z<|γ (lV z)<|γ (gZ (Ι g.m).toArray 5 iL z z (M' _ _ _) (hC ((χ g.c d f e c)) (Ι g.m) ([])))<|oE a λy D a=>I' z z (x' F2 z) (fm' D) z (trivial)<|γ (Y0.max2 z z)<|ς z<|q'<|A'<|a'<|p'<|é z<|δ z<|q'<|K' ⟨if m<y then y else m,i64.wrap (l+1),i⟩ a h (υ z) (wk ln)
  refine Æ<|g'<|g'<|H'<|Ë ⟨m,i⟩ ⟨a,h⟩ (f1 z) (wk ln)
 rintro⟨B,s⟩ ⟨a,J⟩
 refine a'<|sr<|δ z<|θ z<|m' (Μ a z z)
theorem dK'{h p x g f d e k j r}(a:(hK h p x).ο r):ä prog 228 #[.agg ((l8 h.k g f d e)).toArray,ε k p j,i' x] (λG=>sl (Rp.sl n') G g f h.k.eqs/\sl (Rp.sl n') G d e h.k.ζ/\sl n' G k j p) (λG v=>v = .bool r):=by
 refine E' (args:=[_,_,_]) (N:=25) func228 z z z (λI H E s=>?_)
 obtain⟨q,l,i⟩:=s
 refine sr<|ý 3 z z z λF=>θ z<|c'<|hZ [ff,ff,ff,ff,ff,ff,ff,ff,ff,ff,ff,ff,ff,ff,ff,ff] gp (by kernel_rfl) λn=>ù z<|oE a λy t a=>sn z (λ_=>x' Ma z) (Sd t) z (λu c=>(i.mono c)) ?_
 cases y
 .refine ù z<|ct z z<|ct z z<|ct z z<|ct z z<|ct z z<|ct z z<|ct z z<|ct z z<|cn (λ_ c=>D' z z)<|ù z<|ct z z<|ct z z<|ct z z<|jz n<|sk z z z<|Γ z<|ς z<|q'<|fh<|a'<|m' (Μ a z z)
 refine ù z<|cy z z (λ_ c=>h' z)<|oE a λC m a=>sn (W' z z) (λ_=>x' Hb z) (Kx m) z (λu c=>(i.mono c))<|cy z z (λ_ c=>jF pJ nQ z)<|cy z z (λ_ c=>Cx z)<|cy z z (λ_ c=>Y0.ye z)<|cy z z (λ_ c=>f' 3 ñ z z z)<|oA a λA a=>cy z z (λ_ c=>uR z z A)<|su a (W' z z) (λ_ c=>iI z z) (λB a=>?_) (λB a=>?_)
 .refine cn (λ_ c=>C' z z)<|ù z<|cy z z (λ_ c=>h' z)<|oE a λD o a=>sn (W' z z) (λ_=>x' AG z) (Ca o) z (λu c=>(i.mono c))<|cy z z (λ_ c=>h' z)<|jz n<|gy z z (oo z z) z<|Δ z<|ς z<|q'<|fh<|a'<|m' (Μ a z z)
 refine cn (λ_ c=>C' z z)<|ù z<|ct z z<|ct z z<|ct z z<|jz n<|sk z z z<|Γ z<|ς z<|q'<|fh<|a'<|m' (Μ a z z)
theorem fO'{v t h f j g r}(a:(DG v t).ο r):ä prog 109 #[.agg ((ι v h f)).toArray,.agg ((ι t j g)).toArray] (λG=>sl (Rp.int .u32) G h f v.Α/\sl (Rp.int .u32) G j g t.Α) (Da r):=by
 refine E' (args:=[_,_]) (N:=21) func109 z z z (λM L I u=>?_)
 obtain⟨l,c⟩:=u
 refine sr<|ý 2 z z z λJ=>ý 3 z z z λO=>T' 4 z ru z λK=>θ z<|c'<|sr<|γ (w' 3 Ò z z z)<|oE a λE x a=>I' z z (x' r7 z) (zQ x) z (c)<|γ (iI z z)<|nx<|J' a z (λA a=>?_) (λA a=>?_)
 .exact (show False from a).elim
 refine o'<|a'<|c'<|sr<|γ (w' 3 Ò z z z)<|oE a λD q a=>I' z z (x' r7 z) (zQ q) z (c)<|Ï z<|nx<|J' a z (λy a=>?_) (λy a=>?_)
 .exact (show False from a).elim
 refine o'<|a'<|sr<|γ (w' 2 Ò z z z)<|γ (w' 3 Ò z z z)<|oE a λF s a=>U' z z (x' xn z) (Kv s) z (⟨l,c⟩) (λC H B k=>?_)
 obtain⟨p,n,o,m,rfl,e,d⟩:=k
 refine ø 4 mD z<|θ z<|m' ?_
 obtain rfl:_=r:=a
 exact l5 z (hQ (i:=4) kf z z z) z ⟨_,_,_,_,z,e,d⟩
theorem fa'{c1 m1 p1 A C y D ak am r}(a:(Ht c1 m1 p1).ο r):ä prog 110 #[.agg ((χ c1 A C y D)).toArray,.agg (Ι m1).toArray,ε ak p1 am] (λG=>sl (Rp.int .u32) G A C c1.num.Α/\sl (Rp.int .u32) G y D c1.den.Α/\sl n' G ak am p1) (ny n' r):=by
 refine E' (args:=[_,_,_]) (N:=46) func110 z z z (λw0 G0 Z aB=>?_)
 obtain⟨O,L,ac⟩:=aB
 refine sr<|ý 3 z z z λb1=>ý 4 z z z λb2=>ς z<|θ z<|c'<|sr<|γ (w' 3 kf z z z)<|oE a λa0 av a=>I' z z (x' qS z) (yq av) z (⟨O,L⟩)<|γ (iI z z)<|nx<|J' a z (λaS a=>?_) (λaS a=>?_)
 .exact (show False from a).elim
 refine o'<|a'<|sr<|δ z<|γ (N' F' ac z)<|oA a λaE a=>WL.wR (r:=n') (e:=159) (n:=(p1.length:Int)) 4018 z z F' oh z (by decide) z z aE λp2 aN aY aL=>qX (r:=n') (e:=159) 4018 aL z (by rw[Z]; rfl) λaD ah I ay ao=>θ z<|c'<|sr<|δ z<|γ (N' F' (ac.mono I) z)<|δ z<|nx<|Z' (X:=(Ŀ Za)×ŀ Addr×Nat×ŀ Ow×Int×Mem) a (λ⟨M,S,R,P,Q,T⟩=>⟨(M,Q),[(3,Τ b1),(4,Τ b2),(8,ε S M R),(19,ε ak p1 am),(20,i' (p1.length:Int)),(21,i' Q)],Mem.le ah T/\sl n' T S R M/\Tok 12 159 (ε S M R) M.length P,St w0 G0 T [(3,Ξ b1 (χ c1 A C y D) 97),(4,Ξ b2 (Ι m1) 99),(1008,P)]⟩) (λ(⟨U,Y,W,V,ae⟩:(Ŀ Za)×ŀ Addr×Nat×ŀ Ow×Mem)=>⟨(.inr U),[(8,ε Y U W)],Mem.le ah ae/\sl n' ae Y W U/\Tok 12 159 (ε Y U W) U.length V,St w0 G0 ae [(1008,V)]⟩) ⟨([]:Ŀ Za),p2,aN,aD,0,ah⟩ z (υ z) ⟨mr,ay,ao⟩ ?_ ?_ ?_
 .intro w hs
  have hs:=hs.î (i:=4018) (j:=1008) z (by rw[Z]; rfl)
  exact hs.weaken (lc z (lc z (lc z ln)))
 .rintro _ ⟨M,S,R,P,Q,T⟩ ⟨F,aj,aa⟩ a
  refine sr<|Ï z<|nx<|c'<|J' a z (λaJ a=>?_) (λaJ a=>?_)
  .refine o'<|a'<|c'<|V'<|sr<|oE a λE ap a=>γ (X' F' jA (ac.mono (mx I F)) z z ap) ?_
   obtain⟨l,o,p,m,aF,J,K⟩:=pr (R' (Á ac ap) (mx I F))
   refine γ (jC _ oz z z aF)<|T' 10 z z159 z λb3=>y' 10 z jA z z z z z (λu hu=>Rp.one n' (G:=T) (x:=E) (cs:=((χ E.c l o p m):Ŀ Value)++(Ι E.m)) ⟨(χ E.c l o p m),Ι E.m,z,⟨(ι E.c.num l o),(ι E.c.den p m),z,⟨[.bool E.c.num.neg],[ε l E.c.num.Α o],z,z,⟨_,z,J⟩⟩,⟨[.bool E.c.den.neg],[ε p E.c.den.Α m],z,z,⟨_,z,K⟩⟩⟩,z⟩ u (by first|simpa using hu|simpa [Value.cells] using hu))<|nr<|γ (w' 4 iL z z (M' _ _ _))<|γ (lV z)<|γ (gZ (Ι E.m).toArray 10 iL z z (M' _ _ _) (hC ((χ E.c l o p m)) (Ι E.m) ([])))<|oE a λH aw a=>I' z z (x' Aj z) (R4 aw) z (trivial)<|δ z<|Û z<|Û z<|T' 11 z r5 z λb4=>y' 11 z ov z z z (M' _ _ _) (M' _ _ _) (λu hu=>Rp.one (pt .i64 8) (G:=T) (x:=H.1) (cs:=Ι H.1) z u (by first|simpa using hu|simpa [Value.cells] using hu))<|θ z<|c'<|sr<|δ z<|γ (ly z z)<|nx<|J' a z (λaM a=>?_) (λaM a=>?_)
   .exact (show False from a).elim
   refine o'<|a'<|hZ [tt,ff,ff,ff,ff,ff] gp (by kernel_rfl) λhb=>yl z (h' z)<|cn (λ_ B=>w' 3 kf z z z)<|cn (λ_ B=>oq z)<|cn (λ_ B=>gZ ((χ E.c l o p m)).toArray 10 kf z z z (hC ([]) ((χ E.c l o p m)) ((Ι E.m))))<|oE a λq az a=>mL (post:=lq q) (λ_=>z) (λ_ _=>x' Ak z) (R5 az) z (λG' B=>⟨((O.mono (mx I F)).mono B),((L.mono (mx I F)).mono B),(J.mono B),(K.mono B)⟩) (λv G1 G2 B h=>?_) ?_
   .obtain⟨k,c,f,g,rfl,s,t⟩:=h
    exact⟨_,_,_,_,z,s.mono B,t.mono B⟩
   refine cu (λ_ _ B=>w' 11 iL z z (M' _ _ _))<|rG (d:=39) (post:=lq q) (λaW aZ ad af=>?_)
   obtain⟨k,c,f,g,rfl,s,t⟩:=af
   refine γ (iK (vs:=#[(0,.agg ((χ q k c f g)).toArray),(1,.agg (Ι H.1).toArray)]) (v:=.agg (((χ q k c f g):Ŀ Value)++(Ι H.1)).toArray) z z (λ_=>by kernel_rfl))<|jL (e:=159) (r:=n') (vs:=#[(0,.agg (((χ q k c f g):Ŀ Value)++(Ι H.1)).toArray)]) (cs:=(((χ q k c f g):Ŀ Value)++(Ι H.1))++([])) ([(Za.mk q H.1)]:Ŀ Za) z z z z z (by decide) (λ_=>by kernel_rfl) ⟨((χ q k c f g):Ŀ Value)++(Ι H.1),[],z,⟨(χ q k c f g),Ι H.1,z,⟨(ι q.num k c),(ι q.den f g),z,⟨[.bool q.num.neg],[ε k q.num.Α c],z,z,⟨_,z,s⟩⟩,⟨[.bool q.den.neg],[ε f q.den.Α g],z,z,⟨_,z,t⟩⟩⟩,z⟩,z⟩ (key:=999) z (by rw[Z]; rfl) (λp3 a1 ab aK=>?_)
   refine oA a λar a=>nt (r:=n') 1008 z z F' oh z (by decide) z z (aj.mono (mx ad ab)) z (by rw[Z]; rfl) aa aK ar λp4 aI aC aP an aG aq=>ς z<|q'<|fh<|A'<|a'<|p'<|é z<|δ z<|q'<|K' ⟨(M++[(Za.mk q H.1)]),p4,aI,aC,i64.wrap (Q+1),aP⟩ a ⟨(mx (mx (mx F ad) ab) an),aG,aq⟩ (υ z) (w3 z z z)
  refine Æ<|g'<|g'<|H'<|Ë ⟨M,S,R,P,T⟩ ⟨a,F,aj,aa⟩ (f1 z) (w1 z)
 rintro⟨U,Y,W,V,ae⟩ ⟨a,aU,aA,aT⟩
 refine a'<|sr<|δ z<|ς z<|θ z<|m' ?_
 obtain rfl:_=r:=a
 exact l5 z z z ⟨_,_,z,aA⟩
theorem gb'{t f e r}(a:(HT t).ο r):ä prog 108 #[.agg ((ι t f e)).toArray] (λG=>sl (Rp.int .u32) G f e t.Α) (jb r):=by
 refine E' (args:=[_]) (N:=10) func108 z z z (λP M I s=>?_)
 have m:=s
 refine sr<|ý 1 z z z λJ=>T' 2 z oe z λQ=>nx<|c'<|hZ [ff,ff,ff,ff,ff,ff] gp (by kernel_rfl) λL=>cn (λ_ c=>mM z)<|cn (λ_ c=>f' 1 kX z z z)<|cn (λ_ c=>gP z)<|cn (λ_ c=>jk z)<|cn (λ_ c=>f' 1 jm z z z)<|oE a λn u a=>mL (post:=jx (Rp.int .u32) n) (λ_=>z) (λ_ _=>x' xl z) (KA u) z (λK c=>(m.mono c)) (λv R O c h=>?_) ?_
 .obtain⟨q,p,rfl,g⟩:=h
  exact⟨_,_,z,g.mono c⟩
 refine rG (d:=8) (post:=jx (Rp.int .u32) n) (λC E B j=>?_)
 obtain⟨q,p,rfl,g⟩:=j
 refine oE a λF o a=>U' z z (x' qT z) (yi o) z (g) (λD H A l=>?_)
 obtain⟨y,x,rfl,k⟩:=l
 refine ø 2 lx z<|q'<|fh<|a'<|m' ?_
 obtain rfl:_=r:=a
 exact k' z (hQ (i:=2) Ò z z z) ⟨_,_,z,k⟩
theorem KS{k p B r}(a:(Bh k).ο r):ä prog 60 #[ε p k B] (λG=>sl n' G p B k) (jx n' r):=by
 refine E' (args:=[_]) (N:=71) func60 z z z (λw0 G0 bN bh=>?_)
 have j:=bh
 refine sr<|θ z<|c'<|sr<|δ z<|γ (N' F' j z)<|γ (iI z z)<|nx<|J' a z (λbx a=>?_) (λbx a=>?_)
 .exact (show False from a).elim
 refine o'<|a'<|sr<|oE a λbr ba a=>U' z z (x' sT z) (Cr ba) z (trivial) (λbI bR A au=>?_)
 obtain⟨aE,ak,rfl,al⟩:=au
 refine oE a λbo bb a=>U' z z (x' sT z) (Cr bb) z (trivial) (λbG aM i aJ=>?_)
 obtain⟨aA,aH,rfl,az⟩:=aJ
 refine T' 3 z oe z λw=>T' 4 z oe z λb2=>ø 3 lx z<|ø 4 lx z<|nx<|c'<|sr<|δ z<|γ (N' F' (j.mono (mx A i)) z)<|δ z<|nx<|Z' (X:=Int×Zi×ŀ Addr×Nat×Zi×ŀ Addr×Nat×Mem) a (λ⟨K,aa,q,t,Z,y,l,L⟩=>⟨(K,aa,Z),[(0,ε p k B),(3,Τ w),(4,Τ b2),(20,ε p k B),(21,i' (k.length:Int)),(22,i' K)],Mem.le aM L/\sl (Rp.int .u32) L q t aa.Α/\sl (Rp.int .u32) L y l Z.Α,St w0 G0 L [(3,Ξ w (ι aa q t) 95),(4,Ξ b2 (ι Z y l) 95)]⟩) (λ(⟨R,m,n,ab,s,o,O⟩:Zi×ŀ Addr×Nat×Zi×ŀ Addr×Nat×Mem)=>⟨(R,ab),[(0,ε p k B),(3,Τ w),(4,Τ b2)],Mem.le aM O/\sl (Rp.int .u32) O m n R.Α/\sl (Rp.int .u32) O s o ab.Α,St w0 G0 O [(3,Ξ w (ι R m n) 95),(4,Ξ b2 (ι ab s o) 95)]⟩) ⟨0,br,aE,ak,bo,aA,aH,aM⟩ z (υ z) ⟨mr,(al.mono i),az⟩ (w2 z z) ?_ ?_
 .rintro _ ⟨K,aa,q,t,Z,y,l,L⟩ ⟨J,Q,F⟩ a
  refine sr<|Ï z<|nx<|c'<|J' a z (λbq a=>?_) (λbq a=>?_)
  .refine o'<|a'<|c'<|V'<|sr<|oE a λg aU a=>γ (X' F' jA (j.mono (mx (mx A i) J)) z z aU) ?_
   obtain⟨e,f,c,d,bl,C,h⟩:=pr (R' (Á j aU) (mx (mx A i) J))
   refine γ (jC _ oz z z bl)<|T' 6 z z159 z λb4=>y' 6 z jA z z z z z (λu hu=>Rp.one n' (G:=L) (x:=g) (cs:=((χ g.c e f c d):Ŀ Value)++(Ι g.m)) ⟨(χ g.c e f c d),Ι g.m,z,⟨(ι g.c.num e f),(ι g.c.den c d),z,⟨[.bool g.c.num.neg],[ε e g.c.num.Α f],z,z,⟨_,z,C⟩⟩,⟨[.bool g.c.den.neg],[ε c g.c.den.Α d],z,z,⟨_,z,h⟩⟩⟩,z⟩ u (by first|simpa using hu|simpa [Value.cells] using hu))<|nr<|γ (w' 3 Ò z z z)<|γ (oq z)<|γ (pn z)<|γ (gZ ((ι g.c.num e f)).toArray 6 Ò z z z (hC ([]) ((ι g.c.num e f)) (((ι g.c.den c d):Ŀ Value)++(Ι g.m))))<|oE a λbu bf a=>U' z z (x' uV z) (Fz bf) z (⟨Q,C⟩) (λbE bM D aK=>?_)
   obtain⟨aC,an,rfl,aq⟩:=aK
   refine ø 3 lx z<|nr<|γ (w' 4 Ò z z z)<|γ (oq z)<|γ (oy z)<|γ (gZ ((ι g.c.den c d)).toArray 6 Ò z z z (hC ((ι g.c.num e f)) ((ι g.c.den c d)) ((Ι g.m))))<|oE a λbJ bi a=>U' z z (x' uV z) (Fz bi) z (⟨(F.mono D),(h.mono D)⟩) (λbB bO I ax=>?_)
   obtain⟨bk,bj,rfl,ap⟩:=ax
   refine T' 7 z oe z λb5=>ø 7 lx z<|nr<|γ (oq z)<|γ (oy z)<|γ (gZ ((ι g.c.den c d)).toArray 6 Ò z z z (hC ((ι g.c.num e f)) ((ι g.c.den c d)) ((Ι g.m))))<|γ (w' 7 Ò z z z)<|oE a λbT a9 a=>U' z z (x' xd z) (Kz a9) z (⟨(h.mono (mx D I)),ap⟩) (λbH bS U aB=>?_)
   obtain⟨a1,aV,a3,aW,rfl,V,a2⟩:=aB
   refine δ z<|Û z<|Û z<|Û z<|T' 8 z oe z λb6=>T' 9 z oe z λb7=>ø 8 lx z<|ø 9 lx z<|θ z<|p'<|γ (w' 4 Ò z z z)<|γ (w' 8 Ò z z z)<|oE a λa8 aT a=>U' z z (x' Aa z) (R8 aT) z (⟨(F.mono (mx (mx D I) U)),V⟩) (λbz a7 W ad=>?_)
   obtain⟨af,ag,rfl,ae⟩:=ad
   refine ø 4 lx z<|q'<|A'<|a'<|p'<|é z<|δ z<|q'<|K' ⟨i64.wrap (K+1),bu,aC,an,a8,af,ag,a7⟩ a ⟨(mx (mx (mx (mx J D) I) U) W),(aq.mono (mx (mx I U) W)),ae⟩ (υ z) (w2 z z)
  refine Æ<|g'<|g'<|H'<|Ë ⟨aa,q,t,Z,y,l,L⟩ ⟨a,J,Q,F⟩ (υ z) (w2 z z)
 rintro⟨R,m,n,ab,s,o,O⟩ ⟨a,T,av,S⟩
 refine a'<|k5 a (λ(⟨aj,H,E,ai⟩:Zi×ŀ Addr×Nat×Mem)=>⟨[(0,ε p k B),(3,Τ w),(4,Τ b2)],HH k R aj,Mem.le O ai/\sl (Rp.int .u32) ai H E aj.Α,St w0 G0 ai [(3,Ξ w (ι R m n) 95),(4,Ξ b2 (ι aj H E) 95)]⟩) ?_ ?_
 .refine sr<|δ z<|oE a λx1 a4 a=>γ (X' F' jA (j.mono (mx (mx A i) T)) z z a4)<|γ (oq z) ?_
  obtain⟨aY,aZ,a0,aX,bn,ac,Y⟩:=wI (R' (qO (mi (Á j a4))) (mx (mx A i) T))
  refine γ (jC _ kf z z bn)<|oE a λbU bd a=>I' z z (x' qS z) (yq bd) z (⟨ac,Y⟩)<|Ï z<|nx<|J' a z (λbp a=>?_) (λbp a=>?_)
  .refine p'<|γ (w' 4 Ò z z z)<|oE a λbm a6 a=>U' z z (x' FY z) (gb' a6) z (S) (λbC bv aR am=>?_)
   obtain⟨ar,aD,rfl,aF⟩:=am
   refine ø 4 lx z<|q'<|ia ⟨bm,ar,aD,bv⟩ ⟨a,aR,aF⟩ (υ z) (w2 z z)
  refine o'<|ia ⟨ab,s,o,O⟩ ⟨a,mr,S⟩ (υ z) (w2 z z)
 rintro⟨aj,H,E,ai⟩ ⟨a,ah,ay⟩
 refine sr<|γ (w' 4 Ò z z z)<|γ (w' 3 Ò z z z)<|oE a λbP be a=>U' z z (x' FZ z) (fO' be) z (⟨ay,(av.mono ah)⟩) (λbD bQ aS aG=>?_)
 obtain⟨aQ,aO,aN,aP,rfl,M,P⟩:=aG
 refine δ z<|Û z<|Û z<|T' 11 z ru z λb3=>ø 11 mD z<|ς z<|nr<|γ (w' 11 kf z z z)<|γ (iK (vs:=#[]) (v:=.agg (Ι (λ_=>0)).toArray) z z (λ_=>by kernel_rfl))<|δ z<|oE a λbK a5 a=>U' z z (x' F0 z) (fa' a5) z (⟨M,P,(j.mono (mx (mx (mx (mx A i) T) ah) aS))⟩) (λbF bL bA aw=>?_)
 obtain⟨bw,bs,rfl,aL⟩:=aw
 refine δ z<|Û z<|Û z<|ς z<|ς z<|nr<|δ z<|θ z<|m' ?_
 obtain rfl:_=r:=a
 exact k' z z ⟨_,_,z,aL⟩
theorem RO{l u j h g d e s q r}(a:(À l u j).ο r):ä prog 183 #[.agg ((l8 l.k h g d e)).toArray,ε s u q,i' j] (λG=>sl (Rp.sl n') G h g l.k.eqs/\sl (Rp.sl n') G d e l.k.ζ/\sl (Rp.sl n') G s q u) (λG v=>v = .bool r):=by
 refine E' (args:=[_,_,_]) (N:=47) func183 z z z (λS x ak J=>?_)
 obtain⟨o,n,k⟩:=J
 refine sr<|ý 3 z z z λL=>θ z<|c'<|sr<|δ z<|γ (N' Ζ k z)<|γ (kr z z)<|nx<|J' a z (λY a=>?_) (λY a=>?_)
 .refine sr<|θ z<|m'<|b' (Μ a z z)
 refine o'<|a'<|c'<|sr<|δ z<|γ (N' Ζ k z)<|δ z<|nx<|Z' (X:=Int×Mem) a (λ⟨i,p⟩=>⟨i,[(1,ε s u q),(2,i' j),(3,Τ L),(12,ε s u q),(13,i' (u.length:Int)),(14,i' i)],Mem.le x p,St S x p [(3,Ξ L (l8 l.k h g d e) 207)]⟩) (λ(w:Mem)=>match w with|y=>⟨(.inr ()),[],Mem.le x y,St S x y []⟩) ⟨0,x⟩ z (υ z) mr (w1 z) ?_ ?_
 .rintro _ ⟨i,p⟩ c a
  refine sr<|Ï z<|nx<|c'<|J' a z (λR a=>?_) (λR a=>?_)
  .refine o'<|a'<|c'<|V'<|sr<|δ z<|oE a λx1 B a=>γ (X' Ζ iG (k.mono c) z z B) ?_
   obtain⟨p1,ai,P,m⟩:=qA (R' (Á k B) c)
   refine γ (il ij z (P))<|ς z<|θ z<|c'<|sr<|γ (w' 3 tp z z z)<|δ z<|oE a λO K a=>I' z z (x' GI z) (dK' K) z (⟨(o.mono c),(n.mono c),m⟩) ?_
   cases O
   .refine γ (gP z)<|δ z<|ke z<|Δ z<|nx<|iS z<|sr<|θ z<|m'<|b'<|B'<|b'<|b'<|B'<|jl<|b' (Μ a z z)
   refine γ (gP z)<|δ z<|Â z<|oE a λae D a=>I' (W' z z) z (x' AG z) (Ca D) z (m)<|Â z<|gy z z (nb z z) z<|Γ z<|nx<|J' a z (λW a=>?_) (λW a=>?_)
   .refine sr<|θ z<|m'<|b'<|B'<|b'<|b'<|B'<|jl<|b' (Μ a z z)
   refine o'<|a'<|c'<|sr<|δ z<|oE a λaj I a=>U' z z (x' Hc z) (KS I) z (m) (λac C f t=>?_)
   obtain⟨aa,ab,rfl,H⟩:=t
   refine δ z<|oE a λaf F a=>I' z z (x' AD z) (AP _ _ _ _ _ _ _ F) z (⟨H,(m.mono f)⟩)<|γ (gP z)<|nx<|iC a z (λQ a=>?_) (λQ a=>?_)
   .refine sr<|θ z<|m'<|b'<|B'<|b'<|b'<|B'<|jl<|b' (Μ a z z)
   refine o'<|a'<|sr<|δ z<|eZ a z (kr z z) z (λU a=>?_) (λU a=>?_)
   .refine δ z<|Â z<|Â z<|gy z z (nU z z) z<|oE a λx2 A a=>gy z z (X' Ζ iG (k.mono (mx c f)) z z A) z ?_
    obtain⟨p2,ag,T,V⟩:=qA (R' (Á k A) (mx c f))
    refine gy z z (il ij z (T)) z<|Â z<|oE a λah E a=>I' (W' z z) z (x' Ab z) (MJ _ _ _ _ _ _ _ E) z (⟨V,(m.mono f)⟩)<|gy z z (kO z z) z<|Δ z<|nx<|J' a z (λM a=>?_) (λM a=>?_)
    .refine sr<|θ z<|m'<|B'<|b'<|b'<|B'<|jl<|b' (Μ a z z)
    refine o'<|A'<|a'<|p'<|é z<|δ z<|q'<|K' ⟨i64.wrap (i+1),C⟩ a (mx c f) (υ z) (w1 z)
   refine δ z<|sn8 z<|Γ z<|nx<|lJ z<|o'<|A'<|a'<|p'<|é z<|δ z<|q'<|K' ⟨i64.wrap (i+1),C⟩ a (mx c f) (υ z) (w1 z)
  refine Æ<|g'<|g'<|H'<|Ë p ⟨a,c⟩ fn (wk ln)
 rintro y ⟨a,Z⟩
 refine a'<|sr<|θ z<|m' (Μ a z z)
theorem dW'{i h g e f r}(a:(ic i).ο r):ä prog 117 #[.agg ((l8 i.k h g e f)).toArray] (λG=>sl (Rp.sl n') G h g i.k.eqs/\sl (Rp.sl n') G e f i.k.ζ) (λG v=>v = .bool r):=by
 refine E' (args:=[_]) (N:=27) func117 z z z (λu t q k=>?_)
 obtain⟨d,c⟩:=k
 refine sr<|ý 1 z z z λs=>ς z<|nr<|γ (Cx z)<|γ (Y0.ye z)<|γ (f' 1 ñ z z z)<|eZ a z (kO z z) z (λo a=>?_) (λo a=>?_)
 .refine δ z<|gy z z (Cx z) z<|gy z z (Y0.ye z) z<|gy z z (f' 1 ñ z z z) z<|eZ a (W' z z) (oo z z) z (λn a=>?_) (λn a=>?_)
  .refine Δ z<|δ z<|gy z z (w' 1 tp z z z) z<|gy z z (Cx z) z<|gy z z (Y0.BR z) z<|gy z z (f' 1 lg z z z) z<|oE a λm l a=>I' (W' z z) z (x' An z) (RO l) z (⟨d,c,d⟩) ?_
   cases m
   .refine Δ z<|δ z<|pd z<|Γ z<|θ z<|m' (Μ a z z)
   refine Δ z<|δ z<|gy z z (w' 1 tp z z z) z<|gy z z (Cx z) z<|gy z z (Y0.BS z) z<|gy z z (f' 1 lg z z z) z<|oE a λp j a=>I' (W' z z) z (x' An z) (RO j) z (⟨d,c,c⟩)<|Δ z<|θ z<|m' (Μ a z z)
  refine Δ z<|δ z<|pd z<|Γ z<|δ z<|pd z<|Γ z<|θ z<|m' (Μ a z z)
 refine δ z<|ke z<|Γ z<|δ z<|pd z<|Γ z<|δ z<|pd z<|Γ z<|θ z<|m' (Μ a z z)
theorem Wf(g:Zm)(e:ŀ Addr)(f:Nat)(d:ŀ Addr)(c:Nat)(r:Bool)(a:(HS g).ο r):ä prog 68 #[.agg ((l8 g e f d c)).toArray] (λG=>sl (Rp.sl n') G e f g.eqs/\sl (Rp.sl n') G d c g.ζ) (λG v=>v = .bool r):=by
 refine E' (args:=[_]) (N:=6) func68 z z z (λo p l k=>?_)
 obtain⟨i,h⟩:=k
 refine sr<|ý 1 z z z λn=>ς z<|nr<|γ (w' 1 kA z z z)<|γ (iK (vs:=#[(0,.agg ((l8 g e f d c)).toArray)]) (v:=.agg ((l8 g e f d c)).toArray) z z (λ_=>by kernel_rfl))<|oE a λm j a=>I' z z (x' F6 z) (dW' j) z (⟨i,h⟩)<|θ z<|m' (Μ a z z)
def l4(a:Nat)(s:ŀ Addr×Nat×ŀ Ow)(n:Nat):Lo:=[(6000,some ⟨a,.cells #[.slice s.1 n s.2.1] 151 (0,0),0⟩),(5000,s.2.2)]
abbrev uz(G:Mem)(s:ŀ Addr×Nat×ŀ Ow)(xs:Ŀ Int):Prop:=Η (Rp.int .u8) 5 G (.slice s.1 xs.length s.2.1) xs s.2.2
def tc(f:Nat)(args:Nat->Ŀ Value)(d:Mem->Prop)(a:Ŀ Int):Prop:=∀ (c:Nat) (xs:Ŀ Int) (s:ŀ Addr×Nat×ŀ Ow),(xs++a).length<=1000000->
 ò prog f (Value.pointer (some ⟨c,0,none⟩)::args c).toArray (l4 c s xs.length) (λG=>uz G s xs/\d G) (λG L v=>v = .tuple #[]/\∃ e,L=l4 c e (xs++a).length/\uz G e (xs++a))
section
variable {N:Nat}{Q:õ}{fr:Fr}{ops:Array Oper}{l:Ŀ Oper}{dst:ŀ Nat}{ty:TypeId}{pos:String}{af:Array Edge}{g:ŀ (Nat×Bool)}{w0:Bs}{G0 G:Mem}
theorem vc{d:Nat}{s:ŀ Addr×Nat×ŀ Ow}{n:Nat}{xs:Ŀ Int}(h:uz G s xs):(l4 d s n).zero:=by
 intro q a x c
 simp only[l4,ą,ĝ,ŝ] at a
 rcases a with rfl|rfl
 .cases c; rfl
 exact h.zero c
theorem qM{op:Op}{f:Nat}{args:Nat->Ŀ Value}{q:Mem->Prop}{a xs:Ŀ Int}{j:Nat}{s:ŀ Addr×Nat×ŀ Ow}(R:Lo)(u:tc f args q a)(B:κ ops fr ⟨dst,op,ty,pos,af,g⟩ true)(A:è N dst)
  (y:YC prog N ⟨dst,op,ty,pos,af,g⟩ fr (St w0 G0 G (l4 j s xs.length++R)) f (Value.pointer (some ⟨j,0,none⟩)::args j).toArray) (n:(xs++a).length<=1000000) (p:uz G s xs) (hp:q G) (D:w0.L.zero)
  (k:∀ r G',Mem.le G G'->uz G' r (xs++a)->WL prog N ops Q l (ξ dst (.tuple #[]) fr) (St w0 G0 G' (l4 j r (xs++a).length++R))):WL prog N ops Q (⟨dst,op,ty,pos,af,g⟩::l) fr (St w0 G0 G (l4 j s xs.length++R)):=by
 refine WL.lW B A y (u j xs s n) rfl ⟨p,hp⟩ (lc rfl (lc rfl ln)) D (λv G' L' t c=>?_)
 obtain⟨rfl,r,rfl,d⟩:=c
 refine WL.Ì (λw C=>C.weaken (λi x h=>?_)) (k r G' t d)
 simp only[l4,Lo.É,ė,ĵ,Ħ,Ņ,Lo.Zn] at h ⊢
 split at h
 .rename_i e; rw[Ă e]; exact h
 rename_i e
 rw[Ā e]
 split at h
 .rename_i m; rw[Ă m]; exact h
 rename_i m; rw[Ā m,Ā e,Ā m,Ā e,Ā m]; exact h
end
theorem uu(n:Int):0<=u64.wrap n/\u64.wrap n<18446744073709551616:=by rw[IntKind.wrap_u64]; omega
theorem A7(i:Int)(I:0<=i/\i<18446744073709551616):tc 184 (λ_=>[.int .u64 i]) (λ_=>True) (lD i):=by
 intro H xs P u
 refine ò.enter (args:=[_,_]) (N:=32) func184 rfl rfl rfl (λw0 G0 t v=>?_)
 obtain⟨h,_⟩:=v
 refine WC.seq<|WC.block ?_
 refine WC.kV (X:=Nat×Ŀ Int×Int×(ŀ Addr×Nat×ŀ Ow)×Mem) (λd=>match d with|⟨_,_,n,_,_⟩=>[(0,.pointer (some ⟨H,0,none⟩)),(1,.int .u64 n)])
  (λd=>match d with|⟨f,ys,n,s,G⟩=>0<=n/\n<128*128 ^ f/\n<18446744073709551616/\ys++nH f n=xs++lD i/\uz G s ys)
  (λd=>match d with|⟨_,ys,_,s,G⟩=>St w0 G0 G (l4 H s ys.length)) (λd=>d.1) ⟨10,xs,i,P,G0⟩ (fc rfl (fc rfl fn)) ⟨I.1,by omega,I.2,rfl,h⟩ (λw y=>y) ?_
 rintro⟨f,ys,n,s,G⟩ ⟨J,K,L,m,C⟩
 dsimp only at J K m C L ⊢
 refine WC.seq<|sr<|mv rfl rfl<|yy (Y0.geq rfl rfl) rfl<|nx ?_
 have c:(ys++nH f n).length<=1000000:=by rw[m]; exact u
 refine WC.iD (p:=(128:Int)<=n) rfl (λE=>?_) (λE=>?_)
 .obtain⟨f,rfl⟩:∃ j,f=j+1:=by
   cases f with
   | zero=>have:(128:Int)*128 ^ 0=128:=rfl; omega
   | succ j=>exact⟨j,rfl⟩
  have g:nH (f+1) n=u8.wrap (u8.wrap (Int.tmod n 128)+128)::nH f (u64.wrap (Int.tdiv n 128)):=by show (if (128:Int)<=n then _ else _)=_; rw[Ă E]
  rw[g] at m c
  refine WC.skip<|WE.then<|WC.block<|sr<|mv rfl rfl<|mv rfl rfl<|yy (Y0.nilCheck rfl) rfl<|yy (Y0.ya rfl) rfl<|yy (Y0.gN 6000 vJ rfl rfl rfl) rfl<|mv rfl rfl<|yy (Y0.rem rfl rfl (by decide)) rfl<|yy (Y0.conv underlying212 underlying5 rfl) rfl<|yy (Y0.add rfl rfl) rfl ?_
  refine WL.rb (e:=5) (r:=Rp.int .u8) (vs:=#[(0,.int .u8 (u8.wrap (u8.wrap (Int.tmod n 128)+128)))]) (cs:=[.int .u8 (u8.wrap (u8.wrap (Int.tmod n 128)+128))]) ([u8.wrap (u8.wrap (Int.tmod n 128)+128)]:Ŀ Int) Zf rfl rfl rfl rfl (by decide) (λ_=>by kernel_rfl) ⟨[_],[],rfl,rfl,rfl⟩ (key:=999) rfl (by rw[t]; rfl) (λp1 B a F=>?_)
  refine WL.lQ (r:=Rp.int .u8) (e:=5) 5000 Zf rfl underlying89 zZ rfl (by decide) rfl rfl (C.mono a) rfl F (by simp only[ā,Ġ,ř] at c ⊢; show _<=small; simp only[small]; omega) (λp2 q l A=>?_)
  refine yy (Y0.nilCheck rfl) rfl<|yy (Y0.ya rfl) rfl<|WL.iE 6000 #[.slice p2 (ys++[u8.wrap (u8.wrap (Int.tmod n 128)+128)]).length q] Zf yQ rfl rfl rfl fw rfl rfl ?_
  refine nx<|WC.region<|mv rfl rfl<|yy (Y0.quo rfl rfl (by decide)) rfl<|sg rfl rfl<|WL.nil<|WE.inBlock ?_
  have O:u64.wrap (Int.tdiv n 128)=n / 128:=by rw[abe J,IntKind.wrap_u64]; omega
  have hp:(128:Int)*128 ^ (f+1)=128*(128*128 ^ f):=by rw[Int.pow_succ]; omega
  have D:0<=u64.wrap (Int.tdiv n 128)/\u64.wrap (Int.tdiv n 128)<128*128 ^ f/\u64.wrap (Int.tdiv n 128)<18446744073709551616:=by rw[O]; omega
  refine WE.kC (x:=(f+1,ys,n,s,G)) (f,ys++[u8.wrap (u8.wrap (Int.tmod n 128)+128)],u64.wrap (Int.tdiv n 128),(p2,q,l),B) ⟨D.1,D.2.1,D.2.2,by show (_++[_])++_=_; rw[ď]; exact m,A⟩ (fc rfl (fc rfl fn)) (λw y=>y.weaken (lc rfl (lc rfl ln))) (aal f)
 have g:nH f n=[u8.wrap n]:=by cases f with|zero=>rfl|succ f=>show (if (128:Int)<=n then _ else _)=_; rw[Ā E]
 rw[g] at m c
 refine WC.exit<|WE.ã<|WE.ã<|WE.Ö<|WE.then<|WC.region<|mv rfl rfl<|mv rfl rfl<|yy (Y0.nilCheck rfl) rfl<|yy (Y0.ya rfl) rfl<|yy (Y0.gN 6000 vJ rfl rfl rfl) rfl<|mv rfl rfl<|yy (Y0.conv underlying212 underlying5 rfl) rfl ?_
 refine WL.rb (e:=5) (r:=Rp.int .u8) (vs:=#[(0,.int .u8 (u8.wrap n))]) (cs:=[.int .u8 (u8.wrap n)]) ([u8.wrap n]:Ŀ Int) Zf rfl rfl rfl rfl (by decide) (λ_=>by kernel_rfl) ⟨[_],[],rfl,rfl,rfl⟩ (key:=999) rfl (by rw[t]; rfl) (λp1 B a F=>?_)
 refine WL.lQ (r:=Rp.int .u8) (e:=5) 5000 Zf rfl underlying89 zZ rfl (by decide) rfl rfl (C.mono a) rfl F (by simp only[ā,Ġ,ř] at c ⊢; show _<=small; simp only[small]; omega) (λp2 q l A=>?_)
 refine yy (Y0.nilCheck rfl) rfl<|yy (Y0.ya rfl) rfl<|WL.iE 6000 #[.slice p2 (ys++[u8.wrap n]).length q] Zf yQ rfl rfl rfl fw rfl rfl<|WL.nil<|WE.n0 ?_
 rw[m] at A ⊢
 exact WE.Ì (S':=St w0 G0 B (l4 H (p2,q,l) (xs++lD i).length)) (λw y=>y.weaken (lc rfl (lc rfl ln))) (WE.nI rfl ⟨rfl,_,rfl,A⟩)
theorem ZsZ(n:Int)(h:0<=n):tc 118 (λ_=>[.int .i64 n]) (λ_=>True) (qd n):=by
 intro m xs s d
 refine ò.enter (args:=[_,_]) (N:=19) func118 rfl rfl rfl (λw0 G0 f e=>?_)
 obtain⟨a,_⟩:=e
 refine sr<|mv rfl rfl<|yy (Y0.geq rfl rfl) rfl<|nx ?_
 refine WC.iD (p:=(0:Int)<=n) rfl (λg=>?_) (λg=>absurd h g)
 refine WC.region<|mv rfl rfl<|mv rfl rfl<|yy (Y0.conv underlying3 underlying212 rfl) rfl<|yy (Y0.mul rfl rfl) rfl ?_
 refine WL.Ì (S':=St w0 G0 G0 (l4 m s xs.length++[])) (λw j=>j) ?_
 refine qM [] (A7 _ (uu _)) Zf rfl (YC.of sX rfl) d a trivial (by rw[f]; exact vc a) (λl G' i c=>?_)
 exact WL.nil<|WE.n0<|WE.nI rfl ⟨rfl,l,rfl,c⟩
theorem Y0.nZ{N:Nat}{fr:Fr}{w0:Bs}{G0 G:Mem}{L:Lo}{dst:ŀ Nat}{ty:TypeId}{pos:String}{af:Array Edge}{g:ŀ (Nat×Bool)}{α:Type}{r:Rp α}{t:TypeId}{x:Operand}{b off:Nat}{cs:Ŀ Value}{a:α}(d:jd prog t r.size)(f:fr.ev x=some (.pointer (some ⟨b,off,none⟩)))
  (c:r.jJ G cs a) (e:∀ j u,cs[j]? = some u->G b (off+j)=some u):Y0 prog N ⟨dst,.load t x,ty,pos,af,g⟩ fr (St w0 G0 G L) (.agg cs.toArray):=
 Y0.re cs.toArray d f (by rw[ĥ]; exact r.len c) (λj v h=>e j v (by rw[ę] at h; exact h))
theorem Fg{a n:Nat}{s:ŀ Addr×Nat×ŀ Ow}{x y:ŀ Ow}:Lo.sub (l4 a s n++[]) ((3,x)::(3,y)::l4 a s n):=
 show Lo.sub [(6000,some ⟨a,.cells #[.slice s.1 n s.2.1] 151 (0,0),0⟩),(5000,s.2.2)] _ from lc rfl (lc rfl ln)
theorem OL(a:Zi)(cs:Ŀ Value):tc 277 (λ_=>[.agg cs.toArray]) (λG=>u7.jJ G cs a) (pU a):=by
 intro y xs s f
 refine ò.enter (args:=[_,_]) (N:=47) func277 rfl rfl rfl (λw0 G0 u E=>?_)
 obtain⟨q,F⟩:=E
 have hz:w0.L.zero:=by rw[u]; exact vc q
 refine sr<|WL.box 3 Zf rfl rfl (λV=>nx ?_)
 refine WC.kv 3 rfl (by rw[u]; rfl) (λK j P _=>?_)
 have A:At u7 K V 0 a:=At.box P rfl (u7.mono j F)
 obtain⟨mp,mc,O,I⟩:=Og A
 refine WC.Ì (S':=St w0 G0 K (l4 y s xs.length++[])) (λw i=>i.weaken Fg) ?_
 refine sr<|yy (Y0.Kk rfl) rfl<|yy (Y0.kU yJ rfl (O 1 _ rfl)) rfl<|yy (Y0.mU underlying93 rfl) rfl<|yy (Y0.conv underlying3 underlying212 rfl) rfl<|yy (Y0.mul rfl rfl) rfl<|sg rfl rfl<|nx ?_
 refine WC.sE (X:=Unit) (λ_=>[(0,.pointer (some ⟨y,0,none⟩)),(3,.pointer (some ⟨V,0,none⟩)),(4,.int .u64 (if a.neg=true then u64.wrap (u64.wrap (2*u64.wrap (a.Α.length:Int))+1) else u64.wrap (2*u64.wrap (a.Α.length:Int))))]) (λ_=>True) (λ_=>St w0 G0 K (l4 y s xs.length++[])) ?_ (λ_ _=>?_)
 .refine sr<|yy (Y0.Rz rfl) rfl<|yy (Y0.kU kX rfl (O 0 _ rfl)) rfl<|nx ?_
  refine WC.cond (b:=a.neg) rfl (λB=>?_) (λB=>?_)
  .refine WC.region<|mv rfl rfl<|yy (Y0.add rfl rfl) rfl<|sg rfl rfl<|WL.nil<|WE.pZ () trivial (fc rfl (fc rfl (fc (by rw[B]; rfl) fn))) (λw i=>i)
  refine WC.skip<|WE.pZ () trivial (fc rfl (fc rfl (fc (by rw[B]; rfl) fn))) (λw i=>i)
 have R:∀ c:Bool,0<=(if c=true then u64.wrap (u64.wrap (2*u64.wrap (a.Α.length:Int))+1) else u64.wrap (2*u64.wrap (a.Α.length:Int)))/\(if c=true then u64.wrap (u64.wrap (2*u64.wrap (a.Α.length:Int))+1) else u64.wrap (2*u64.wrap (a.Α.length:Int)))<18446744073709551616:=λc=>by split <;> exact uu _
 unfold pU at f ⊢
 generalize Y:lD (if a.neg=true then u64.wrap (u64.wrap (2*u64.wrap (a.Α.length:Int))+1) else u64.wrap (2*u64.wrap (a.Α.length:Int)))=H at f ⊢
 have J:∀ l:Ŀ Int,(l.flatMap iZ).length=4*l.length:=λl=>by
  induction l with
  | nil=>rfl
  | cons d l ih=>rw[gj,ā,ih]; show 4+_=_; rw[Ġ]; omega
 rw[ā,ā,J] at f
 refine sr<|mv rfl rfl<|mv rfl rfl ?_
 refine qM [] (A7 _ (R a.neg)) Zf rfl (YC.of sX rfl) (by rw[Y,ā]; omega) (q.mono j) trivial hz (λs1 G2 m g=>?_)
 rw[Y] at g ⊢
 refine nx<|sr<|yy (Y0.Kk rfl) rfl<|yy (Y0.kU yJ rfl (m _ _ _ (O 1 _ rfl))) rfl<|yy (Y0.mU underlying93 rfl) rfl<|mv rfl rfl<|nx<|WC.block ?_
 refine WC.kV (X:=Nat×(ŀ Addr×Nat×ŀ Ow)×Mem) (λt=>match t with|⟨k,_,_⟩=>[(0,.pointer (some ⟨y,0,none⟩)),(20,.slice mp a.Α.length mc),(21,.int .i64 (a.Α.length:Int)),(22,.int .i64 (k:Int))])
  (λt=>match t with|⟨k,v,G⟩=>k<=a.Α.length/\Mem.le K G/\uz G v (xs++H++(a.Α.take k).flatMap iZ))
  (λt=>match t with|⟨k,v,G⟩=>St w0 G0 G (l4 y v (xs++H++(a.Α.take k).flatMap iZ).length)) (λt=>a.Α.length-t.1) ⟨0,s1,G2⟩ (fc rfl (fc rfl (fc rfl (fc rfl fn)))) ⟨ġ _,m,by rw[ŭ,aaa,ğ]; exact g⟩ (λw i=>by show St _ _ _ (l4 y s1 (xs++H++(a.Α.take 0).flatMap iZ).length) _; rw[ŭ,aaa,ğ]; exact i) ?_
 rintro⟨k,v,G⟩ ⟨C,h,L⟩
 dsimp only at C h L ⊢
 refine sr<|yy (Y0.lss rfl rfl) rfl<|nx<|WC.seq ?_
 refine WC.iD (p:=(k:Int)<(a.Α.length:Int)) rfl (λB=>?_) (λB=>?_)
 .have D:k<a.Α.length:=by omega
  have Z:(0:Int)<=(k:Int)/\a.Α[(k:Int).toNat]? = some a.Α[k]:=⟨by omega,by simp[D]⟩
  have hw:i64.wrap ((k:Int)+1)=((k+1:Nat):Int):=by rw[Į]; omega
  have T:(a.Α.take (k+1)).flatMap iZ=(a.Α.take k).flatMap iZ++iZ a.Α[k]:=by rw[ĩ D,x6]; simp
  have S:(xs++H++(a.Α.take k).flatMap iZ++iZ a.Α[k]).length<=small:=by
   simp only[ā,J,Đ]
   show _+_+_+4<=small
   simp only[small]; omega
  refine WC.skip<|WE.then<|WC.seq<|WC.block<|sr<|yy (Y0.tT underlying93 w9 (I.mono h) rfl rfl Z) rfl<|yy (Y0.kU wV rfl (AtK.int (At.mono (ë.at I Z) h))) rfl<|sg rfl rfl<|nx<|WC.region<|mv rfl rfl<|mv rfl rfl<|yy (Y0.nilCheck rfl) rfl<|yy (Y0.ya rfl) rfl<|yy (Y0.gN 6000 vJ rfl rfl rfl) rfl ?_
  refine mv rfl rfl<|yy (Y0.shr rfl rfl (by decide)) rfl<|yy (Y0.conv underlying250 underlying5 rfl) rfl<|mv rfl rfl<|yy (Y0.shr rfl rfl (by decide)) rfl<|yy (Y0.conv underlying250 underlying5 rfl) rfl<|mv rfl rfl<|yy (Y0.shr rfl rfl (by decide)) rfl<|yy (Y0.conv underlying250 underlying5 rfl) rfl<|mv rfl rfl<|yy (Y0.conv underlying250 underlying5 rfl) rfl ?_
  refine WL.rb (e:=5) (r:=Rp.int .u8) (vs:=#[(0,.int .u8 (u8.wrap (Int.fdiv a.Α[k] (2 ^ (min (24:Int).toNat u32.bits))))),(1,.int .u8 (u8.wrap (Int.fdiv a.Α[k] (2 ^ (min (16:Int).toNat u32.bits))))),(2,.int .u8 (u8.wrap (Int.fdiv a.Α[k] (2 ^ (min (8:Int).toNat u32.bits))))),(3,.int .u8 (u8.wrap a.Α[k]))]) (cs:=(iZ a.Α[k]).map (Value.int .u8)) (iZ a.Α[k]) Zf rfl rfl rfl rfl (by decide) (λ_=>by kernel_rfl) (Ã.CP _) (key:=999) rfl (by rw[u]; rfl) (λp1 G3 n q1=>?_)
  refine WL.lQ (r:=Rp.int .u8) (e:=5) 5000 Zf rfl underlying89 zZ rfl (by decide) rfl rfl (L.mono n) rfl q1 S (λp2 W U q2=>?_)
  refine yy (Y0.nilCheck rfl) rfl<|yy (Y0.ya rfl) rfl<|WL.iE 6000 #[.slice p2 (xs++H++(a.Α.take k).flatMap iZ++iZ a.Α[k]).length W] Zf yQ rfl rfl rfl fw rfl rfl ?_
  refine WL.nil<|WE.inBlock<|WE.then<|WC.region<|yy (Y0.add rfl rfl) rfl ?_
  rw[hw]
  rw[ď (xs++H),<- T] at q2 ⊢
  exact mv rfl rfl<|WL.nil<|WE.kC (x:=(k,v,G)) (k+1,(p2,W,U),G3) ⟨by omega,Mem.le_trans h n,q2⟩ (fc rfl (fc rfl (fc rfl (fc rfl fn)))) (λw i=>i.weaken (lc rfl (lc rfl ln))) (by show a.Α.length-(k+1)<a.Α.length-k; omega)
 have Q:k=a.Α.length:=by omega
 subst Q
 rw[ě,ď] at L ⊢
 refine WC.exit<|WE.ã<|WE.ã<|WE.Ö<|WE.n0 ?_
 exact WE.nI rfl ⟨rfl,v,rfl,L⟩
theorem WJ(a:Zj)(cs:Ŀ Value):tc 260 (λ_=>[.agg cs.toArray]) (λG=>xR.jJ G cs a) (qg a):=by
 intro J xs s g
 refine ò.enter (args:=[_,_]) (N:=12) func260 rfl rfl rfl (λw0 G0 m n=>?_)
 obtain⟨i,p⟩:=n
 have v:w0.L.zero:=by rw[m]; exact vc i
 unfold qg at g ⊢
 rw[ā,ā] at g
 refine sr<|WL.box 3 Zf rfl rfl (λB=>nx ?_)
 refine WC.kv 3 rfl (by rw[m]; rfl) (λr f q _=>?_)
 have e:At xR r B 0 a:=At.box q rfl (xR.mono f p)
 obtain⟨C,y,F⟩:=AtK.fst (AtK.via e)
 obtain⟨D,A,H⟩:=AtK.snd (AtK.via e)
 refine WC.Ì (S':=St w0 G0 r (l4 J s xs.length++[])) (λw E=>E.weaken Fg) ?_
 refine sr<|mv rfl rfl<|yy (Y0.RA rfl) rfl<|yy (Y0.nZ yh rfl y F) rfl ?_
 refine qM [] (OL a.num C) Zf rfl (YC.of AA rfl) (by rw[ā]; omega) (i.mono f) y v (λO K c l=>?_)
 refine nx<|WC.region<|mv rfl rfl<|yy (Y0.RB rfl) rfl<|yy (Y0.nZ yh rfl (u7.mono c A) (λj u h=>c _ _ _ (H j u h))) rfl ?_
 refine qM [] (OL a.den D) Zf rfl (YC.of AA rfl) (by rw[ā,ā]; omega) l (u7.mono c A) v (λI L t d=>?_)
 rw[ď] at d ⊢
 exact WL.nil<|WE.n0<|WE.nI rfl ⟨rfl,I,rfl,d⟩
theorem Zva(t:Za)(cs:Ŀ Value):tc 230 (λ_=>[.agg cs.toArray]) (λG=>Zo.jJ G cs t) (jK t):=by
 intro B xs s a
 refine ò.enter (args:=[_,_]) (N:=20) func230 rfl rfl rfl (λw0 G0 n u=>?_)
 obtain⟨g,A⟩:=u
 have K:w0.L.zero:=by rw[n]; exact vc g
 unfold jK at a ⊢
 generalize I:qg t.c=H at a ⊢
 rw[ā,ā] at a
 refine sr<|WL.box 3 Zf rfl rfl (λR=>nx ?_)
 refine WC.kv 3 rfl (by rw[n]; rfl) (λF f D _=>?_)
 have d:At Zo F R 0 t:=At.box D rfl (Zo.mono f A)
 obtain⟨S,L,k1⟩:=AtK.fst (AtK.via d)
 have V:=AtK.vec (AtK.snd (AtK.via d))
 refine WC.Ì (S':=St w0 G0 F (l4 B s xs.length++[])) (λw l=>l.weaken Fg) ?_
 refine sr<|mv rfl rfl<|yy (Y0.Ri rfl) rfl<|yy (Y0.nZ BZ rfl L k1) rfl ?_
 refine qM [] (WJ t.c S) Zf rfl (YC.of GR rfl) (by rw[I,ā]; omega) (g.mono f) L K (λO P q c=>?_)
 rw[I] at c ⊢
 refine nx<|sr<|yy (Y0.Rj rfl) rfl<|yy (Y0.re _ B0 rfl (ZG _ _ _) (λj v h=>q _ _ _ (V j v h))) rfl<|mv rfl rfl<|nx<|WC.block ?_
 refine WC.kV (X:=Nat×(ŀ Addr×Nat×ŀ Ow)×Mem) (λi=>match i with|⟨k,_,_⟩=>[(0,.pointer (some ⟨B,0,none⟩)),(11,.agg (í (Value.int .i64) 8 t.m).toArray),(12,.int .i64 (k:Int))])
  (λi=>match i with|⟨k,m,G⟩=>k<=8/\uz G m (xs++H++l7 t.m k))
  (λi=>match i with|⟨k,m,G⟩=>St w0 G0 G (l4 B m (xs++H++l7 t.m k).length)) (λi=>8-i.1) ⟨0,O,P⟩ (fc rfl (fc rfl (fc rfl fn))) ⟨by omega,by rw[show l7 t.m 0=[] from rfl,ğ]; exact c⟩ (λw l=>by show St _ _ _ (l4 B O (xs++H++l7 t.m 0).length) _; rw[show l7 t.m 0=[] from rfl,ğ]; exact l) ?_
 rintro⟨k,m,G⟩ ⟨U,C⟩
 dsimp only at U C ⊢
 have r:∀ k j,k<=j->(l7 t.m k).length<=(l7 t.m j).length:=λk j h=>by
  induction j with
  | zero=>rw[show k=0 by omega]; exact č _
  | succ j Z=>
   by_cases e:k=j+1
   .rw[e]; exact č _
   refine ł (Z (by omega)) ?_
   show _<=(l7 t.m j++_).length
   rw[ā]; omega
 refine sr<|yy (Y0.lss rfl rfl) rfl<|nx<|WC.seq ?_
 refine WC.iD (p:=(k:Int)<8) rfl (λT=>?_) (λT=>?_)
 .have Y:i64.wrap ((k:Int)+1)=((k+1:Nat):Int):=by rw[Į]; omega
  have hi:(0:Int)<=(k:Int)/\(k:Int)<(8:Nat):=⟨by omega,by omega⟩
  have h8:=r (k+1) 8 (by omega)
  have W:(l7 t.m (k+1)).length=(l7 t.m k).length+(lD (u64.wrap (Κ t.m (k:Int)))).length:=ā
  refine WC.skip<|WE.then<|WC.seq<|WC.block<|sr<|yy (Y0.index underlying99 ñ gh rfl rfl hi (BQ _ _ _ hi)) rfl<|sg rfl rfl<|nx<|WC.region<|mv rfl rfl<|mv rfl rfl<|yy (Y0.conv underlying3 underlying212 rfl) rfl ?_
  refine WL.Ì (S':=St w0 G0 G (l4 B m (xs++H++l7 t.m k).length++[])) (λw l=>l) ?_
  refine qM [] (A7 _ (uu _)) Zf rfl (YC.of sX rfl) (by rw[ā,ā,ā]; omega) C trivial K (λs2 Q J y=>?_)
  refine WL.nil<|WE.inBlock<|WE.then<|WC.region<|yy (Y0.add rfl rfl) rfl ?_
  rw[Y]
  rw[ď (xs++H)] at y ⊢
  exact mv rfl rfl<|WL.nil<|WE.kC (x:=(k,m,G)) (k+1,s2,Q) ⟨by omega,y⟩ (fc rfl (fc rfl (fc rfl fn))) (λw l=>l) (by show 8-(k+1)<8-k; omega)
 have E:k=8:=by omega
 subst E
 rw[ď] at C ⊢
 exact WC.exit<|WE.ã<|WE.ã<|WE.Ö<|WE.n0<|WE.nI rfl ⟨rfl,m,rfl,C⟩
theorem Zu9{a n:Nat}{s:ŀ Addr×Nat×ŀ Ow}{x:Ow}{y:ŀ Ow}:Lo.sub (l4 a s n++[(7,some x)]) ((7,some x)::(7,y)::(l4 a s n++[])):=
 show Lo.sub [(6000,some ⟨a,.cells #[.slice s.1 n s.2.1] 151 (0,0),0⟩),(5000,s.2.2),(7,some x)] _ from lc rfl (lc rfl (lc rfl ln))
theorem Zub{a n:Nat}{s:ŀ Addr×Nat×ŀ Ow}{x:ŀ Ow}:Lo.sub (l4 a s n) (l4 a s n++[(7,x)]):=
 show Lo.sub [(6000,some ⟨a,.cells #[.slice s.1 n s.2.1] 151 (0,0),0⟩),(5000,s.2.2)] _ from lc rfl (lc rfl ln)
theorem Rk{α:Type}(f:α->Ŀ Int)(l:Ŀ α)(k:Nat):((l.take k).flatMap f).length<=(l.flatMap f).length:=by
 have:=ć List.length (ć (List.flatMap f) (Ő k l))
 rw[x6,ā] at this
 omega
theorem D5{α:Type}(f:α->Ŀ Int){l:Ŀ α}{k:Nat}(h:k<l.length):(l.take (k+1)).flatMap f=(l.take k).flatMap f++f l[k]:=by
 rw[ĩ h,x6]; simp
theorem Zud(l:Ŀ Za)(p:ŀ Addr)(c:Nat):tc 229 (λn=>[.slice p l.length c,.func (.func 230) #[.pointer (some ⟨n,0,none⟩)] #[]]) (λG=>ë Zo G (.slice p l.length c) l) (ju l):=by
 intro n xs s a
 refine ò.enter (args:=[_,_,_]) (N:=23) func229 rfl rfl rfl (λw0 G0 D y=>?_)
 obtain⟨f,m⟩:=y
 have K:w0.L.zero:=by rw[D]; exact vc f
 have R:l.length<=9223372036854775807:=by obtain⟨_,_,_,_,h,_⟩:=m; omega
 unfold ju at a ⊢
 generalize I:lD (u64.wrap (l.length:Int))=H at a ⊢
 rw[ā,ā] at a
 refine sr<|mv rfl rfl<|mv rfl rfl<|yy (Y0.mU underlying48 rfl) rfl<|yy (Y0.conv underlying3 underlying212 rfl) rfl ?_
 refine WL.Ì (S':=St w0 G0 G0 (l4 n s xs.length++[])) (λw j=>j) ?_
 refine qM [] (A7 _ (uu _)) Zf rfl (YC.of sX rfl) (by rw[I,ā]; omega) f trivial K (λL O t d=>?_)
 rw[I] at d ⊢
 refine nx<|sr<|mv rfl rfl<|yy (Y0.mU underlying48 rfl) rfl<|mv rfl rfl<|nx<|WC.block ?_
 refine WC.kV (X:=Nat×(ŀ Addr×Nat×ŀ Ow)×Mem) (λg=>match g with|⟨k,_,_⟩=>[(0,.pointer (some ⟨n,0,none⟩)),(2,.func (.func 230) #[.pointer (some ⟨n,0,none⟩)] #[]),(13,.slice p l.length c),(14,.int .i64 (l.length:Int)),(15,.int .i64 (k:Int))])
  (λg=>match g with|⟨k,q,G⟩=>k<=l.length/\Mem.le G0 G/\uz G q (xs++H++(l.take k).flatMap jK))
  (λg=>match g with|⟨k,q,G⟩=>St w0 G0 G (l4 n q (xs++H++(l.take k).flatMap jK).length)) (λg=>l.length-g.1) ⟨0,L,O⟩ (fc rfl (fc rfl (fc rfl (fc rfl (fc rfl fn))))) ⟨ġ _,t,by rw[ŭ,aaa,ğ]; exact d⟩ (λw j=>by show St _ _ _ (l4 n L (xs++H++(l.take 0).flatMap jK).length) _; rw[ŭ,aaa,ğ]; exact j) ?_
 rintro⟨k,q,G⟩ ⟨r,e,C⟩
 dsimp only at r e C ⊢
 refine sr<|yy (Y0.lss rfl rfl) rfl<|nx<|WC.seq ?_
 refine WC.iD (p:=(k:Int)<(l.length:Int)) rfl (λQ=>?_) (λQ=>?_)
 .have i:k<l.length:=by omega
  have J:(0:Int)<=(k:Int)/\l[(k:Int).toNat]? = some l[k]:=⟨by omega,by simp[i]⟩
  have T:i64.wrap ((k:Int)+1)=((k+1:Nat):Int):=by rw[Į]; omega
  have E:=Rk jK l (k+1)
  rw[D5 jK i,ā] at E
  obtain⟨ct,B,kt⟩:=ë.at (m.mono e) J
  refine WC.skip<|WE.then<|WC.seq<|WC.block<|sr<|yy (Y0.tT underlying48 uo (m.mono e) rfl rfl J) rfl<|yy (Y0.nZ tl rfl B kt) rfl ?_
  refine WL.alloc 7 Zf z159 rfl (λV=>?_)
  refine WL.jw 7 Zf uo rfl rfl rfl rfl (by rw[ĥ]; exact Zo.len B) (λu S=>Zo.one B u (by simpa using S)) ?_
  refine WL.Ì (λw j=>j.weaken Zu9) ?_
  refine nx<|WC.region<|mv rfl rfl<|yy (Y0.js 7 tl rfl rfl (by rw[ĥ]; exact Zo.len B)) rfl ?_
  refine qM [(7,_)] (Zva l[k] ct) Zf rfl (YC.Li GK rfl rfl) (by simp only[ā]; omega) C B K (λU P v A=>?_)
  refine WL.nil<|WE.inBlock<|WE.then<|WC.region<|yy (Y0.add rfl rfl) rfl ?_
  rw[T]
  rw[ď (xs++H),<- D5 jK i] at A ⊢
  exact mv rfl rfl<|WL.nil<|WE.kC (x:=(k,q,G)) (k+1,U,P) ⟨by omega,Mem.le_trans e v,A⟩ (fc rfl (fc rfl (fc rfl (fc rfl (fc rfl fn))))) (λw j=>j.weaken Zub) (by show l.length-(k+1)<l.length-k; omega)
 have F:k=l.length:=by omega
 subst F
 rw[ě,ď] at C ⊢
 exact WC.exit<|WE.ã<|WE.ã<|WE.Ö<|WE.n0<|WE.nI rfl ⟨rfl,q,rfl,C⟩
theorem Zu8(l:Ŀ Za)(p:ŀ Addr)(c:Nat):tc 186 (λ_=>[.slice p l.length c]) (λG=>ë Zo G (.slice p l.length c) l) (ju l):=by
 intro n xs s e
 refine ò.enter (args:=[_,_]) (N:=9) func186 rfl rfl rfl (λw0 G0 g f=>?_)
 obtain⟨a,h⟩:=f
 refine WC.region<|mv rfl rfl<|mv rfl rfl<|mv rfl rfl<|yy (Y0.makeFunc rfl rfl) rfl ?_
 refine WL.Ì (S':=St w0 G0 G0 (l4 n s xs.length++[])) (λw j=>j) ?_
 refine qM [] (Zud l p c) Zf rfl (YC.of GJ rfl) e a h (by rw[g]; exact vc a) (λm G' i d=>?_)
 exact WL.nil<|WE.n0<|WE.nI rfl ⟨rfl,m,rfl,d⟩
theorem Zuc(l:Ŀ (Ŀ Za))(p:ŀ Addr)(c:Nat):tc 185 (λg=>[.slice p l.length c,.func (.func 186) #[.pointer (some ⟨g,0,none⟩)] #[]]) (λG=>ë RP G (.slice p l.length c) l) (jM l):=by
 intro g xs s a
 refine ò.enter (args:=[_,_,_]) (N:=23) func185 rfl rfl rfl (λw0 G0 C y=>?_)
 obtain⟨f,n⟩:=y
 have J:w0.L.zero:=by rw[C]; exact vc f
 have Q:l.length<=9223372036854775807:=by obtain⟨_,_,_,_,h,_⟩:=n; omega
 unfold jM at a ⊢
 generalize F:lD (u64.wrap (l.length:Int))=H at a ⊢
 rw[ā,ā] at a
 refine sr<|mv rfl rfl<|mv rfl rfl<|yy (Y0.mU underlying37 rfl) rfl<|yy (Y0.conv underlying3 underlying212 rfl) rfl ?_
 refine WL.Ì (S':=St w0 G0 G0 (l4 g s xs.length++[])) (λw m=>m) ?_
 refine qM [] (A7 _ (uu _)) Zf rfl (YC.of sX rfl) (by rw[F,ā]; omega) f trivial J (λK L u d=>?_)
 rw[F] at d ⊢
 refine nx<|sr<|mv rfl rfl<|yy (Y0.mU underlying37 rfl) rfl<|mv rfl rfl<|nx<|WC.block ?_
 refine WC.kV (X:=Nat×(ŀ Addr×Nat×ŀ Ow)×Mem) (λi=>match i with|⟨k,_,_⟩=>[(0,.pointer (some ⟨g,0,none⟩)),(2,.func (.func 186) #[.pointer (some ⟨g,0,none⟩)] #[]),(13,.slice p l.length c),(14,.int .i64 (l.length:Int)),(15,.int .i64 (k:Int))])
  (λi=>match i with|⟨k,r,G⟩=>k<=l.length/\Mem.le G0 G/\uz G r (xs++H++(l.take k).flatMap ju))
  (λi=>match i with|⟨k,r,G⟩=>St w0 G0 G (l4 g r (xs++H++(l.take k).flatMap ju).length)) (λi=>l.length-i.1) ⟨0,K,L⟩ (fc rfl (fc rfl (fc rfl (fc rfl (fc rfl fn))))) ⟨ġ _,u,by rw[ŭ,aaa,ğ]; exact d⟩ (λw m=>by show St _ _ _ (l4 g K (xs++H++(l.take 0).flatMap ju).length) _; rw[ŭ,aaa,ğ]; exact m) ?_
 rintro⟨k,r,G⟩ ⟨t,e,B⟩
 dsimp only at t e B ⊢
 refine sr<|yy (Y0.lss rfl rfl) rfl<|nx<|WC.seq ?_
 refine WC.iD (p:=(k:Int)<(l.length:Int)) rfl (λP=>?_) (λP=>?_)
 .have j:k<l.length:=by omega
  have I:(0:Int)<=(k:Int)/\l[(k:Int).toNat]? = some l[k]:=⟨by omega,by simp[j]⟩
  have R:i64.wrap ((k:Int)+1)=((k+1:Nat):Int):=by rw[Į]; omega
  have D:=Rk ju l (k+1)
  rw[D5 ju j,ā] at D
  obtain⟨q,S,T,U⟩:=AtK.sl (ë.at (n.mono e) I)
  refine WC.skip<|WE.then<|WC.seq<|WC.block<|sr<|yy (Y0.tT underlying37 iG (n.mono e) rfl rfl I) rfl<|yy (Y0.kU ij rfl T) rfl ?_
  refine sg rfl rfl<|nx<|WC.region<|mv rfl rfl<|mv rfl rfl ?_
  refine WL.Ì (S':=St w0 G0 G (l4 g r (xs++H++(l.take k).flatMap ju).length++[])) (λw m=>m) ?_
  refine qM [] (Zu8 l[k] q S) Zf rfl (YC.Li Gw rfl rfl) (by simp only[ā]; omega) B U J (λV O v A=>?_)
  refine WL.nil<|WE.inBlock<|WE.then<|WC.region<|yy (Y0.add rfl rfl) rfl ?_
  rw[R]
  rw[ď (xs++H),<- D5 ju j] at A ⊢
  exact mv rfl rfl<|WL.nil<|WE.kC (x:=(k,r,G)) (k+1,V,O) ⟨by omega,Mem.le_trans e v,A⟩ (fc rfl (fc rfl (fc rfl (fc rfl (fc rfl fn))))) (λw m=>m) (by show l.length-(k+1)<l.length-k; omega)
 have E:k=l.length:=by omega
 subst E
 rw[ě,ď] at B ⊢
 exact WC.exit<|WE.ã<|WE.ã<|WE.Ö<|WE.n0<|WE.nI rfl ⟨rfl,r,rfl,B⟩
theorem QR(l:Ŀ (Ŀ Za))(p:ŀ Addr)(c:Nat):tc 119 (λ_=>[.slice p l.length c]) (λG=>ë RP G (.slice p l.length c) l) (jM l):=by
 intro n xs s e
 refine ò.enter (args:=[_,_]) (N:=9) func119 rfl rfl rfl (λw0 G0 g f=>?_)
 obtain⟨a,h⟩:=f
 refine WC.region<|mv rfl rfl<|mv rfl rfl<|mv rfl rfl<|yy (Y0.makeFunc rfl rfl) rfl ?_
 refine WL.Ì (S':=St w0 G0 G0 (l4 n s xs.length++[])) (λw j=>j) ?_
 refine qM [] (Zuc l p c) Zf rfl (YC.of Gv rfl) e a h (by rw[g]; exact vc a) (λm G' i d=>?_)
 exact WL.nil<|WE.n0<|WE.nI rfl ⟨rfl,m,rfl,d⟩
theorem Zu7(k:Zm)(E:0<=k.n)(cs:Ŀ Value):tc 69 (λ_=>[.agg cs.toArray]) (λG=>Bi.jJ G cs k) (ml k):=by
 intro I xs s g
 refine ò.enter (args:=[_,_]) (N:=16) func69 rfl rfl rfl (λw0 G0 l n=>?_)
 obtain⟨h,p⟩:=n
 have t:w0.L.zero:=by rw[l]; exact vc h
 unfold ml at g ⊢
 simp only[ā] at g
 refine sr<|WL.box 3 Zf rfl rfl (λy=>nx ?_)
 refine WC.kv 3 rfl (by rw[l]; rfl) (λu d r _=>?_)
 have m:At Bi u y 0 k:=At.box r rfl (Bi.mono d p)
 obtain⟨p1,A,p2,B,q,C,D⟩:=Xa m
 refine WC.Ì (S':=St w0 G0 u (l4 I s xs.length++[])) (λw F=>F.weaken Fg) ?_
 refine sr<|mv rfl rfl<|yy (Y0.ye rfl) rfl<|yy (Y0.kU ñ rfl (q 0 _ rfl)) rfl ?_
 refine qM [] (ZsZ k.n E) Zf rfl (YC.of F7 rfl) (by simp only[ā]; omega) (h.mono d) trivial t (λO J a i=>?_)
 refine nx<|sr<|mv rfl rfl<|yy (Y0.BR rfl) rfl<|yy (Y0.kU lg rfl (a _ _ _ (q 1 _ rfl))) rfl ?_
 refine qM [] (QR k.eqs p1 A) Zf rfl (YC.of Ac rfl) (by simp only[ā]; omega) i (C.mono a) t (λP K f j=>?_)
 refine nx<|WC.region<|mv rfl rfl<|yy (Y0.BS rfl) rfl<|yy (Y0.kU lg rfl (f _ _ _ (a _ _ _ (q 2 _ rfl)))) rfl ?_
 refine qM [] (QR k.ζ p2 B) Zf rfl (YC.of Ac rfl) (by simp only[ā]; omega) j (D.mono (Mem.le_trans a f)) t (λH L v c=>?_)
 have e:xs++qd k.n++jM k.eqs++jM k.ζ=xs++(qd k.n++jM k.eqs++jM k.ζ):=by simp only[ď]
 rw[e] at c ⊢
 exact WL.nil<|WE.n0<|WE.nI rfl ⟨rfl,H,rfl,c⟩
theorem Xh(k:Zm)(p1:ŀ Addr)(s:Nat)(p2:ŀ Addr)(t:Nat)(r:Ĳ)(d:(It k).ο r):ä prog 30 #[.agg ([.int .i64 k.n,.slice p1 k.eqs.length s,.slice p2 k.ζ.length t]).toArray] (λG=>ë RP G (.slice p1 k.eqs.length s) k.eqs/\ë RP G (.slice p2 k.ζ.length t) k.ζ) (λG v=>v = .string r):=by
 refine ä.enter (args:=[_]) (N:=12) func30 rfl rfl rfl (λw0 G0 f l=>?_)
 obtain⟨C,D⟩:=l
 obtain⟨v,P,d⟩:=d
 have B:∀ i,w0.L.get i=none:=λi=>by rw[f]; rfl
 have Q:w0.L.zero:=by rw[f]; intro q O; cases O
 refine sr<|WL.box 1 Zf rfl rfl (λI=>?_)
 refine sg rfl rfl<|nx ?_
 refine WC.kv 1 rfl (B _) (λp a y _=>?_)
 have c:Bi.jJ p [.int .i64 k.n,.slice p1 k.eqs.length s,.slice p2 k.ζ.length t] k:=⟨[_],[_,_],rfl,rfl,⟨[_],[_],rfl,⟨_,rfl,C.mono a⟩,⟨_,rfl,D.mono a⟩⟩⟩
 have E:∀ j u,([.int .i64 k.n,.slice p1 k.eqs.length s,.slice p2 k.ζ.length t]:Ŀ Value)[j]? = some u->p I (0+j)=some u:=λj u h=>by rw[ļ]; exact y j u (by simpa [Value.cells] using h)
 refine WC.Ì (S':=St w0 G0 p []) (λw A=>A.weaken ln) ?_
 refine WC.seq<|sr<|yy (Y0.nZ kA rfl c E) rfl ?_
 refine WL.nf Zf rfl (YC.of S8 rfl) (Wf _ _ _ _ _ _ P) rfl ⟨C.mono a,D.mono a⟩ ?_
 refine yy (Y0.not rfl) rfl<|nx ?_
 refine WC.cond (b:=!v) rfl (λJ=>?_) (λJ=>?_)
 .have e:v=false:=by cases v <;> simp_all
  subst e
  replace d:_=r:=d
  subst d
  exact sr<|sg rfl rfl<|nx<|WC.ret<|WE.kY<|WE.mw rfl rfl rfl
 have e:v=true:=by cases v <;> simp_all
 subst e
 obtain⟨⟨L,g⟩,d⟩:=d
 replace d:_=r:=d
 subst d
 refine WC.skip<|WE.then<|sr<|WL.alloc 6000 Zf LK rfl (λH=>?_)
 refine WL.Ì (S':=St w0 G0 p (l4 H (none,0,none) ([]:Ŀ Int).length++[])) (λw A=>A.weaken (show Lo.sub [(6000,some ⟨H,.cells #[.slice none 0 0] 151 (0,0),0⟩),(5000,none)] _ from lc rfl (lw ln))) ?_
 refine nx<|sr<|yy (Y0.nZ kA rfl c E) rfl ?_
 refine qM [] (Zu7 k L _) Zf rfl (YC.of S9 rfl) g Η.nil c Q (λT G' K m=>?_)
 refine nx<|sr<|yy (Y0.ya rfl) rfl<|yy (Y0.gN 6000 vJ rfl rfl rfl) rfl ?_
 refine WL.kT 5000 m rfl (B _) (λR S F n _=>?_)
 refine yy (Y0.q0 underlying89 underlying5 underlying9 n rfl) rfl<|sg rfl rfl<|nx<|WC.ret ?_
 exact WE.mw rfl rfl rfl
theorem eM'{C l B D r}(a:(Hj C l).ο r):ä prog 67 #[ε B C D,.agg (Ι l).toArray] (λG=>sl n' G B D C) (ny n' r):=by
 refine E' (args:=[_,_]) (N:=59) func67 z z z (λT L aa au=>?_)
 have ab:=au
 have hz:T.L.zero:=by rw[aa]; intro p hp; simp at hp
 refine sr<|ý 3 z z z λF=>ς z<|ς z<|nr<|T' 6 z De z λb2=>nx<|c'<|sr<|γ (w' 3 mQ z z (M' _ _ _))<|δ z<|nx<|Z' (X:=Int×(Fin 8->Bool)×Mem) a (λ⟨o,R,S⟩=>⟨(o,R),[(0,ε B C D),(3,Τ F),(6,Τ b2),(15,.agg (Ι l).toArray),(16,i' o)],Mem.le L S,St T L S [(3,Ξ F (Ι l) 42),(6,Ξ b2 (í Value.bool 8 R) 205)]⟩) (λ(gx:Mem)=>match gx with|E=>⟨(.inr ()),[(0,ε B C D),(3,Τ F)],Mem.le L E,St T L E [(3,Ξ F (Ι l) 42)]⟩) ⟨0,(λ_=>false),L⟩ z (υ z) mr (w2 z z) ?_ ?_
 .rintro _ ⟨o,R,S⟩ V a
  refine sr<|Ï z<|nx<|c'<|J' a z (λaC a=>?_) (λaC a=>?_)
  .refine o'<|a'<|c'<|V'<|sr<|oA a λai a=>γ (wE rH ñ gh z z ai (mh _ _ _ ai))<|θ z<|c'<|sr<|δ z<|eZ a z (nb z z) z (λaI a=>?_) (λaI a=>?_)
   .refine δ z<|lk z<|Δ z<|δ z<|lu z<|Δ z<|nx<|iS z<|sr<|ς z<|θ z<|m'<|b'<|B'<|b'<|b'<|B'<|jl<|b' ?_
    obtain rfl:_=r:=a
    exact l5 z z z ⟨_,_,z,(gi n' _)⟩
   refine δ z<|Â z<|eZ a (W' z z) (kO z z) z (λaB a=>?_) (λaB a=>?_)
   .refine Γ z<|δ z<|lu z<|Δ z<|nx<|iS z<|sr<|ς z<|θ z<|m'<|b'<|B'<|b'<|b'<|B'<|jl<|b' ?_
    obtain rfl:_=r:=a
    exact l5 z z z ⟨_,_,z,(gi n' _)⟩
   refine Γ z<|δ z<|Â z<|oA a λaj a=>gy z z (k0 FE z7 z z aj) z<|gy z z (f' 6 kX z z (mh _ _ _ aj)) z<|Γ z<|nx<|iC a z (λaz a=>?_) (λaz a=>?_)
   .exact (show False from a).elim
   refine o'<|a'<|p'<|δ z<|oA a λay a=>γ (k0 FE z7 z z ay)<|kN 6 (í Value.bool 8 (å R ((Κ l o).toNat) true)).toArray z z7 z z z (by first|(rw[M']; omega)|(show _<(í _ _ _).toArray.size; rw[M']; omega)) z (qR _ _ _ _ _)<|q'<|A'<|a'<|p'<|é z<|δ z<|q'<|K' ⟨i64.wrap (o+1),å R ((Κ l o).toNat) true,S⟩ a V (υ z) (w2 z z)
  refine Æ<|g'<|g'<|H'<|Ë S ⟨a,V⟩ (υ z) (w1 z)
 rintro E ⟨a,K⟩
 refine a'<|sr<|wH (ky:=mq) (Rv:=kp pj E) 4033 z z λH ae al=>θ z<|c'<|sr<|δ z<|γ (N' F' (ab.mono K) z)<|δ z<|nx<|Z' (X:=Int×(Ŀ ((Fin 8->Int)×Zj))×ŀ Ow×Mem) a (λ⟨n,P,q,s⟩=>⟨(n,P),[(3,Τ F),(34,ε B C D),(35,i' (C.length:Int)),(36,i' n),(9,.map (some H))],Mem.le E s/\ü mq (kp pj s) (.map (some H)) P q,St T L s [(3,Ξ F (Ι l) 42),(4033,q)]⟩) (λ(gx:(Ŀ ((Fin 8->Int)×Zj))×ŀ Ow×Mem)=>match gx with|⟨ac,J,W⟩=>⟨ac,[(9,.map (some H))],Mem.le E W/\ü mq (kp pj W) (.map (some H)) ac J,St T L W [(4033,J)]⟩) ⟨0,[],ae,E⟩ z (υ z) ⟨mr,al⟩ (w2 z z) ?_ ?_
 .rintro _ ⟨n,P,q,s⟩ ⟨y,Z⟩ a
  refine sr<|Ï z<|nx<|c'<|J' a z (λaJ a=>?_) (λaJ a=>?_)
  .refine o'<|a'<|c'<|V'<|sr<|oE a λg ak a=>γ (X' F' jA (ab.mono (mx K y)) z z ak) ?_
   obtain⟨c,e,f,d,ax,t,v⟩:=pr (R' (Á ab ak) (mx K y))
   refine γ (jC _ oz z z ax)<|T' 11 z z159 z λb3=>y' 11 z jA z z z z z (λu hu=>Rp.one n' (G:=s) (x:=g) (cs:=((χ g.c c e f d):Ŀ Value)++(Ι g.m)) ⟨(χ g.c c e f d),Ι g.m,z,⟨(ι g.c.num c e),(ι g.c.den f d),z,⟨[.bool g.c.num.neg],[ε c g.c.num.Α e],z,z,⟨_,z,t⟩⟩,⟨[.bool g.c.den.neg],[ε f g.c.den.Α d],z,z,⟨_,z,v⟩⟩⟩,z⟩ u (by first|simpa using hu|simpa [Value.cells] using hu))<|nr<|T' 12 z r5 z λb4=>nx<|c'<|sr<|γ (lV z)<|γ (gZ (Ι g.m).toArray 11 iL z z (M' _ _ _) (hC ((χ g.c c e f d)) (Ι g.m) ([])))<|δ z<|nx<|Z' (X:=Int×(Fin 8->Int)×Mem) a (λ⟨m,I,M⟩=>⟨(m,I),[(3,Τ F),(11,Τ b3),(12,Τ b4),(34,ε B C D),(35,i' (C.length:Int)),(36,i' n),(41,.agg (Ι g.m).toArray),(42,i' m),(9,.map (some H))],Mem.le s M,St T L M [(3,Ξ F (Ι l) 42),(11,Ξ b3 (((χ g.c c e f d):Ŀ Value)++(Ι g.m)) 159),(12,Ξ b4 (Ι I) 99),(4033,q)]⟩) (λ(⟨Q,O⟩:(Fin 8->Int)×Mem)=>⟨Q,[(3,Τ F),(11,Τ b3),(12,Τ b4),(34,ε B C D),(35,i' (C.length:Int)),(36,i' n),(9,.map (some H))],Mem.le s O,St T L O [(3,Ξ F (Ι l) 42),(11,Ξ b3 (((χ g.c c e f d):Ŀ Value)++(Ι g.m)) 159),(12,Ξ b4 (Ι Q) 99),(4033,q)]⟩) ⟨0,(λ_=>0),s⟩ z (υ z) mr (w4 z z z z) ?_ ?_
   .rintro _ ⟨m,I,M⟩ U a
    refine sr<|Ï z<|nx<|c'<|J' a z (λaA a=>?_) (λaA a=>?_)
    .refine o'<|a'<|c'<|V'<|sr<|δ z<|oA a λah a=>γ (wE lK ñ gh z z ah (mh _ _ _ ah))<|ς z<|θ z<|p'<|δ z<|oA a λag a=>γ (k0 rH gh z z ag)<|γ (f' 3 ñ z z (mh _ _ _ ag))<|δ z<|oA a λaH a=>γ (k0 lK gh z z aH)<|kN 12 (Ι (å I ((Κ l m).toNat) (Κ g.m m))).toArray z gh z z z (by first|(rw[M']; omega)|(show _<(í _ _ _).toArray.size; rw[M']; omega)) z (qR _ _ _ _ _)<|q'<|A'<|a'<|p'<|é z<|δ z<|q'<|K' ⟨i64.wrap (m+1),å I ((Κ l m).toNat) (Κ g.m m),M⟩ a U (υ z) (w4 z z z z)
    refine Æ<|g'<|g'<|H'<|Ë ⟨I,M⟩ ⟨a,U⟩ (υ z) (w4 z z z z)
   rintro⟨Q,O⟩ ⟨a,A⟩
   refine a'<|p'<|δ z<|γ (w' 12 iL z z (M' _ _ _))<|γ (oq z)<|γ (gZ ((χ g.c c e f d)).toArray 11 kf z z z (hC ([]) ((χ g.c c e f d)) ((Ι g.m)))) ?_
   obtain⟨⟨aF,av⟩,a⟩:=a
   refine wL (Rv':=kp pj O) (k:=Q) (z:=g.c) 4033 z B4 (oX Z A) z z z z aF ⟨(χ g.c c e f d),z,⟨(ι g.c.num c e),(ι g.c.den f d),z,⟨[.bool g.c.num.neg],[ε c g.c.num.Α e],z,z,⟨_,z,(t.mono A)⟩⟩,⟨[.bool g.c.den.neg],[ε f g.c.den.Α d],z,z,⟨_,z,(v.mono A)⟩⟩⟩⟩ (λ_ _ _ _ h=>h) av λaw ar=>q'<|A'<|a'<|p'<|é z<|δ z<|q'<|K' ⟨i64.wrap (n+1),(Ñ P Q g.c),aw,O⟩ a ⟨(mx y A),ar⟩ (υ z) (w2 z z)
  refine Æ<|g'<|g'<|H'<|Ë ⟨P,q,s⟩ ⟨a,y,Z⟩ (f1 z) (w1 z)
 rintro⟨ac,J,W⟩ ⟨a,aK,ap⟩
 refine a'<|sr<|δ z<|oE a λaR ao a=>kq (λw hs=>hs.î (i:=4033) (j:=5500) z (by rw[aa]; rfl))<|zY z z (x' He z) (KH ao) z (ap) (lc z ln) (λi hi=>by simp only[ė,ĵ,ą,ĝ,ŝ] at hi; subst hi; exact z) hz (λaN aQ aL Y=>?_)
 obtain⟨aP,aM,rfl,aq⟩:=Y
 refine kq (λw hs=>hs.î (i:=5500) (j:=4033) z (by rw[aa]; rfl))<|ς z<|θ z<|m' ?_
 obtain rfl:_=r:=a
 exact l5 z z z ⟨_,_,z,aq⟩
theorem Mn(d:(Ŀ (Ŀ Za)))(k:(Fin 8->Int))(D:ŀ Addr)(C:Nat)(r:(Ŀ (Ŀ Za)))(a:(Dw d k).ο r):ä prog 29 #[ε D d C,.agg (Ι k).toArray] (λG=>sl (Rp.sl n') G D C d) (jx (Rp.sl n') r):=by
 refine E' (args:=[_,_]) (N:=29) func29 z z z (λR A W K=>?_)
 have p:=K
 refine sr<|ý 3 z z z λO=>ς z<|nr<|δ z<|γ (N' Ζ p z)<|oA a λP a=>wG (r:=(Rp.sl n')) (e:=49) (n:=(d.length:Int)) (zx:=[]) 4010 z z Ζ o9 z (by decide) (by decide) ⟨_,z,(gi _ _)⟩ z z P λE J T=>θ z<|c'<|sr<|δ z<|γ (N' Ζ p z)<|δ z<|nx<|Z' (X:=(Ŀ (Ŀ Za))×ŀ Ow×Int×Mem) a (λ⟨m,f,c,l⟩=>⟨(m,c),[(3,Τ O),(5,.slice E (d.length:Int).toNat ((d.length:Int).toNat)),(11,ε D d C),(12,i' (d.length:Int)),(13,i' c)],Mem.le A l/\Η (Rp.sl n') 49 l (.slice E (d.length:Int).toNat ((d.length:Int).toNat)) m f,St R A l [(3,Ξ O (Ι k) 42),(4010,f)]⟩) (λ(⟨B,h,q⟩:(Ŀ (Ŀ Za))×ŀ Ow×Mem)=>⟨B,[(5,.slice E (d.length:Int).toNat ((d.length:Int).toNat))],Mem.le A q/\Η (Rp.sl n') 49 q (.slice E (d.length:Int).toNat ((d.length:Int).toNat)) B h,St R A q [(4010,h)]⟩) ⟨(List.replicate (d.length:Int).toNat []),J,0,A⟩ z (υ z) ⟨mr,T⟩ (w2 z z) ?_ ?_
 .rintro _ ⟨m,f,c,l⟩ ⟨g,o⟩ a
  refine sr<|Ï z<|nx<|c'<|J' a z (λY a=>?_) (λY a=>?_)
  .refine o'<|a'<|c'<|V'<|sr<|δ z<|oE a λx1 H a=>γ (X' Ζ iG (p.mono g) z z H) ?_
   obtain⟨p2,af,S,V⟩:=qA (R' (Á p H) g)
   refine γ (il ij z (S))<|ς z<|θ z<|p'<|δ z<|δ z<|δ z<|γ (w' 3 mQ z z (M' _ _ _))<|oE a λy L a=>U' z z (x' S7 z) (eM' L) z (V) (λac U j s=>?_)
   obtain⟨v,t,rfl,x⟩:=s
   refine δ z<|Û z<|Û z<|oE a λx2 F a=>γ (qV Ζ iG (o.mono j) z z F)<|sp (r:=(Rp.sl n')) (e:=49) (cs':=[ε v y.1 t]) (i:=c) (z':=y.1) 4010 z iG z (o.mono j) z z z z ⟨_,z,x⟩ F λQ M=>q'<|A'<|a'<|p'<|é z<|δ z<|q'<|K' ⟨(m.set c.toNat y.1),Q,i64.wrap (c+1),U⟩ a ⟨(mx g j),M⟩ (υ z) (w2 z z)
  refine Æ<|g'<|g'<|H'<|Ë ⟨m,f,l⟩ ⟨a,g,o⟩ (f1 z) (w1 z)
 rintro⟨B,h,q⟩ ⟨a,Z,I⟩
 refine a'<|sr<|δ z<|θ z<|m' ?_
 obtain rfl:_=r:=a
 refine WE.kT (r:=(Rp.sl n')) (e:=49) 4010 I z (by rw[W]; rfl) λae ad ab u w=>k' z z ⟨_,_,(tz u),(tA u)⟩
theorem dF'{c f h r}(a:(Hf c).ο r):ä prog 59 #[ε f c h] (λG=>ë (Rp.sl (Rp.sl n')) G (ε f c h) c) (jx (Rp.sl n') r):=by
 refine E' (args:=[_]) (N:=36) func59 z z z (λO I K aa=>?_)
 have g:=aa
 have hz:O.L.zero:=by rw[K]; intro p hp; simp at hp
 refine sr<|ς z<|nr<|θ z<|c'<|sr<|δ z<|γ (N' FF g z)<|δ z<|nx<|Z' (X:=Int×Int×Mem) a (λ⟨t,y,H⟩=>⟨(t,y),[(0,ε f c h),(3,i' t),(9,ε f c h),(10,i' (c.length:Int)),(11,i' y)],Mem.le I H,St O I H []⟩) (λ(⟨D,P⟩:Int×Mem)=>⟨D,[(0,ε f c h),(3,i' D)],Mem.le I P,St O I P []⟩) ⟨0,0,I⟩ z (υ z) mr (wk ln) ?_ ?_
 .rintro _ ⟨t,y,H⟩ A a
  refine sr<|Ï z<|nx<|c'<|J' a z (λah a=>?_) (λah a=>?_)
  .refine o'<|a'<|c'<|V'<|sr<|oE a λx2 S a=>γ (X' FF n3 (g.mono A) z z S) ?_
   obtain⟨p3,az,ad,aj⟩:=qA (R' (Á g S) A)
   refine γ (il lg z (ad))<|ς z<|nr<|δ z<|δ z<|γ (N' Ζ aj z)<|é z<|ς z<|nr<|δ z<|Ï z<|nx<|J' a z (λal a=>?_) (λal a=>?_)
   .exact (show False from a).elim
   refine o'<|A'<|a'<|p'<|é z<|δ z<|q'<|K' ⟨i64.wrap (t+(x2.length:Int)),i64.wrap (y+1),H⟩ a A (υ z) (wk ln)
  refine Æ<|g'<|g'<|H'<|Ë ⟨t,H⟩ ⟨a,A⟩ (υ z) (wk ln)
 rintro⟨D,P⟩ ⟨a,C⟩
 refine a'<|sr<|δ z<|oE a λae ac a=>nO z z (x' FX z) (dx' ac) z trivial ln hz (λau M ar F L=>?_)
 obtain⟨Y,W,R,rfl,rfl,V⟩:=L
 refine kq (λw Q=>Q.î (i:=7000) (j:=4024) z (by rw[K]; rfl))<|θ z<|c'<|sr<|δ z<|γ (N' FF (g.mono (mx C F)) z)<|δ z<|nx<|Z' (X:=(Ŀ (Ŀ Za))×ŀ Addr×Nat×ŀ Ow×Int×Mem) a (λ⟨d,m,n,k,v,B⟩=>⟨(d,v),[(6,ε m d n),(25,ε f c h),(26,i' (c.length:Int)),(27,i' v)],Mem.le M B/\Η (Rp.sl n') 49 B (ε m d n) d k,St O I B [(4006,k)]⟩) (λ(⟨l,q,s,o,J⟩:(Ŀ (Ŀ Za))×ŀ Addr×Nat×ŀ Ow×Mem)=>⟨l,[(6,ε q l s)],Mem.le M J/\Η (Rp.sl n') 49 J (ε q l s) l o,St O I J [(4006,o)]⟩) ⟨ae,Y,W,R,0,M⟩ z (υ z) ⟨mr,V⟩ ?_ ?_ ?_
 .intro w Q
  have Q:=Q.î (i:=4024) (j:=4006) z (by rw[K]; rfl)
  exact Q.weaken (lc z ln)
 .rintro _ ⟨d,m,n,k,v,B⟩ ⟨x,u⟩ a
  refine sr<|Ï z<|nx<|c'<|J' a z (λam a=>?_) (λam a=>?_)
  .refine o'<|a'<|c'<|V'<|sr<|oE a λx1 T a=>γ (X' FF n3 (g.mono (mx (mx C F) x)) z z T) ?_
   obtain⟨p1,aA,ag,ai⟩:=qA (R' (Á g T) (mx (mx C F) x))
   refine γ (il lg z (ag))<|θ z<|p'<|δ z<|δ z<|oA a λab a=>wF (r:=(Rp.sl n')) (e:=49) 4006 z z Ζ o9 z (by decide) z z u z ai ab λp2 af Z ak=>ς z<|q'<|A'<|a'<|p'<|é z<|δ z<|q'<|K' ⟨(d++x1),p2,af,Z,i64.wrap (v+1),B⟩ a ⟨x,ak⟩ (υ z) (w1 z)
  refine Æ<|g'<|g'<|H'<|Ë ⟨d,m,n,k,B⟩ ⟨a,x,u⟩ (f1 z) (w1 z)
 rintro⟨l,q,s,o,J⟩ ⟨a,ap,E⟩
 refine a'<|sr<|δ z<|θ z<|m' ?_
 obtain rfl:_=r:=a
 refine WE.kT (r:=(Rp.sl n')) (e:=49) 4006 E z (by rw[K]; rfl) λay aB ao U an=>k' z z ⟨_,_,z,U⟩
theorem fA'{m e c r}(a:(M1 m).ο r):ä prog 111 #[.agg ((ι m e c)).toArray] (λG=>sl (Rp.int .u32) G e c m.Α) (lq r):=by
 refine E' (args:=[_]) (N:=6) func111 z z z (λE C x q=>?_)
 have n:=q
 refine sr<|ý 1 z z z λy=>T' 2 z ru z λF=>nx<|c'<|hZ [ff,ff] gp (by kernel_rfl) λB=>cn (λ_ o=>w' 1 Ò z z z)<|oE a λk s a=>mL (post:=jb k) (λ_=>z) (λ_ _=>x' sT z) (Cr s) z (λA o=>trivial) (λv H D o h=>?_) ?_
 .obtain⟨f,g,rfl,j⟩:=h
  exact⟨_,_,z,j.mono o⟩
 refine rG (d:=4) (post:=jb k) (λt u p l=>?_)
 obtain⟨f,g,rfl,j⟩:=l
 refine γ (iK (vs:=#[(0,.agg ((ι m e c)).toArray),(1,.agg ((ι k f g)).toArray)]) (v:=.agg ([.bool m.neg,ε e m.Α c,.bool k.neg,ε f k.Α g]).toArray) z z (λ_=>by kernel_rfl))<|ø 2 mD z<|q'<|fh<|a'<|m' ?_
 obtain rfl:_=r:=a
 exact k' z (hQ (i:=2) kf z z z) ⟨_,_,_,_,z,(n.mono p),j⟩
theorem Sg{q r}(a:(DC q).ο r):ä prog 62 #[i' q] (λG=>True) (lq r):=by
 refine E' (args:=[_]) (N:=6) func62 z z z λH F D v=>sr<|T' 2 z ru z λE=>nr<|δ z<|oE a λB n a=>U' z z (x' sT z) (Cr n) z (trivial) (λu y t e=>?_)
 obtain⟨o,p,rfl,f⟩:=e
 refine oE a λA m a=>U' z z (x' F1 z) (fA' m) z (f) (λx C s g=>?_)
 obtain⟨k,j,h,l,rfl,d,c⟩:=g
 refine ø 2 mD z<|nx<|m' ?_
 obtain rfl:_=r:=a
 exact k' z (hQ (i:=2) kf z z z) ⟨_,_,_,_,z,d,c⟩
theorem RU{h g c d f r}(a:(AX h).ο r):ä prog 61 #[.agg ((χ h g c d f)).toArray] (λG=>sl (Rp.int .u32) G g c h.num.Α/\sl (Rp.int .u32) G d f h.den.Α) (jx n' r):=by
 refine E' (args:=[_]) (N:=9) func61 z z z (λy u n k=>?_)
 obtain⟨j,i⟩:=k
 refine sr<|ý 1 z z z λt=>θ z<|c'<|sr<|γ (w' 1 kf z z z)<|oE a λq l a=>I' z z (x' qS z) (yq l) z (⟨j,i⟩)<|γ (iI z z)<|nx<|J' a z (λo a=>?_) (λo a=>?_)
 .exact (show False from a).elim
 refine o'<|a'<|sr<|γ (w' 1 kf z z z)<|γ (iK (vs:=#[(0,.agg ((χ h g c d f)).toArray)]) (v:=.agg (((χ h g c d f):Ŀ Value)++(Ι (λ_=>0))).toArray) z z (λ_=>by kernel_rfl))<|jL (e:=159) (r:=n') (vs:=#[(0,.agg (((χ h g c d f):Ŀ Value)++(Ι (λ_=>0))).toArray)]) (cs:=(((χ h g c d f):Ŀ Value)++(Ι (λ_=>0)))++([])) ([(Za.mk h (λ_=>0))]:Ŀ Za) z z z z z (by decide) (λ_=>by kernel_rfl) ⟨((χ h g c d f):Ŀ Value)++(Ι (λ_=>0)),[],z,⟨(χ h g c d f),Ι (λ_=>0),z,⟨(ι h.num g c),(ι h.den d f),z,⟨[.bool h.num.neg],[ε g h.num.Α c],z,z,⟨_,z,j⟩⟩,⟨[.bool h.den.neg],[ε d h.den.Α f],z,z,⟨_,z,i⟩⟩⟩,z⟩,z⟩ (key:=999) z (by rw[n]; rfl) λx s p m=>θ z<|m' ?_
 obtain rfl:_=r:=a
 exact k' z z ⟨_,_,z,m⟩
theorem R9{h m e d r}(a:(DY h m).ο r):ä prog 41 #[ε e h d,i' m] (λG=>sl n' G e d h) (λG v=>v = .bool r):=by
 refine E' (args:=[_,_]) (N:=20) func41 z z z (λt s q i=>?_)
 have c:=i
 refine sr<|ς z<|nr<|δ z<|oE a λk j a=>I' z z (x' Ma z) (Sd j) z (c) ?_
 cases k
 .refine δ z<|qK z<|Γ z<|δ z<|lu z<|Γ z<|θ z<|m' (Μ a z z)
 refine δ z<|Â z<|oE a λo f a=>I' (W' z z) z (x' Hb z) (Kx f) z (c)<|gy z z (jF pJ nQ z) z<|Â z<|oA a λl a=>gy z z (uR z z l) z<|eZ a (W' z z) (iI z z) z (λn a=>?_) (λn a=>?_)
 .refine Δ z<|δ z<|Â z<|oE a λp g a=>I' (W' z z) z (x' AG z) (Ca g) z (c)<|gy z z (oo z z) z<|Δ z<|θ z<|m' (Μ a z z)
 refine Δ z<|δ z<|lu z<|Γ z<|θ z<|m' (Μ a z z)
theorem MH(o:Int)(j:(Ŀ (Ŀ Za)))(c:(Ŀ (Ŀ Za)))(p:ŀ Addr)(q:Nat)(d:ŀ Addr)(f:Nat)(r:Zm×Int)(a:(DR o j c).ο r):ä prog 26 #[i' o,ε p j q,ε d c f] (λG=>sl (Rp.sl n') G p q j/\sl (Rp.sl n') G d f c) (qL r):=by
 refine E' (args:=[_,_,_]) (N:=97) func26 z z z (λw0 G0 aA b8=>?_)
 obtain⟨aw,av⟩:=b8
 refine sr<|T' 6 z z39 z λw=>θ z<|k5 a (λ(⟨aI,ac,aa,Q,P,aX⟩:Zm×ŀ Addr×Nat×ŀ Addr×Nat×Mem)=>⟨[(0,i' o),(1,ε p j q),(2,ε d c f),(6,Τ w)],MF o j c aI,Mem.le G0 aX/\sl (Rp.sl n') aX ac aa aI.eqs/\sl (Rp.sl n') aX Q P aI.ζ,St w0 G0 aX [(6,Ξ w (l8 aI ac aa Q P) 39)]⟩) ?_ ?_
 .refine sr<|δ z<|eZ a z (nb z z) z (λcu a=>?_) (λcu a=>?_)
  .refine δ z<|lk z<|Δ z<|nx<|iS z<|sr<|γ (iK (vs:=#[]) (v:=.agg ([i' 0,.slice none 0 0,.slice none 0 0]).toArray) z z (λ_=>by kernel_rfl))<|ø 6 mC z<|θ z<|m'<|b' ?_
   obtain rfl:_=r:=a
   exact l5 z (hQ (i:=6) kA z z z) z ⟨_,_,_,_,z,(gi (Rp.sl n') _),(gi (Rp.sl n') _)⟩
  refine δ z<|Â z<|gy z z (kr z z) z<|Γ z<|nx<|J' a z (λcq a=>?_) (λcq a=>?_)
  .refine sr<|γ (iK (vs:=#[]) (v:=.agg ([i' 0,.slice none 0 0,.slice none 0 0]).toArray) z z (λ_=>by kernel_rfl))<|ø 6 mC z<|θ z<|m'<|b' ?_
   obtain rfl:_=r:=a
   exact l5 z (hQ (i:=6) kA z z z) z ⟨_,_,_,_,z,(gi (Rp.sl n') _),(gi (Rp.sl n') _)⟩
  refine o'<|ia ⟨(Zm.mk 0 [] []),none,0,none,0,G0⟩ ⟨a,mr,(gi _ _),(gi _ _)⟩ (υ z) (w1 z)
 rintro⟨aI,ac,aa,Q,P,aX⟩ ⟨a,F,bf,a1⟩
 refine c'<|sr<|δ z<|δ z<|jL (e:=37) (r:=(Rp.sl (Rp.sl n'))) (vs:=#[(0,ε p j q),(1,ε d c f)]) (cs:=[ε p j q]++([ε d c f]++([]))) ([j,c]:Ŀ (Ŀ (Ŀ Za))) z z z z z (by decide) (λ_=>by kernel_rfl) ⟨[ε p j q],[ε d c f]++([]),z,⟨_,z,(aw.mono F)⟩,⟨[ε d c f],[],z,⟨_,z,(av.mono F)⟩,z⟩⟩ (key:=999) z (by rw[aA]; rfl) (λp1 c1 H cv=>?_)
 refine oE a λbG bV a=>U' z z (x' S4 z) (dF' bV) z (cv) (λcR bl E ba=>?_)
 obtain⟨b6,bL,rfl,a2⟩:=ba
 refine γ (N' Ζ a2 z)<|δ z<|nx<|Z' (X:=Int×Zm×ŀ Addr×Nat×ŀ Addr×Nat×Mem) a (λ⟨au,aF,M,I,C,A,aE⟩=>⟨(au,aF),[(0,i' o),(1,ε p j q),(2,ε d c f),(6,Τ w),(27,ε b6 bG bL),(28,i' (bG.length:Int)),(29,i' au)],Mem.le bl aE/\sl (Rp.sl n') aE M I aF.eqs/\sl (Rp.sl n') aE C A aF.ζ,St w0 G0 aE [(6,Ξ w (l8 aF M I C A) 39)]⟩) (λ(⟨an,l,k,g,h,ar⟩:Zm×ŀ Addr×Nat×ŀ Addr×Nat×Mem)=>⟨(.inr an),[(0,i' o),(1,ε p j q),(2,ε d c f),(6,Τ w)],Mem.le bl ar/\sl (Rp.sl n') ar l k an.eqs/\sl (Rp.sl n') ar g h an.ζ,St w0 G0 ar [(6,Ξ w (l8 an l k g h) 39)]⟩) ⟨0,aI,ac,aa,Q,P,bl⟩ z (υ z) ⟨mr,(bf.mono (mx H E)),(a1.mono (mx H E))⟩ (w1 z) ?_ ?_
 .rintro _ ⟨au,aF,M,I,C,A,aE⟩ ⟨ax,aH,aD⟩ a
  refine sr<|Ï z<|nx<|c'<|J' a z (λcj a=>?_) (λcj a=>?_)
  .refine o'<|a'<|c'<|V'<|sr<|oE a λx3 bD a=>γ (X' Ζ iG (a2.mono ax) z z bD) ?_
   obtain⟨cW,cG,bO,bT⟩:=qA (R' (Á a2 bD) ax)
   refine γ (il ij z (bO))<|ς z<|nr<|δ z<|δ z<|oE a λc4 bU a=>I' z z (x' LZ z) (R9 bU) z (bT)<|γ (gP z)<|nx<|iC a z (λcw a=>?_) (λcw a=>?_)
   .refine sr<|γ (iK (vs:=#[]) (v:=.agg ([i' 0,.slice none 0 0,.slice none 0 0]).toArray) z z (λ_=>by kernel_rfl))<|ø 6 mC z<|θ z<|m'<|B'<|b'<|b'<|B'<|jl<|b' ?_
    obtain rfl:_=r:=a
    exact l5 z (hQ (i:=6) kA z z z) z ⟨_,_,_,_,z,(gi (Rp.sl n') _),(gi (Rp.sl n') _)⟩
   refine o'<|A'<|a'<|p'<|é z<|δ z<|q'<|K' ⟨i64.wrap (au+1),aF,M,I,C,A,aE⟩ a ⟨ax,aH,aD⟩ (υ z) (w1 z)
  refine Æ<|g'<|g'<|H'<|Ë ⟨aF,M,I,C,A,aE⟩ ⟨a,ax,aH,aD⟩ (υ z) (w1 z)
 rintro⟨an,l,k,g,h,ar⟩ ⟨a,U,cd,cc⟩
 refine a'<|sr<|ς z<|θ z<|c'<|sr<|δ z<|γ (N' Ζ (aw.mono (mx (mx (mx F H) E) U)) z)<|δ z<|nx<|Z' (X:=(Ŀ (Ŀ Za))×ŀ Addr×Nat×ŀ Ow×Int×Mem) a (λ⟨s,K,L,J,am,aJ⟩=>⟨(s,am),[(0,i' o),(2,ε d c f),(6,Τ w),(10,ε K s L),(11,.slice none 0 0),(39,ε p j q),(40,i' (j.length:Int)),(41,i' am)],Mem.le ar aJ/\sl (Rp.sl n') aJ K L s/\Tok 1 49 (ε K s L) s.length J,St w0 G0 aJ [(6,Ξ w (l8 an l k g h) 39),(1010,J)]⟩) (λ(⟨O,S,R,ab,aB⟩:(Ŀ (Ŀ Za))×ŀ Addr×Nat×ŀ Ow×Mem)=>⟨O,[(0,i' o),(2,ε d c f),(6,Τ w),(10,ε S O R),(11,.slice none 0 0)],Mem.le ar aB/\sl (Rp.sl n') aB S R O/\Tok 1 49 (ε S O R) O.length ab,St w0 G0 aB [(6,Ξ w (l8 an l k g h) 39),(1010,ab)]⟩) ⟨[],none,0,none,0,ar⟩ z (υ z) ⟨mr,(gi _ _),qC⟩ (wk (lc z (lw ln))) ?_ ?_
 .rintro _ ⟨s,K,L,J,am,aJ⟩ ⟨ak,aC,ap⟩ a
  refine sr<|Ï z<|nx<|c'<|J' a z (λcC a=>?_) (λcC a=>?_)
  .refine o'<|a'<|c'<|V'<|sr<|oE a λx2 bB a=>γ (X' Ζ iG (aw.mono (mx (mx (mx (mx F H) E) U) ak)) z z bB) ?_
   obtain⟨p7,c6,cl,bC⟩:=qA (R' (Á aw bB) (mx (mx (mx (mx F H) E) U) ak))
   refine γ (il ij z (cl))<|ς z<|nr<|δ z<|γ (N' F' bC z)<|γ (kr z z)<|nx<|J' a z (λcx a=>?_) (λcx a=>?_)
   .refine p'<|δ z<|δ z<|oE a λaR ca a=>U' z z (x' Hc z) (KS ca) z (bC) (λcH cL aU bc=>?_)
    obtain⟨a7,a3,rfl,b9⟩:=bc
    refine jL (e:=49) (r:=(Rp.sl n')) (vs:=#[(0,ε a7 aR a3)]) (cs:=[ε a7 aR a3]++([])) ([aR]:Ŀ (Ŀ Za)) z z z z z (by decide) (λ_=>by kernel_rfl) ⟨[ε a7 aR a3],[],z,⟨_,z,b9⟩,z⟩ (key:=999) z (by rw[aA]; rfl) (λp8 cN aY cg=>?_)
    refine oA a λbS a=>nt (r:=(Rp.sl n')) 1010 z z Ζ o9 z (by decide) z z (aC.mono (mx aU aY)) z (by rw[aA]; rfl) ap cg bS λp9 cp bP bZ bq ci bX=>ς z<|q'<|A'<|a'<|p'<|é z<|δ z<|q'<|K' ⟨(s++[aR]),p9,cp,bP,i64.wrap (am+1),bZ⟩ a ⟨(mx (mx (mx ak aU) aY) bq),ci,bX⟩ (υ z) (w2 z z)
   refine o'<|A'<|a'<|p'<|é z<|δ z<|q'<|K' ⟨s,K,L,J,i64.wrap (am+1),aJ⟩ a ⟨ak,aC,ap⟩ (υ z) (w2 z z)
  refine Æ<|g'<|g'<|H'<|Ë ⟨s,K,L,J,aJ⟩ ⟨a,ak,aC,ap⟩ (υ z) (w2 z z)
 rintro⟨O,S,R,ab,aB⟩ ⟨a,aL,br,bd⟩
 refine a'<|c'<|sr<|δ z<|γ (N' Ζ (av.mono (mx (mx (mx (mx F H) E) U) aL)) z)<|δ z<|nx<|Z' (X:=(Ŀ (Ŀ Za))×ŀ Addr×Nat×ŀ Ow×(Ŀ (Ŀ Za))×ŀ Addr×Nat×ŀ Ow×Int×Mem) a (λ⟨n,B,D,t,m,y,x,u,Z,az⟩=>⟨(n,m,Z),[(0,i' o),(6,Τ w),(10,ε B n D),(11,ε y m x),(54,ε d c f),(55,i' (c.length:Int)),(56,i' Z)],Mem.le aB az/\sl (Rp.sl n') az B D n/\Tok 1 49 (ε B n D) n.length t/\sl (Rp.sl n') az y x m/\Tok 1 49 (ε y m x) m.length u,St w0 G0 az [(6,Ξ w (l8 an l k g h) 39),(1010,t),(1011,u)]⟩) (λ(⟨V,aj,ai,aq,ad,ah,al,ao,aT⟩:(Ŀ (Ŀ Za))×ŀ Addr×Nat×ŀ Ow×(Ŀ (Ŀ Za))×ŀ Addr×Nat×ŀ Ow×Mem)=>⟨(V,ad),[(0,i' o),(6,Τ w),(10,ε aj V ai),(11,ε ah ad al)],Mem.le aB aT/\sl (Rp.sl n') aT aj ai V/\Tok 1 49 (ε aj V ai) V.length aq/\sl (Rp.sl n') aT ah al ad/\Tok 1 49 (ε ah ad al) ad.length ao,St w0 G0 aT [(6,Ξ w (l8 an l k g h) 39),(1010,aq),(1011,ao)]⟩) ⟨O,S,R,ab,[],none,0,none,0,aB⟩ z (υ z) ⟨mr,br,bd,(gi _ _),qC⟩ (wk (lc z (lc z (lw ln)))) ?_ ?_
 .rintro _ ⟨n,B,D,t,m,y,x,u,Z,az⟩ ⟨Y,af,W,ae,T⟩ a
  refine sr<|Ï z<|nx<|c'<|J' a z (λct a=>?_) (λct a=>?_)
  .refine o'<|a'<|c'<|V'<|sr<|oE a λx1 bH a=>γ (X' Ζ iG (av.mono (mx (mx (mx (mx (mx F H) E) U) aL) Y)) z z bH) ?_
   obtain⟨p2,c2,cA,bo⟩:=qA (R' (Á av bH) (mx (mx (mx (mx (mx F H) E) U) aL) Y))
   refine γ (il ij z (cA))<|θ z<|V'<|sr<|δ z<|γ (N' F' bo z)<|γ (iI z z)<|θ z<|J' a z (λcz a=>?_) (λcz a=>?_)
   .refine p'<|δ z<|oE a λcV bI a=>U' z z (x' L7 z) (Sg bI) z (trivial) (λcP c3 aN bb=>?_)
    obtain⟨bz,bx,bw,bv,rfl,aM,aQ⟩:=bb
    refine oE a λaW b4 a=>U' z z (x' L6 z) (RU b4) z (⟨aM,aQ⟩) (λcJ c5 aO be=>?_)
    obtain⟨a0,a6,rfl,bQ⟩:=be
    refine jL (e:=49) (r:=(Rp.sl n')) (vs:=#[(0,ε a0 aW a6)]) (cs:=[ε a0 aW a6]++([])) ([aW]:Ŀ (Ŀ Za)) z z z z z (by decide) (λ_=>by kernel_rfl) ⟨[ε a0 aW a6],[],z,⟨_,z,bQ⟩,z⟩ (key:=999) z (by rw[aA]; rfl) (λp3 cZ aK cy=>?_)
    refine oA a λbN a=>nt (r:=(Rp.sl n')) 1010 z z Ζ o9 z (by decide) z z (af.mono (mx (mx aN aO) aK)) z (by rw[aA]; rfl) W cy bN λp4 cn cb co a8 cm bK=>ς z<|q'<|A'<|A'<|a'<|p'<|é z<|δ z<|q'<|K' ⟨(n++[aW]),p4,cn,cb,m,y,x,u,i64.wrap (Z+1),co⟩ a ⟨(mx (mx (mx (mx Y aN) aO) aK) a8),cm,bK,(ae.mono (mx (mx (mx aN aO) aK) a8)),T⟩ (υ z) (w3 z z z)
   refine sr<|δ z<|oE a λcY bJ a=>I' z z (x' AG z) (Ca bJ) z (bo)<|γ (kr z z)<|θ z<|J' a z (λcr a=>?_) (λcr a=>?_)
   .refine p'<|δ z<|δ z<|oE a λaV b7 a=>U' z z (x' Hc z) (KS b7) z (bo) (λcO cI ay bh=>?_)
    obtain⟨a4,aZ,rfl,b0⟩:=bh
    refine jL (e:=49) (r:=(Rp.sl n')) (vs:=#[(0,ε a4 aV aZ)]) (cs:=[ε a4 aV aZ]++([])) ([aV]:Ŀ (Ŀ Za)) z z z z z (by decide) (λ_=>by kernel_rfl) ⟨[ε a4 aV aZ],[],z,⟨_,z,b0⟩,z⟩ (key:=999) z (by rw[aA]; rfl) (λp5 cT aG cB=>?_)
    refine oA a λbY a=>nt (r:=(Rp.sl n')) 1011 z z Ζ o9 z (by decide) z z (ae.mono (mx ay aG)) z (by rw[aA]; rfl) T cB bY λp6 ck bR b3 aS ch bM=>ς z<|q'<|A'<|A'<|a'<|p'<|é z<|δ z<|q'<|K' ⟨n,B,D,t,(m++[aV]),p6,ck,bR,i64.wrap (Z+1),b3⟩ a ⟨(mx (mx (mx Y ay) aG) aS),(af.mono (mx (mx ay aG) aS)),W,ch,bM⟩ (υ z) (w3 z z z)
   refine o'<|A'<|A'<|a'<|p'<|é z<|δ z<|q'<|K' ⟨n,B,D,t,m,y,x,u,i64.wrap (Z+1),az⟩ a ⟨Y,af,W,ae,T⟩ (υ z) (w3 z z z)
  refine Æ<|g'<|g'<|H'<|Ë ⟨n,B,D,t,m,y,x,u,az⟩ ⟨a,Y,af,W,ae,T⟩ (υ z) (w3 z z z)
 rintro⟨V,aj,ai,aq,ad,ah,al,ao,aT⟩ ⟨a,cF,bm,ce,bs,cf⟩
 refine a'<|sr<|δ z<|δ z<|oE a λbE bW a=>U' z z (x' L8 z) (MI _ _ _ _ bW) z (bm) (λcQ c0 bA bi=>?_)
 obtain⟨bp,bj,rfl,bu⟩:=bi
 refine δ z<|oE a λbF b5 a=>U' z z (x' L8 z) (MI _ _ _ _ b5) z ((bs.mono bA)) (λcK cX a9 bg=>?_)
 obtain⟨bk,bt,rfl,bn⟩:=bg
 refine γ (iK (vs:=#[(0,i' o),(1,ε bp bE bj),(2,ε bk bF bt)]) (v:=.agg ([i' o,ε bp bE bj,ε bk bF bt]).toArray) z z (λ_=>by kernel_rfl))<|T' 16 z z39 z λb2=>ø 16 mC z<|nx<|c'<|sr<|γ (Y0.BR z)<|γ (f' 16 lg z z z)<|γ (N' Ζ (bu.mono a9) z)<|eZ a z (kr z z) z (λcD a=>?_) (λcD a=>?_)
 .refine δ z<|ke z<|Δ z<|nx<|iS z<|sr<|γ (iK (vs:=#[]) (v:=.agg ([i' 0,.slice none 0 0,.slice none 0 0]).toArray) z z (λ_=>by kernel_rfl))<|ø 6 mC z<|θ z<|m'<|b' ?_
  obtain rfl:_=r:=a
  exact l5 z (hQ (i:=6) kA z z z) z ⟨_,_,_,_,z,(gi (Rp.sl n') _),(gi (Rp.sl n') _)⟩
 refine δ z<|gy z z (Y0.BS z) z<|gy z z (f' 16 lg z z z) z<|gy z z (N' Ζ bn z) z<|gy z z (kr z z) z<|Γ z<|nx<|J' a z (λcE a=>?_) (λcE a=>?_)
 .refine sr<|γ (iK (vs:=#[]) (v:=.agg ([i' 0,.slice none 0 0,.slice none 0 0]).toArray) z z (λ_=>by kernel_rfl))<|ø 6 mC z<|θ z<|m'<|b' ?_
  obtain rfl:_=r:=a
  exact l5 z (hQ (i:=6) kA z z z) z ⟨_,_,_,_,z,(gi (Rp.sl n') _),(gi (Rp.sl n') _)⟩
 refine o'<|a'<|sr<|γ (w' 16 kA z z z)<|ø 6 mC z<|θ z<|m' ?_
 obtain rfl:_=r:=a
 exact l5 z (hQ (i:=6) kA z z z) z ⟨_,_,_,_,z,(bu.mono a9),bn⟩
end Go.Proofs.YtdigmacmdlpckaaGreat

