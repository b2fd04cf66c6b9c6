/- The law TaskLearns holds for every input: a part of its proof (fW the code does, plain models, and fW they return). No condition. -/
import Derived.Test.YtepbagkffgddlaaGreatXL10fb
set_option linter.unusedVariables false
set_option linter.unusedSimpArgs false
namespace Go.Proofs.YtepbagkffgddlaaGreat
open Go.IntKind (i8 i16 i32 i64 u8 u16 u32 u64)
open Go.Proofs.Tryz
open Go Go.EL Go.RowKit Go.Proofs
set_option maxHeartbeats 4000000
set_option maxRecDepth 20000
theorem PE(B:Zd)(A:Zd)(i:ŀ Addr)(j:Nat)(f:ŀ Addr)(h:Nat)(n:ŀ Addr)(x:Nat)(o:ŀ Addr)(q:Nat)(l:ŀ Addr)(k:Nat)(g:ŀ Addr)(d:Nat)(p:ŀ Addr)(u:Nat)(y:ŀ Addr)(t:Nat)(r:Int)(hr:(J6 B A).Α r):Cr 50 #[.agg ((fD B i j f h n x o q)).toArray,.agg ((fD A l k g d p u y t)).toArray] (λG=>sq G i j B.k.eqs/\sq G f h B.k.ε/\sl c' G n x B.q.p/\sv G o q B.q.o/\sq G l k A.k.eqs/\sq G g d A.k.ε/\sl c' G p u A.q.p/\sv G y t A.q.o) (λG v=>v=i' r):=by
 refine J' (args:=[_,_]) (N:=17) func50 z z z (λw0 Y M H=>?_);obtain⟨J,D,O,R,K,F,Q,P⟩:=H;refine sr<|jT 2 z z z λW=>jT 3 z z z λa=>Ο z<|o'<|fE [ff,ff,ff,ff,ff,ff,ff,ff,ff] eJ İ λT=>cn (λ_ c=>V6 z)<|cn (λ_ c=>n' 2 eO z z z)<|cn (λ_ c=>V6 z)<|cn (λ_ c=>n' 3 eO z z z)<|oE hr λs I hr=>tO z (λ_=>x' OW z) (Wq.h I) z (λX c=>trivial)<|cn (λ_ c=>GU z)<|cn (λ_ c=>n' 2 eO z z z)<|cn (λ_ c=>GU z)<|cn (λ_ c=>n' 3 eO z z z)<|oM T<|oE hr λm C hr=>H' z z (x' OW z) (Wq.h C) z (trivial)<|ng (e:=3) (r:=(Rp.int .i64)) (vs:=#[(0,i' s),(1,i' m)]) (cs:=[i' s]++([i' m]++([]))) ([s,m]:Ŀ Int) z z z z z ĳ (λ_=>İ) ⟨[i' s],[i' m]++([]),z,z,⟨[i' m],[],z,z,z⟩⟩ (key:=999) z (by rw[M];rfl) (λZ V S L=>?_)
 refine oE hr λU E hr=>H' z z (x' Yl z) (iB'.h E) z (L)<|Ý z<|t'<|Θ<|b'<|m' (Ø hr z z)
instance {B:Zd}{A:Zd}{r:Int}:SpcM ((J6 B A)) r (∀{i:ŀ Addr}{j:Nat}{f:ŀ Addr}{h:Nat}{n:ŀ Addr}{x:Nat}{o:ŀ Addr}{q:Nat}{l:ŀ Addr}{k:Nat}{g:ŀ Addr}{d:Nat}{p:ŀ Addr}{u:Nat}{y:ŀ Addr}{t:Nat},Cr 50 #[.agg ((fD B i j f h n x o q)).toArray,.agg ((fD A l k g d p u y t)).toArray] (λG=>sq G i j B.k.eqs/\sq G f h B.k.ε/\sl c' G n x B.q.p/\sv G o q B.q.o/\sq G l k A.k.eqs/\sq G g d A.k.ε/\sl c' G p u A.q.p/\sv G y t A.q.o) (λG v=>v=i' r)):=⟨λa {i j f h n x o q l k g d p u y t}=>PE _ _ i j f h n x o q l k g d p u y t _ a⟩
theorem Ou:Go.Sort.SWO (Go.Proofs.ltOf lq):=by
 have key:∀x y:Zd,Go.Proofs.ltOf lq x y=true↔x.ο<y.ο\/x.ο=y.ο/\x.id<y.id:=λx y=>by
  show decide (lq x y<0)=true↔_;rw[decide_eq_true_eq];unfold lq;by_cases a:x.ο<y.ο
  .rw[ă a];omega
  rw[ā a];by_cases b:y.ο<x.ο
  .rw[ă b];omega
  rw[ā b];by_cases c:x.id<y.id
  .rw[ă c];omega
  rw[ā c];split<;>omega
 refine⟨λx=>?_,λx y z d h2=>?_,λx y z d h2=>?_⟩
 .rw[<-Bool.not_eq_true,key];omega
 .rw[key]at *;omega
 rw[<-Bool.not_eq_true,key]at *;omega
theorem Za6(l:Ŀ Zd)(a b f:Int)(p:ŀ Addr)(c n:Nat)(tk:ŀ Ow)(r:Ŀ Zd)(hr:(O9 l a b f).Α r):Cl 96 #[.slice p n c,.int .i64 a,.int .i64 b,.int .i64 f,.func (.func 50) #[] #[]] [(5000,tk)] (λG=>Δ ZF 56 G (.slice p n c) l tk) (λG L v=>∃C,L=[(5000,C)]/\v=.tuple #[]/\Δ ZF 56 G (.slice p n c) r C):=by
 obtain⟨⟨rfl,rfl,⟨X,Y⟩,h2⟩,hr⟩:=hr;obtain⟨k,rfl⟩:∃k:Nat,f=k:=⟨f.toNat,ŉ⟩;refine(C8 (r:=ZF) (sz:=11) rfl ĳ Ou Tryz.Dm rfl (λ_=>İ) (λ_=>İ) (λx y W cy w G hi hp=>?_) Yk 56 p n c l tk k ŉ ŉ).mono (λ_ h=>h) (λG L v ⟨ys,I,T,U,V,q4,q5⟩=>?_)
 .obtain⟨p1,p2⟩:=hp;obtain⟨E,D,m,j,O,N,K,J,rfl,g,d,s,q⟩:=RF p1;obtain⟨H,F,u,t,S,R,Q,P,rfl,i,e,B,A⟩:=RF p2;exact PE _ _ _ _ _ _ _ _ _ _ _ _ _ _ _ _ _ _ _ (Zyu x y) w G hi ⟨g,d,s,q,i,e,B,A⟩
 have:ys=r:=hr ys ⟨q4,q5.imp (λh=>by simpa[Go.Proofs.ltOf]using h)⟩;subst this;exact⟨I,T,U,V⟩
theorem PJ(c:Ze)(h:ŀ Addr)(m:Nat)(i:ŀ Addr)(l:Nat)(r:(Ŀ Ze))(hr:(yR c).Α r):Cr 38 #[.agg ([i' c.kind,δ h c.p m,δ i c.o l]).toArray] (λG=>sl c' G h m c.p/\sv G i l c.o) (fX tL r):=by
 refine æ ?_;intro t j _ _ _ _ hr _;refine WC.nD hr [4] [] (λ(g:Bool)=>⟨[(5,.bool g)],Js c g,tr,[]⟩) ?_ ?_
 .refine sr<|Γ (eI z z)<|Ο z<|I' hr z (λp hr=>?_) (λp hr=>?_)
  .exact Η
  exact Η
 intro d g hr C _;refine ke hr z (λB hr=>?_) (λB hr=>?_)
 .exact Η
 refine WC.nC hr [4] [] (λ(f:Bool)=>⟨[(10,.bool f)],Jr c f,tr,[]⟩) ?_;refine sr<|Γ (eI z z)<|Ο z<|I' hr z (λq hr=>?_) (λq hr=>?_)
 .exact Η
 exact Η
instance {c:Ze}{r:(Ŀ Ze)}:SpcM ((yR c)) r (∀{h:ŀ Addr}{m:Nat}{i:ŀ Addr}{l:Nat},Cr 38 #[.agg ([i' c.kind,δ h c.p m,δ i c.o l]).toArray] (λG=>sl c' G h m c.p/\sv G i l c.o) (fX tL r)):=⟨λa {h m i l}=>PJ _ h m i l _ a⟩
theorem Fi(o:Zc)(h:Ze)(e:ŀ Addr)(f:Nat)(c:ŀ Addr)(d:Nat)(j:ŀ Addr)(m:Nat)(k:ŀ Addr)(n:Nat)(r:Ĳ)(hr:(tI o h).Α r):Cr 46 #[.agg ((ÿ o e f c d)).toArray,.agg ([i' h.kind,δ j h.p m,δ k h.o n]).toArray] (λG=>sq G e f o.eqs/\sq G c d o.ε/\sl c' G j m h.p/\sv G k n h.o) (λG v=>v=.string r):=by
 refine J' (args:=[_,_]) (N:=10) func46 z z z (λH F C s=>?_);obtain⟨l,i,t,q⟩:=s;refine sr<|jT 2 z z z λD=>jT 3 z z z λI=>Ο z<|o'<|fE [ff,ff,ff] eJ İ λy=>cn (λ_ g=>y' 2 mq z z z)<|oE hr λB u hr=>tO z (λ_=>x' yH z) (yL _ _ _ _ _ _ u) z (λE g=>⟨(l.mono g),(i.mono g)⟩) ?_
 refine æ ?_;intro hr;refine oE hr λA p hr=>H' z z (x' Je z) (Ka _ _ _ _ _ _ p) z (⟨t,q⟩)<|oA hr λx hr=>Γ (Y0.MM z z x)<|Ý z<|t'<|Θ<|b'<|m' (Ø hr z z)
instance {o:Zc}{h:Ze}{r:Ĳ}:SpcM ((tI o h)) r (∀{e:ŀ Addr}{f:Nat}{c:ŀ Addr}{d:Nat}{j:ŀ Addr}{m:Nat}{k:ŀ Addr}{n:Nat},Cr 46 #[.agg ((ÿ o e f c d)).toArray,.agg ([i' h.kind,δ j h.p m,δ k h.o n]).toArray] (λG=>sq G e f o.eqs/\sq G c d o.ε/\sl c' G j m h.p/\sv G k n h.o) (λG v=>v=.string r)):=⟨λa {e f c d j m k n}=>Fi _ _ e f c d j m k n _ a⟩
def vb(e a c d mb:Nat)(k:Zc)(h:ŀ Addr)(f:Nat)(i:ŀ Addr)(g:Nat)(s:ŀ Addr×Nat×ŀ Ow×ŀ Ow)(B:Zb):Lo:=[(105416,some ⟨e,.cells #[.slice s.1 B.t.length s.2.1,.int .i64 B.next] 26 (0,0),0⟩),(5000,s.2.2.1),(5590,s.2.2.2),(105417,some ⟨a,.cells #[.func (.func 71) #[] #[.pointer (some ⟨a,0,none⟩),.pointer (some ⟨c,0,none⟩),.pointer (some ⟨d,0,none⟩),.pointer (some ⟨e,0,none⟩)]] 140 (0,0),0⟩),(105409,some ⟨c,.cells #[.int .i64 k.n,.slice h k.eqs.length f,.slice i k.ε.length g] 48 (0,0),0⟩),(105413,some ⟨d,.cells #[.map (some mb)] 138 (0,0),0⟩)]
structure vc (mb:Nat) (D:Ŀ (Ĳ×Int)) (B:Zb) (s:ŀ Addr×Nat×ŀ Ow×ŀ Ow) (G:Mem):Prop where
 row:Δ ZF 56 G (.slice s.1 B.t.length s.2.1) B.t s.2.2.1
 map:Õ rL (mQ (Rp.int .i64) G) (.map (some mb)) D s.2.2.2
def DY(f:Zc->Ze->Ŀ (Ĳ×Int)->Zb->Cq ((Int×Int)×Ŀ (Ĳ×Int)×Zb)):Prop:=∀(j a c d mb:Nat) (k:Zc) (h:ŀ Addr) (e:Nat) (i:ŀ Addr) (g:Nat) (q:Ze) (p:ŀ Addr) (l:Nat) (n:ŀ Addr) (m:Nat) (D:Ŀ (Ĳ×Int)) (B:Zb) (s:ŀ Addr×Nat×ŀ Ow×ŀ Ow) (o:(Int×Int)×Ŀ (Ĳ×Int)×Zb),(f k q D B).Α o->
 Cl 71 #[.agg ([.int .i64 q.kind,.slice p q.p.length l,.slice n q.o.length m]).toArray,.pointer (some ⟨a,0,none⟩),.pointer (some ⟨c,0,none⟩),.pointer (some ⟨d,0,none⟩),.pointer (some ⟨j,0,none⟩)] (vb j a c d mb k h e i g s B)
  (λG=>vc mb D B s G/\(Ε (Rp.sl Zk) G (.slice h k.eqs.length e) k.eqs/\Ε (Rp.sl Zk) G (.slice i k.ε.length g) k.ε)/\Ε Zk G (.slice p q.p.length l) q.p/\Ε (Rp.vec .i64 8) G (.slice n q.o.length m) q.o)
  (λG L v=>∃s',L=vb j a c d mb k h e i g s' o.2.2/\v=.tuple #[.int .i64 o.1.1,.int .i64 o.1.2]/\vc mb o.2.1 o.2.2 s' G)
theorem vc.zero{m d e f mb:Nat}{k:Zc}{j:ŀ Addr}{g:Nat}{l:ŀ Addr}{i:Nat}{D:Ŀ (Ĳ×Int)}{B:Zb}{s:ŀ Addr×Nat×ŀ Ow×ŀ Ow}{G:Mem}(h:vc mb D B s G):(vb m d e f mb k j g l i s B).zero:=by
 intro q c x a;simp only[vb,Ď,Ĝ,Ť]at c;rcases c with rfl|rfl|rfl|rfl|rfl|rfl
 .cases a;rfl
 .exact h.row.zero a
 .exact h.map.zero a
 .cases a;rfl
 .cases a;rfl
 cases a;rfl
theorem vc.mono{mb:Nat}{D:Ŀ (Ĳ×Int)}{B:Zb}{s:ŀ Addr×Nat×ŀ Ow×ŀ Ow}{G G':Mem}(h:vc mb D B s G)(a:Mem.le G G'):vc mb D B s G':=⟨h.row.mono a,h.map.mono a⟩
theorem ZnK:DY (vm 0):=λ_ _ _ _ _ _ _ _ _ _ _ _ _ _ _ _ _ _ _ hr=>False.elim hr
theorem ZnL{n:Nat}(ih:DY (vm n)):DY (vm (n+1)):=by
 intro Z V W Y mb k g d i f q C m A t D B s o hr;refine eP.enter (args:=[_,_,_,_,_]) (N:=73) func71 rfl rfl rfl (λw0 G0 aa ah=>?_);obtain⟨hA,⟨P,Q⟩,T,U⟩:=ah;have hz:w0.L.zero:=by rw[aa];exact hA.zero
 refine sr<|WL.box 5 Zi rfl rfl (λb5=>?_)
 refine yy (Y0.assign rfl) rfl<|yy (Y0.assign rfl) rfl<|nx<|WC.seq ?_
 refine sr<|yy (Y0.eV 5 oL rfl rfl rfl) rfl ?_
 obtain⟨l,hl,hr⟩:=hr;refine WL.call Zi rfl (YC.of Yd rfl) (PJ _ _ _ _ _ _ hl) rfl ⟨T,U⟩ (λlv G1 J c=>?_);obtain⟨lp,am,rfl,H⟩:=c;refine yy (Y0.CQ underlying90 H rfl) rfl<|mv rfl rfl<|nx<|WC.block ?_
 have aq:l.length<=9223372036854775807:=by obtain⟨_,_,_,_,h,_⟩:=H;omega
 refine WC.hK (X:=Nat×Ŀ (Ĳ×Int)×Zb×(ŀ Addr×Nat×ŀ Ow×ŀ Ow)×Mem) (λL=>match L with|⟨j,_,_,_,_⟩=>[(1,.pointer (some ⟨V,0,none⟩)),(2,.pointer (some ⟨W,0,none⟩)),(3,.pointer (some ⟨Y,0,none⟩)),(4,.pointer (some ⟨Z,0,none⟩)),(5,.pointer (some ⟨b5,0,none⟩)),(16,.slice lp l.length am),(17,.int .i64 (l.length:Int)),(18,.int .i64 (j:Int))])
  (λL=>match L with|⟨j,I,B',s',G⟩=>j<=l.length/\Mem.le G1 G/\vc mb I B' s' G/\(pd (vm n k) (tj k q) (l.drop j) I B').Α o)
  (λL=>match L with|⟨_,_,B',s',G⟩=>St w0 G0 G ((5,some ⟨b5,.cells ([.int .i64 q.kind,.slice C q.p.length m,.slice A q.o.length t]).toArray 54 (0,0),0⟩)::vb Z V W Y mb k g d i f s' B')) (λL=>l.length-L.1) ⟨0,D,B,s,G1⟩ (fc rfl (fc rfl (fc rfl (fc rfl (fc rfl (fc rfl (fc rfl (fc rfl fn)))))))) ⟨ĝ _,Mem.le_refl _,hA.mono J,by rw[abh];exact hr⟩ (λw F=>F) ?_
 rintro⟨j,I,B',s',G⟩ ⟨hj,E,O,hr⟩;dsimp only at hj E O hr⊢;have a:Mem.le G0 G:=Mem.le_trans J E;refine sr<|yy (Y0.lss rfl rfl) rfl<|nx<|WC.seq ?_
 refine WC.eK (p:=(j:Int)<(l.length:Int)) rfl (λhc=>?_) (λhc=>?_)
 .have ad:j<l.length:=ŉ;have hx:(0:Int)<=(j:Int)/\l[(j:Int).toNat]?=some l[j]:=⟨ŉ,by simp[ad]⟩;have hw:i64.wrap ((j:Int)+1)=((j+1:Nat):Int):=by rw[ĩ];omega
  rw[ĭ ad]at hr;obtain⟨p,hp,hr⟩:=hr;refine WC.skip<|WE.then<|WC.seq<|WC.block<|sr<|yy (Y0.lT underlying90 og (H.mono E) rfl rfl hx) rfl ?_
  obtain⟨xp,xc,xo,xd,xe,an,ao⟩:=Jw (At.mono (Ε.at H hx) E);refine yy (Y0.jD _ oL rfl rfl xe) rfl ?_;refine WL.alloc 109 Zi z54 rfl (λb9=>?_);refine WL.fv 109 Zi og rfl rfl rfl rfl rfl (Ć.1 rfl) ?_;refine nx<|sr<|yy (Y0.Ñ 105417 wA rfl rfl rfl) rfl<|yy (Y0.eV 109 oL rfl rfl rfl) rfl ?_
  refine WL.kh Zi rfl (YC.yj OZ rfl rfl) (ih Z V W Y mb k g d i f _ _ _ _ _ _ _ _ _ hp) rfl ⟨O,⟨P.mono a,Q.mono a⟩,an,ao⟩ (lc rfl (lc rfl (lc rfl (lc rfl (lc rfl (lc rfl ln)))))) hz (λv G2 L2 ae c=>?_);obtain⟨s2,rfl,rfl,aj⟩:=c;refine WL.õ (S':=St w0 G0 G2 ((5,some ⟨b5,.cells ([.int .i64 q.kind,.slice C q.p.length m,.slice A q.o.length t]).toArray 54 (0,0),0⟩)::vb Z V W Y mb k g d i f s2 p.2.2)) (λw F=>F.weaken (lc rfl (lc rfl (lc rfl (lc rfl (lc rfl (lc rfl (lc rfl ln)))))))) ?_;refine mv rfl rfl<|yy (Y0.extract rfl rfl) rfl<|yy (Y0.extract rfl rfl) rfl<|yy (Y0.assign rfl) rfl<|yy (Y0.assign rfl) rfl<|nx ?_
  refine sr<|mv rfl rfl<|yy (Y0.neq rfl rfl) rfl<|nx ?_
  obtain⟨he,hr⟩:=hr;refine WC.eK (p:=¬p.1.2=0) rfl (λhn=>absurd he hn) (λ_=>?_);refine WC.skip<|WE.inBlock<|WE.then<|WC.region<|yy (Y0.add rfl rfl) rfl ?_
  rw[hw];exact mv rfl rfl<|WL.nil<|WE.gL (x:=(j,I,B',s',G)) (j+1,p.2.1,p.2.2,s2,G2) ⟨ŉ,Mem.le_trans E ae,aj,hr⟩ (fc rfl (fc rfl (fc rfl (fc rfl (fc rfl (fc rfl (fc rfl (fc rfl fn)))))))) (λw F=>F) (by show l.length-(j+1)<l.length-j;omega)
 have ak:j=l.length:=ŉ;subst ak;rw[aaj]at hr;refine WC.exit<|WE.å<|WE.å<|WE.Ì<|WE.then ?_
 refine sr<|yy (Y0.eV 105409 lH rfl rfl rfl) rfl<|yy (Y0.eV 5 oL rfl rfl rfl) rfl ?_
 obtain⟨s,F,S,hr⟩:=hr;refine WL.gX Zi rfl (YC.of Jc rfl) (Fi _ _ _ _ _ _ _ _ _ _ _ F) rfl ⟨P.mono a,Q.mono a,T.mono a,U.mono a⟩ ?_;refine yy (Y0.assign rfl) rfl<|nx<|WC.seq ?_
 refine sr<|yy (Y0.Ñ 105413 qy rfl rfl rfl) rfl<|mv rfl rfl ?_
 refine WL.o9 (k:=s) 5590 true (R:=λu=>u=.tuple #[.int .i64 ((fj I s).getD 0),.bool (fj I s).isSome]) Zi rfl underlying138 X0 O.map rfl rfl rfl S (λh=>by rw[h];rfl) (λval y h hv=>by rw[h,UW hv];rfl) (λu hu=>?_);subst hu;refine mv rfl rfl<|yy (Y0.extract rfl rfl) rfl<|yy (Y0.extract rfl rfl) rfl<|yy (Y0.assign rfl) rfl<|yy (Y0.assign rfl) rfl<|nx ?_
 refine sr<|mv rfl rfl<|nx ?_
 cases hm:fj I s with
 |some id=>
  rw[hm]at hr;refine WC.pW rfl ?_;replace hr:_=o:=hr;subst hr;refine sr<|mv rfl rfl<|yy (Y0.assign rfl) rfl<|yy (Y0.assign rfl) rfl<|nx<|WC.ret<|WE.hP ?_
  refine WE.õ (S':=St w0 G0 G (vb Z V W Y mb k g d i f s' B')) (λw F=>F.weaken (lc rfl (lc rfl (lc rfl (lc rfl (lc rfl (lc rfl ln))))))) ?_;exact WE.uW rfl rfl rfl ⟨s',rfl,rfl,O⟩
 |none=>
  rw[hm]at hr;obtain⟨⟨⟨ap,ar⟩,al⟩,hr⟩:=hr;replace hr:_=o:=hr;subst hr;refine WC.pV rfl ?_;refine WC.skip<|WE.then<|WC.seq<|sr<|yy (Y0.Bv rfl) rfl<|yy (Y0.Ñ 105416 uX rfl rfl rfl) rfl<|yy (Y0.sJ underlying24 O.row rfl) rfl ?_
  refine WL.lN (p:=100<=(B'.t.length:Int)) Zi (Y0.geq rfl rfl) rfl (λhb=>absurd hb ŉ) (λhb=>?_);refine mv rfl rfl ?_;refine WL.ri (rY rfl rfl) (Y0.zB rfl) rfl ?_;refine WL.ri (rY rfl rfl) (Y0.Ñ 105416 eO rfl rfl rfl) rfl ?_;refine WL.ri (rY rfl rfl) (Y0.geq rfl rfl) rfl ?_;refine yy (Y0.eY rfl rfl) rfl<|nx ?_
  refine WC.eK (p:=1000000<=B'.next) rfl (λhb=>absurd hb ŉ) (λ_=>?_);refine WC.skip<|WE.then ?_
  refine sr<|yy (Y0.Ñ 105413 qy rfl rfl rfl) rfl<|mv rfl rfl<|yy (Y0.zB rfl) rfl<|yy (Y0.Ñ 105416 eO rfl rfl rfl) rfl ?_
  refine WL.lU (Rv':=mQ (Rp.int .i64) G) (k:=s) (z:=B'.next) 5590 Zi underlying138 O.map rfl rfl rfl rfl S rfl (λ_ _ _ _ h=>h) al (λmt ag=>?_);refine nx ?_;refine sr<|yy (Y0.Bv rfl) rfl<|yy (Y0.Ñ 105416 uX rfl rfl rfl) rfl<|yy (Y0.zB rfl) rfl<|yy (Y0.Ñ 105416 eO rfl rfl rfl) rfl<|yy (Y0.eV 105409 lH rfl rfl rfl) rfl<|yy (Y0.eV 5 oL rfl rfl rfl) rfl ?_
  refine yy (Y0.build (vs:=#[(0,.int .i64 B'.next),(1,.agg ([.int .i64 k.n,.slice g k.eqs.length d,.slice i k.ε.length f]).toArray),(2,.agg ([.int .i64 q.kind,.slice C q.p.length m,.slice A q.o.length t]).toArray),(5,.int .i64 (-1))]) (v:=.agg ([.int .i64 B'.next,.int .i64 k.n,.slice g k.eqs.length d,.slice i k.ε.length f,.int .i64 q.kind,.slice C q.p.length m,.slice A q.o.length t,.int .i64 0,.int .i64 0,.int .i64 (-1),.bool false]).toArray) rfl rfl (λ_=>İ)) rfl ?_;refine WL.qZ (e:=56) (r:=ZF) (vs:=#[(0,.agg ([.int .i64 B'.next,.int .i64 k.n,.slice g k.eqs.length d,.slice i k.ε.length f,.int .i64 q.kind,.slice C q.p.length m,.slice A q.o.length t,.int .i64 0,.int .i64 0,.int .i64 (-1),.bool false]).toArray)]) (cs:=[.int .i64 B'.next,.int .i64 k.n,.slice g k.eqs.length d,.slice i k.ε.length f,.int .i64 q.kind,.slice C q.p.length m,.slice A q.o.length t,.int .i64 0,.int .i64 0,.int .i64 (-1),.bool false]++([])) ([(Zd.mk B'.next k q 0 0 (-1) false)]:Ŀ Zd) Zi rfl rfl rfl rfl ĳ (λ_=>İ) ⟨[.int .i64 B'.next,.int .i64 k.n,.slice g k.eqs.length d,.slice i k.ε.length f,.int .i64 q.kind,.slice C q.p.length m,.slice A q.o.length t,.int .i64 0,.int .i64 0,.int .i64 (-1),.bool false],[],rfl,⟨[.int .i64 B'.next],[.int .i64 k.n,.slice g k.eqs.length d,.slice i k.ε.length f,.int .i64 q.kind,.slice C q.p.length m,.slice A q.o.length t,.int .i64 0,.int .i64 0,.int .i64 (-1),.bool false],rfl,rfl,⟨[.int .i64 k.n,.slice g k.eqs.length d,.slice i k.ε.length f],[.int .i64 q.kind,.slice C q.p.length m,.slice A q.o.length t,.int .i64 0,.int .i64 0,.int .i64 (-1),.bool false],rfl,⟨[.int .i64 k.n],[.slice g k.eqs.length d,.slice i k.ε.length f],rfl,rfl,⟨[.slice g k.eqs.length d],[.slice i k.ε.length f],rfl,⟨_,rfl,P.mono a⟩,⟨_,rfl,Q.mono a⟩⟩⟩,⟨[.int .i64 q.kind,.slice C q.p.length m,.slice A q.o.length t],[.int .i64 0,.int .i64 0,.int .i64 (-1),.bool false],rfl,⟨[.int .i64 q.kind],[.slice C q.p.length m,.slice A q.o.length t],rfl,rfl,⟨[.slice C q.p.length m],[.slice A q.o.length t],rfl,⟨_,rfl,T.mono a⟩,⟨_,rfl,U.mono a⟩⟩⟩,⟨[.int .i64 0],[.int .i64 0,.int .i64 (-1),.bool false],rfl,rfl,⟨[.int .i64 0],[.int .i64 (-1),.bool false],rfl,rfl,⟨[.int .i64 (-1)],[.bool false],rfl,rfl,rfl⟩⟩⟩⟩⟩⟩,rfl⟩ (key:=999) rfl (by rw[aa];rfl) (λp1 G3 K q1=>?_);refine WL.iY (r:=ZF) (e:=56) 5000 Zi rfl underlying24 qV rfl ĳ rfl rfl (O.row.mono K) rfl q1 (by simp only[Ā,ě,Ļ];show _<=small;simp only[small];omega) (λp2 c2 ai q2=>?_);refine yy (Y0.Bv rfl) rfl<|WL.fP 105416 #[.slice p2 (B'.t++[(Zd.mk B'.next k q 0 0 (-1) false)]).length c2,.int .i64 B'.next] Zi Dv rfl rfl rfl (show 0<2 by decide) rfl rfl ?_
  refine nx ?_;refine sr<|yy (Y0.zB rfl) rfl<|yy (Y0.Ñ 105416 eO rfl rfl rfl) rfl<|yy (Y0.add rfl rfl) rfl<|yy (Y0.zB rfl) rfl<|WL.fP 105416 #[.slice p2 (B'.t++[(Zd.mk B'.next k q 0 0 (-1) false)]).length c2,.int .i64 (i64.wrap (B'.next+1))] Zi jZ rfl rfl rfl (show 1<2 by decide) rfl rfl ?_
  refine nx ?_;have ac:(fj (eX I s B'.next) s).getD 0=B'.next:=by rw[y8,ă rfl];rfl
  refine sr<|yy (Y0.Ñ 105413 qy rfl rfl rfl) rfl<|mv rfl rfl<|yy (Y0.lB (mk:=Value.int .i64) (k:=s) 5590 0 (λh=>UW h) underlying138 X0 ag rfl rfl rfl S) rfl ?_
  rw[ac];refine yy (Y0.assign rfl) rfl<|yy (Y0.assign rfl) rfl<|nx<|WC.ret ?_
  refine WE.õ (S':=St w0 G0 G3 (vb Z V W Y mb k g d i f (p2,c2,ai,mt) ⟨B'.t++[(Zd.mk B'.next k q 0 0 (-1) false)],i64.wrap (B'.next+1)⟩)) (λw F=>F.weaken (lc rfl (lc rfl (lc rfl (lc rfl (lc rfl (lc rfl ln))))))) ?_;exact WE.uW rfl rfl rfl ⟨(p2,c2,ai,mt),rfl,rfl,⟨q2,ag.mono K⟩⟩
theorem P6:∀n,DY (vm n)
 |0=>ZnK
 |n+1=>ZnL (P6 n)
instance eN'{q K r}:SpcM ((uq q K)) r (∀{t y i},Cl 217 #[δ t q y,.int .u64 K] [(5000,i)] (λG=>ru G (δ t q y) q i) (λG L v=>∃T W B,L=[(5000,B)]/\v=δ T r W/\ru G (δ T r W) r B)):=.mk λhr {t y i}=>by refine Ν ?_;intro I p _ hr Y;refine WC.mA hr [] [] [] [] (λ(⟨g,k,o,d,c⟩:(Ŀ Int)×ŀ Addr×Nat×ŀ Ow×Int)=>⟨(g,c),[(0,δ k g o),(1,.int .u64 c)],λf=>ru f (δ k g o) g d,[(5000,d)]⟩) (λ(⟨u,x,s,h,j⟩:(Ŀ Int)×ŀ Addr×Nat×ŀ Ow×Int)=>⟨(u,j),[(0,δ x u s),(1,.int .u64 j)],λl=>ru l (δ x u s) u h,[(5000,h)]⟩) ⟨q,t,y,i,K⟩
instance Ww{g D r}:SpcM ((AS g D)) r (∀{j l e},Cl 139 #[δ j g l,i' D] [(5000,e)] (λG=>ru G (δ j g l) g e) (λG L v=>∃C E k,L=[(5000,k)]/\v=δ C r E/\ru G (δ C r E) r k)):=.mk λhr {j l e}=>Η
instance tT{A C r}:SpcM ((A8 A C)) r (∀{F M s i g},Cl 284 #[δ F A M,.agg ((η C i g)).toArray] [(5000,s)] (λG=>ru G (δ F A M) A s/\su G i g C.χ) (λG L v=>∃zp zc R,L=[(5000,R)]/\v=δ zp r zc/\ru G (δ zp r zc) r R)):=.mk λhr {F M s i g}=>by refine æ ?_;intro I o _ _ _ P hr _;refine WC.nB hr [0,3] [3,5000] (λ(a:Int)=>⟨[(5,.int .u64 a)],EI A C a,tr,[]⟩) ?_;intro J a hr f _;refine Ν ?_;intro af D _ Z Y O W hr _;refine WC.mA hr [3] [3] [] [] (λ(⟨q,t,u,l,Q⟩:(Ŀ Int)×ŀ Addr×Nat×ŀ Ow×Int)=>⟨(q,Q),[(0,δ t q u),(6,i' Q)],λm=>ru m (δ t q u) q l,[(5000,l)]⟩) (λ(⟨E,H,K,j⟩:(Ŀ Int)×ŀ Addr×Nat×ŀ Ow)=>⟨E,[(0,δ H E K)],λn=>ru n (δ H E K) E j,[(5000,j)]⟩) ⟨af,Z,Y,O,0⟩
instance hT'{s h r}:SpcM ((QG s h)) r (∀{y B q f c e d},Cl 219 #[δ y s B,.agg ((Τ h f c e d)).toArray] [(5000,q)] (λG=>ru G (δ y s B) s q/\su G f c h.num.χ/\su G e d h.den.χ) (λG L v=>∃P Q A,L=[(5000,A)]/\v=δ P r Q/\ru G (δ P r Q) r A)):=.mk λhr {y B q f c e d}=>by
 refine rB (args:=[_,_]) (N:=12) func219 z z z (λM X R H=>?_);obtain⟨D,j,i⟩:=H;have a:M.L.zero:=by rw[R];intro p K x hx;simp only[Ď,Ĝ,Ť]at K;subst K;exact B0 D hx
 refine sr<|jT 3 z z z λb2=>Ο z<|o'<|WC.nq (l:=iy [0,1,2,4,5,3,6,7] _) (FJ İ) [(3,ö b2 (Τ h f c e d) 120)] (lc z ln) [ff,ff,ff,tt,tt] eJ İ λt=>fR z<|cn (λ_ C=>xR z)<|cn (λ_ C=>R' ((η h.num f c)).toArray 3 mS z z z (lJ ([]) ((η h.num f c)) ((η h.den e d))))<|nj z (BK z)<|nj z (R' ((η h.den e d)).toArray 3 mS z z z (lJ ((η h.num f c)) ((η h.den e d)) ([])))<|x0 t<|np (λw k=>k.weaken (lc z ln))<|oE hr λag J hr=>mY z z (x' Aj z) (tT.h J) z (⟨D,j⟩) (lc z ln) a (λU ae T g n=>?_)
 obtain⟨Z,Y,S,rfl,rfl,F⟩:=n;refine nl<|np (λw k=>(k.eC t g).weaken (lc z ln))<|oE hr λaf E hr=>mY z z (x' Aj z) (tT.h E) z (⟨F,(i.mono g)⟩) (lc z ln) a (λad O ac m o=>?_)
 obtain⟨V,W,u,rfl,rfl,I⟩:=o;refine nl<|fo.y0 (λw k=>(k.eC t (mx g m)).weaken (lc z ln)) z (rC z) z<|uI (λw k=>(k.eC t (mx g m)).weaken (lc z ln))<|Θ<|b'<|m' ?_
 obtain rfl:_=r:=hr;refine mX (S':=St M X O [(5000,u)]) (w1 z)<|j' z z ⟨_,_,_,z,z,I⟩
instance hA'{a M r}:SpcM ((F2 a M)) r (∀{p q S n t},Cl 142 #[δ p a q,δ n M t] [(5000,S)] (λG=>ru G (δ p a q) a S/\sl c' G n t M) (λG L v=>∃zp zc I,L=[(5000,I)]/\v=δ zp r zc/\ru G (δ zp r zc) r I)):=.mk λhr {p q S n t}=>by
 refine Ν ?_;intro O U f _ _ _ aR T d X ax Z aC hr _;have hz:=tW (w0:=O);refine WC.mC hr [1] [] [] [] (λ(⟨F,B,C,j,J⟩:(Ŀ Int)×ŀ Addr×Nat×ŀ Ow×Int)=>⟨(F,J),[(0,δ B F C),(5,i' J)],λs=>ru s (δ B F C) F j,[(5000,j)]⟩) (λ(⟨Y,V,W,k⟩:(Ŀ Int)×ŀ Addr×Nat×ŀ Ow)=>⟨Y,[(0,δ V Y W)],λu=>ru u (δ V Y W) Y k,[(5000,k)]⟩) ⟨aR,X,ax,Z,0⟩ ?_;rintro _ s ⟨F,B,C,j,J⟩ c ai hr;refine Ν ?_;intro _ _ _ _ _ _ _ _ _ _ _ _ _ _ _ _ aN R h N av ac aH hr _;refine WC.mC hr [1,5] [] [1,5] [] (λ(⟨H,y,E,i,x⟩:(Ŀ Int)×ŀ Addr×Nat×ŀ Ow×Int)=>⟨(H,x),[(0,δ y H E),(6,i' x)],λm=>ru m (δ y H E) H i,[(5000,i)]⟩) (λ(⟨P,A,D,g⟩:(Ŀ Int)×ŀ Addr×Nat×ŀ Ow)=>⟨P,[(0,δ A P D)],λl=>ru l (δ A P D) P g,[(5000,g)]⟩) ⟨aN,N,av,ac,0⟩ ?_;rintro _ m ⟨H,y,E,i,x⟩ e an hr;refine Ν ?_;intro _ _ _ ag _ _ _ _ _ _ _ _ _ _ _ _ hr ak;refine Γ (nI eO z (GY (T' (xS (nY (iI f ag))) (mx (mx (mx d c) h) e)) ak))<|Γ (pK By tK z)<|oE hr λaP Q hr=>mY z z (x' IG z) (eN'.h Q) z (an) (lc z ln) hz (λaW aQ a2 af K=>?_)
 obtain⟨aw,aE,ad,rfl,rfl,ay⟩:=K;exact Η
instance nO{B I r}:SpcM ((FO B I)) r (∀{J O A y u},Cl 138 #[δ J B O,δ y I u] [(5000,A)] (λG=>ru G (δ J B O) B A/\sq G y u I) (λG L v=>∃zp zc K,L=[(5000,K)]/\v=δ zp r zc/\ru G (δ zp r zc) r K)):=.mk λhr {J O A y u}=>by refine Ν ?_;intro E U _ _ _ _ a o _ Y W D V hr _;refine WC.mA hr [1] [] [] [] (λ(⟨l,j,k,d,H⟩:(Ŀ Int)×ŀ Addr×Nat×ŀ Ow×Int)=>⟨(l,H),[(0,δ j l k),(5,i' H)],λg=>ru g (δ j l k) l d,[(5000,d)]⟩) (λ(⟨s,t,q,e⟩:(Ŀ Int)×ŀ Addr×Nat×ŀ Ow)=>⟨s,[(0,δ t s q)],λh=>ru h (δ t s q) s e,[(5000,e)]⟩) ⟨a,Y,W,D,0⟩
theorem Fh(y:(Ŀ Int))(q:Zc)(B:ŀ Addr)(D:Nat)(u:ŀ Ow)(g:ŀ Addr)(h:Nat)(d:ŀ Addr)(e:Nat)(r:(Ŀ Int))(hr:(vw y q).Α r):Cl 78 #[δ B y D,.agg ((ÿ q g h d e)).toArray] [(5000,u)] (λG=>ru G (δ B y D) y u/\sq G g h q.eqs/\sq G d e q.ε) (λG L v=>∃S U C,L=[(5000,C)]/\v=δ S r U/\ru G (δ S r U) r C):=by
 refine rB (args:=[_,_]) (N:=15) func78 z z z (λR G0 V M=>?_);obtain⟨F,s,n⟩:=M;have a:R.L.zero:=by rw[V];intro p Q x hx;simp only[Ď,Ĝ,Ť]at Q;subst Q;exact B0 F hx
 refine sr<|jT 3 z z z λb2=>Ο z<|o'<|WC.nq (l:=iy [0,1,2,4,5,7,8,3,6,9,10] _) (FJ İ) [(3,ö b2 (ÿ q g h d e) 48)] (lc z ln) [ff,ff,ff,tt,tt,tt,tt] eJ İ λt=>fR z<|cn (λ_ E=>rD z)<|cn (λ_ E=>n' 3 eO z z z)<|nj z (Nc z)<|nj z (n' 3 jY z z z)<|nj z (Wc z)<|nj z (n' 3 jY z z z)<|x0 t<|np (λw i=>i.weaken (lc z ln))<|oE hr λap P hr=>mY z z (x' z6 z) (Ww.h P) z (F) (lc z ln) a (λZ an Y c m=>?_)
 obtain⟨ah,ae,X,rfl,rfl,K⟩:=m;refine nl<|np (λw i=>(i.eC t c).weaken (lc z ln))<|oE hr λao H hr=>mY z z (x' z1 z) (nO.h H) z (⟨K,(s.mono c)⟩) (lc z ln) a (λam ar al f o=>?_)
 obtain⟨aa,ab,W,rfl,rfl,O⟩:=o;refine nl<|np (λw i=>(i.eC t (mx c f)).weaken (lc z ln))<|oE hr λaq J hr=>mY z z (x' z1 z) (nO.h J) z (⟨O,(n.mono (mx c f))⟩) (lc z ln) a (λai T af j k=>?_)
 obtain⟨ac,ag,A,rfl,rfl,I⟩:=k;refine nl<|fo.y0 (λw i=>(i.eC t (mx (mx c f) j)).weaken (lc z ln)) z (rC z) z<|uI (λw i=>(i.eC t (mx (mx c f) j)).weaken (lc z ln))<|Θ<|b'<|m' ?_
 obtain rfl:_=r:=hr;refine mX (S':=St R G0 T [(5000,A)]) (w1 z)<|j' z z ⟨_,_,_,z,z,I⟩
instance {y:(Ŀ Int)}{q:Zc}{r:(Ŀ Int)}:SpcM ((vw y q)) r (∀{B:ŀ Addr}{D:Nat}{u:ŀ Ow}{g:ŀ Addr}{h:Nat}{d:ŀ Addr}{e:Nat},Cl 78 #[δ B y D,.agg ((ÿ q g h d e)).toArray] [(5000,u)] (λG=>ru G (δ B y D) y u/\sq G g h q.eqs/\sq G d e q.ε) (λG L v=>∃S U C,L=[(5000,C)]/\v=δ S r U/\ru G (δ S r U) r C)):=⟨λa {B D u g h d e}=>Fh _ _ B D u g h d e _ a⟩
theorem Ev(a1 y:Zc)(k:ŀ Addr)(j:Nat)(g:ŀ Addr)(d:Nat)(m:ŀ Addr)(l:Nat)(i:ŀ Addr)(h:Nat)(r:Bool)(hr:(yP a1 y).Α r):Cr 32 #[.agg ([.int .i64 a1.n,.slice k a1.eqs.length j,.slice g a1.ε.length d]).toArray,.agg ([.int .i64 y.n,.slice m y.eqs.length l,.slice i y.ε.length h]).toArray] (λG=>Ε (Rp.sl Zk) G (.slice k a1.eqs.length j) a1.eqs/\Ε (Rp.sl Zk) G (.slice g a1.ε.length d) a1.ε/\Ε (Rp.sl Zk) G (.slice m y.eqs.length l) y.eqs/\Ε (Rp.sl Zk) G (.slice i y.ε.length h) y.ε) (λG v=>v=.bool r):=by
 refine iR.enter (args:=[_,_]) (N:=14) func32 rfl rfl rfl (λw0 G0 O E=>?_);obtain⟨s,n,t,q⟩:=E;refine sr ?_;refine WL.box 2 Zi rfl rfl (λK=>?_);refine WL.box 3 Zi rfl rfl (λL=>?_);refine sg rfl rfl<|nx<|WC.seq ?_
 obtain⟨C,F,D,H,hr⟩:=hr;replace hr:_=r:=hr;subst hr;refine WC.drawn [false,false,false,false,false,false,false,false,false] eJ İ (λQ=>?_);refine γ.nw (r:=Rp.int .u8) (e:=5) ([]:Ŀ Int) (λ_=>Zi) rfl ĳ (λu G' a x=>?_) ?_
 .exact⟨#[],[],rfl,rfl,λ_=>by kernel_rfl,rfl⟩
 refine Ν ?_;refine γ.nZ (f:=78) (kk:=5) (r:=Rp.int .u8) (e:=5) (xs:=([]:Ŀ Int)) (r':=Rp.int .u8) (e':=5) C (λ_=>Zi) rfl İ İ (λu G' a x=>?_) ?_
 .obtain⟨I,_⟩:=(show(gw (Rp.int .u8) 5 5 ([]:Ŀ Int)) (u 5) G'/\True from x);exact⟨u 5,I,λp c tk B A=>⟨_,_,_,λ_=>YC.of Jd rfl,Fh _ _ p c tk _ _ _ _ _ F,by simp only[υ,B]<;>rfl,A,s.mono a,n.mono a⟩⟩
 refine γ.DS (c:=.string (bytesOf C)) (λ_=>Zi) (λu G' a x=>?_) ?_
 .obtain⟨⟨p,c,B,A⟩,_⟩:=(show D2 (Rp.int .u8) C G'.m (u 7)/\_ from x);simp only[υ,B];exact Y0.kQ underlying32 underlying5 underlying9 A rfl
 refine γ.nw (r:=Rp.int .u8) (e:=5) ([]:Ŀ Int) (λ_=>Zi) rfl ĳ (λu G' a x=>?_) ?_
 .exact⟨#[],[],rfl,rfl,λ_=>by kernel_rfl,rfl⟩
 refine Ν ?_;refine γ.nZ (f:=78) (kk:=9) (r:=Rp.int .u8) (e:=5) (xs:=([]:Ŀ Int)) (r':=Rp.int .u8) (e':=5) D (λ_=>Zi) rfl İ İ (λu G' a x=>?_) ?_
 .obtain⟨I,_⟩:=(show(gw (Rp.int .u8) 5 9 ([]:Ŀ Int)) (u 9) G'/\_ from x);exact⟨u 9,I,λp c tk B A=>⟨_,_,_,λ_=>YC.of Jd rfl,Fh _ _ p c tk _ _ _ _ _ H,by simp only[υ,B]<;>rfl,A,t.mono a,q.mono a⟩⟩
 refine γ.DS (c:=.string (bytesOf D)) (λ_=>Zi) (λu G' a x=>?_) ?_
 .obtain⟨⟨p,c,B,A⟩,_⟩:=(show D2 (Rp.int .u8) D G'.m (u 11)/\_ from x);simp only[υ,B];exact Y0.kQ underlying32 underlying5 underlying9 A rfl
 refine Ν ?_;refine γ.tp (λU T S R X J P h3 h2 A=>?_);refine WL.zW (show WL _ _ _ _ _ _ (St w0 G0 X.m _)from ?_);refine æ ?_;exact WE.jX rfl rfl rfl
instance nP{S r}:SpcM ((K2 S)) r (Cr 28 #[i' S] (λG=>True) (fX (gb .i64 8) r)):=.mk λhr=>by
 refine Ν ?_;intro w0 G0 u hr _;refine ng (e:=71) (r:=(gb .i64 8)) (vs:=#[(0,.agg (Ô (ζ (ζ (ζ (ζ (ζ (ζ (ζ (ζ (λ_=>0) 0 0) 1 1) 2 2) 3 3) 4 4) 5 5) 6 6) 7 7)).toArray)]) (cs:=(Ô (ζ (ζ (ζ (ζ (ζ (ζ (ζ (ζ (λ_=>0) 0 0) 1 1) 2 2) 3 3) 4 4) 5 5) 6 6) 7 7))++([])) ([ζ (ζ (ζ (ζ (ζ (ζ (ζ (ζ (λ_=>0) 0 0) 1 1) 2 2) 3 3) 4 4) 5 5) 6 6) 7 7]:Ŀ (Fin 8->Int)) z z z z z ĳ (λ_=>İ) ⟨Ô (ζ (ζ (ζ (ζ (ζ (ζ (ζ (ζ (λ_=>0) 0 0) 1 1) 2 2) 3 3) 4 4) 5 5) 6 6) 7 7),[],z,z,z⟩ (key:=999) z (by rw[u];rfl) λp1 ap aY aQ=>Ο z<|o'<|sr<|Ο z<|WC.mC (hH:=by exact aQ) hr [0] [] [] [] (λ(⟨o,f,d,I⟩:(Ŀ (Fin 8->Int))×ŀ Addr×Nat×Int)=>⟨(o,I),[(3,δ f o d),(4,i' I)],λk=>sv k f d o,[]⟩) (λ(⟨U,T,R⟩:(Ŀ (Fin 8->Int))×ŀ Addr×Nat)=>⟨U,[(3,δ T U R)],λak=>sv ak T R U,[]⟩) ⟨[ζ (ζ (ζ (ζ (ζ (ζ (ζ (ζ (λ_=>0) 0 0) 1 1) 2 2) 3 3) 4 4) 5 5) 6 6) 7 7],p1,1,0⟩ ?_
 rintro _ k ⟨o,f,d,I⟩ ag l hr;refine Ν ?_;intro _ p2 am _ aS hr;refine WC.mC (hH:=by exact⟨aS,k8⟩) hr [0,3,4] [] [0,4] [] (λ(⟨n,q,p,s,a⟩:(Ŀ (Fin 8->Int))×ŀ Addr×Nat×ŀ Ow×Int)=>⟨(n,a),[(5,δ q n p),(6,i' a)],λJ=>sv J q p n/\Tok 8 71 (δ q n p) n.length s,[(1005,s)]⟩) (λ(⟨t,B,A,H⟩:(Ŀ (Fin 8->Int))×ŀ Addr×Nat×ŀ Ow)=>⟨t,[(5,δ B t A)],λY=>sv Y B A t/\Tok 8 71 (δ B t A) t.length H,[(1005,H)]⟩) ⟨[],p2,0,none,0⟩ ?_;rintro _ J ⟨n,q,p,s,a⟩ g ⟨aa,O⟩ hr;refine Ν ?_;intro _ hr;refine WC.mC (hH:=by exact⟨aa,O⟩) hr [0,3,4,6] [] [0,3,4,6] [] (λ(⟨c,j,i,h,Q⟩:(Ŀ (Fin 8->Int))×ŀ Addr×Nat×ŀ Ow×Int)=>⟨(c,Q),[(5,δ j c i),(7,i' Q)],λF=>sv F j i c/\Tok 8 71 (δ j c i) c.length h,[(1005,h)]⟩) (λ(⟨y,C,D,E⟩:(Ŀ (Fin 8->Int))×ŀ Addr×Nat×ŀ Ow)=>⟨y,[(5,δ C y D)],λV=>sv V C D y/\Tok 8 71 (δ C y D) y.length E,[(1005,E)]⟩) ⟨n,q,p,s,I⟩ ?_;rintro _ F ⟨c,j,i,h,Q⟩ m ⟨W,M⟩ hr;refine Ν ?_;intro _ x1 _ _ L x2 _ _ hr _;refine WC.mB hr [0,3,4,5,6,7,8] [1005] [0,3,4,5,6,7,8] [1005] (λ(⟨N,P⟩:Int×(Fin 8->Int))=>⟨(N,P),[(9,i' N)],tr,[(8,ö L (Ô P) 71)]⟩) (λ(K:(Fin 8->Int))=>⟨K,[],tr,[(8,ö L (Ô K) 71)]⟩) ⟨Q,ζ x1 I.toNat (Ζ x2 Q)⟩ ?_;intro aq K hr x _;refine Ν ?_;intro _ _ v aR hr;refine oA hr λZ hr=>jU (r:=(gb .i64 8)) 1005 z z MV n0 z ĳ z z (W.mono (mx x v)) z (by rw[u];rfl) M aR Z λp4 aM aG aJ ax aL X=>Ý z<|t'<|E'<|b'<|w'<|ν z<|iV z<|Ý z<|t'<|N' ⟨aJ,(c++[K]),p4,aM,aG,i64.wrap (Q+1)⟩ hr ⟨(mx (mx (mx m x) v) ax),aL,X⟩ (Å z) (w1 z)
instance BZ{h r}:SpcM ((xu h)) r (∀{g f},Cr 293 #[δ g h f] (λG=>su G g f h) (fX (Rp.int .u32) r)):=.mk λhr {g f}=>by
 refine Ν ?_;intro q j _ hr e;refine WC.mB hr [0] [] [0] [] (λ(i:Int)=>⟨i,[(3,i' i)],tr,[]⟩) (λ(o:Int)=>⟨o,[(3,i' o)],tr,[]⟩) (h.length:Int) ?_;intro k o hr l _;refine b'<|sr<|ν z<|ν z<|oA hr λp hr=>WL.qz (r:=(Rp.int .u32)) z z F' tM z (e.mono l) z z p λy v s=>Ο z<|m' ?_
 obtain rfl:_=r:=hr;exact j' z z ⟨_,_,z,s⟩
instance fJ'{c r}:SpcM ((A5 c)) r (Cr 236 #[.int .u64 c] (λG=>True) (fX (Rp.int .u32) r)):=.mk λhr=>by
 refine J' (args:=[_]) (N:=11) func236 z z z λv t i o=>sr<|Ý z<|nr<|ν z<|Γ (xX z z ĳ)<|Γ (pK tK uw z)<|ν z<|Γ (Wm z z ĳ)<|Γ (pK tK uw z)<|ng (e:=248) (r:=(Rp.int .u32)) (vs:=#[(0,.int .u32 (u32.wrap (Int.tmod c 4294967296))),(1,.int .u32 (u32.wrap (u64.wrap (Int.tdiv c 4294967296))))]) (cs:=[.int .u32 (u32.wrap (Int.tmod c 4294967296))]++([.int .u32 (u32.wrap (u64.wrap (Int.tdiv c 4294967296)))]++([]))) ([u32.wrap (Int.tmod c 4294967296),u32.wrap (u64.wrap (Int.tdiv c 4294967296))]:Ŀ Int) z z z z z ĳ (λ_=>İ) ⟨[.int .u32 (u32.wrap (Int.tmod c 4294967296))],[.int .u32 (u32.wrap (u64.wrap (Int.tdiv c 4294967296)))]++([]),z,z,⟨[.int .u32 (u32.wrap (u64.wrap (Int.tdiv c 4294967296)))],[],z,z,z⟩⟩ (key:=999) z (by rw[i];rfl) (λu p k h=>?_)
 refine oE hr λq g hr=>gW z z (x' rO z) (BZ.h g) z (h) (λl s j d=>?_);obtain⟨n,m,rfl,f⟩:=d;refine Ο z<|m' ?_
 obtain rfl:_=r:=hr;exact j' z z ⟨_,_,z,f⟩
instance dB'{h m r}:SpcM ((rZ h m)) r (∀{k j},Cr 235 #[.bool h,δ k m j] (λG=>su G k j m) (Î r)):=.mk λhr {k j}=>Η
instance eO'{u r}:SpcM ((ur u)) r (Cr 160 #[i' u] (λG=>True) (Î r)):=.mk λhr=>Η
instance ga'{f r}:SpcM ((Bi f)) r (∀{d c},Cr 264 #[.agg ((η f d c)).toArray] (λG=>su G d c f.χ) (λG v=>v=i' r)):=.mk λhr {d c}=>Η
instance ey'{g i r}:SpcM ((zd g i)) r (∀{e d},Cr 328 #[δ e g d,i' i] (λG=>su G e d g) (λG v=>v=.int .u64 r)):=.mk λhr {e d}=>Η
instance gR'{g r}:SpcM ((Ks g)) r (∀{e d},Cr 338 #[δ e g d] (λG=>su G e d g) (λG v=>v=.int .u64 r)):=.mk λhr {e d}=>Η
instance iC'{j i r}:SpcM ((RR j i)) r (Cr 337 #[.int .u64 j,.int .u64 i] (λG=>True) (λG v=>v=.int .u64 r)):=.mk λhr=>by refine Ν ?_;intro m h _ hr _;refine WC.mA hr [] [] [] [] (λ(⟨g,e⟩:Int×Int)=>⟨(g,e),[(0,.int .u64 g),(1,.int .u64 e)],tr,[]⟩) (λ(k:Int)=>⟨k,[(0,.int .u64 k)],tr,[]⟩) ⟨j,i⟩
instance cQ'{m o r}:SpcM ((Z5 m o)) r (∀{j n h l},Cr 307 #[δ j m n,δ h o l] (λG=>su G j n m/\su G h l o) (λG v=>v=i' r)):=.mk λhr {j n h l}=>by refine Ν ?_;intro D i _ _ _ _ _ hr _;refine WC.mA hr [0,1] [] [] [] (λ(p:Int)=>⟨p,[(5,i' p)],tr,[]⟩) (λ(_:Unit)=>⟨(.inr ()),[],tr,[]⟩) (i64.wrap ((m.length:Int)-1))
instance iq'{c m r}:SpcM ((Rg c m)) r (∀{B C},Cr 333 #[δ B c C,.int .u64 m] (λG=>su G B C c) (λG v=>∃A x,v=.tuple #[δ A r.1 x,.int .u64 r.2]/\su G A x r.1)):=.mk λhr {B C}=>by
 refine Ν ?_;intro U u _ V E L W hr _;refine WC.mB hr [0,1,6] [] [6] [] (λ(⟨h,d,f,t⟩:(Ŀ Int)×ŀ Ow×Int×Int)=>⟨(h,f,t),[(7,.int .u64 f),(8,i' t)],λk=>Δ (Rp.int .u32) 248 k (.slice E (c.length:Int).toNat ((c.length:Int).toNat)) h d,[(4012,d)]⟩) (λ(⟨o,j,y⟩:(Ŀ Int)×ŀ Ow×Int)=>⟨(o,y),[(7,.int .u64 y)],λq=>Δ (Rp.int .u32) 248 q (.slice E (c.length:Int).toNat ((c.length:Int).toNat)) o j,[(4012,j)]⟩) ⟨(List.replicate (c.length:Int).toNat 0),L,0,i64.wrap ((c.length:Int)-1)⟩ ?_;rintro q ⟨o,j,y⟩ hr Z F;refine b'<|sr<|ν z<|pX (r:=(Rp.int .u32)) (e:=248) 4012 F z (by rw[V];rfl) (λH p i D a=>?_)
 refine oE hr λI O hr=>gW z z (x' rO z) (BZ.h O) (by rw[qU D]) ((rG D)) (λl J g s=>?_);obtain⟨af,n,rfl,K⟩:=s;refine ν z<|Ý z<|Ο z<|m' ?_
 obtain rfl:_=r:=hr;exact ux z z z ⟨_,_,z,K⟩
instance iL'{d c r}:SpcM ((SE d c)) r (∀{t o s u},Cr 309 #[δ t d o,δ s c u] (λG=>su G t o d/\su G s u c) (fX (Rp.int .u32) r)):=.mk λhr {t o s u}=>by
 refine Ν ?_;intro W L _ P _ _ J af an hr _;refine WC.mD hr [0,1,5] [] [5] [] (λ(⟨E,k,h⟩:(Ŀ Int)×ŀ Ow×Int)=>⟨(E,h),[(6,i' h)],λy=>Δ (Rp.int .u32) 248 y (.slice J (i64.wrap ((d.length:Int)+(c.length:Int))).toNat ((i64.wrap ((d.length:Int)+(c.length:Int))).toNat)) E k,[(4015,k)]⟩) (λ(⟨K,D⟩:(Ŀ Int)×ŀ Ow)=>⟨K,[],λQ=>Δ (Rp.int .u32) 248 Q (.slice J (i64.wrap ((d.length:Int)+(c.length:Int))).toNat ((i64.wrap ((d.length:Int)+(c.length:Int))).toNat)) K D,[(4015,D)]⟩) ⟨(List.replicate (i64.wrap ((d.length:Int)+(c.length:Int))).toNat 0),af,0⟩ ?_ ?_
 .rintro _ y ⟨E,k,h⟩ g O hr;refine Ν ?_;intro _ hr;refine WC.mC hr [0,1,5,6] [] [0,1,5,6] [] (λ(⟨B,q,l,x⟩:(Ŀ Int)×ŀ Ow×Int×Int)=>⟨(B,l,x),[(7,.int .u64 l),(8,i' x)],λF=>Δ (Rp.int .u32) 248 F (.slice J (i64.wrap ((d.length:Int)+(c.length:Int))).toNat ((i64.wrap ((d.length:Int)+(c.length:Int))).toNat)) B q,[(4015,q)]⟩) (λ(⟨H,C,v⟩:(Ŀ Int)×ŀ Ow×Int)=>⟨(H,v),[(7,.int .u64 v)],λI=>Δ (Rp.int .u32) 248 I (.slice J (i64.wrap ((d.length:Int)+(c.length:Int))).toNat ((i64.wrap ((d.length:Int)+(c.length:Int))).toNat)) H C,[(4015,C)]⟩) ⟨E,k,0,0⟩ ?_;rintro _ F ⟨B,q,l,x⟩ j m hr;refine o' ?_;refine æ ?_;intro hr;refine I' hr z (λN hr=>?_) (λN hr=>?_)
  .refine q'<|b'<|o'<|Y'<|o'<|fE [ff,ff,ff,ff,ff,ff,ff,ff,ff,ff,ff,ff,ff,ff,ff,ff,ff,ff,ff,ff] eJ İ λX=>fR z<|fR z ?_
   refine æ ?_;intro Y _ _ U _ hr _;exact oE hr λT a hr=>cn (λ_ f=>pP F' tM (m.mono f) z z a)<|cn (λ_ f=>Y0.loadT V8 (m.mono f) (key:=4015) z z (zD (ox m a)))<|cn (λ_ f=>pK uw tK z)<|cn (λ_ f=>V' z z)<|fR z<|oM X<|iV z<|Ý z<|t'<|Θ<|b'<|sr<|ν z<|ν z<|ν z<|iV z<|ν z<|Γ (xX z z ĳ)<|Γ (pK tK uw z)<|oE hr λx5 n hr=>Γ (pP F' tM m z z n)<|zM (r:=(Rp.int .u32)) (e:=248) (cs':=[.int .u32 (u32.wrap (Int.tmod (u64.wrap ((u64.wrap ((u64.wrap ((u64.wrap Y)*(u64.wrap U)))+(u64.wrap T)))+l)) 4294967296))]) (i:=i64.wrap (h+x)) (z':=u32.wrap (Int.tmod (u64.wrap ((u64.wrap ((u64.wrap ((u64.wrap Y)*(u64.wrap U)))+(u64.wrap T)))+l)) 4294967296)) 4015 z tM z m z z z z z n λao ah=>nx<|w'<|ν z<|Γ (Wm z z ĳ)<|Η
  exact Η
 rintro Q ⟨K,D⟩ hr ar V;refine b'<|sr<|ν z<|pX (r:=(Rp.int .u32)) (e:=248) 4015 V z (by rw[P];rfl) (λaC aB aw S au=>?_)
 refine oE hr λaD A hr=>gW z z (x' rO z) (BZ.h A) (by rw[qU S]) ((rG S)) (λay aE av R=>?_);obtain⟨Z,az,rfl,p⟩:=R;refine Ο z<|m' ?_
 obtain rfl:_=r:=hr;exact j' z z ⟨_,_,z,p⟩
instance gK'{e f r}:SpcM ((Kb e f)) r (∀{i g h j},Cr 317 #[δ i e g,δ h f j] (λG=>su G i g e/\su G h j f) (λG v=>∃o n m q,v=.tuple #[δ o r.1 n,δ m r.2 q]/\su G o n r.1/\su G m q r.2)):=.mk λhr {i g h j}=>Η
instance iD'{I H r}:SpcM ((RQ I H)) r (∀{C F x E},Cr 318 #[δ C I F,δ x H E] (λG=>su G C F I/\su G x E H) (fX (Rp.int .u32) r)):=.mk λhr {C F x E}=>by refine Ν ?_;intro Q s _ _ T hr a;refine WC.mA hr [] [] [] [] (λ(⟨l,g,i,j,k,f⟩:(Ŀ Int)×ŀ Addr×Nat×(Ŀ Int)×ŀ Addr×Nat)=>⟨(l,j),[(0,δ g l i),(1,δ k j f)],λd=>su d g i l/\su d k f j,[]⟩) (λ(⟨J,A,u⟩:(Ŀ Int)×ŀ Addr×Nat)=>⟨(.inr J),[(0,δ A J u)],λo=>su o A u J,[]⟩) ⟨I,C,F,H,x,E⟩
instance gu'{q n r}:SpcM ((xJ q n)) r (∀{f d e c},Cr 279 #[.agg ((η q f d)).toArray,.agg ((η n e c)).toArray] (λG=>su G f d q.χ/\su G e c n.χ) (Î r)):=.mk λhr {f d e c}=>Η
instance Wx{C y r}:SpcM ((yV C y)) r (∀{e c d f},Cr 278 #[.agg ((η C e c)).toArray,.agg ((η y d f)).toArray] (λG=>su G e c C.χ/\su G d f y.χ) (λG v=>∃j k g l,v=.tuple #[.agg ((η r.1 j k)).toArray,.agg ((η r.2.1 g l)).toArray,i' r.2.2]/\su G j k r.1.χ/\su G g l r.2.1.χ)):=.mk λhr {e c d f}=>Η
instance lA{t q r}:SpcM ((Le t q)) r (∀{d c g f},Cr 305 #[.agg ((η t d c)).toArray,.agg ((η q g f)).toArray] (λG=>su G d c t.χ/\su G g f q.χ) (Î r)):=.mk λhr {d c g f}=>Η
instance WV{j r}:SpcM ((Mf j)) r (∀{d c},Cr 304 #[.agg ((η j d c)).toArray] (λG=>su G d c j.χ) (Î r)):=.mk λhr {d c}=>Η
instance fp'{T R r}:SpcM ((AP T R)) r (∀{o l p n},Cr 261 #[.agg ((η T o l)).toArray,.agg ((η R p n)).toArray] (λG=>su G o l T.χ/\su G p n R.χ) (eA r)):=.mk λhr {o l p n}=>Η
instance ie'{u s r}:SpcM ((Gl u s)) r (∀{h e j f},Cr 280 #[.agg ((η u h e)).toArray,.agg ((η s j f)).toArray] (λG=>su G h e u.χ/\su G j f s.χ) (iE r)):=.mk λhr {h e j f}=>Η
instance eT'{h r}:SpcM ((oI h)) r (∀{d c f e},Cr 206 #[.agg ((Τ h d c f e)).toArray] (λG=>su G d c h.num.χ/\su G f e h.den.χ) (λG v=>v=i' r)):=.mk λhr {d c f e}=>Η
instance zS{j r}:SpcM ((FM j)) r (Cr 232 #[.agg (Ô j).toArray] (λG=>True) (λG v=>v=.bool r)):=.mk λhr=>by refine Ν ?_;intro m e _ k hr _;refine WC.mA hr [1] [1] [] [] (λ(g:Int)=>⟨g,[(3,i' g)],tr,[]⟩) (λ(_:Unit)=>⟨(.inr ()),[],tr,[]⟩) 0
instance je'{q k r}:SpcM ((Mh q k)) r (Cr 265 #[.agg (Ô q).toArray,.agg (Ô k).toArray] (λG=>True) (λG v=>v=.tuple #[.agg (Ô r.1).toArray,i' r.2])):=.mk λhr=>by refine Ν ?_;intro A l _ m t n hr _;refine WC.mA hr [2,3,4] [3,4] [2,4] [4] (λ(⟨d,c⟩:Int×(Fin 8->Int))=>⟨(d,c),[(6,i' d)],tr,[(2,ö m (Ô c) 145)]⟩) (λ(e:(Fin 8->Int))=>⟨e,[],tr,[(2,ö m (Ô e) 145)]⟩) ⟨0,q⟩
instance M3{A t r}:SpcM ((rk A t)) r (∀{j f g e},Cr 263 #[.agg ((η A j f)).toArray,.agg ((η t g e)).toArray] (λG=>su G j f A.χ/\su G g e t.χ) (Î r)):=.mk λhr {j f g e}=>Η
instance Wu{q p r}:SpcM ((rl q p)) r (∀{m g k j l e c f},Cr 266 #[.agg ((Τ q m g k j)).toArray,.agg ((Τ p l e c f)).toArray] (λG=>su G m g q.num.χ/\su G k j q.den.χ/\su G l e p.num.χ/\su G c f p.den.χ) (eA r)):=.mk λhr {m g k j l e c f}=>Η
instance Nj{Z f p1 r}:SpcM ((FN Z f p1)) r (∀{s t q A c d},Cr 207 #[.agg ((Τ Z s t q A)).toArray,.agg (Ô f).toArray,δ c p1 d] (λG=>su G s t Z.num.χ/\su G q A Z.den.χ/\sl c' G c d p1) (iF c' r)):=.mk λhr {s t q A c d}=>by
 refine Ν ?_;intro w0 G0 _ Y _ _ _ _ P Q p2 N _ j _ _ hr _;refine WC.mC (hH:=by exact⟨j,k8⟩) hr [2,3,4] [3,4] [] [] (λ(⟨y,D,C,E,a⟩:(Ŀ Za)×ŀ Addr×Nat×ŀ Ow×Int)=>⟨(y,a),[(8,δ D y C),(9,i' a)],λM=>sl c' M D C y/\Tok 12 147 (δ D y C) y.length E,[(1008,E)]⟩) (λ(⟨F,K,J,L⟩:(Ŀ Za)×ŀ Addr×Nat×ŀ Ow)=>⟨(.inr F),[(8,δ K F J)],λV=>sl c' V K J F/\Tok 12 147 (δ K F J) F.length L,[(1008,L)]⟩) ⟨[],p2,0,none,0⟩ ?_;rintro _ M ⟨y,D,C,E,a⟩ m ⟨S,O⟩ hr;refine o' ?_;refine æ ?_;intro hr;refine I' hr z (λh hr=>?_) (λh hr=>?_)
 .refine q'<|b'<|o'<|Y'<|o'<|fE [ff,ff,ff,ff,ff,ff,ff,ff,ff,tt,ff] eJ İ λe=>cn (λ_ k=>y' 4 GO z z (U' _ _ _))<|fR z ?_
  refine æ ?_;intro _ _ _ _ _ _ _ _ _ _ _ _ _ _ _ B hr _;refine kI (λ_=>z) z145<|γ.DH e λR=>?_
  refine æ ?_;intro hr;refine o'<|sr<|ν z<|Γ (pO z z)<|nx<|I' hr z (λn hr=>?_) (λn hr=>?_)
  .exact Η
  refine q'<|b'<|fE [tt,ff,ff,ff,ff,ff,ff,ff,ff] eJ İ λe=>uA z (k' z) ?_
  refine æ ?_;intro _ _ _ _ _ _ _ _ _ _ _ _ _ _ _ l _ U _ _ _ _ _ _ _ _ T i hr _;refine oA hr λx hr=>jU (r:=c') 1008 z z Q' lb z ĳ z z (S.mono (mx U T)) z (by rw[Y];rfl) O i x λp4 g H p u I v=>Ý z<|t'<|Θ<|E'<|b'<|w'<|ν z<|iV z<|Ý z<|t'<|N' ⟨p,(y++[(Za.mk l B.1)]),p4,g,H,i64.wrap (a+1)⟩ hr ⟨(mx (mx (mx m U) T) u),I,v⟩ (Å z) (w3 z z z)
 exact Η
instance if'{m r}:SpcM ((Gk m)) r (∀{g f e c},Cr 281 #[.agg ((Τ m g f e c)).toArray] (λG=>su G g f m.num.χ/\su G e c m.den.χ) (eA r)):=.mk λhr {g f e c}=>Η
instance gT'{Z r}:SpcM ((Fk Z)) r (∀{R aa},Cr 214 #[δ R Z aa] (λG=>sl c' G R aa Z) (fX c' r)):=.mk λhr {R aa}=>by
 refine Ν ?_;intro w0 G0 x _ _ c9 _ _ A bH bx bz bT bW y aq au bE b1 b2 hr _;refine WC.mD hr [0,3,4] [4] [0,3,4] [4] (λ(⟨aR,a5,am,ai⟩:Int×Zg×ŀ Addr×Nat)=>⟨(aR,a5),[(5,i' aR)],λa0=>su a0 am ai a5.χ,[(3,ö b1 (η a5 am ai) 118)]⟩) (λ(⟨aL,O,P⟩:Zg×ŀ Addr×Nat)=>⟨aL,[],λaD=>su aD O P aL.χ,[(3,ö b1 (η aL O P) 118)]⟩) ⟨0,c9,bH,bx⟩ ?_ ?_
 .rintro _ a0 ⟨aR,a5,am,ai⟩ S ar hr;refine o' ?_;refine æ ?_;intro hr;refine I' hr z (λcZ hr=>?_) (λcZ hr=>?_)
  .refine q'<|b'<|o'<|Y'<|o'<|fE [ff,ff,ff,ff,ff,ff,ff,ff,ff,ff,ff,ff,ff,ff,ff,ff,ff,tt,tt,ff,ff] eJ İ λhb=>fR z<|fR z ?_
   refine æ ?_;intro _ _ cj _ _ _ _ _ _ _ _ _ _ _ hr _;obtain⟨db,cK,cX,b8⟩:=G7 (T' (xS (nY (sj (nY (iI x cj))))) (mx (mx A y) S));refine cn (λ_ g=>mW _ mS z z (λj v N=>g _ _ _ (cX j v N))) ?_;refine æ ?_;intro _ _ cl _ _ _ _ _ _ _ _ _ _ _ hr _;obtain⟨c4,cO,cV,bM⟩:=G7 (T' (xS (nY (sj (nY (iI x cl))))) (mx (mx A y) S));refine cn (λ_ g=>mW _ mS z z (λj v N=>g _ _ _ (cV j v N))) ?_;refine æ ?_;intro bS hr _;refine oE hr λi cg hr=>mw (f:=278) (φ:=λG v=>∃l n o m,v=.tuple #[.agg ((η i.1 l n)).toArray,.agg ((η i.2.1 o m)).toArray,i' i.2.2]/\su G l n i.1.χ/\su G o m i.2.1.χ) (λ_=>z) (λv d e g h=>?_) (λu M g a=>?_) ?_
   .obtain⟨l,n,o,m,rfl,F,H⟩:=h;exact⟨_,_,_,_,z,F.mono g,H.mono g⟩
   .obtain⟨⟨ax,aB,bP,Y⟩,_⟩:=(show(Î bS) M.m (u 43)/\True from a);exact⟨_,_,_,λ_=>x' Ai z,Wx.h cg,(by simp only[bP]<;>rfl),⟨(b8.mono g),Y⟩⟩
   refine jN (φ:=λG v=>∃p6 B p7 E,v=.tuple #[.agg ((η i.1 p6 B)).toArray,.agg ((η i.2.1 p7 E)).toArray,i' i.2.2]/\su G p6 B i.1.χ/\su G p7 E i.2.1.χ) (λ_=>z) (λv d e g h=>?_) (λu M g a=>?_) ?_
   .obtain⟨p6,B,p7,E,rfl,X,aH⟩:=h;exact⟨_,_,_,_,z,X.mono g,aH.mono g⟩
   .obtain⟨⟨l,n,o,m,bU,F,H⟩,_,_⟩:=(show(λG v=>∃l n o m,v=.tuple #[.agg ((η i.1 l n)).toArray,.agg ((η i.2.1 o m)).toArray,i' i.2.2]/\su G l n i.1.χ/\su G o m i.2.1.χ) M.m (u 44)/\True/\True from a);simp only[υ,bU];exact⟨_,k' z,l,n,o,m,z,F,H⟩
   refine jN (φ:=Î i.1) (λ_=>z) (λv d e g h=>?_) (λu M g a=>?_) ?_
   .obtain⟨p8,dg,rfl,bL⟩:=h;exact⟨_,_,z,bL.mono g⟩
   .obtain⟨⟨p6,B,p7,E,Q,X,aH⟩,_,_,_⟩:=(show(λG v=>∃p6 B p7 E,v=.tuple #[.agg ((η i.1 p6 B)).toArray,.agg ((η i.2.1 p7 E)).toArray,i' i.2.2]/\su G p6 B i.1.χ/\su G p7 E i.2.1.χ) M.m (u 29)/\True/\True/\True from a);simp only[υ,Q];exact⟨_,O' z z,p6,B,z,X⟩
   refine γ.nu (kk:=29) (φ:=Î i.2.1) İ (λ_=>z) (λv d e g h=>?_) (λu M g a=>?_) ?_
   .obtain⟨p9,cY,rfl,ck⟩:=h;exact⟨_,_,z,ck.mono g⟩
   .obtain⟨_,⟨p6,B,p7,E,Q,X,aH⟩,_,_,_⟩:=(show True/\(λG v=>∃p6 B p7 E,v=.tuple #[.agg ((η i.1 p6 B)).toArray,.agg ((η i.2.1 p7 E)).toArray,i' i.2.2]/\su G p6 B i.1.χ/\su G p7 E i.2.1.χ) M.m (u 29)/\True/\True/\True from a);exact⟨_,_,Q,(by simp only[υ,Q]<;>rfl),z,p7,E,z,aH⟩
   refine mz (c:=i' i.2.2) (λ_=>z) (λu M g a=>?_) ?_
   .obtain⟨_,_,⟨p6,B,p7,E,Q,X,aH⟩,_,_,_⟩:=(show True/\True/\(λG v=>∃p6 B p7 E,v=.tuple #[.agg ((η i.1 p6 B)).toArray,.agg ((η i.2.1 p7 E)).toArray,i' i.2.2]/\su G p6 B i.1.χ/\su G p7 E i.2.1.χ) M.m (u 29)/\True/\True/\True from a);simp only[υ,Q];exact O' z z
   refine kI (λ_=>z) vS<|kI (λ_=>z) vS<|γ.yC (λdO dL ds dr dp dl dq X2 bY bR ay bb bk bo bn bl=>?_)
   obtain⟨p9,cY,rfl,ck⟩:=bb;obtain⟨p8,dg,rfl,bL⟩:=bk;obtain⟨p6,B,p7,E,rfl,X,aH⟩:=bo;obtain⟨l,n,o,m,rfl,F,H⟩:=bn;obtain⟨ax,aB,rfl,Y⟩:=bl;refine vZ bR (λb7 cL cW=>?_);subst cL;replace ay:=Ca ay ĳ cW;refine vZ ay (λb6 c5 dP=>?_);subst c5;refine mg (show WL _ _ _ _ _ _ (St w0 G0 X2.m _)from ?_);refine fZ 6 vM z<|fZ 7 vM z<|Ý z<|t'<|Θ<|b'<|w'<|Γ (y' 3 mS z z z)<|Γ (y' 6 mS z z z)<|oE hr λcD cc hr=>gW z z (x' wQ z) (M3.h cc) z (⟨(ar.mono bY),bL⟩) (λdj cy bO be=>?_)
   obtain⟨bj,bh,rfl,bg⟩:=be;exact fZ 3 vM z<|Η
  exact Η
 rintro aD ⟨aL,O,P⟩ hr I aI;refine b'<|o'<|sr<|Ο z<|WC.mD hr [0,3,4] [3] [0,3,4] [3] (λ(⟨aO,a6,aj,al⟩:Int×Zg×ŀ Addr×Nat)=>⟨(aO,a6),[(9,i' aO)],λa3=>su a3 aj al a6.χ,[(4,ö b2 (η a6 aj al) 118)]⟩) (λ(⟨bv,ap,ao⟩:Zg×ŀ Addr×Nat)=>⟨bv,[],λbw=>su bw ap ao bv.χ,[(4,ö b2 (η bv ap ao) 118)]⟩) ⟨0,bT,aq,au⟩ ?_ ?_
 .rintro _ a3 ⟨aO,a6,aj,al⟩ L aG hr;refine o' ?_;refine æ ?_;intro hr;refine I' hr z (λc6 hr=>?_) (λc6 hr=>?_)
  .refine q'<|b'<|o'<|Y'<|o'<|fE [ff,ff,ff,ff,ff,ff,ff,ff,ff,ff,tt,tt,ff,ff] eJ İ λhb=>cn (λ_ g=>y' 3 mS z z z)<|fR z ?_
   refine æ ?_;intro _ _ ci _ _ _ _ _ _ _ _ _ _ _ hr _;obtain⟨c0,de,cH,bX⟩:=G7 (T' (xS (nY (sj (nY (iI x ci))))) (mx (mx (mx A y) I) L));refine cn (λ_ g=>mW _ mS z z (λj v N=>g _ _ _ (cH j v N)))<|oE hr λk cF hr=>pJ (post:=λG v=>∃p s t q,v=.tuple #[.agg ((η k.1 p s)).toArray,.agg ((η k.2.1 t q)).toArray,i' k.2.2]/\su G p s k.1.χ/\su G t q k.2.1.χ) (λ_=>z) (λ_ _=>x' Ai z) (Wx.h cF) z (λM g=>⟨((aI.mono L).mono g),(bX.mono g)⟩) (λv d e g h=>?_) ?_
   .obtain⟨p,s,t,q,rfl,K,J⟩:=h;exact⟨_,_,_,_,z,K.mono g,J.mono g⟩
   refine jN (φ:=λG v=>∃p2 D p3 C,v=.tuple #[.agg ((η k.1 p2 D)).toArray,.agg ((η k.2.1 p3 C)).toArray,i' k.2.2]/\su G p2 D k.1.χ/\su G p3 C k.2.1.χ) (λ_=>z) (λv d e g h=>?_) (λu M g a=>?_) ?_
   .obtain⟨p2,D,p3,C,rfl,aK,aJ⟩:=h;exact⟨_,_,_,_,z,aK.mono g,aJ.mono g⟩
   .obtain⟨⟨p,s,t,q,b9,K,J⟩,_⟩:=(show(λG v=>∃p s t q,v=.tuple #[.agg ((η k.1 p s)).toArray,.agg ((η k.2.1 t q)).toArray,i' k.2.2]/\su G p s k.1.χ/\su G t q k.2.1.χ) M.m (u 65)/\True from a);simp only[υ,b9];exact⟨_,k' z,p,s,t,q,z,K,J⟩
   refine jN (φ:=Î k.1) (λ_=>z) (λv d e g h=>?_) (λu M g a=>?_) ?_
   .obtain⟨p4,cS,rfl,bQ⟩:=h;exact⟨_,_,z,bQ.mono g⟩
   .obtain⟨⟨p2,D,p3,C,ak,aK,aJ⟩,_,_⟩:=(show(λG v=>∃p2 D p3 C,v=.tuple #[.agg ((η k.1 p2 D)).toArray,.agg ((η k.2.1 p3 C)).toArray,i' k.2.2]/\su G p2 D k.1.χ/\su G p3 C k.2.1.χ) M.m (u 57)/\True/\True from a);simp only[υ,ak];exact⟨_,O' z z,p2,D,z,aK⟩
   refine γ.nu (kk:=57) (φ:=Î k.2.1) İ (λ_=>z) (λv d e g h=>?_) (λu M g a=>?_) ?_
   .obtain⟨p5,cM,rfl,cu⟩:=h;exact⟨_,_,z,cu.mono g⟩
   .obtain⟨_,⟨p2,D,p3,C,ak,aK,aJ⟩,_,_⟩:=(show True/\(λG v=>∃p2 D p3 C,v=.tuple #[.agg ((η k.1 p2 D)).toArray,.agg ((η k.2.1 p3 C)).toArray,i' k.2.2]/\su G p2 D k.1.χ/\su G p3 C k.2.1.χ) M.m (u 57)/\True/\True from a);exact⟨_,_,ak,(by simp only[υ,ak]<;>rfl),z,p3,C,z,aJ⟩
   refine mz (c:=i' k.2.2) (λ_=>z) (λu M g a=>?_) ?_
   .obtain⟨_,_,⟨p2,D,p3,C,ak,aK,aJ⟩,_,_⟩:=(show True/\True/\(λG v=>∃p2 D p3 C,v=.tuple #[.agg ((η k.1 p2 D)).toArray,.agg ((η k.2.1 p3 C)).toArray,i' k.2.2]/\su G p2 D k.1.χ/\su G p3 C k.2.1.χ) M.m (u 57)/\True/\True from a);simp only[υ,ak];exact O' z z
   refine kI (λ_=>z) vS<|kI (λ_=>z) vS<|γ.nG (λdS dT dm dG dv dC X1 aU b0 aA ba bF bD bK=>?_)
   obtain⟨p5,cM,rfl,cu⟩:=ba;obtain⟨p4,cS,rfl,bQ⟩:=bF;obtain⟨p2,D,p3,C,rfl,aK,aJ⟩:=bD;obtain⟨p,s,t,q,rfl,K,J⟩:=bK;refine vZ b0 (λb5 cU dc=>?_);subst cU;replace aA:=Ca aA ĳ dc;refine vZ aA (λb4 dh dJ=>?_);subst dh;refine mg (show WL _ _ _ _ _ _ (St w0 G0 X1.m _)from ?_);refine fZ 10 vM z<|fZ 11 vM z<|Ý z<|t'<|Θ<|b'<|fE [ff,ff,ff,ff,ff,ff,ff,ff,ff] eJ İ λhb=>?_
   refine æ ?_;intro _ _ co _ _ _ _ _ _ _ _ _ _ _ hr _;obtain⟨c8,dd,cT,bV⟩:=G7 (T' (sj (nY (sj (nY (iI x co))))) (mx (mx (mx (mx A y) I) L) aU));refine cn (λ_ g=>mW _ mS z z (λj v N=>g _ _ _ (cT j v N)))<|cn (λ_ g=>y' 10 mS z z z)<|oE hr λbZ ce hr=>pJ (post:=Î bZ) (λ_=>z) (λ_ _=>x' wQ z) (M3.h ce) z (λM g=>⟨(bV.mono g),(bQ.mono g)⟩) (λv d e g h=>?_) ?_
   .obtain⟨bq,bt,rfl,an⟩:=h;exact⟨_,_,z,an.mono g⟩
   exact Η
  exact Η
 rintro bw ⟨bv,ap,ao⟩ hr av bG;refine b'<|sr<|Γ (y' 3 mS z z z)<|Γ (y' 4 mS z z z)<|oE hr λc2 cE hr=>gW z z (x' IY z) (ie'.h cE) z (⟨(aI.mono av),bG⟩) (λdx cm aX bI=>?_)
 obtain⟨aE,az,aw,aC,rfl,ad,ah⟩:=bI;refine ν z<|lS z<|lS z<|W' 13 z rF z λb3=>fZ 13 kg z<|Ο z<|WC.nA hr [0,13] [] (λ(⟨a8,W,T,U,V⟩:Zf×ŀ Addr×Nat×ŀ Addr×Nat)=>⟨[],JT Z a8,λa2=>su a2 W T a8.num.χ/\su a2 U V a8.den.χ,[(13,ö b3 (Τ a8 W T U V) 120)]⟩)
instance iE'{i r}:SpcM ((Kt i)) r (Cr 230 #[.agg (Ô i).toArray] (λG=>True) (λG v=>v=i' r)):=.mk λhr=>by refine Ν ?_;intro m h _ l hr _;refine WC.mA hr [1] [1] [] [] (λ(⟨f,e⟩:Int×Int)=>⟨(f,e),[(3,i' f),(4,i' e)],tr,[]⟩) (λ(k:Int)=>⟨k,[(3,i' k)],tr,[]⟩) ⟨0,0⟩
instance eP'{k r}:SpcM ((xg k)) r (∀{h g},Cr 153 #[δ h k g] (λG=>sl c' G h g k) (λG v=>v=i' r)):=.mk λhr {h g}=>by refine Ν ?_;intro s f _ hr _;refine WC.mA hr [0] [] [] [] (λ(⟨e,l⟩:Int×Int)=>⟨(e,l),[(3,i' e),(4,i' l)],tr,[]⟩) (λ(o:Int)=>⟨o,[(3,i' o)],tr,[]⟩) ⟨(-1),0⟩
instance hB'{p n r}:SpcM ((LC p n)) r (∀{j g h f},Cr 218 #[.agg ((η p j g)).toArray,.agg ((η n h f)).toArray] (λG=>su G j g p.χ/\su G h f n.χ) (λG v=>v=.bool r)):=.mk λhr {j g h f}=>by refine Ν ?_;intro y l _ _ _ A u _ _ hr _;refine WC.mA hr [2,3] [2,3] [] [] (λ(o:Int)=>⟨o,[(5,i' o)],tr,[]⟩) (λ(_:Unit)=>⟨(.inr ()),[],tr,[]⟩) 0
instance hC'{l k r}:SpcM ((Bj l k)) r (∀{j f h g i d c e},Cr 140 #[.agg ((Τ l j f h g)).toArray,.agg ((Τ k i d c e)).toArray] (λG=>su G j f l.num.χ/\su G h g l.den.χ/\su G i d k.num.χ/\su G c e k.den.χ) (λG v=>v=.bool r)):=.mk λhr {j f h g i d c e}=>Η
instance hU'{l k r}:SpcM ((EF l k)) r (∀{j h g f i d c e},Cr 79 #[.agg (((Τ l.c j h g f):Ŀ Value)++(Ô l.m)).toArray,.agg (((Τ k.c i d c e):Ŀ Value)++(Ô k.m)).toArray] (λG=>su G j h l.c.num.χ/\su G g f l.c.den.χ/\su G i d k.c.num.χ/\su G c e k.c.den.χ) (λG v=>v=.bool r)):=.mk λhr {j h g f i d c e}=>Η
instance eU'{C x r}:SpcM ((ub C x)) r (∀{p o s m},Cr 33 #[δ p C o,δ s x m] (λG=>sl c' G p o C/\sl c' G s m x) (λG v=>v=.bool r)):=.mk λhr {p o s m}=>by refine Ν ?_;intro R l _ _ _ _ hr _;refine WC.mA hr [0,1] [] [] [] (λ(H:Int)=>⟨H,[(5,i' H)],tr,[]⟩) (λ(_:Unit)=>⟨(.inr ()),[],tr,[]⟩) 0
instance fQ'{o m r}:SpcM ((xK o m)) r (Cr 204 #[.agg (Ô o).toArray,.agg (Ô m).toArray] (λG=>True) (λG v=>v=i' r)):=.mk λhr=>by refine Ν ?_;intro s f _ t p hr _;refine WC.mA hr [2,3] [2,3] [] [] (λ(h:Int)=>⟨h,[(5,i' h)],tr,[]⟩) (λ(_:Unit)=>⟨(.inr ()),[],tr,[]⟩) 0
instance ig'{q k r}:SpcM ((Me q k)) r (∀{h f g e},Cr 289 #[.agg ((η q h f)).toArray,.agg ((η k g e)).toArray] (λG=>su G h f q.χ/\su G g e k.χ) (λG v=>v=i' r)):=.mk λhr {h f g e}=>by
 refine æ ?_;intro _ _ _ _ _ _ _ hr _;refine o'<|sr<|Γ (BJ z)<|eb hr z (nL (n' 2 uY z z z) (đ Value.bool (ow _))) z (λE hr=>?_) (λE hr=>?_)
 .refine ν z<|gy z z (BJ z) z<|gy z z (n' 3 uY z z z) z<|gy z z (kO z) z<|Ι z<|nx<|ke hr z (λx hr=>?_) (λx hr=>?_)
  .exact Η
  refine q'<|b'<|o'<|sr<|Γ (BJ z)<|eb hr z (nL (n' 2 uY z z z) (đ Value.bool (ow _))) z (λC hr=>?_) (λC hr=>?_)
  .exact Η
  exact Η
 refine ν z<|fO z<|ς z<|nx<|tN z<|q'<|b'<|o'<|sr<|Γ (BJ z)<|eb hr z (nL (n' 2 uY z z z) (đ Value.bool (ow _))) z (λF hr=>?_) (λF hr=>?_)
 .exact Η
 exact Η
instance gU'{p o r}:SpcM ((vF p o)) r (∀{l g j i k e c f},Cr 282 #[.agg ((Τ p l g j i)).toArray,.agg ((Τ o k e c f)).toArray] (λG=>su G l g p.num.χ/\su G j i p.den.χ/\su G k e o.num.χ/\su G c f o.den.χ) (λG v=>v=i' r)):=.mk λhr {l g j i k e c f}=>Η
instance ih'{i h r}:SpcM ((Gn i h)) r (∀{k n l m},Cr 215 #[δ k i n,δ l h m] (λG=>sl c' G k n i/\sl c' G l m h) (λG v=>v=i' r)):=.mk λhr {k n l m}=>by refine Ν ?_;intro w0 H _ _ _ hr _;refine WC.mA hr [0,1] [] [0,1] [] (λ(o:Int)=>⟨o,[(5,i' o)],tr,[]⟩) (λ(_:Unit)=>⟨(.inr ()),[],tr,[]⟩) 0
instance gV'{p u r}:SpcM ((Fo p u)) r (∀{n o},Cr 134 #[δ n p o,.bool u] (λG=>sq G n o p) (fX (Rp.sl c') r)):=.mk λhr {n o}=>by
 refine Ν ?_;intro T S K p1 R _ ax hr _;refine WC.mC hr [0,1] [] [] [] (λ(⟨g,i,h,j⟩:(Ŀ (Ŀ Za))×ŀ Addr×Nat×Int)=>⟨(g,j),[(5,δ i g h),(6,i' j)],λJ=>sq J i h g,[]⟩) (λ(⟨C,H,E⟩:(Ŀ (Ŀ Za))×ŀ Addr×Nat)=>⟨C,[(5,δ H C E)],λM=>sq M H E C,[]⟩) ⟨[],p1,0,0⟩ ?_;rintro _ J ⟨g,i,h,j⟩ k f hr;refine Ν ?_;intro _ _ _ _ _ _ _ _ _ _ s P d x t v hr _;refine WC.mB hr [0,1,5,6,7] [] [0,1,5,6,7] [] (λ(y:Int)=>⟨y,[(8,i' y)],tr,[]⟩) (λ(q:Int)=>⟨q,[(8,i' q)],tr,[]⟩) 0 ?_;intro m q hr c _;refine b'<|WC.nD hr [0,1,5,6,7,8] [] (λ(_:Unit)=>⟨[],tZ g j s q,tr,[]⟩) ?_ ?_
 .refine sr<|ν z<|Γ (P' Q' (v.mono c) z)<|eb hr z (eI z z) z (λl hr=>?_) (λl hr=>?_)
  .exact ν z<|yu z<|Ê (M' z z) z<|Ê (M' z z) z<|Ê (M' z z) z<|sf z z z<|Ι z<|ν z<|ig z<|Ê (M' z z) z<|Ê (M' z z) z<|Ê (M' z z) z<|Ê (M' z z) z<|Ê (M' z z) z<|Ê (M' z z) z<|sf z z z<|Ι z<|nx<|ot z<|Η
  refine Ν ?_;intro _ _ hr _;exact Ê (M' z z) z<|Ê (M' z z) z<|Ê (M' z z) z<|Ê (M' z z) z<|Ê (M' z z) z<|Ê (M' z z) z<|sf z z z<|Ι z<|nx<|ot z<|Η
 intro Q _ hr A _;refine Ν ?_;intro _ _ F V hr;refine oA hr λa hr=>WL.u3 (r:=(Rp.sl c')) z z jS pQ z (f.mono (mx (mx (mx d c) A) F)) z z a (λp4 a1 O=>?_);exact oA hr λB hr=>jU (r:=(Rp.sl c')) 2067 z z jS jz z ĳ z z V z (by rw[K];rfl) k8 O B λp5 aX aW a0 L e aU=>Ο z<|w'<|ν z<|ν z<|ν z<|oA hr λN hr=>WL.slice3 (r:=(Rp.sl c')) z z jS pQ z (f.mono (mx (mx (mx (mx d c) A) F) L)) z z z N λp6 I=>ν z<|oA hr λD hr=>jU (r:=(Rp.sl c')) 2073 z z jS jz z ĳ z z I z (by rw[K];rfl) k8 e D λp7 X Y W U ar Z=>Η
instance GW{q r}:SpcM ((ZX q)) r (Cr 90 #[i' q] (λG=>True) (eA r)):=.mk λhr=>Η
instance gC'{h r}:SpcM ((EE h)) r (∀{g c d f},Cr 133 #[.agg ((Τ h g c d f)).toArray] (λG=>su G g c h.num.χ/\su G d f h.den.χ) (fX c' r)):=.mk λhr {g c d f}=>Η
instance oz{g r}:SpcM ((Lb g)) r (∀{e d},Cr 288 #[.agg ((η g e d)).toArray] (λG=>su G e d g.χ) (λG v=>v=.bool r)):=.mk λhr {e d}=>Η
instance gx'{g r}:SpcM ((uk g)) r (∀{f e d c},Cr 231 #[.agg ((Τ g f e d c)).toArray] (λG=>su G f e g.num.χ/\su G d c g.den.χ) (λG v=>v=.bool r)):=.mk λhr {f e d c}=>Η
instance gy'{q r}:SpcM ((A6 q)) r (∀{o n},Cr 154 #[δ o q n] (λG=>sl c' G o n q) (λG v=>v=.bool r)):=.mk λhr {o n}=>by refine Ν ?_;intro O p _ hr _;refine WC.mA hr [0] [] [] [] (λ(m:Int)=>⟨m,[(3,i' m)],tr,[]⟩) (λ(_:Unit)=>⟨(.inr ()),[],tr,[]⟩) 0
instance jf'{i r}:SpcM ((Mg i)) r (Cr 290 #[i' i] (λG=>True) (λG v=>v=.int .u8 r)):=.mk λhr=>by refine Ν ?_;intro k g _ hr _;refine WC.mA hr [0] [] [] [] (λ(⟨e,h⟩:Int×Int)=>⟨(e,h),[(3,i' e),(4,i' h)],tr,[]⟩) (λ(j:Int)=>⟨j,[(3,i' j)],tr,[]⟩) ⟨1,0⟩
instance ir'{j r}:SpcM ((Kc j)) r (Cr 233 #[.agg (Ô j).toArray] (λG=>True) (λG v=>v=.int .u8 r)):=.mk λhr=>by refine Ν ?_;intro p f _ m hr _;refine WC.mA hr [1] [1] [] [] (λ(⟨e,h⟩:Int×Int)=>⟨(e,h),[(3,.int .u8 e),(4,i' h)],tr,[]⟩) (λ(k:Int)=>⟨k,[(3,.int .u8 k)],tr,[]⟩) ⟨0,0⟩
instance gE'{l r}:SpcM ((Bl l)) r (∀{i h},Cr 155 #[δ i l h] (λG=>sl c' G i h l) (λG v=>v=.int .u8 r)):=.mk λhr {i h}=>by refine Ν ?_;intro s g _ hr _;refine WC.mA hr [0] [] [] [] (λ(⟨d,m⟩:Int×Int)=>⟨(d,m),[(3,.int .u8 d),(4,i' m)],tr,[]⟩) (λ(f:Int)=>⟨f,[(3,.int .u8 f)],tr,[]⟩) ⟨0,0⟩
instance gk'{h m r}:SpcM ((yW h m)) r (∀{e d},Cr 213 #[δ e h d,i' m] (λG=>sl c' G e d h) (λG v=>v=.bool r)):=.mk λhr {e d}=>Η
instance ii'{k n r}:SpcM ((Gs k n)) r (∀{i h},Cr 132 #[δ i k h,i' n] (λG=>sq G i h k) (λG v=>v=.bool r)):=.mk λhr {i h}=>by refine Ν ?_;intro s f _ hr _;refine WC.mA hr [0,1] [] [] [] (λ(j:Int)=>⟨j,[(5,i' j)],tr,[]⟩) (λ(_:Unit)=>⟨(.inr ()),[],tr,[]⟩) 0
instance gW'{l y p r}:SpcM ((E3 l y p)) r (∀{L M s t},Cr 74 #[i' l,δ L y M,δ s p t] (λG=>sq G L M y/\sq G s t p) (l9 r)):=.mk λhr {L M s t}=>by
 refine æ ?_;intro w0 G0 _ R V a hr _;refine aL' hr (λ(⟨J,g,f,d,c,S⟩:Zc×ŀ Addr×Nat×ŀ Addr×Nat×Mem)=>⟨[(0,i' l),(1,δ L y M),(2,δ s p t),(6,iO a)],Qe l y p,Mem.le G0 S/\sq S g f J.eqs/\sq S d c J.ε,St w0 G0 S [(6,ö a (ÿ J g f d c) 48)]⟩) ?_ ?_
 .refine Ν ?_;intro _ _ _ _ hr _;refine pM ⟨(Zc.mk 0 [] []),none,0,none,0,G0⟩ ⟨hr,mr,(X' _ _),(X' _ _)⟩ (Å z) (w1 z)
 rintro⟨J,g,f,d,c,S⟩ ⟨hr,u,aT,aH⟩;refine Ν ?_;intro _ _ x a2 hr;refine oA hr λO hr=>jU (r:=(Rp.sl c')) 2032 z z jS jz z ĳ z z a2 z (by rw[R];rfl) k8 (V.mono (mx u x)) O λp2 a7 Z q C a4 P=>Ο z<|o'<|sr<|Ο z<|nJ (X:=(Ŀ (Ŀ Za))×ŀ Addr×Nat×ŀ Ow×Int×Mem) hr (λ⟨h,m,o,k,F,I⟩=>⟨(h,F),[(0,i' l),(2,δ s p t),(6,iO a),(8,δ m h o),(9,i' F)],Mem.le q I/\sq I m o h/\Tok 1 50 (δ m h o) h.length k,St w0 G0 I [(6,ö a (ÿ J g f d c) 48),(1008,k)]⟩) (λ(⟨A,B,D,E,e⟩:(Ŀ (Ŀ Za))×ŀ Addr×Nat×ŀ Ow×Mem)=>⟨A,[(0,i' l),(2,δ s p t),(6,iO a),(8,δ B A D)],Mem.le q e/\sq e B D A/\Tok 1 50 (δ B A D) A.length E,St w0 G0 e [(6,ö a (ÿ J g f d c) 48),(1008,E)]⟩) ⟨([]++y),p2,a7,Z,0,q⟩ z (Å z) ⟨mr,a4,P⟩ ?_ ?_ ?_
 .intro w v;have v:=v.Ü (i:=2032) (j:=1008) z (by rw[R];rfl);exact v.weaken (lc z (lc z ln))
 .rintro _ ⟨h,m,o,k,F,I⟩ ⟨n,K,H⟩ hr;refine Ν ?_;intro _ _ _ _ _ _ _ _ _ _ _ _ _ _ Y _ _ _ _ _ _ Q _ W _ _ _ _ _ N aX hr _;refine oA hr λT hr=>jU (r:=(Rp.sl c')) 1008 z z jS jz z ĳ z z (K.mono (mx (mx Y W) N)) z (by rw[R];rfl) H aX T λp5 aU aS aY ap a8 U=>Ý z<|t'<|E'<|b'<|w'<|ν z<|iV z<|Ý z<|t'<|N' ⟨(h++[Q]),p5,aU,aS,i64.wrap (F+1),aY⟩ hr ⟨(mx (mx (mx (mx n Y) W) N) ap),a8,U⟩ (Å z) (w2 z z)
 rintro⟨A,B,D,E,e⟩ ⟨hr,ar,av,aW⟩;exact Η
instance gO'{c r}:SpcM ((Jn c)) r (Cr 131 #[.agg (Ô c).toArray] (λG=>True) (λG v=>v=.bool r)):=.mk λhr=>by
 refine Ν ?_;intro s g _ o y hr _;refine A' 3 z wF z z z (U' _ _ _) (U' _ _ _) (λu t=>Rp.one (Rp.DO 8) (G:=g) (x:=(λ_=>false)) (cs:=ô Value.bool 8 (λ_=>false)) z u (by first|simpa using t|simpa[Value.cells]using t))<|nx<|o'<|sr<|Ο z<|WC.mA hr [1,3] [1] [] [] (λ(⟨h,d⟩:Int×(Fin 8->Bool))=>⟨(h,d),[(4,i' h)],tr,[(3,ö y (ô Value.bool 8 d) 143)]⟩) (λ(_:Unit)=>⟨(.inr ()),[],tr,[]⟩) ⟨0,(λ_=>false)⟩
instance iM'{d c r}:SpcM ((SD d c)) r (∀{y B v A},Cr 306 #[δ y d B,δ v c A] (λG=>su G y B d/\su G v A c) (fX (Rp.int .u32) r)):=.mk λhr {y B v A}=>by
 refine Ν ?_;intro T x _ U _ _ D M V hr _;refine WC.mB hr [0,1,5,6] [] [6] [] (λ(⟨j,g,f,u⟩:(Ŀ Int)×ŀ Ow×Int×Int)=>⟨(j,f,u),[(7,.int .u64 f),(8,i' u)],λl=>Δ (Rp.int .u32) 248 l (.slice D (i64.wrap ((if(d.length:Int)<(c.length:Int)then(c.length:Int)else(d.length:Int))+1)).toNat ((i64.wrap ((if(d.length:Int)<(c.length:Int)then(c.length:Int)else(d.length:Int))+1)).toNat)) j g,[(4017,g)]⟩) (λ(⟨o,k⟩:(Ŀ Int)×ŀ Ow)=>⟨o,[],λq=>Δ (Rp.int .u32) 248 q (.slice D (i64.wrap ((if(d.length:Int)<(c.length:Int)then(c.length:Int)else(d.length:Int))+1)).toNat ((i64.wrap ((if(d.length:Int)<(c.length:Int)then(c.length:Int)else(d.length:Int))+1)).toNat)) o k,[(4017,k)]⟩) ⟨(List.replicate (i64.wrap ((if(d.length:Int)<(c.length:Int)then(c.length:Int)else(d.length:Int))+1)).toNat 0),M,0,0⟩ ?_;rintro q ⟨o,k⟩ hr Y E;refine b'<|sr<|ν z<|pX (r:=(Rp.int .u32)) (e:=248) 4017 E z (by rw[U];rfl) (λp af h C Z=>?_)
 refine oE hr λs P hr=>gW z z (x' rO z) (BZ.h P) (by rw[qU C]) ((rG C)) (λi F a t=>?_);obtain⟨n,m,rfl,L⟩:=t;refine Ο z<|m' ?_
 obtain rfl:_=r:=hr;exact j' z z ⟨_,_,z,L⟩
instance ht'{h D r}:SpcM ((Ld h D)) r (∀{y B v A},Cr 308 #[δ y h B,δ v D A] (λG=>su G y B h/\su G v A D) (fX (Rp.int .u32) r)):=.mk λhr {y B v A}=>by
 refine Ν ?_;intro T x _ U _ _ E M V hr _;refine WC.mB hr [0,1,5] [] [5] [] (λ(⟨j,g,c,u⟩:(Ŀ Int)×ŀ Ow×Int×Int)=>⟨(j,c,u),[(6,.int .u64 c),(7,i' u)],λl=>Δ (Rp.int .u32) 248 l (.slice E (h.length:Int).toNat ((h.length:Int).toNat)) j g,[(4011,g)]⟩) (λ(⟨o,k⟩:(Ŀ Int)×ŀ Ow)=>⟨o,[],λs=>Δ (Rp.int .u32) 248 s (.slice E (h.length:Int).toNat ((h.length:Int).toNat)) o k,[(4011,k)]⟩) ⟨(List.replicate (h.length:Int).toNat 0),M,0,0⟩ ?_;rintro s ⟨o,k⟩ hr Z F;refine b'<|sr<|ν z<|pX (r:=(Rp.int .u32)) (e:=248) 4011 F z (by rw[U];rfl) (λp n f C a=>?_)
 refine oE hr λq P hr=>gW z z (x' rO z) (BZ.h P) (by rw[qU C]) ((rG C)) (λi H d t=>?_);obtain⟨m,af,rfl,L⟩:=t;refine Ο z<|m' ?_
 obtain rfl:_=r:=hr;exact j' z z ⟨_,_,z,L⟩
instance jg'{L K r}:SpcM ((Uv L K)) r (∀{j g l k},Cr 262 #[.agg ((η L j g)).toArray,.agg ((η K l k)).toArray] (λG=>su G j g L.χ/\su G l k K.χ) (Î r)):=.mk λhr {j g l k}=>Η
instance gX'{t s r}:SpcM ((vE t s)) r (∀{m o e k l n g j},Cr 205 #[.agg ((Τ t m o e k)).toArray,.agg ((Τ s l n g j)).toArray] (λG=>su G m o t.num.χ/\su G e k t.den.χ/\su G l n s.num.χ/\su G g j s.den.χ) (eA r)):=.mk λhr {m o e k l n g j}=>by
 refine J' (args:=[_,_]) (N:=22) func205 z z z (λw0 G0 aA ak=>?_);obtain⟨I,A,J,y⟩:=ak;refine sr<|jT 2 z z z λb2=>jT 3 z z z λb3=>W' 4 z rF z λb4=>nx<|o'<|fE [ff,ff,ff,ff,ff,ff,ff,ff,ff,ff,ff,ff,ff,ff,ff] eJ İ λhb=>cn (λ_ c=>xR z)<|cn (λ_ c=>R' ((η t.num m o)).toArray 2 mS z z z (lJ ([]) ((η t.num m o)) ((η t.den e k))))<|cn (λ_ c=>BK z) ?_
 refine æ ?_;intro V _ U hr _;refine oE hr λa aj hr=>mw (f:=262) (φ:=Î a) (λ_=>z) (λv G1 G2 c h=>?_) (λu W c hu=>?_) ?_
 .obtain⟨T,Q,rfl,x⟩:=h;exact⟨_,_,z,x.mono c⟩
 .obtain⟨⟨C,E,Z,q⟩,⟨D,B,ac,p⟩,_⟩:=(show(Î U) W.m (u 14)/\(Î V) W.m (u 9)/\True from hu);exact⟨_,_,_,λ_=>x' IV z,jg'.h aj,(by simp only[Z,ac]<;>rfl),⟨p,q⟩⟩
 refine Ν ?_;intro hr;refine vX (d:=15) (post:=Î a) (d':=14) (post':=Î U) (d'':=9) (post'':=Î V) (λar av aw aC K R S M=>?_);obtain⟨T,Q,rfl,x⟩:=R;obtain⟨C,E,rfl,q⟩:=S;obtain⟨D,B,rfl,p⟩:=M;refine oE hr λay af hr=>gW z z (x' wQ z) (M3.h af) z (⟨(A.mono K),(y.mono K)⟩) (λau az ab O=>?_);obtain⟨al,am,rfl,L⟩:=O;refine oE hr λaD ai hr=>gW z z (x' IU z) (fp'.h ai) z (⟨(x.mono ab),L⟩) (λaq aB ap P=>?_);obtain⟨ad,X,Y,aa,rfl,F,H⟩:=P;refine fZ 4 kg z<|t'<|Θ<|b'<|m' ?_
 obtain rfl:_=r:=hr;exact j' z (kH (i:=4) mo z z z) ⟨_,_,_,_,z,F,H⟩
instance W0{D B r}:SpcM ((Bu D B)) r (∀{M S P Q},Cr 119 #[δ M D S,δ P B Q] (λG=>sl c' G M S D/\sl c' G P Q B) (fX c' r)):=.mk λhr {M S P Q}=>by
 refine Ν ?_;intro w0 G0 _ q _ p1 aW _ bQ hr _;refine WC.mC (hH:=by exact⟨bQ,k8⟩) hr [0,1] [] [] [] (λ(⟨E,R,L,K,V,C⟩:(Ŀ Za)×ŀ Addr×Nat×ŀ Ow×Int×Int)=>⟨(E,V,C),[(5,δ R E L),(6,i' V),(7,i' C)],λam=>sl c' am R L E/\Tok 12 147 (δ R E L) E.length K,[(1005,K)]⟩) (λ(⟨a,p,j,ap⟩:(Ŀ Za)×ŀ Addr×Nat×ŀ Ow)=>⟨a,[(5,δ p a j)],λaT=>sl c' aT p j a/\Tok 12 147 (δ p a j) a.length ap,[(1005,ap)]⟩) ⟨[],p1,0,none,0,0⟩ ?_;rintro _ am ⟨E,R,L,K,V,C⟩ d ⟨aA,ar⟩ hr;refine WC.nB hr [0,1,5,6,7] [1005] (λ(_:Unit)=>⟨[],xf D B E V C,tr,[]⟩) ?_;intro ak _ hr f _;refine Y'<|WC.nD hr [0,1,7] [] (λ(⟨U,Z,c,Y,T⟩:(Ŀ Za)×ŀ Addr×Nat×ŀ Ow×Int)=>⟨[(5,δ Z U c),(6,i' T)],AR D B C U T,λX=>sl c' X Z c U/\Tok 12 147 (δ Z U c) U.length Y,[(1005,Y)]⟩) ?_ ?_
 .refine WC.nD hr [0,1,5,6,7] [1005] (λ(t:Bool)=>⟨[(43,.bool t)],vu D B E V C t,tr,[]⟩) ?_ ?_
  .refine Ν ?_;intro _ _ hr;refine Ê (M' z z) z<|Ê (M' z z) z<|sf z z z<|Ι z<|t'<|Θ<|pM ⟨ak,true⟩ ⟨hr,mr,trivial⟩ (Å z) (w1 z)
  intro aR t hr F _;refine Ν ?_;intro _ x7 _ _ _ _ _ _ _ _ _ _ _ _ _ _ _ u bC hr _;refine oA hr λbp hr=>jU (r:=c') 1005 z z Q' lb z ĳ z z (aA.mono (mx (mx f F) u)) z (by rw[q];rfl) ar bC bp λp7 bZ bl bV a1 bI bs=>Ý z<|nr<|ν z<|iV z<|Ο z<|nK<|p'<|K'<|N' ⟨bV,(E++[x7]),p7,bZ,bl,i64.wrap (V+1),C⟩ hr ⟨(mx (mx (mx (mx d f) F) u) a1),bI,bs⟩ (Å z) (w1 z)
 rintro X ⟨U,Z,c,Y,T⟩ hr n ⟨aO,aD⟩;refine WC.nD hr [0,1,6] [] (λ(⟨W,g,e,af,h⟩:(Ŀ Za)×ŀ Addr×Nat×ŀ Ow×Int)=>⟨[(5,δ g W e),(7,i' h)],Ku D B T W h,λv=>sl c' v g e W/\Tok 12 147 (δ g W e) W.length af,[(1005,af)]⟩) ?_ ?_
 .refine WC.nB hr [0,1,5,6,7] [1005] (λ(s:Bool)=>⟨[(70,.bool s)],AQ D B C U T s,tr,[]⟩) ?_;intro aU s hr A _;refine Ν ?_;intro _ x4 _ _ _ _ _ _ _ _ _ _ _ _ _ _ _ x bH hr _;refine oA hr λbt hr=>jU (r:=c') 1005 z z Q' lb z ĳ z z (aO.mono (mx A x)) z (by rw[q];rfl) aD bH bt λp5 bB bz bY aY bX bu=>Ý z<|nr<|ν z<|iV z<|Ο z<|nK<|p'<|K'<|N' ⟨bY,(U++[x4]),p5,bB,bz,T,i64.wrap (C+1)⟩ hr ⟨(mx (mx (mx (mx (mx d f) n) A) x) aY),bX,bu⟩ (Å z) (w1 z)
 rintro v ⟨W,g,e,af,h⟩ hr O ⟨aQ,aF⟩;refine o'<|fE [ff,ff,ff,ff,ff,ff,ff,ff,ff,ff,ff,ff] eJ İ λhb=>fR z<|fR z ?_
 refine æ ?_;intro _ _ _ _ _ _ _ _ _ _ _ _ _ _ _ _ _ _ _ _ _ _ _ _ _ _ _ _ _ _ J hr _;refine kI (λ_=>z) rF<|γ.nF (λcg b9 X1 N aX aV=>?_)
 obtain⟨b1,rfl,bn⟩:=aX;obtain⟨m,l,i,k,rfl,I,H⟩:=aV;refine oS bn (mg (show WL _ _ _ _ _ _ (St w0 G0 X1.m _)from ?_));refine fZ 8 kg z<|t'<|Θ<|b'<|o' ?_
 refine æ ?_;intro _ hr _;refine I' hr z (λb3 hr=>?_) (λb3 hr=>?_)
 .refine fE [tt,ff,ff,ff,ff,ff,ff] eJ İ λhb=>?_;refine æ ?_;intro x3 _ _ _ _ _ _ _ _ _ _ _ _ _ _ _ y bR hr _;refine oA hr λbm hr=>jU (r:=c') 1005 z z Q' lb z ĳ z z (aQ.mono (mx N y)) z (by rw[q];rfl) aF bR bm λp3 bJ bk bE aZ bS bo=>Ý z<|t'<|Θ<|b'<|sr<|ν z<|iV z<|Ο z<|w'<|ν z<|iV z<|Ý z<|t'<|E'<|N' ⟨bE,(W++[(Za.mk J x3.m)]),p3,bJ,bk,i64.wrap (T+1),i64.wrap (h+1)⟩ hr ⟨(mx (mx (mx (mx (mx (mx d f) n) O) N) y) aZ),bS,bo⟩ (Å z) (w1 z)
 exact Η
instance fW'{S i r}:SpcM ((AF S i)) r (∀{J I},Cr 73 #[δ J S I,.agg (Ô i).toArray] (λG=>sl c' G J I S) (iF c' r)):=.mk λhr {J I}=>by
 refine Ν ?_;intro Z Y K ag R _ _ p2 V q ay hr _;refine WC.mC hr [0,3] [3] [] [] (λ(⟨o,m,l,Q⟩:(Ŀ Za)×ŀ Addr×Nat×Int)=>⟨(o,Q),[(6,δ m o l),(7,i' Q)],λp=>sl c' p m l o,[]⟩) (λ(⟨C,D,B⟩:(Ŀ Za)×ŀ Addr×Nat)=>⟨C,[(6,δ D C B)],λO=>sl c' O D B C,[]⟩) ⟨[],p2,0,0⟩ ?_;rintro _ p ⟨o,m,l,Q⟩ k P hr;refine Ν ?_;intro _ u hr;refine WC.mD hr [0,3,6,7,8] [3] [0,3,6,7,8] [3] (λ(⟨L,A⟩:Int×(Fin 8->Int))=>⟨(L,A),[(9,i' L)],tr,[(8,ö u (Ô A) 145)]⟩) (λ(n:(Fin 8->Int))=>⟨n,[],tr,[(8,ö u (Ô n) 145)]⟩) ⟨0,(λ_=>0)⟩ ?_ ?_
 .rintro _ F ⟨L,A⟩ y _ hr;refine o'<|sr<|ν z<|kr z<|nx<|I' hr z (λaz hr=>?_) (λaz hr=>?_)
  .refine q'<|b'<|o'<|Y'<|fE [ff,ff,ff,ff,ff,ff,ff,ff,ff,ff] eJ İ λa=>fR z<|oA hr λx hr=>cn (λ_ h=>V5 GM jZ z z x) ?_
   refine æ ?_;intro x2 _ N _ _ _ _ _ _ _ _ _ _ _ _ hr X;exact cn (λ_ h=>nI eO z (GY (T' (T' (xS (nY (iI K N))) (mx (mx q k) y)) h) X))<|oM a<|oA hr λaw hr=>Γ (V5 aM' jZ z z aw)<|ry 8 (Ô (ζ A ((Ζ i L).toNat) (Ζ x2.m L))).toArray z jZ z z z (by first|(rw[U'];omega)|(show _<(ô _ _ _).toArray.size;rw[U'];omega)) z (cY' _ _ _ _ _)<|Η
  exact Η
 intro U n hr t _;refine b'<|fE [tt,ff,ff,ff,ff,ff,ff] eJ İ λa=>uA z (k' z)<|fR z<|fR z<|oE hr λs af hr=>cn (λ_ h=>kf Q' bB' ((K.mono (mx (mx q k) t)).mono h) z z af)<|cn (λ_ h=>ov z) ?_
 obtain⟨g,d,f,c,au,E,H⟩:=pN (T' (sj (nY (iI K af))) (mx (mx q k) t));refine cn (λ_ h=>mW _ mo z z (λj v hv=>h _ _ _ (au j v hv)))<|cn (λ_ h=>y' 8 GO z z (U' _ _ _))<|oM a<|Γ (me (vs:=#[(0,.agg ((Τ s.c g d f c)).toArray),(1,.agg (Ô n).toArray)]) (v:=.agg (((Τ s.c g d f c):Ŀ Value)++(Ô n)).toArray) z z (λ_=>İ))<|ng (e:=147) (r:=c') (vs:=#[(0,.agg (((Τ s.c g d f c):Ŀ Value)++(Ô n)).toArray)]) (cs:=(((Τ s.c g d f c):Ŀ Value)++(Ô n))++([])) ([(Za.mk s.c n)]:Ŀ Za) z z z z z ĳ (λ_=>İ) ⟨((Τ s.c g d f c):Ŀ Value)++(Ô n),[],z,⟨(Τ s.c g d f c),Ô n,z,⟨(η s.c.num g d),(η s.c.den f c),z,⟨[.bool s.c.num.neg],[δ g s.c.num.χ d],z,z,⟨_,z,E⟩⟩,⟨[.bool s.c.den.neg],[δ f s.c.den.χ c],z,z,⟨_,z,H⟩⟩⟩,z⟩,z⟩ (key:=999) z (by rw[ag];rfl) (λp3 aG M ax=>?_)
 refine oE hr λao ah hr=>gW z z (x' zY z) (W0.h ah) z (⟨(P.mono (mx t M)),ax⟩) (λaE ap W T=>?_);obtain⟨aj,ak,rfl,am⟩:=T;exact Η
instance fE'{y Y r}:SpcM ((EJ y Y)) r (∀{k l j g},Cr 30 #[.agg ((ÿ y k l j g)).toArray,.agg (Ô Y).toArray] (λG=>sq G k l y.eqs/\sq G j g y.ε) (u9 r)):=.mk λhr {k l j g}=>by
 refine Ν ?_;intro w0 G0 _ af _ b1 b2 b3 p1 _ _ bv p2 aQ o bx hr _;refine WC.mD (hH:=by exact⟨(bv.mono o),k8⟩) hr [2,3,4,6] [2,3,4] [2,3,4,6] [2,3,4] (λ(⟨t,L,F,M,ah⟩:(Ŀ (Ŀ Za))×ŀ Addr×Nat×ŀ Ow×Int)=>⟨(t,ah),[(5,δ L t F),(7,i' ah)],λar=>sq ar L F t/\Tok 1 50 (δ L t F) t.length M,[(1005,M)]⟩) (λ(⟨x,B,A,q⟩:(Ŀ (Ŀ Za))×ŀ Addr×Nat×ŀ Ow)=>⟨x,[(5,δ B x A)],λae=>sq ae B A x/\Tok 1 50 (δ B x A) x.length q,[(1005,q)]⟩) ⟨[],p1,0,none,0⟩ ?_ ?_
 .rintro _ ar ⟨t,L,F,M,ah⟩ P ⟨aF,au⟩ hr;refine o' ?_;refine æ ?_;intro hr;refine I' hr z (λbu hr=>?_) (λbu hr=>?_)
  .refine q'<|b'<|o'<|Y'<|o'<|fE [ff,ff,ff,ff,ff,ff,ff,ff,ff,tt] eJ İ λhb=>cn (λ_ f=>Nc z)<|cn (λ_ f=>n' 2 jY z z z) ?_
   refine æ ?_;intro _ _ _ _ _ _ _ _ _ n hr _;refine jN (φ:=iF c' n) (λ_=>z) (λv G1 G2 f h=>?_) (λu Q f a=>?_) ?_
   .obtain⟨p9,N,rfl,i⟩:=h;exact⟨_,_,z,i.mono f⟩
   .obtain⟨⟨aa,ac,a5,E⟩,_⟩:=(show(iF c' n) Q.m (u 31)/\True from a);simp only[υ,a5];exact⟨_,k' z,aa,ac,z,E⟩
   refine jN (φ:=fX c' n.1) (λ_=>z) (λv G1 G2 f h=>?_) (λu Q f a=>?_) ?_
   .obtain⟨C,X,rfl,aw⟩:=h;exact⟨_,_,z,aw.mono f⟩
   .obtain⟨⟨p9,N,aj,i⟩,_,_⟩:=(show(iF c' n) Q.m (u 24)/\True/\True from a);simp only[υ,aj];exact⟨_,O' z z,p9,N,z,i⟩
   refine mz (c:=i' n.2) (λ_=>z) (λu Q f a=>?_) ?_
   .obtain⟨_,⟨p9,N,aj,i⟩,_,_⟩:=(show True/\(iF c' n) Q.m (u 24)/\True/\True from a);simp only[υ,aj];exact O' z z
   refine vX (d:=32) (post:=fX c' n.1) (d':=24) (post':=iF c' n) (d'':=31) (post'':=iF c' n) (λbM bJ bK bT az aO aI aL=>?_);obtain⟨C,X,rfl,aw⟩:=aO;obtain⟨p9,N,rfl,i⟩:=aI;obtain⟨aa,ac,rfl,E⟩:=aL;refine Ý z<|Ý z<|t'<|Θ<|b'<|w'<|ν z<|ν z<|ng (e:=50) (r:=(Rp.sl c')) (vs:=#[(0,δ C n.1 X)]) (cs:=[δ C n.1 X]++([])) ([n.1]:Ŀ (Ŀ Za)) z z z z z ĳ (λ_=>İ) ⟨[δ C n.1 X],[],z,⟨_,z,aw⟩,z⟩ (key:=999) z (by rw[af];rfl) (λb0 bV ax bo=>?_)
   refine oA hr λbl hr=>jU (r:=(Rp.sl c')) 1005 z z jS jz z ĳ z z (aF.mono (mx az ax)) z (by rw[af];rfl) au bo bl λbC bp a1 bz a8 bh aW=>Ý z<|t'<|E'<|b'<|w'<|ν z<|iV z<|Ý z<|t'<|N' ⟨bz,(t++[n.1]),bC,bp,a1,i64.wrap (ah+1)⟩ hr ⟨(mx (mx (mx P az) ax) a8),bh,aW⟩ (Å z) (w4 z z z z)
  exact Η
 rintro ae ⟨x,B,A,q⟩ hr S ⟨a7,bA⟩;refine b'<|o'<|sr<|Ο z<|WC.mC (hH:=by exact⟨(bx.mono S),k8⟩) hr [2,3,4,5] [2,3,4,1005] [2,4,5] [2,4,1005] (λ(⟨s,O,K,I,T⟩:(Ŀ (Ŀ Za))×ŀ Addr×Nat×ŀ Ow×Int)=>⟨(s,T),[(6,δ O s K),(10,i' T)],λaq=>sq aq O K s/\Tok 1 50 (δ O s K) s.length I,[(1006,I)]⟩) (λ(⟨R,U,V,Z⟩:(Ŀ (Ŀ Za))×ŀ Addr×Nat×ŀ Ow)=>⟨R,[(6,δ U R V)],λaH=>sq aH U V R/\Tok 1 50 (δ U R V) R.length Z,[(1006,Z)]⟩) ⟨[],p2,0,none,0⟩ ?_
 rintro _ aq ⟨s,O,K,I,T⟩ H ⟨aE,an⟩ hr;refine o' ?_;refine æ ?_;intro hr;refine I' hr z (λbG hr=>?_) (λbG hr=>?_)
 .refine q'<|b'<|o'<|Y'<|o'<|fE [ff,ff,ff,ff,ff,ff,ff,ff,ff,tt] eJ İ λhb=>cn (λ_ f=>Wc z)<|cn (λ_ f=>n' 2 jY z z z) ?_
  refine æ ?_;intro _ _ _ _ _ _ _ _ _ m hr _;refine jN (φ:=iF c' m) (λ_=>z) (λv G1 G2 f h=>?_) (λu Q f a=>?_) ?_
  .obtain⟨p4,D,rfl,p⟩:=h;exact⟨_,_,z,p.mono f⟩
  .obtain⟨⟨ad,W,aZ,J⟩,_⟩:=(show(iF c' m) Q.m (u 52)/\True from a);simp only[υ,aZ];exact⟨_,k' z,ad,W,z,J⟩
  refine jN (φ:=fX c' m.1) (λ_=>z) (λv G1 G2 f h=>?_) (λu Q f a=>?_) ?_
  .obtain⟨p5,ay,rfl,aS⟩:=h;exact⟨_,_,z,aS.mono f⟩
  .obtain⟨⟨p4,D,ai,p⟩,_,_⟩:=(show(iF c' m) Q.m (u 45)/\True/\True from a);simp only[υ,ai];exact⟨_,O' z z,p4,D,z,p⟩
  refine mz (c:=i' m.2) (λ_=>z) (λu Q f a=>?_) ?_
  .obtain⟨_,⟨p4,D,ai,p⟩,_,_⟩:=(show True/\(iF c' m) Q.m (u 45)/\True/\True from a);simp only[υ,ai];exact O' z z
  refine vX (d:=53) (post:=fX c' m.1) (d':=45) (post':=iF c' m) (d'':=52) (post'':=iF c' m) (λbN bL bO bS aG aK aM aP=>?_);obtain⟨p5,ay,rfl,aS⟩:=aK;obtain⟨p4,D,rfl,p⟩:=aM;obtain⟨ad,W,rfl,J⟩:=aP;refine Ý z<|Ý z<|t'<|Θ<|b'<|w'<|ν z<|ν z<|ng (e:=50) (r:=(Rp.sl c')) (vs:=#[(0,δ p5 m.1 ay)]) (cs:=[δ p5 m.1 ay]++([])) ([m.1]:Ŀ (Ŀ Za)) z z z z z ĳ (λ_=>İ) ⟨[δ p5 m.1 ay],[],z,⟨_,z,aS⟩,z⟩ (key:=999) z (by rw[af];rfl) (λp6 bZ aD br=>?_)
  refine oA hr λbg hr=>jU (r:=(Rp.sl c')) 1006 z z jS jz z ĳ z z (aE.mono (mx aG aD)) z (by rw[af];rfl) an br bg λp7 bE bf bD a2 bt bk=>Ý z<|t'<|E'<|b'<|w'<|ν z<|iV z<|Ý z<|t'<|N' ⟨bD,(s++[m.1]),p7,bE,bf,i64.wrap (T+1)⟩ hr ⟨(mx (mx (mx H aG) aD) a2),bt,bk⟩ (Å z) (w5 z z z z z)
 exact Η
instance Wy{i n c r}:SpcM ((xh i n c)) r (∀{f e},Cr 161 #[δ f i e,i' n,i' c] (λG=>sl c' G f e i) (λG v=>v=.bool r)):=.mk λhr {f e}=>Η
instance gY'{D P r}:SpcM ((Fp D P)) r (∀{s y},Cr 152 #[δ s D y,i' P] (λG=>sq G s y D) (λG v=>v=.bool r)):=.mk λhr {s y}=>by
 refine Ν ?_;intro w0 x _ _ hr i;refine WC.mC hr [0,1] [] [] [] (λ(q:Int)=>⟨q,[(5,i' q)],tr,[]⟩) (λ(_:Unit)=>⟨(.inr ()),[],tr,[]⟩) 0 ?_;intro _ p q g _ hr;refine o' ?_;refine æ ?_;intro hr;refine I' hr z (λA hr=>?_) (λA hr=>?_)
 .refine q'<|b'<|o'<|Y'<|o'<|fE [ff,ff,ff,ff,ff,ff,ff,ff,ff,ff,ff,ff,ff,ff,ff,ff,ff,ff,ff,ff,ff,ff,ff,ff,ff,ff,ff,ff,ff,ff,ff,ff,ff,ff,ff,ff,ff,ff,ff,ff,ff] eJ İ λU=>fR z<|fR z<|oE hr λx1 L hr=>cn (λ_ e=>kf jS pQ ((i.mono g).mono e) z z L) ?_
  obtain⟨p1,aE,m,N⟩:=xY (T' (iI i L) g);refine cn (λ_ e=>nI rA z (e _ _ _ m))<|fR z<|oE hr λai Q hr=>tO z (λ_=>x' z8 z) (Wy.h Q) z (λM e=>(N.mono e)) ?_
  cases ai
  .refine Ν ?_;intro hr;refine Ê (M' z z) z<|Ê (M' z z) z<|sf z z z<|Ι z<|t'<|Θ<|b'<|ot z<|sr<|Ο z<|m'<|g'<|a'<|a'<|g'<|ni<|a' (Ø hr z z)
  refine cn (λ_ e=>kO z)<|fR z<|cy z z (λ_ e=>k' z)<|cy z z (λ_ e=>k' z)<|oE hr λx2 E hr=>cy z z (λ_ e=>kf jS pQ ((i.mono g).mono e) z z E) ?_
  obtain⟨p2,aD,aj,T⟩:=xY (T' (iI i E) g);refine cy z z (λ_ e=>nI rA z (e _ _ _ aj))<|cy z z (λ_ e=>P' Q' (T.mono e) z)<|BO hr (C' z z) (λ_ e=>eI z z) (λan hr=>?_) (λan hr=>?_)
  .refine Ν ?_;intro hr;refine Ê (M' z z) z<|Ê (M' z z) z<|sf z z z<|Ι z<|t'<|Θ<|b'<|ot z<|sr<|Ο z<|m'<|g'<|a'<|a'<|g'<|ni<|a' (Ø hr z z)
  refine cn (λ_ e=>f' z z)<|fR z<|cy z z (λ_ e=>k' z)<|cy z z (λ_ e=>k' z)<|oE hr λx3 I hr=>cy z z (λ_ e=>kf jS pQ ((i.mono g).mono e) z z I) ?_
  obtain⟨p3,aA,ao,O⟩:=xY (T' (iI i I) g);refine cy z z (λ_ e=>nI rA z (e _ _ _ ao))<|oE hr λo R hr=>pJ (post:=fX c' o) (λ_=>(C' z z)) (λ_ _=>x' IF z) (gT'.h R) z (λM e=>(O.mono e)) (λv G1 G2 e h=>?_) ?_
  .obtain⟨n,l,rfl,k⟩:=h;exact⟨_,_,z,k.mono e⟩
  refine nb (λ_=>(C' z z)) (λ_ _ e=>k' z)<|nb (λ_=>(C' z z)) (λ_ _ e=>k' z)<|oE hr λx4 F hr=>nb (λ_=>(C' z z)) (λ_ _ e=>kf jS pQ ((i.mono g).mono e) z z F) ?_
  obtain⟨p4,aB,X,Z⟩:=xY (T' (iI i F) g);refine nb (λ_=>(C' z z)) (λ_ _ e=>nI rA z (e _ _ _ X))<|oE hr λJ S hr=>γ.vT (f:=33) (c:=.bool J) (λ_=>(C' z z)) (λu M e hu=>?_) ?_
  .obtain⟨⟨n,l,B,k⟩,_⟩:=(show(fX c' o) M.m (u 35)/\True from hu);exact⟨_,_,_,λ_=>x' Yb z,eU'.h S,(by simp only[B]<;>rfl),⟨k,(Z.mono e)⟩⟩
  cases J
  .refine nb (λ_=>(C' z z)) (λ_ _ e=>kO z)<|cu (λ_ _ e=>f' z z)<|cu (λ_ _ e=>k' z)<|my (λ_=>(AY z z))<|my (λ_=>(AY z z))<|my (λ_=>(AY z z))<|my (λ_=>(M' z z))<|my (λ_=>(M' z z))<|my (λ_=>(M' z z))<|my (λ_=>(M' z z))<|my (λ_=>(M' z z))<|my (λ_=>(M' z z))<|my (λ_=>(M' z z))<|my (λ_=>(M' z z))<|my (λ_=>(M' z z))<|BL (d:=35) (post:=fX c' o) (λt aC ar j=>?_)
   obtain⟨n,l,rfl,k⟩:=j;refine Ê (M' z z) z<|Ê (M' z z) z<|sf z z z<|Ι z<|t'<|Θ<|b'<|ot z<|sr<|Ο z<|m'<|g'<|a'<|a'<|g'<|ni<|a' (Ø hr z z)
  refine nb (λ_=>(C' z z)) (λ_ _ e=>kO z)<|cu (λ_ _ e=>f' z z)<|cu (λ_ _ e=>k' z)<|nb (λ_=>(C' z z)) (λ_ _ e=>k' z) ?_
  by_cases a:0<q
  .replace hr:=hr.pos a;refine nb (λ_=>(C' z z)) (λ_ _ e=>nL (vJ z z) (đ Value.bool (Ą a)))<|nb (λ_=>(C' z z)) (λ_ _ e=>k' z)<|nb (λ_=>(C' z z)) (λ_ _ e=>k' z)<|nb (λ_=>(C' z z)) (λ_ _ e=>k' z)<|nb (λ_=>(C' z z)) (λ_ _ e=>GP z z)<|oE hr λx5 H hr=>nb (λ_=>(C' z z)) (λ_ _ e=>kf jS pQ ((i.mono g).mono e) z z H) ?_
   obtain⟨p5,aw,al,ak⟩:=xY (T' (iI i H) g);refine nb (λ_=>(C' z z)) (λ_ _ e=>nI rA z (e _ _ _ al))<|nb (λ_=>(C' z z)) (λ_ _ e=>k' z)<|nb (λ_=>(C' z z)) (λ_ _ e=>k' z)<|oE hr λx6 K hr=>nb (λ_=>(C' z z)) (λ_ _ e=>kf jS pQ ((i.mono g).mono e) z z K) ?_
   obtain⟨p6,ay,Y,V⟩:=xY (T' (iI i K) g);refine nb (λ_=>(C' z z)) (λ_ _ e=>nI rA z (e _ _ _ Y)) ?_;exact Η
  replace hr:=hr.neg a;refine nb (λ_=>(C' z z)) (λ_ _ e=>nL (vJ z z) (đ Value.bool (Č a)))<|nb (λ_=>(C' z z)) (λ_ _ e=>k' z)<|my (λ_=>(uE z z))<|my (λ_=>(uE z z))<|my (λ_=>(uE z z))<|my (λ_=>(uE z z))<|my (λ_=>(uE z z))<|my (λ_=>(uE z z))<|my (λ_=>(uE z z))<|my (λ_=>(uE z z))<|my (λ_=>(uE z z))<|BL (d:=35) (post:=fX c' o) (λt W C j=>?_)
  obtain⟨n,l,rfl,k⟩:=j;exact yu z<|gy z z (f' z z) z<|ς z<|t'<|Θ<|b'<|tN z<|Η
 exact Η
instance gz'{l r}:SpcM ((A7 l)) r (∀{f g c d},Cr 86 #[.agg ((ÿ l f g c d)).toArray] (λG=>sq G f g l.eqs/\sq G c d l.ε) (λG v=>v=.bool r)):=.mk λhr {f g c d}=>by
 refine æ ?_;intro x n _ _ _ p hr _;refine WC.nB hr [1] [1] (λ(_:Unit)=>⟨[],Qm l,tr,[]⟩) ?_;intro i _ hr j _;refine o'<|sr<|Ο z<|WC.mA hr [1] [1] [] [] (λ(q:Int)=>⟨q,[(3,i' q)],tr,[]⟩) (λ(_:Unit)=>⟨(.inr ()),[],tr,[]⟩) 0
instance ik'{n r}:SpcM ((Gr n)) r (∀{h k c d},Cr 157 #[.agg ((ÿ n h k c d)).toArray] (λG=>sq G h k n.eqs/\sq G c d n.ε) (λG v=>v=.string r)):=.mk λhr {h k c d}=>by
 refine æ ?_;intro K _ _ l g _ hr f;have a:=tW (w0:=K);refine o' ?_;refine æ ?_;intro _ hr _;refine ke hr z (λA hr=>?_) (λA hr=>?_)
 .exact Η
 refine q'<|b'<|sr<|WL.sL (e:=5) (r:=(Rp.int .u8)) (vs:=#[]) (cs:=[]) ([]:Ŀ Int) 4006 z z z z z ĳ (λ_=>İ) (z) λV J y=>Γ (y' 1 mq z z z)<|oE hr λP o hr=>mG (λw s=>s.Ü (i:=4006) (j:=5000) z (by rw[l];rfl))<|mY z z (x' Jd z) (Fh _ _ _ _ _ _ _ _ _ _ o) z (⟨y,g,f⟩) (lc z ln) a (λM R L E m=>?_)
 obtain⟨F,H,B,rfl,rfl,t⟩:=m;refine mG (λw s=>s.Ü (i:=5000) (j:=4008) z (by rw[l];rfl))<|pX (r:=(Rp.int .u8)) (e:=5) 4008 t z (by rw[l];rfl) λO S D u C=>Γ (Y0.kQ Wg GN xQ u z)<|Ο z<|m' (Ø hr z z)
instance iN'{k1 r}:SpcM ((K1 k1)) r (∀{Q L A B},Cr 88 #[.agg ((ÿ k1 Q L A B)).toArray] (λG=>sq G Q L k1.eqs/\sq G A B k1.ε) (λG v=>∃ab ae J P,v=.tuple #[.agg ((ÿ r.1 ab ae J P)).toArray,.agg (Ô r.2).toArray]/\sq G ab ae r.1.eqs/\sq G J P r.1.ε)):=.mk λhr {Q L A B}=>by
 refine J' (args:=[_]) (N:=44) func88 z z z (λw0 G0 a9 aS=>?_);obtain⟨af,U⟩:=aS;refine sr<|jT 1 z z z λb1=>W' 2 z rN z λb2=>W' 3 z va z λb3=>nr<|Γ (rD z)<|Γ (n' 1 eO z z z)<|oE hr λaX aM hr=>gW z z (x' Ya z) (nP.h aM) z (trivial) (λa5 bb H ak=>?_)
 obtain⟨aR,aJ,rfl,l⟩:=ak;refine Ο z<|o'<|zR [] ln [ff,ff,ff,ff,ff,tt,tt,tt,ff,ff] eJ İ λT=>cn (λ_ c=>y' 1 mq z z z) ?_
 refine æ ?_;intro _ _ _ aF hr _;refine oE hr λx2 aC hr=>γ.pZ (λ_=>z) (λ_=>kf MV xU l z z aC)<|γ.pZ (λ_=>z) (λ_=>mW _ zJ z (U' _ _ _) (V9 (iI l aC)))<|kI (λ_=>z) rN<|kI (λ_=>z) va<|γ.yE (λbc bd a4 X1 g av R an=>?_)
 obtain⟨Y,V,O,K,rfl,E,q⟩:=an;refine fo.kL av (λb5 aV aY=>?_);subst aV;replace R:=Ca R ĳ aY;refine fo.kL R (λb4 aZ a7=>?_);subst aZ;refine fo.zW (show fo _ _ _ _ _ _ _ (St w0 G0 X1.m _)from ?_);refine np (λw n=>(n.eC T g).weaken ln)<|fZ 5 tP z<|nl<|np (λw n=>(n.eC T g).weaken ln)<|A' 6 z xU z z z (U' _ _ _) (U' _ _ _) (λu a=>Rp.one (gb .i64 8) (G:=X1.m) (x:=x2) (cs:=Ô x2) z u (by first|simpa using a|simpa[Value.cells]using a))<|nl<|uI (λw n=>(n.eC T g).weaken ln)<|Θ<|b'<|o'<|sr<|Ο z<|WC.mD hr [1,2,3,4,5,6] [1,2,3] [2,3,5,6] [2,3] (λ(⟨i1,S,k,j,f,e,ai⟩:Int×Zc×ŀ Addr×Nat×ŀ Addr×Nat×(Fin 8->Int))=>⟨(i1,S,ai),[(7,i' i1)],λaa=>sq aa k j S.eqs/\sq aa f e S.ε,[(5,ö b4 (ÿ S k j f e) 48),(6,ö b5 (Ô ai) 71)]⟩) (λ(⟨h,F,D,y,t,Z⟩:Zc×ŀ Addr×Nat×ŀ Addr×Nat×(Fin 8->Int))=>⟨(h,Z),[],λX=>sq X F D h.eqs/\sq X y t h.ε,[(5,ö b4 (ÿ h F D y t) 48),(6,ö b5 (Ô Z) 71)]⟩) ⟨1,aF,Y,V,O,K,x2⟩ ?_ ?_
 .rintro _ aa ⟨i1,S,k,j,f,e,ai⟩ d ⟨C,s⟩ hr;refine o' ?_;refine æ ?_;intro hr;refine I' hr z (λa0 hr=>?_) (λa0 hr=>?_)
  .refine q'<|b'<|o'<|Y'<|o'<|fE [ff,ff,ff,ff,ff,ff,ff] eJ İ λT=>cn (λ_ c=>y' 1 mq z z z)<|fR z ?_
   refine æ ?_;intro _ _ _ aG hr _;refine kI (λ_=>z) rN<|γ.nF (λba a2 X2 o aq am=>?_)
   obtain⟨b6,rfl,aQ⟩:=aq;obtain⟨ad,W,I,M,rfl,p,m⟩:=am;refine oS aQ (mg (show WL _ _ _ _ _ _ (St w0 G0 X2.m _)from ?_));refine fZ 8 tP z<|t'<|Θ ?_
   refine æ ?_;intro T _ _ _ hr _;refine Γ (Y0.CT z z)<|t'<|Θ<|b'<|ke hr z (λaW hr=>?_) (λaW hr=>?_)
   .refine zR [] ln [ff,tt,tt,tt,tt] eJ İ λT=>?_;refine æ ?_;intro hr;exact oE hr λx4 aD hr=>nj z (kf MV xU (l.mono (mx (mx g d) o)) z z aD)<|nj z (mW _ zJ z (U' _ _ _) (V9 (T' (iI l aD) (mx (mx g d) o))))<|x0 T<|np (λw n=>n.weaken ln)<|fZ 5 tP z<|nl<|np (λw n=>n.weaken ln)<|A' 6 z xU z z z (U' _ _ _) (U' _ _ _) (λu a=>Rp.one (gb .i64 8) (G:=X2.m) (x:=x4) (cs:=Ô x4) z u (by first|simpa using a|simpa[Value.cells]using a))<|nl<|uI (λw n=>n.weaken ln)<|Η
   exact Η
  exact Η
 rintro X ⟨h,F,D,y,t,Z⟩ hr a1 ⟨al,aj⟩;refine b'<|o'<|zR [(6,ö b5 (Ô Z) 71)] (lc z ln) [ff,tt] eJ İ λT=>cn (λ_ c=>y' 5 mq z z z)<|nj z (y' 6 zJ z z (U' _ _ _))<|x0 T<|np (λw n=>n.weaken (lc z ln))<|fZ 2 tP z<|nl<|np (λw n=>n.weaken (lc z ln))<|A' 3 z xU z z z (U' _ _ _) (U' _ _ _) (λu a=>Rp.one (gb .i64 8) (G:=X) (x:=Z) (cs:=Ô Z) z u (by first|simpa using a|simpa[Value.cells]using a))<|nl<|uI (λw n=>n.weaken (lc z ln))<|Θ<|b'<|m' ?_
 obtain rfl:_=r:=hr;exact ux z (kH (i:=2) mq z z z) (kH (i:=3) zJ z z (U' _ _ _)) ⟨_,_,_,_,z,al,aj⟩
instance fK'{o r}:SpcM ((y4 o)) r (∀{j k},Cr 156 #[δ j o k] (λG=>sv G j k o) (λG v=>v=.bool r)):=.mk λhr {j k}=>by refine Ν ?_;intro s m _ _ hr _;refine WC.mC hr [0] [] [] [] (λ(l:Int)=>⟨l,[(3,i' l)],tr,[]⟩) (λ(_:Unit)=>⟨(.inr ()),[],tr,[]⟩) 0 ?_;intro _ h l d _ hr;refine Ν ?_;intro _ hr;refine WC.mA hr [0,3] [] [0,3] [] (λ(⟨e,q⟩:Int×Int)=>⟨(e,q),[(4,i' e),(5,i' q)],tr,[]⟩) (λ(g:Int)=>⟨(.inr g),[(4,i' g)],tr,[]⟩) ⟨0,0⟩
instance km{c r}:SpcM ((Ju c)) r (Cr 158 #[.agg (Ô c).toArray] (λG=>True) (λG v=>v=.bool r)):=.mk λhr=>by
 refine Ν ?_;intro s g _ o y hr _;refine A' 3 z wF z z z (U' _ _ _) (U' _ _ _) (λu t=>Rp.one (Rp.DO 8) (G:=g) (x:=(λ_=>false)) (cs:=ô Value.bool 8 (λ_=>false)) z u (by first|simpa using t|simpa[Value.cells]using t))<|nx<|o'<|sr<|Ο z<|WC.mA hr [1,3] [1] [] [] (λ(⟨h,d⟩:Int×(Fin 8->Bool))=>⟨(h,d),[(4,i' h)],tr,[(3,ö y (ô Value.bool 8 d) 143)]⟩) (λ(_:Unit)=>⟨(.inr ()),[],tr,[]⟩) ⟨0,(λ_=>false)⟩
instance jh'{j r}:SpcM ((Gj j)) r (∀{e c f d},Cr 292 #[.agg ((Τ j e c f d)).toArray] (λG=>su G e c j.num.χ/\su G f d j.den.χ) (iE r)):=.mk λhr {e c f d}=>Η
instance ji'{M I r}:SpcM ((Gm M I)) r (∀{o k m l n g f j},Cr 323 #[.agg ((Τ M o k m l)).toArray,.agg ((Τ I n g f j)).toArray] (λG=>su G o k M.num.χ/\su G m l M.den.χ/\su G n g I.num.χ/\su G f j I.den.χ) (eA r)):=.mk λhr {o k m l n g f j}=>Η
instance is'{Y ae k1 r}:SpcM ((Ke Y ae k1)) r (∀{B ab E al},Cr 291 #[.agg (B).toArray,.agg (E).toArray,i' k1] (λG=>É ir 8 G B ab Y/\É ir 8 G E al ae) (λG v=>∃zk zu,v=.agg (zk).toArray/\É ir 8 G zk zu r)):=.mk λhr {B ab E al}=>by
 refine Ν ?_;intro w0 G0 _ _ A N b2 b3 hr aa;refine oE hr λx1 aA hr=>Γ (rE ou kg z z (rH A aA)) ?_;obtain⟨O,R,S,M,aF,V,Q⟩:=pN (we A aA);refine Γ (R' _ 3 mo z z z aF)<|W' 7 z rF z λb4=>fZ 7 kg z<|nx<|o'<|sr<|Ο z<|nJ (X:=Int×(Ŀ Zf)×Ŀ Value×Unit×Mem) hr (λ⟨a,U,D,H,W⟩=>⟨(a,U),[(3,iO N),(4,iO b2),(6,iO b3),(7,iO b4),(8,i' a)],Mem.le G0 W/\É ir 8 W D H U,St w0 G0 W [(3,ö N (D) 325),(4,ö b2 (E) 325),(6,ö b3 ([.bool false,.slice none 0 0,.bool false,.slice none 0 0,.bool false,.slice none 0 0,.bool false,.slice none 0 0,.bool false,.slice none 0 0,.bool false,.slice none 0 0,.bool false,.slice none 0 0,.bool false,.slice none 0 0,.bool false,.slice none 0 0,.bool false,.slice none 0 0,.bool false,.slice none 0 0,.bool false,.slice none 0 0,.bool false,.slice none 0 0,.bool false,.slice none 0 0,.bool false,.slice none 0 0,.bool false,.slice none 0 0]:Ŀ Value) 325),(7,ö b4 (Τ x1 O R S M) 120)]⟩) (λ(⟨ag,Z,ai,t⟩:(Ŀ Zf)×Ŀ Value×Unit×Mem)=>⟨ag,[(3,iO N),(6,iO b3)],Mem.le G0 t/\É ir 8 t Z ai ag,St w0 G0 t [(3,ö N (Z) 325),(6,ö b3 ([.bool false,.slice none 0 0,.bool false,.slice none 0 0,.bool false,.slice none 0 0,.bool false,.slice none 0 0,.bool false,.slice none 0 0,.bool false,.slice none 0 0,.bool false,.slice none 0 0,.bool false,.slice none 0 0,.bool false,.slice none 0 0,.bool false,.slice none 0 0,.bool false,.slice none 0 0,.bool false,.slice none 0 0,.bool false,.slice none 0 0,.bool false,.slice none 0 0,.bool false,.slice none 0 0,.bool false,.slice none 0 0]:Ŀ Value) 325)]⟩) ⟨0,Y,B,ab,G0⟩ z (Å z) ⟨mr,A⟩ (w4 z z z z) ?_ ?_
 .rintro _ ⟨a,U,D,H,W⟩ ⟨m,s⟩ hr;refine o'<|sr<|ν z<|kr z<|nx<|I' hr z (λaO hr=>?_) (λaO hr=>?_)
  .refine q'<|b'<|o'<|Y'<|fE [tt,ff,ff,ff,ff,ff,ff,ff,ff] eJ İ λhb=>uA z (k' z)<|fR z<|oE hr λx2 am hr=>cn (λ_ c=>rE ou kg z z (rH s am)) ?_
   obtain⟨ap,ar,av,aw,aE,L,T⟩:=pN (we s am);refine cn (λ_ c=>R' _ 3 mo z z z aE)<|cn (λ_ c=>y' 7 mo z z z)<|fR z<|oE hr λx3 ao hr=>cn (λ_ c=>rE ou kg z z (rH (aa.mono m) ao)) ?_
   obtain⟨ay,az,au,aq,aH,P,K⟩:=pN (we (aa.mono m) ao);refine cn (λ_ c=>R' _ 4 mo z z z aH)<|oE hr λax aB hr=>pJ (post:=eA ax) (λ_=>z) (λ_ _=>x' Ag z) (Wu.h aB) z (λG' c=>⟨((V.mono m).mono c),((Q.mono m).mono c),(P.mono c),(K.mono c)⟩) (λv G1 G2 c h=>?_) ?_
   .obtain⟨F,y,u,x,rfl,l,j⟩:=h;exact⟨_,_,_,_,z,l.mono c,j.mono c⟩
   refine BL (d:=24) (post:=eA ax) (λaS aW p ac=>?_);obtain⟨F,y,u,x,rfl,l,j⟩:=ac;refine oE hr λo aC hr=>gW z z (x' Ja z) (ji'.h aC) z (⟨(L.mono p),(T.mono p),l,j⟩) (λaR aG C ad=>?_);obtain⟨e,g,f,k,rfl,J,I⟩:=ad;refine oE hr λx4 an hr=>Γ (rE ou kg z z (rH (s.mono (mx p C)) an))<|Cd (cs':=(Τ o e g f k)) (z':=o) 3 z kg z ĳ (s.mono (mx p C)) z z z z ⟨(η o.num e g),(η o.den f k),z,⟨[.bool o.num.neg],[δ e o.num.χ g],z,z,⟨_,z,J⟩⟩,⟨[.bool o.den.neg],[δ f o.den.χ k],z,z,⟨_,z,I⟩⟩⟩ an λd1 aI=>t' ?_
   refine æ ?_;intro hr;refine N' ⟨i64.wrap (a+1),U.set a.toNat o,d1,H,aG⟩ hr ⟨(mx (mx m p) C),aI⟩ (Å z) (w4 z z z z)
  refine nK<|p'<|p'<|K'<|oq ⟨U,D,H,W⟩ ⟨hr,m,s⟩ (Å z) (w2 z z)
 rintro⟨ag,Z,ai,t⟩ ⟨hr,aP,q⟩;refine b'<|sr<|Γ (y' 3 kz z z (lK q))<|A' 6 z oT z z z (lK (show É ir 8 t ([.bool false,.slice none 0 0,.bool false,.slice none 0 0,.bool false,.slice none 0 0,.bool false,.slice none 0 0,.bool false,.slice none 0 0,.bool false,.slice none 0 0,.bool false,.slice none 0 0,.bool false,.slice none 0 0,.bool false,.slice none 0 0,.bool false,.slice none 0 0,.bool false,.slice none 0 0,.bool false,.slice none 0 0,.bool false,.slice none 0 0,.bool false,.slice none 0 0,.bool false,.slice none 0 0,.bool false,.slice none 0 0]:Ŀ Value) () _ from zN (G:=t) (r:=ir) (n:=8) (zc:=[.bool false,.slice none 0 0,.bool false,.slice none 0 0]) (z:=(Zf.mk (Zg.mk false []) (Zg.mk false []))) ⟨[.bool false,.slice none 0 0],[.bool false,.slice none 0 0],z,⟨[.bool false],[.slice none 0 0],z,z,⟨_,z,(X' _ _)⟩⟩,⟨[.bool false],[.slice none 0 0],z,z,⟨_,z,(X' _ _)⟩⟩⟩)) (lK q) (É.one q)<|nx<|m' ?_
 obtain rfl:_=r:=hr;exact j' z (kH (i:=6) kz z z (lK q)) ⟨_,_,z,q⟩
instance iW'{t r}:SpcM ((F0 t)) r (∀{o p},Cr 234 #[δ o t p] (λG=>sv G o p t) (λG v=>v=i' r)):=.mk λhr {o p}=>by
 refine Ν ?_;intro w0 Y ba hr aH;refine nJ (X:=(Ŀ (Ŀ Zf))×ŀ Addr×Nat×ŀ Ow×(Ŀ Int)×ŀ Addr×Nat×ŀ Ow×Int×Mem) hr (λ⟨h,f,g,c,l,i,k,d,q,s⟩=>⟨(h,l,q),[(0,δ o t p),(3,δ f h g),(4,δ i l k),(5,i' q)],Mem.le Y s/\sl (Rp.arr ir 8) s f g h/\Tok 32 325 (δ f h g) h.length c/\sl (Rp.int .i64) s i k l/\Tok 1 3 (δ i l k) l.length d,St w0 Y s [(1003,c),(1004,d)]⟩) (λ(⟨Z,ad,ab,av,bg⟩:(Ŀ (Ŀ Zf))×ŀ Addr×Nat×ŀ Ow×Mem)=>⟨Z,[(3,δ ad Z ab)],Mem.le Y bg/\sl (Rp.arr ir 8) bg ad ab Z/\Tok 32 325 (δ ad Z ab) Z.length av,St w0 Y bg [(1003,av)]⟩) ⟨[],none,0,none,[],none,0,none,0,Y⟩ z (Å z) ⟨mr,(X' _ _),k8,(X' _ _),k8⟩ (wk (lw (lw ln))) ?_ ?_
 .rintro _ ⟨h,f,g,c,l,i,k,d,q,s⟩ ⟨M,L,ak,ac,aQ⟩ hr;refine Ν ?_;intro _ P hr;refine nJ (X:=Int×(Ŀ Zf)×Ŀ Value×Unit×Mem) hr (λ⟨am,aX,aE,az,au⟩=>⟨(am,aX),[(0,δ o t p),(3,δ f h g),(4,δ i l k),(5,i' q),(6,iO P),(7,i' am)],Mem.le s au/\É ir 8 au aE az aX,St w0 Y au [(6,ö P (aE) 325),(1003,c),(1004,d)]⟩) (λ(⟨bc,aP,a7,a⟩:(Ŀ Zf)×Ŀ Value×Unit×Mem)=>⟨bc,[(0,δ o t p),(3,δ f h g),(4,δ i l k),(5,i' q),(6,iO P)],Mem.le s a/\É ir 8 a aP a7 bc,St w0 Y a [(6,ö P (aP) 325),(1003,c),(1004,d)]⟩) ⟨0,(List.replicate 8 (Zf.mk (Zg.mk false []) (Zg.mk false []))),([.bool false,.slice none 0 0,.bool false,.slice none 0 0,.bool false,.slice none 0 0,.bool false,.slice none 0 0,.bool false,.slice none 0 0,.bool false,.slice none 0 0,.bool false,.slice none 0 0,.bool false,.slice none 0 0,.bool false,.slice none 0 0,.bool false,.slice none 0 0,.bool false,.slice none 0 0,.bool false,.slice none 0 0,.bool false,.slice none 0 0,.bool false,.slice none 0 0,.bool false,.slice none 0 0,.bool false,.slice none 0 0]:Ŀ Value),(),s⟩ z (Å z) ⟨mr,(show É ir 8 s ([.bool false,.slice none 0 0,.bool false,.slice none 0 0,.bool false,.slice none 0 0,.bool false,.slice none 0 0,.bool false,.slice none 0 0,.bool false,.slice none 0 0,.bool false,.slice none 0 0,.bool false,.slice none 0 0,.bool false,.slice none 0 0,.bool false,.slice none 0 0,.bool false,.slice none 0 0,.bool false,.slice none 0 0,.bool false,.slice none 0 0,.bool false,.slice none 0 0,.bool false,.slice none 0 0,.bool false,.slice none 0 0]:Ŀ Value) () _ from zN (G:=s) (r:=ir) (n:=8) (zc:=[.bool false,.slice none 0 0,.bool false,.slice none 0 0]) (z:=(Zf.mk (Zg.mk false []) (Zg.mk false []))) ⟨[.bool false,.slice none 0 0],[.bool false,.slice none 0 0],z,⟨[.bool false],[.slice none 0 0],z,z,⟨_,z,(X' _ _)⟩⟩,⟨[.bool false],[.slice none 0 0],z,z,⟨_,z,(X' _ _)⟩⟩⟩)⟩ (w3 z z z) ?_ ?_
  .rintro _ ⟨am,aX,aE,az,au⟩ ⟨S,a2⟩ hr;refine o'<|sr<|ν z<|kr z<|nx<|I' hr z (λch hr=>?_) (λch hr=>?_)
   .refine q'<|b'<|o'<|Y'<|w'<|ν z<|ν z<|ν z<|ν z<|oE hr λx7 bI hr=>Γ (kf tJ xU (aH.mono (mx M S)) z z bI)<|oA hr λbt hr=>Γ (We GM jZ z z bt)<|Γ (nI eO z (GY (T' (iI aH bI) (mx M S)) bt))<|oE hr λU bW hr=>gW z z (x' D1 z) (GW.h bW) z (trivial) (λcA cl aM bk=>?_)
    obtain⟨K,B,D,H,rfl,ay,aD⟩:=bk;refine oE hr λx8 bJ hr=>Γ (rE ou kg z z (rH (a2.mono aM) bJ))<|Cd (cs':=(Τ U K B D H)) (z':=U) 6 z kg z ĳ (a2.mono aM) z z z z ⟨(η U.num K B),(η U.den D H),z,⟨[.bool U.num.neg],[δ K U.num.χ B],z,z,⟨_,z,ay⟩⟩,⟨[.bool U.den.neg],[δ D U.den.χ H],z,z,⟨_,z,aD⟩⟩⟩ bJ λd2 cq=>t' ?_
    refine æ ?_;intro hr;refine N' ⟨i64.wrap (am+1),aX.set am.toNat U,d2,az,cl⟩ hr ⟨(mx S aM),cq⟩ (Å z) (w3 z z z)
   refine nK<|p'<|p'<|K'<|oq ⟨aX,aE,az,au⟩ ⟨hr,S,a2⟩ (Å z) (w3 z z z)
  rintro⟨bc,aP,a7,a⟩ ⟨hr,m,bO⟩;refine b'<|o'<|sr<|Ο z<|nJ (X:=Int×(Ŀ Zf)×Ŀ Value×Unit×Mem) hr (λ⟨aO,bd,aN,a5,a1⟩=>⟨(aO,bd),[(0,δ o t p),(3,δ f h g),(4,δ i l k),(5,i' q),(6,iO P),(8,i' aO)],Mem.le a a1/\É ir 8 a1 aN a5 bd,St w0 Y a1 [(6,ö P (aN) 325),(1003,c),(1004,d)]⟩) (λ(⟨be,W,a6,N⟩:(Ŀ Zf)×Ŀ Value×Unit×Mem)=>⟨be,[(0,δ o t p),(3,δ f h g),(4,δ i l k),(5,i' q),(6,iO P)],Mem.le a N/\É ir 8 N W a6 be,St w0 Y N [(6,ö P (W) 325),(1003,c),(1004,d)]⟩) ⟨0,bc,aP,a7,a⟩ z (Å z) ⟨mr,bO⟩ (w3 z z z) ?_ ?_
  .rintro _ ⟨aO,bd,aN,a5,a1⟩ ⟨I,aC⟩ hr;refine o' ?_;refine æ ?_;intro hr;refine I' hr z (λcr hr=>?_) (λcr hr=>?_)
   .refine q'<|b'<|o'<|Y'<|fE [ff,ff,ff,ff,ff,ff,ff,ff,ff] eJ İ λhb=>cn (λ_ x=>y' 6 kz z z (lK aC))<|fR z<|fR z<|oE hr λx5 bs hr=>cn (λ_ x=>kf oP oT ((L.mono (mx m I)).mono x) z z bs) ?_
    obtain⟨cJ,bn,b4⟩:=(T' (iI L bs) (mx m I));refine cn (λ_ x=>mW _ kz z (lK (u:=()) bn) (λj v hv=>x _ _ _ (b4 j v (by simpa using hv)))) ?_;refine æ ?_;intro _ _ hr _;refine oE hr λb6 bM hr=>gW z z (x' I1 z) (is'.h bM) z (⟨aC,(show É _ _ _ _ () _ from bn)⟩) (λcD cc a8 bj=>?_);obtain⟨bX,bQ,rfl,a4⟩:=bj;refine A' 6 z oT z z z (lK (aC.mono a8)) (lK a4) (É.one a4)<|t' ?_
    refine æ ?_;intro hr;refine N' ⟨i64.wrap (aO+1),b6,bX,bQ,cc⟩ hr ⟨(mx I a8),a4⟩ (Å z) (w3 z z z)
   refine nK<|p'<|p'<|K'<|oq ⟨bd,aN,a5,a1⟩ ⟨hr,I,aC⟩ (Å z) (w3 z z z)
  rintro⟨be,W,a6,N⟩ ⟨hr,O,aq⟩;refine b'<|sr<|Ο z<|o'<|nJ (X:=Int×Mem) hr (λ⟨aa,ax⟩=>⟨aa,[(0,δ o t p),(3,δ f h g),(4,δ i l k),(5,i' q),(6,iO P),(9,i' aa)],Mem.le N ax,St w0 Y ax [(6,ö P (W) 325),(1003,c),(1004,d)]⟩) (λ(⟨A,a9⟩:Int×Mem)=>⟨A,[(0,δ o t p),(3,δ f h g),(4,δ i l k),(5,i' q),(6,iO P),(9,i' A)],Mem.le N a9,St w0 Y a9 [(6,ö P (W) 325),(1003,c),(1004,d)]⟩) ⟨0,N⟩ z (Å z) mr (w3 z z z) ?_ ?_
  .rintro _ ⟨aa,ax⟩ R hr;refine Ν ?_;intro _ hr;refine oE hr λx4 br hr=>gy z z (rE ou kg z z (rH (aq.mono R) br)) z ?_;obtain⟨bH,bK,bB,bx,ca,aT,aR⟩:=pN (we (aq.mono R) br);refine gy z z (R' _ 6 mo z z z ca) z<|oE hr λcK bY hr=>H' (C' z z) z (x' ID z) (eT'.h bY) z (⟨aT,aR⟩)<|gy z z (eI z z) z<|Ι z<|nx<|I' hr z (λce hr=>?_) (λce hr=>?_)
   .exact Η
   exact Η
  rintro⟨A,a9⟩ ⟨hr,y⟩;refine Ν ?_;intro _ hr;refine oE hr λx1 bL hr=>Γ (rE ou kg z z (rH (aq.mono y) bL)) ?_;obtain⟨bz,bF,bG,bv,b7,aZ,aU⟩:=pN (we (aq.mono y) bL);refine Γ (R' _ 6 mo z z z b7)<|oE hr λcm bS hr=>gW z z (x' I2 z) (jh'.h bS) z (⟨aZ,aU⟩) (λcF bm af bi=>?_)
  obtain⟨ar,ap,ag,ai,rfl,aj,ah⟩:=bi;refine ν z<|lS z ?_
  refine æ ?_;intro b2 hr;refine nJ (X:=Int×(Ŀ Zf)×Ŀ Value×Unit×Mem) hr (λ⟨Q,aW,aI,aG,aY⟩=>⟨(Q,aW),[(0,δ o t p),(3,δ f h g),(4,δ i l k),(5,i' q),(6,iO P),(9,i' A),(10,iO b2),(12,i' Q)],Mem.le bm aY/\É ir 8 aY aI aG aW,St w0 Y aY [(6,ö P (aI) 325),(10,ö b2 (Τ cm.1 ar ap ag ai) 120),(1003,c),(1004,d)]⟩) (λ(⟨a0,V,bo,bh⟩:(Ŀ Zf)×Ŀ Value×Unit×Mem)=>⟨a0,[(0,δ o t p),(3,δ f h g),(4,δ i l k),(5,i' q),(6,iO P),(9,i' A)],Mem.le bm bh/\É ir 8 bh V bo a0,St w0 Y bh [(6,ö P (V) 325),(1003,c),(1004,d)]⟩) ⟨0,be,W,a6,bm⟩ z (Å z) ⟨mr,(aq.mono (mx y af))⟩ (w4 z z z z) ?_ ?_
  .rintro _ ⟨Q,aW,aI,aG,aY⟩ ⟨ae,ao⟩ hr;refine o'<|sr<|ν z<|kr z<|nx<|I' hr z (λck hr=>?_) (λck hr=>?_)
   .refine q'<|b'<|o'<|Y'<|fE [tt,ff,ff,ff,ff] eJ İ λhb=>uA z (k' z)<|fR z<|oE hr λx2 bq hr=>cn (λ_ x=>rE ou kg z z (rH ao bq)) ?_
    obtain⟨bw,bA,bC,bD,b5,aS,aV⟩:=pN (we ao bq);refine cn (λ_ x=>R' _ 6 mo z z z b5)<|cn (λ_ x=>y' 10 mo z z z)<|oM hb<|oE hr λT bT hr=>gW z z (x' Ag z) (Wu.h bT) z (⟨aS,aV,(aj.mono ae),(ah.mono ae)⟩) (λcE ct aA bl=>?_)
    obtain⟨C,F,E,J,rfl,aL,aK⟩:=bl;refine oE hr λx3 bu hr=>Γ (rE ou kg z z (rH (ao.mono aA) bu))<|Cd (cs':=(Τ T C F E J)) (z':=T) 6 z kg z ĳ (ao.mono aA) z z z z ⟨(η T.num C F),(η T.den E J),z,⟨[.bool T.num.neg],[δ C T.num.χ F],z,z,⟨_,z,aL⟩⟩,⟨[.bool T.den.neg],[δ E T.den.χ J],z,z,⟨_,z,aK⟩⟩⟩ bu λd1 cb=>t' ?_
    refine æ ?_;intro hr;refine N' ⟨i64.wrap (Q+1),aW.set Q.toNat T,d1,aG,ct⟩ hr ⟨(mx ae aA),cb⟩ (Å z) (w4 z z z z)
   refine nK<|p'<|p'<|K'<|oq ⟨aW,aI,aG,aY⟩ ⟨hr,ae,ao⟩ (Å z) (w3 z z z)
  rintro⟨a0,V,bo,bh⟩ ⟨hr,aF,a3⟩;refine b'<|w'<|ν z<|Γ (y' 6 kz z z (lK a3))<|ng (e:=325) (r:=(Rp.arr ir 8)) (vs:=#[(0,.agg (V).toArray)]) (cs:=V++([])) ([a0]:Ŀ (Ŀ Zf)) z z z z z ĳ (wo (n:=32) (lK a3) (λ_=>(λ_=>İ))) ⟨V,[],z,a3,z⟩ (key:=999) z (by rw[ba];rfl) (λp1 cI aB cg=>?_)
  refine oA hr λbR hr=>jU (r:=(Rp.arr ir 8)) 1003 z z oP wc z ĳ z z (L.mono (mx (mx (mx (mx (mx m O) y) af) aF) aB)) z (by rw[ba];rfl) ak cg bR λp2 co bZ cL bf ci bU=>ν z ?_;refine æ ?_;intro _ _ aJ cj hr;obtain⟨bV,hr⟩:=hr;have N1:=mx (mx (mx (mx (mx (mx (mx (mx M m) O) y) af) aF) aB) bf) aJ;have N2:=mx (mx (mx (mx (mx (mx (mx m O) y) af) aF) aB) bf) aJ;refine jU (r:=(Rp.int .i64)) 1004 z z zC M5 z ĳ z z (ac.mono N2) z (by rw[ba];rfl) aQ cj bV λp4 b9 b3 cp bb b8 bP=>Ý z<|Ý z<|t'<|E'<|b'<|w'<|ν z<|iV z<|Ý z<|t'<|N' ⟨(h++[a0]),p2,co,bZ,(l++[A]),p4,b9,b3,i64.wrap (q+1),cp⟩ hr ⟨(mx N1 bb),(ci.mono (mx aJ bb)),bU,b8,bP⟩ (Å z) (w2 z z)
 rintro⟨Z,ad,ab,av,bg⟩ ⟨hr,cx,bp,cd⟩;exact Η
instance Hd{d c r}:SpcM ((F1 d c)) r (Cr 208 #[i' d,i' c] (λG=>True) (λG v=>v=.agg (Ô r).toArray)):=.mk λhr=>Η
instance iX'{D r}:SpcM ((LD D)) r (∀{H I},Cr 159 #[δ H D I] (λG=>sv G H I D) (iF (gb .i64 8) r)):=.mk λhr {H I}=>by
 refine æ ?_;intro w0 Z q hr t;refine o' ?_;refine æ ?_;intro _ hr _;refine ke hr z (λW hr=>?_) (λW hr=>?_)
 .exact Η
 refine q'<|b'<|sr<|ng (e:=71) (r:=(gb .i64 8)) (vs:=#[]) (cs:=[]) ([]:Ŀ (Fin 8->Int)) z z z z z ĳ (λ_=>İ) (z) (key:=999) z (by rw[q];rfl) λp1 aq n af=>ν z<|oA hr λT hr=>jU (r:=(gb .i64 8)) 2011 z z tJ n0 z ĳ z z af z (by rw[q];rfl) k8 (t.mono n) T λp2 a Q B u J L=>Ο z<|o'<|sr<|ν z<|oE hr λan K hr=>H' z z (x' IJ z) (iW'.h K) z ((t.mono (mx n u)))<|Γ (eI z z)<|nx<|I' hr z (λR hr=>?_) (λR hr=>?_)
 .exact Η
 refine Ν ?_;intro _ hr;refine nJ (X:=(Ŀ (Fin 8->Int))×ŀ Addr×Nat×ŀ Ow×Int×Mem) hr (λ⟨c,g,d,f,C,o⟩=>⟨(c,C),[(4,δ g c d),(5,i' C)],Mem.le B o/\sv o g d c/\Tok 8 71 (δ g c d) c.length f,St w0 Z o [(1004,f)]⟩) (λ(⟨h,l,k,m,x⟩:(Ŀ (Fin 8->Int))×ŀ Addr×Nat×ŀ Ow×Mem)=>⟨h,[(4,δ l h k)],Mem.le B x/\sv x l k h/\Tok 8 71 (δ l h k) h.length m,St w0 Z x [(1004,m)]⟩) ⟨([]++D),p2,a,Q,0,B⟩ z (Å z) ⟨mr,J,L⟩ ?_ ?_ ?_
 .intro w S;have S:=S.Ü (i:=2011) (j:=1004) z (by rw[q];rfl);exact S.weaken (lc z ln)
 .rintro _ ⟨c,g,d,f,C,o⟩ ⟨y,A,s⟩ hr;refine Ν ?_;intro _ p _ _ v V hr _;refine oA hr λP hr=>jU (r:=(gb .i64 8)) 1004 z z tJ n0 z ĳ z z (A.mono v) z (by rw[q];rfl) s V P λp4 Y U N F aj O=>Ý z<|t'<|E'<|b'<|w'<|ν z<|iV z<|Ý z<|t'<|N' ⟨(c++[p]),p4,Y,U,i64.wrap (C+1),N⟩ hr ⟨(mx (mx y v) F),aj,O⟩ (Å z) (w1 z)
 rintro⟨h,l,k,m,x⟩ ⟨hr,ak,E,ag⟩;exact Η
instance it'{o1 f r}:SpcM ((Kd o1 f)) r (∀{e a},Cr 89 #[δ e o1 a,.agg (Ô f).toArray] (λG=>sv G e a o1) (iF (gb .i64 8) r)):=.mk λhr {e a}=>by
 refine Ν ?_;intro U T _ P K _ _ _ _ _ _ R _ _ y s _ _ p1 O _ u hr _;refine WC.mC (hH:=by exact⟨u,k8⟩) hr [3,6] [3] [] [] (λ(⟨c,h,g,d,L⟩:(Ŀ (Fin 8->Int))×ŀ Addr×Nat×ŀ Ow×Int)=>⟨(c,L),[(8,δ h c g),(9,i' L)],λk=>sv k h g c/\Tok 8 71 (δ h c g) c.length d,[(1008,d)]⟩) (λ(⟨l,o,n,t⟩:(Ŀ (Fin 8->Int))×ŀ Addr×Nat×ŀ Ow)=>⟨l,[(8,δ o l n)],λJ=>sv J o n l/\Tok 8 71 (δ o l n) l.length t,[(1008,t)]⟩) ⟨[],p1,0,none,0⟩ ?_;rintro _ k ⟨c,h,g,d,L⟩ j ⟨I,C⟩ hr;refine Ν ?_;intro _ V hr;refine WC.mB hr [3,6,8,9,10] [3,1008] [3,6,8,9,10] [3,1008] (λ(⟨E,A⟩:Int×(Fin 8->Int))=>⟨(E,A),[(11,i' E)],tr,[(10,ö V (Ô A) 71)]⟩) (λ(m:(Fin 8->Int))=>⟨m,[],tr,[(10,ö V (Ô m) 71)]⟩) ⟨0,(λ_=>0)⟩ ?_;intro Q m hr F _;refine Ν ?_;intro _ _ H x hr;refine oA hr λaf hr=>jU (r:=(gb .i64 8)) 1008 z z tJ n0 z ĳ z z (I.mono (mx F H)) z (by rw[P];rfl) C x af λp3 q i B S v p=>Ý z<|t'<|E'<|b'<|w'<|ν z<|iV z<|Ý z<|t'<|N' ⟨B,(c++[m]),p3,q,i,i64.wrap (L+1)⟩ hr ⟨(mx (mx (mx j F) H) S),v,p⟩ (Å z) (w2 z z)
instance gm'{c r}:SpcM ((Ex c)) r (Cr 64 #[i' c] (λG=>True) (λG v=>v=.bool r)):=.mk λhr=>Η
end Go.Proofs.YtepbagkffgddlaaGreat

