/- The law TaskSame holds for every input: a part of its proof (fT the code does, plain models, and fT they return). No condition. -/
import Derived.Test.YtepbagkffgddlaaGreatXS8fb
set_option linter.unusedVariables false
set_option linter.unusedSimpArgs false
namespace Go.Proofs.YtepbagkffgddlaaGreat
open Go.IntKind (i8 i16 i32 i64 u8 u16 u32 u64)
open Go.Proofs.Tryz
open Go Go.EL Go.RowKit Go.Proofs
set_option maxHeartbeats 4000000
set_option maxRecDepth 20000
theorem PL(B:Ze)(A:Ze)(i:ŀ Addr)(j:Nat)(f:ŀ Addr)(h:Nat)(n:ŀ Addr)(x:Nat)(o:ŀ Addr)(q:Nat)(l:ŀ Addr)(k:Nat)(g:ŀ Addr)(d:Nat)(p:ŀ Addr)(u:Nat)(y:ŀ Addr)(t:Nat)(r:Int)(hr:(J1 B A).Γ r):Cr 50 #[.agg ((fz B i j f h n x o q)).toArray,.agg ((fz A l k g d p u y t)).toArray] (λG=>sq G i j B.k.eqs/\sq G f h B.k.δ/\sl c' G n x B.q.p/\sv G o q B.q.o/\sq G l k A.k.eqs/\sq G g d A.k.δ/\sl c' G p u A.q.p/\sv G y t A.q.o) (λG v=>v=i' r):=by
 refine J' (args:=[_,_]) (N:=17) func50 z z z (λw0 Y M H=>?_);obtain⟨J,D,O,R,K,F,Q,P⟩:=H;refine sr<|jO 2 z z z λW=>jO 3 z z z λa=>Υ z<|o'<|fM [ff,ff,ff,ff,ff,ff,ff,ff,ff] eR İ λT=>cn (λ_ c=>VX z)<|cn (λ_ c=>n' 2 eM z z z)<|cn (λ_ c=>VX z)<|cn (λ_ c=>n' 3 eM z z z)<|oE hr λs I hr=>uA z (λ_=>x' O4 z) (Wk.h I) z (λX c=>trivial)<|cn (λ_ c=>GJ z)<|cn (λ_ c=>n' 2 eM z z z)<|cn (λ_ c=>GJ z)<|cn (λ_ c=>n' 3 eM z z z)<|pE T<|oE hr λm C hr=>H' z z (x' O4 z) (Wk.h C) z (trivial)<|mU (e:=3) (r:=(Rp.int .i64)) (vs:=#[(0,i' s),(1,i' m)]) (cs:=[i' s]++([i' m]++([]))) ([s,m]:Ŀ Int) z z z z z ĳ (λ_=>İ) ⟨[i' s],[i' m]++([]),z,z,⟨[i' m],[],z,z,z⟩⟩ (key:=999) z (by rw[M];rfl) (λZ V S L=>?_)
 refine oE hr λU E hr=>H' z z (x' Yb z) (iB'.h E) z (L)<|Ö z<|t'<|Λ<|b'<|m' (Û hr z z)
instance {B:Ze}{A:Ze}{r:Int}:SpcM ((J1 B A)) r (∀{i:ŀ Addr}{j:Nat}{f:ŀ Addr}{h:Nat}{n:ŀ Addr}{x:Nat}{o:ŀ Addr}{q:Nat}{l:ŀ Addr}{k:Nat}{g:ŀ Addr}{d:Nat}{p:ŀ Addr}{u:Nat}{y:ŀ Addr}{t:Nat},Cr 50 #[.agg ((fz B i j f h n x o q)).toArray,.agg ((fz A l k g d p u y t)).toArray] (λG=>sq G i j B.k.eqs/\sq G f h B.k.δ/\sl c' G n x B.q.p/\sv G o q B.q.o/\sq G l k A.k.eqs/\sq G g d A.k.δ/\sl c' G p u A.q.p/\sv G y t A.q.o) (λG v=>v=i' r)):=⟨λa {i j f h n x o q l k g d p u y t}=>PL _ _ i j f h n x o q l k g d p u y t _ a⟩
theorem OB:Go.Sort.SWO (Go.Proofs.ltOf ll):=by
 have key:∀x y:Ze,Go.Proofs.ltOf ll x y=true↔x.ψ<y.ψ\/x.ψ=y.ψ/\x.id<y.id:=λx y=>by
  show decide (ll x y<0)=true↔_;rw[decide_eq_true_eq];unfold ll;by_cases a:x.ψ<y.ψ
  .rw[ą a];omega
  rw[ā a];by_cases b:y.ψ<x.ψ
  .rw[ą b];omega
  rw[ā b];by_cases c:x.id<y.id
  .rw[ą c];omega
  rw[ā c];split<;>omega
 refine⟨λx=>?_,λx y z d h2=>?_,λx y z d h2=>?_⟩
 .rw[<-Bool.not_eq_true,key];omega
 .rw[key]at *;omega
 rw[<-Bool.not_eq_true,key]at *;omega
theorem Za8(l:Ŀ Ze)(a b f:Int)(p:ŀ Addr)(c n:Nat)(tk:ŀ Ow)(r:Ŀ Ze)(hr:(Ph l a b f).Γ r):Cl 96 #[.slice p n c,.int .i64 a,.int .i64 b,.int .i64 f,.func (.func 50) #[] #[]] [(5000,tk)] (λG=>Ε ZF 56 G (.slice p n c) l tk) (λG L v=>∃C,L=[(5000,C)]/\v=.tuple #[]/\Ε ZF 56 G (.slice p n c) r C):=by
 obtain⟨⟨rfl,rfl,⟨X,Y⟩,h2⟩,hr⟩:=hr;obtain⟨k,rfl⟩:∃k:Nat,f=k:=⟨f.toNat,ŉ⟩;refine(C8 (r:=ZF) (sz:=11) rfl ĳ OB Tryz.Dm rfl (λ_=>İ) (λ_=>İ) (λx y W cy w G hi hp=>?_) Ya 56 p n c l tk k ŉ ŉ).mono (λ_ h=>h) (λG L v ⟨ys,I,T,U,V,q4,q5⟩=>?_)
 .obtain⟨p1,p2⟩:=hp;obtain⟨E,D,m,j,O,N,K,J,rfl,g,d,s,q⟩:=Rx p1;obtain⟨H,F,u,t,S,R,Q,P,rfl,i,e,B,A⟩:=Rx p2;exact PL _ _ _ _ _ _ _ _ _ _ _ _ _ _ _ _ _ _ _ (ZxX x y) w G hi ⟨g,d,s,q,i,e,B,A⟩
 have:ys=r:=hr ys ⟨q4,q5.imp (λh=>by simpa[Go.Proofs.ltOf]using h)⟩;subst this;exact⟨I,T,U,V⟩
theorem PS(c:Zb)(h:ŀ Addr)(m:Nat)(i:ŀ Addr)(l:Nat)(r:(Ŀ Zb))(hr:(yK c).Γ r):Cr 38 #[.agg ([i' c.kind,ε h c.p m,ε i c.o l]).toArray] (λG=>sl c' G h m c.p/\sv G i l c.o) (fU tK r):=by
 refine è ?_;intro t j _ _ _ _ hr _;refine WC.nD hr [4] [] (λ(g:Bool)=>⟨[(5,.bool g)],Jm c g,tr,[]⟩) ?_ ?_
 .refine sr<|Δ (eB z z)<|Υ z<|I' hr z (λp hr=>?_) (λp hr=>?_)
  .exact Ι
  exact Ι
 intro d g hr C _;refine jM hr z (λB hr=>?_) (λB hr=>?_)
 .exact Ι
 refine WC.nC hr [4] [] (λ(f:Bool)=>⟨[(10,.bool f)],Jl c f,tr,[]⟩) ?_;refine sr<|Δ (eB z z)<|Υ z<|I' hr z (λq hr=>?_) (λq hr=>?_)
 .exact Ι
 exact Ι
instance {c:Zb}{r:(Ŀ Zb)}:SpcM ((yK c)) r (∀{h:ŀ Addr}{m:Nat}{i:ŀ Addr}{l:Nat},Cr 38 #[.agg ([i' c.kind,ε h c.p m,ε i c.o l]).toArray] (λG=>sl c' G h m c.p/\sv G i l c.o) (fU tK r)):=⟨λa {h m i l}=>PS _ h m i l _ a⟩
theorem E8(o:Zc)(h:Zb)(e:ŀ Addr)(f:Nat)(c:ŀ Addr)(d:Nat)(j:ŀ Addr)(m:Nat)(k:ŀ Addr)(n:Nat)(r:Ĳ)(hr:(tG o h).Γ r):Cr 46 #[.agg ((Ã o e f c d)).toArray,.agg ([i' h.kind,ε j h.p m,ε k h.o n]).toArray] (λG=>sq G e f o.eqs/\sq G c d o.δ/\sl c' G j m h.p/\sv G k n h.o) (λG v=>v=.string r):=by
 refine J' (args:=[_,_]) (N:=10) func46 z z z (λH F C s=>?_);obtain⟨l,i,t,q⟩:=s;refine sr<|jO 2 z z z λD=>jO 3 z z z λI=>Υ z<|o'<|fM [ff,ff,ff] eR İ λy=>cn (λ_ g=>y' 2 l6 z z z)<|oE hr λB u hr=>uA z (λ_=>x' yB z) (yF _ _ _ _ _ _ u) z (λE g=>⟨(l.mono g),(i.mono g)⟩) ?_
 refine è ?_;intro hr;refine oE hr λA p hr=>H' z z (x' I5 z) (J5 _ _ _ _ _ _ p) z (⟨t,q⟩)<|oA hr λx hr=>Δ (Y0.ML z z x)<|Ö z<|t'<|Λ<|b'<|m' (Û hr z z)
instance {o:Zc}{h:Zb}{r:Ĳ}:SpcM ((tG o h)) r (∀{e:ŀ Addr}{f:Nat}{c:ŀ Addr}{d:Nat}{j:ŀ Addr}{m:Nat}{k:ŀ Addr}{n:Nat},Cr 46 #[.agg ((Ã o e f c d)).toArray,.agg ([i' h.kind,ε j h.p m,ε k h.o n]).toArray] (λG=>sq G e f o.eqs/\sq G c d o.δ/\sl c' G j m h.p/\sv G k n h.o) (λG v=>v=.string r)):=⟨λa {e f c d j m k n}=>E8 _ _ e f c d j m k n _ a⟩
def va(e a c d mb:Nat)(k:Zc)(h:ŀ Addr)(f:Nat)(i:ŀ Addr)(g:Nat)(s:ŀ Addr×Nat×ŀ Ow×ŀ Ow)(B:Zd):Lo:=[(105416,some ⟨e,.cells #[.slice s.1 B.t.length s.2.1,.int .i64 B.next] 26 (0,0),0⟩),(5000,s.2.2.1),(5590,s.2.2.2),(105417,some ⟨a,.cells #[.func (.func 71) #[] #[.pointer (some ⟨a,0,none⟩),.pointer (some ⟨c,0,none⟩),.pointer (some ⟨d,0,none⟩),.pointer (some ⟨e,0,none⟩)]] 140 (0,0),0⟩),(105409,some ⟨c,.cells #[.int .i64 k.n,.slice h k.eqs.length f,.slice i k.δ.length g] 48 (0,0),0⟩),(105413,some ⟨d,.cells #[.map (some mb)] 138 (0,0),0⟩)]
structure vb (mb:Nat) (D:Ŀ (Ĳ×Int)) (B:Zd) (s:ŀ Addr×Nat×ŀ Ow×ŀ Ow) (G:Mem):Prop where
 row:Ε ZF 56 G (.slice s.1 B.t.length s.2.1) B.t s.2.2.1
 map:Ø rC (mF (Rp.int .i64) G) (.map (some mb)) D s.2.2.2
def DZ(f:Zc->Zb->Ŀ (Ĳ×Int)->Zd->Cq ((Int×Int)×Ŀ (Ĳ×Int)×Zd)):Prop:=∀(j a c d mb:Nat) (k:Zc) (h:ŀ Addr) (e:Nat) (i:ŀ Addr) (g:Nat) (q:Zb) (p:ŀ Addr) (l:Nat) (n:ŀ Addr) (m:Nat) (D:Ŀ (Ĳ×Int)) (B:Zd) (s:ŀ Addr×Nat×ŀ Ow×ŀ Ow) (o:(Int×Int)×Ŀ (Ĳ×Int)×Zd),(f k q D B).Γ o->
 Cl 71 #[.agg ([.int .i64 q.kind,.slice p q.p.length l,.slice n q.o.length m]).toArray,.pointer (some ⟨a,0,none⟩),.pointer (some ⟨c,0,none⟩),.pointer (some ⟨d,0,none⟩),.pointer (some ⟨j,0,none⟩)] (va j a c d mb k h e i g s B)
  (λG=>vb mb D B s G/\(Ζ (Rp.sl Zk) G (.slice h k.eqs.length e) k.eqs/\Ζ (Rp.sl Zk) G (.slice i k.δ.length g) k.δ)/\Ζ Zk G (.slice p q.p.length l) q.p/\Ζ (Rp.vec .i64 8) G (.slice n q.o.length m) q.o)
  (λG L v=>∃s',L=va j a c d mb k h e i g s' o.2.2/\v=.tuple #[.int .i64 o.1.1,.int .i64 o.1.2]/\vb mb o.2.1 o.2.2 s' G)
theorem vb.zero{m d e f mb:Nat}{k:Zc}{j:ŀ Addr}{g:Nat}{l:ŀ Addr}{i:Nat}{D:Ŀ (Ĳ×Int)}{B:Zd}{s:ŀ Addr×Nat×ŀ Ow×ŀ Ow}{G:Mem}(h:vb mb D B s G):(va m d e f mb k j g l i s B).zero:=by
 intro q c x a;simp only[va,Ď,ĝ,Ť]at c;rcases c with rfl|rfl|rfl|rfl|rfl|rfl
 .cases a;rfl
 .exact h.row.zero a
 .exact h.map.zero a
 .cases a;rfl
 .cases a;rfl
 cases a;rfl
theorem vb.mono{mb:Nat}{D:Ŀ (Ĳ×Int)}{B:Zd}{s:ŀ Addr×Nat×ŀ Ow×ŀ Ow}{G G':Mem}(h:vb mb D B s G)(a:Mem.le G G'):vb mb D B s G':=⟨h.row.mono a,h.map.mono a⟩
theorem ZnA:DZ (vk 0):=λ_ _ _ _ _ _ _ _ _ _ _ _ _ _ _ _ _ _ _ hr=>False.elim hr
theorem ZnB{n:Nat}(ih:DZ (vk n)):DZ (vk (n+1)):=by
 intro Z V W Y mb k g d i f q C m A t D B s o hr;refine eN.enter (args:=[_,_,_,_,_]) (N:=73) func71 rfl rfl rfl (λw0 G0 aa ah=>?_);obtain⟨hA,⟨P,Q⟩,T,U⟩:=ah;have hz:w0.L.zero:=by rw[aa];exact hA.zero
 refine sr<|WL.box 5 Zh rfl rfl (λb5=>?_)
 refine yy (Y0.assign rfl) rfl<|yy (Y0.assign rfl) rfl<|nx<|WC.seq ?_
 refine sr<|yy (Y0.eT 5 oD rfl rfl rfl) rfl ?_
 obtain⟨l,hl,hr⟩:=hr;refine WL.call Zh rfl (YC.of XZ rfl) (PS _ _ _ _ _ _ hl) rfl ⟨T,U⟩ (λlv G1 J c=>?_);obtain⟨lp,am,rfl,H⟩:=c;refine yy (Y0.CO underlying90 H rfl) rfl<|mv rfl rfl<|nx<|WC.block ?_
 have aq:l.length<=9223372036854775807:=by obtain⟨_,_,_,_,h,_⟩:=H;omega
 refine WC.hC (X:=Nat×Ŀ (Ĳ×Int)×Zd×(ŀ Addr×Nat×ŀ Ow×ŀ Ow)×Mem) (λL=>match L with|⟨j,_,_,_,_⟩=>[(1,.pointer (some ⟨V,0,none⟩)),(2,.pointer (some ⟨W,0,none⟩)),(3,.pointer (some ⟨Y,0,none⟩)),(4,.pointer (some ⟨Z,0,none⟩)),(5,.pointer (some ⟨b5,0,none⟩)),(16,.slice lp l.length am),(17,.int .i64 (l.length:Int)),(18,.int .i64 (j:Int))])
  (λL=>match L with|⟨j,I,B',s',G⟩=>j<=l.length/\Mem.le G1 G/\vb mb I B' s' G/\(oT (vk n k) (te k q) (l.drop j) I B').Γ o)
  (λL=>match L with|⟨_,_,B',s',G⟩=>St w0 G0 G ((5,some ⟨b5,.cells ([.int .i64 q.kind,.slice C q.p.length m,.slice A q.o.length t]).toArray 54 (0,0),0⟩)::va Z V W Y mb k g d i f s' B')) (λL=>l.length-L.1) ⟨0,D,B,s,G1⟩ (fc rfl (fc rfl (fc rfl (fc rfl (fc rfl (fc rfl (fc rfl (fc rfl fn)))))))) ⟨Ĝ _,Mem.le_refl _,hA.mono J,by rw[aa9];exact hr⟩ (λw F=>F) ?_
 rintro⟨j,I,B',s',G⟩ ⟨hj,E,O,hr⟩;dsimp only at hj E O hr⊢;have a:Mem.le G0 G:=Mem.le_trans J E;refine sr<|yy (Y0.lss rfl rfl) rfl<|nx<|WC.seq ?_
 refine WC.eC (p:=(j:Int)<(l.length:Int)) rfl (λhc=>?_) (λhc=>?_)
 .have ad:j<l.length:=ŉ;have hx:(0:Int)<=(j:Int)/\l[(j:Int).toNat]?=some l[j]:=⟨ŉ,by simp[ad]⟩;have hw:i64.wrap ((j:Int)+1)=((j+1:Nat):Int):=by rw[ĩ];omega
  rw[ĭ ad]at hr;obtain⟨p,hp,hr⟩:=hr;refine WC.skip<|WE.then<|WC.seq<|WC.block<|sr<|yy (Y0.lQ underlying90 ns (H.mono E) rfl rfl hx) rfl ?_
  obtain⟨xp,xc,xo,xd,xe,an,ao⟩:=Jj (At.mono (Ζ.at H hx) E);refine yy (Y0.jx _ oD rfl rfl xe) rfl ?_;refine WL.alloc 109 Zh z54 rfl (λb9=>?_);refine WL.fp 109 Zh ns rfl rfl rfl rfl rfl (Ć.1 rfl) ?_;refine nx<|sr<|yy (Y0.Ò 105417 wx rfl rfl rfl) rfl<|yy (Y0.eT 109 oD rfl rfl rfl) rfl ?_
  refine WL.ka Zh rfl (YC.yd O7 rfl rfl) (ih Z V W Y mb k g d i f _ _ _ _ _ _ _ _ _ hp) rfl ⟨O,⟨P.mono a,Q.mono a⟩,an,ao⟩ (lc rfl (lc rfl (lc rfl (lc rfl (lc rfl (lc rfl ln)))))) hz (λv G2 L2 ae c=>?_);obtain⟨s2,rfl,rfl,aj⟩:=c;refine WL.ø (S':=St w0 G0 G2 ((5,some ⟨b5,.cells ([.int .i64 q.kind,.slice C q.p.length m,.slice A q.o.length t]).toArray 54 (0,0),0⟩)::va Z V W Y mb k g d i f s2 p.2.2)) (λw F=>F.weaken (lc rfl (lc rfl (lc rfl (lc rfl (lc rfl (lc rfl (lc rfl ln)))))))) ?_;refine mv rfl rfl<|yy (Y0.extract rfl rfl) rfl<|yy (Y0.extract rfl rfl) rfl<|yy (Y0.assign rfl) rfl<|yy (Y0.assign rfl) rfl<|nx ?_
  refine sr<|mv rfl rfl<|yy (Y0.neq rfl rfl) rfl<|nx ?_
  obtain⟨he,hr⟩:=hr;refine WC.eC (p:=¬p.1.2=0) rfl (λhn=>absurd he hn) (λ_=>?_);refine WC.skip<|WE.inBlock<|WE.then<|WC.region<|yy (Y0.add rfl rfl) rfl ?_
  rw[hw];exact mv rfl rfl<|WL.nil<|WE.gJ (x:=(j,I,B',s',G)) (j+1,p.2.1,p.2.2,s2,G2) ⟨ŉ,Mem.le_trans E ae,aj,hr⟩ (fc rfl (fc rfl (fc rfl (fc rfl (fc rfl (fc rfl (fc rfl (fc rfl fn)))))))) (λw F=>F) (by show l.length-(j+1)<l.length-j;omega)
 have ak:j=l.length:=ŉ;subst ak;rw[aaf]at hr;refine WC.exit<|WE.ç<|WE.ç<|WE.Í<|WE.then ?_
 refine sr<|yy (Y0.eT 105409 lG rfl rfl rfl) rfl<|yy (Y0.eT 5 oD rfl rfl rfl) rfl ?_
 obtain⟨s,F,S,hr⟩:=hr;refine WL.gW Zh rfl (YC.of I3 rfl) (E8 _ _ _ _ _ _ _ _ _ _ _ F) rfl ⟨P.mono a,Q.mono a,T.mono a,U.mono a⟩ ?_;refine yy (Y0.assign rfl) rfl<|nx<|WC.seq ?_
 refine sr<|yy (Y0.Ò 105413 qq rfl rfl rfl) rfl<|mv rfl rfl ?_
 refine WL.oR (k:=s) 5590 true (R:=λu=>u=.tuple #[.int .i64 ((fh I s).getD 0),.bool (fh I s).isSome]) Zh rfl underlying138 XT O.map rfl rfl rfl S (λh=>by rw[h];rfl) (λval y h hv=>by rw[h,Vi hv];rfl) (λu hu=>?_);subst hu;refine mv rfl rfl<|yy (Y0.extract rfl rfl) rfl<|yy (Y0.extract rfl rfl) rfl<|yy (Y0.assign rfl) rfl<|yy (Y0.assign rfl) rfl<|nx ?_
 refine sr<|mv rfl rfl<|nx ?_
 cases hm:fh I s with
 |some id=>
  rw[hm]at hr;refine WC.pO rfl ?_;replace hr:_=o:=hr;subst hr;refine sr<|mv rfl rfl<|yy (Y0.assign rfl) rfl<|yy (Y0.assign rfl) rfl<|nx<|WC.ret<|WE.hM ?_
  refine WE.ø (S':=St w0 G0 G (va Z V W Y mb k g d i f s' B')) (λw F=>F.weaken (lc rfl (lc rfl (lc rfl (lc rfl (lc rfl (lc rfl ln))))))) ?_;exact WE.uW rfl rfl rfl ⟨s',rfl,rfl,O⟩
 |none=>
  rw[hm]at hr;obtain⟨⟨⟨ap,ar⟩,al⟩,hr⟩:=hr;replace hr:_=o:=hr;subst hr;refine WC.pN rfl ?_;refine WC.skip<|WE.then<|WC.seq<|sr<|yy (Y0.Br rfl) rfl<|yy (Y0.Ò 105416 uX rfl rfl rfl) rfl<|yy (Y0.sB underlying24 O.row rfl) rfl ?_
  refine WL.lM (p:=100<=(B'.t.length:Int)) Zh (Y0.geq rfl rfl) rfl (λhb=>absurd hb ŉ) (λhb=>?_);refine mv rfl rfl ?_;refine WL.q9 (rP rfl rfl) (Y0.zt rfl) rfl ?_;refine WL.q9 (rP rfl rfl) (Y0.Ò 105416 eM rfl rfl rfl) rfl ?_;refine WL.q9 (rP rfl rfl) (Y0.geq rfl rfl) rfl ?_;refine yy (Y0.eW rfl rfl) rfl<|nx ?_
  refine WC.eC (p:=1000000<=B'.next) rfl (λhb=>absurd hb ŉ) (λ_=>?_);refine WC.skip<|WE.then ?_
  refine sr<|yy (Y0.Ò 105413 qq rfl rfl rfl) rfl<|mv rfl rfl<|yy (Y0.zt rfl) rfl<|yy (Y0.Ò 105416 eM rfl rfl rfl) rfl ?_
  refine WL.lR (Rv':=mF (Rp.int .i64) G) (k:=s) (z:=B'.next) 5590 Zh underlying138 O.map rfl rfl rfl rfl S rfl (λ_ _ _ _ h=>h) al (λmt ag=>?_);refine nx ?_;refine sr<|yy (Y0.Br rfl) rfl<|yy (Y0.Ò 105416 uX rfl rfl rfl) rfl<|yy (Y0.zt rfl) rfl<|yy (Y0.Ò 105416 eM rfl rfl rfl) rfl<|yy (Y0.eT 105409 lG rfl rfl rfl) rfl<|yy (Y0.eT 5 oD rfl rfl rfl) rfl ?_
  refine yy (Y0.build (vs:=#[(0,.int .i64 B'.next),(1,.agg ([.int .i64 k.n,.slice g k.eqs.length d,.slice i k.δ.length f]).toArray),(2,.agg ([.int .i64 q.kind,.slice C q.p.length m,.slice A q.o.length t]).toArray),(5,.int .i64 (-1))]) (v:=.agg ([.int .i64 B'.next,.int .i64 k.n,.slice g k.eqs.length d,.slice i k.δ.length f,.int .i64 q.kind,.slice C q.p.length m,.slice A q.o.length t,.int .i64 0,.int .i64 0,.int .i64 (-1),.bool false]).toArray) rfl rfl (λ_=>İ)) rfl ?_;refine WL.qW (e:=56) (r:=ZF) (vs:=#[(0,.agg ([.int .i64 B'.next,.int .i64 k.n,.slice g k.eqs.length d,.slice i k.δ.length f,.int .i64 q.kind,.slice C q.p.length m,.slice A q.o.length t,.int .i64 0,.int .i64 0,.int .i64 (-1),.bool false]).toArray)]) (cs:=[.int .i64 B'.next,.int .i64 k.n,.slice g k.eqs.length d,.slice i k.δ.length f,.int .i64 q.kind,.slice C q.p.length m,.slice A q.o.length t,.int .i64 0,.int .i64 0,.int .i64 (-1),.bool false]++([])) ([(Ze.mk B'.next k q 0 0 (-1) false)]:Ŀ Ze) Zh rfl rfl rfl rfl ĳ (λ_=>İ) ⟨[.int .i64 B'.next,.int .i64 k.n,.slice g k.eqs.length d,.slice i k.δ.length f,.int .i64 q.kind,.slice C q.p.length m,.slice A q.o.length t,.int .i64 0,.int .i64 0,.int .i64 (-1),.bool false],[],rfl,⟨[.int .i64 B'.next],[.int .i64 k.n,.slice g k.eqs.length d,.slice i k.δ.length f,.int .i64 q.kind,.slice C q.p.length m,.slice A q.o.length t,.int .i64 0,.int .i64 0,.int .i64 (-1),.bool false],rfl,rfl,⟨[.int .i64 k.n,.slice g k.eqs.length d,.slice i k.δ.length f],[.int .i64 q.kind,.slice C q.p.length m,.slice A q.o.length t,.int .i64 0,.int .i64 0,.int .i64 (-1),.bool false],rfl,⟨[.int .i64 k.n],[.slice g k.eqs.length d,.slice i k.δ.length f],rfl,rfl,⟨[.slice g k.eqs.length d],[.slice i k.δ.length f],rfl,⟨_,rfl,P.mono a⟩,⟨_,rfl,Q.mono a⟩⟩⟩,⟨[.int .i64 q.kind,.slice C q.p.length m,.slice A q.o.length t],[.int .i64 0,.int .i64 0,.int .i64 (-1),.bool false],rfl,⟨[.int .i64 q.kind],[.slice C q.p.length m,.slice A q.o.length t],rfl,rfl,⟨[.slice C q.p.length m],[.slice A q.o.length t],rfl,⟨_,rfl,T.mono a⟩,⟨_,rfl,U.mono a⟩⟩⟩,⟨[.int .i64 0],[.int .i64 0,.int .i64 (-1),.bool false],rfl,rfl,⟨[.int .i64 0],[.int .i64 (-1),.bool false],rfl,rfl,⟨[.int .i64 (-1)],[.bool false],rfl,rfl,rfl⟩⟩⟩⟩⟩⟩,rfl⟩ (key:=999) rfl (by rw[aa];rfl) (λp1 G3 K q1=>?_);refine WL.iS (r:=ZF) (e:=56) 5000 Zh rfl underlying24 qR rfl ĳ rfl rfl (O.row.mono K) rfl q1 (by simp only[Ā,Ě,Ļ];show _<=small;simp only[small];omega) (λp2 c2 ai q2=>?_);refine yy (Y0.Br rfl) rfl<|WL.fL 105416 #[.slice p2 (B'.t++[(Ze.mk B'.next k q 0 0 (-1) false)]).length c2,.int .i64 B'.next] Zh Dv rfl rfl rfl (show 0<2 by decide) rfl rfl ?_
  refine nx ?_;refine sr<|yy (Y0.zt rfl) rfl<|yy (Y0.Ò 105416 eM rfl rfl rfl) rfl<|yy (Y0.add rfl rfl) rfl<|yy (Y0.zt rfl) rfl<|WL.fL 105416 #[.slice p2 (B'.t++[(Ze.mk B'.next k q 0 0 (-1) false)]).length c2,.int .i64 (i64.wrap (B'.next+1))] Zh jV rfl rfl rfl (show 1<2 by decide) rfl rfl ?_
  refine nx ?_;have ac:(fh (eV I s B'.next) s).getD 0=B'.next:=by rw[yY,ą rfl];rfl
  refine sr<|yy (Y0.Ò 105413 qq rfl rfl rfl) rfl<|mv rfl rfl<|yy (Y0.lA (mk:=Value.int .i64) (k:=s) 5590 0 (λh=>Vi h) underlying138 XT ag rfl rfl rfl S) rfl ?_
  rw[ac];refine yy (Y0.assign rfl) rfl<|yy (Y0.assign rfl) rfl<|nx<|WC.ret ?_
  refine WE.ø (S':=St w0 G0 G3 (va Z V W Y mb k g d i f (p2,c2,ai,mt) ⟨B'.t++[(Ze.mk B'.next k q 0 0 (-1) false)],i64.wrap (B'.next+1)⟩)) (λw F=>F.weaken (lc rfl (lc rfl (lc rfl (lc rfl (lc rfl (lc rfl ln))))))) ?_;exact WE.uW rfl rfl rfl ⟨(p2,c2,ai,mt),rfl,rfl,⟨q2,ag.mono K⟩⟩
theorem Qc:∀n,DZ (vk n)
 |0=>ZnA
 |n+1=>ZnB (Qc n)
instance eN'{q K r}:SpcM ((uo q K)) r (∀{t y i},Cl 217 #[ε t q y,.int .u64 K] [(5000,i)] (λG=>ru G (ε t q y) q i) (λG L v=>∃T W B,L=[(5000,B)]/\v=ε T r W/\ru G (ε T r W) r B)):=.mk λhr {t y i}=>by refine Ρ ?_;intro I p _ hr Y;refine WC.mA hr [] [] [] [] (λ(⟨g,k,o,d,c⟩:(Ŀ Int)×ŀ Addr×Nat×ŀ Ow×Int)=>⟨(g,c),[(0,ε k g o),(1,.int .u64 c)],λf=>ru f (ε k g o) g d,[(5000,d)]⟩) (λ(⟨u,x,s,h,j⟩:(Ŀ Int)×ŀ Addr×Nat×ŀ Ow×Int)=>⟨(u,j),[(0,ε x u s),(1,.int .u64 j)],λl=>ru l (ε x u s) u h,[(5000,h)]⟩) ⟨q,t,y,i,K⟩
instance Wq{g D r}:SpcM ((AN g D)) r (∀{j l e},Cl 139 #[ε j g l,i' D] [(5000,e)] (λG=>ru G (ε j g l) g e) (λG L v=>∃C E k,L=[(5000,k)]/\v=ε C r E/\ru G (ε C r E) r k)):=.mk λhr {j l e}=>Ι
instance tR{A C r}:SpcM ((A1 A C)) r (∀{F M s i g},Cl 284 #[ε F A M,.agg ((η C i g)).toArray] [(5000,s)] (λG=>ru G (ε F A M) A s/\su G i g C.υ) (λG L v=>∃zp zc R,L=[(5000,R)]/\v=ε zp r zc/\ru G (ε zp r zc) r R)):=.mk λhr {F M s i g}=>by refine è ?_;intro I o _ _ _ P hr _;refine WC.nB hr [0,3] [3,5000] (λ(a:Int)=>⟨[(5,.int .u64 a)],ED A C a,tr,[]⟩) ?_;intro J a hr f _;refine Ρ ?_;intro af D _ Z Y O W hr _;refine WC.mA hr [3] [3] [] [] (λ(⟨q,t,u,l,Q⟩:(Ŀ Int)×ŀ Addr×Nat×ŀ Ow×Int)=>⟨(q,Q),[(0,ε t q u),(6,i' Q)],λm=>ru m (ε t q u) q l,[(5000,l)]⟩) (λ(⟨E,H,K,j⟩:(Ŀ Int)×ŀ Addr×Nat×ŀ Ow)=>⟨E,[(0,ε H E K)],λn=>ru n (ε H E K) E j,[(5000,j)]⟩) ⟨af,Z,Y,O,0⟩
instance hT'{s h r}:SpcM ((QH s h)) r (∀{y B q f c e d},Cl 219 #[ε y s B,.agg ((Ω h f c e d)).toArray] [(5000,q)] (λG=>ru G (ε y s B) s q/\su G f c h.num.υ/\su G e d h.den.υ) (λG L v=>∃P Q A,L=[(5000,A)]/\v=ε P r Q/\ru G (ε P r Q) r A)):=.mk λhr {y B q f c e d}=>by
 refine rk (args:=[_,_]) (N:=12) func219 z z z (λM X R H=>?_);obtain⟨D,j,i⟩:=H;have a:M.L.zero:=by rw[R];intro p K x hx;simp only[Ď,ĝ,Ť]at K;subst K;exact BY D hx
 refine sr<|jO 3 z z z λb2=>Υ z<|o'<|WC.nf (l:=ir [0,1,2,4,5,3,6,7] _) (FD İ) [(3,û b2 (Ω h f c e d) 120)] (lc z ln) [ff,ff,ff,tt,tt] eR İ λt=>fO z<|cn (λ_ C=>xO z)<|cn (λ_ C=>R' ((η h.num f c)).toArray 3 mH z z z (mK ([]) ((η h.num f c)) ((η h.den e d))))<|nE z (BH z)<|nE z (R' ((η h.den e d)).toArray 3 mH z z z (mK ((η h.num f c)) ((η h.den e d)) ([])))<|xV t<|nW (λw k=>k.weaken (lc z ln))<|oE hr λag J hr=>mO z z (x' Ac z) (tR.h J) z (⟨D,j⟩) (lc z ln) a (λU ae T g n=>?_)
 obtain⟨Z,Y,S,rfl,rfl,F⟩:=n;refine nS<|nW (λw k=>(k.eU t g).weaken (lc z ln))<|oE hr λaf E hr=>mO z z (x' Ac z) (tR.h E) z (⟨F,(i.mono g)⟩) (lc z ln) a (λad O ac m o=>?_)
 obtain⟨V,W,u,rfl,rfl,I⟩:=o;refine nS<|fA.y0 (λw k=>(k.eU t (mx g m)).weaken (lc z ln)) z (rm z) z<|wa (λw k=>(k.eU t (mx g m)).weaken (lc z ln))<|Λ<|b'<|m' ?_
 obtain rfl:_=r:=hr;refine mN (S':=St M X O [(5000,u)]) (w1 z)<|j' z z ⟨_,_,_,z,z,I⟩
instance hA'{a M r}:SpcM ((FV a M)) r (∀{p q S n t},Cl 142 #[ε p a q,ε n M t] [(5000,S)] (λG=>ru G (ε p a q) a S/\sl c' G n t M) (λG L v=>∃zp zc I,L=[(5000,I)]/\v=ε zp r zc/\ru G (ε zp r zc) r I)):=.mk λhr {p q S n t}=>by
 refine Ρ ?_;intro O U f _ _ _ aR T d X ax Z aC hr _;have hz:=tU (w0:=O);refine WC.mC hr [1] [] [] [] (λ(⟨F,B,C,j,J⟩:(Ŀ Int)×ŀ Addr×Nat×ŀ Ow×Int)=>⟨(F,J),[(0,ε B F C),(5,i' J)],λs=>ru s (ε B F C) F j,[(5000,j)]⟩) (λ(⟨Y,V,W,k⟩:(Ŀ Int)×ŀ Addr×Nat×ŀ Ow)=>⟨Y,[(0,ε V Y W)],λu=>ru u (ε V Y W) Y k,[(5000,k)]⟩) ⟨aR,X,ax,Z,0⟩ ?_;rintro _ s ⟨F,B,C,j,J⟩ c ai hr;refine Ρ ?_;intro _ _ _ _ _ _ _ _ _ _ _ _ _ _ _ _ aN R h N av ac aH hr _;refine WC.mC hr [1,5] [] [1,5] [] (λ(⟨H,y,E,i,x⟩:(Ŀ Int)×ŀ Addr×Nat×ŀ Ow×Int)=>⟨(H,x),[(0,ε y H E),(6,i' x)],λm=>ru m (ε y H E) H i,[(5000,i)]⟩) (λ(⟨P,A,D,g⟩:(Ŀ Int)×ŀ Addr×Nat×ŀ Ow)=>⟨P,[(0,ε A P D)],λl=>ru l (ε A P D) P g,[(5000,g)]⟩) ⟨aN,N,av,ac,0⟩ ?_;rintro _ m ⟨H,y,E,i,x⟩ e an hr;refine Ρ ?_;intro _ _ _ ag _ _ _ _ _ _ _ _ _ _ _ _ hr ak;refine Δ (nw eM z (GL (T' (xP (nQ (iM f ag))) (mx (mx (mx d c) h) e)) ak))<|Δ (oB zv tI z)<|oE hr λaP Q hr=>mO z z (x' Iv z) (eN'.h Q) z (an) (lc z ln) hz (λaW aQ a2 af K=>?_)
 obtain⟨aw,aE,ad,rfl,rfl,ay⟩:=K;exact Ι
instance nH{B I r}:SpcM ((FI B I)) r (∀{J O A y u},Cl 138 #[ε J B O,ε y I u] [(5000,A)] (λG=>ru G (ε J B O) B A/\sq G y u I) (λG L v=>∃zp zc K,L=[(5000,K)]/\v=ε zp r zc/\ru G (ε zp r zc) r K)):=.mk λhr {J O A y u}=>by refine Ρ ?_;intro E U _ _ _ _ a o _ Y W D V hr _;refine WC.mA hr [1] [] [] [] (λ(⟨l,j,k,d,H⟩:(Ŀ Int)×ŀ Addr×Nat×ŀ Ow×Int)=>⟨(l,H),[(0,ε j l k),(5,i' H)],λg=>ru g (ε j l k) l d,[(5000,d)]⟩) (λ(⟨s,t,q,e⟩:(Ŀ Int)×ŀ Addr×Nat×ŀ Ow)=>⟨s,[(0,ε t s q)],λh=>ru h (ε t s q) s e,[(5000,e)]⟩) ⟨a,Y,W,D,0⟩
theorem E7(y:(Ŀ Int))(q:Zc)(B:ŀ Addr)(D:Nat)(u:ŀ Ow)(g:ŀ Addr)(h:Nat)(d:ŀ Addr)(e:Nat)(r:(Ŀ Int))(hr:(vt y q).Γ r):Cl 78 #[ε B y D,.agg ((Ã q g h d e)).toArray] [(5000,u)] (λG=>ru G (ε B y D) y u/\sq G g h q.eqs/\sq G d e q.δ) (λG L v=>∃S U C,L=[(5000,C)]/\v=ε S r U/\ru G (ε S r U) r C):=by
 refine rk (args:=[_,_]) (N:=15) func78 z z z (λR G0 V M=>?_);obtain⟨F,s,n⟩:=M;have a:R.L.zero:=by rw[V];intro p Q x hx;simp only[Ď,ĝ,Ť]at Q;subst Q;exact BY F hx
 refine sr<|jO 3 z z z λb2=>Υ z<|o'<|WC.nf (l:=ir [0,1,2,4,5,7,8,3,6,9,10] _) (FD İ) [(3,û b2 (Ã q g h d e) 48)] (lc z ln) [ff,ff,ff,tt,tt,tt,tt] eR İ λt=>fO z<|cn (λ_ E=>qO z)<|cn (λ_ E=>n' 3 eM z z z)<|nE z (Ng z)<|nE z (n' 3 jU z z z)<|nE z (V4 z)<|nE z (n' 3 jU z z z)<|xV t<|nW (λw i=>i.weaken (lc z ln))<|oE hr λap P hr=>mO z z (x' zV z) (Wq.h P) z (F) (lc z ln) a (λZ an Y c m=>?_)
 obtain⟨ah,ae,X,rfl,rfl,K⟩:=m;refine nS<|nW (λw i=>(i.eU t c).weaken (lc z ln))<|oE hr λao H hr=>mO z z (x' zU z) (nH.h H) z (⟨K,(s.mono c)⟩) (lc z ln) a (λam ar al f o=>?_)
 obtain⟨aa,ab,W,rfl,rfl,O⟩:=o;refine nS<|nW (λw i=>(i.eU t (mx c f)).weaken (lc z ln))<|oE hr λaq J hr=>mO z z (x' zU z) (nH.h J) z (⟨O,(n.mono (mx c f))⟩) (lc z ln) a (λai T af j k=>?_)
 obtain⟨ac,ag,A,rfl,rfl,I⟩:=k;refine nS<|fA.y0 (λw i=>(i.eU t (mx (mx c f) j)).weaken (lc z ln)) z (rm z) z<|wa (λw i=>(i.eU t (mx (mx c f) j)).weaken (lc z ln))<|Λ<|b'<|m' ?_
 obtain rfl:_=r:=hr;refine mN (S':=St R G0 T [(5000,A)]) (w1 z)<|j' z z ⟨_,_,_,z,z,I⟩
instance {y:(Ŀ Int)}{q:Zc}{r:(Ŀ Int)}:SpcM ((vt y q)) r (∀{B:ŀ Addr}{D:Nat}{u:ŀ Ow}{g:ŀ Addr}{h:Nat}{d:ŀ Addr}{e:Nat},Cl 78 #[ε B y D,.agg ((Ã q g h d e)).toArray] [(5000,u)] (λG=>ru G (ε B y D) y u/\sq G g h q.eqs/\sq G d e q.δ) (λG L v=>∃S U C,L=[(5000,C)]/\v=ε S r U/\ru G (ε S r U) r C)):=⟨λa {B D u g h d e}=>E7 _ _ B D u g h d e _ a⟩
theorem Es(a1 y:Zc)(k:ŀ Addr)(j:Nat)(g:ŀ Addr)(d:Nat)(m:ŀ Addr)(l:Nat)(i:ŀ Addr)(h:Nat)(r:Bool)(hr:(wX a1 y).Γ r):Cr 32 #[.agg ([.int .i64 a1.n,.slice k a1.eqs.length j,.slice g a1.δ.length d]).toArray,.agg ([.int .i64 y.n,.slice m y.eqs.length l,.slice i y.δ.length h]).toArray] (λG=>Ζ (Rp.sl Zk) G (.slice k a1.eqs.length j) a1.eqs/\Ζ (Rp.sl Zk) G (.slice g a1.δ.length d) a1.δ/\Ζ (Rp.sl Zk) G (.slice m y.eqs.length l) y.eqs/\Ζ (Rp.sl Zk) G (.slice i y.δ.length h) y.δ) (λG v=>v=.bool r):=by
 refine iL.enter (args:=[_,_]) (N:=14) func32 rfl rfl rfl (λw0 G0 O E=>?_);obtain⟨s,n,t,q⟩:=E;refine sr ?_;refine WL.box 2 Zh rfl rfl (λK=>?_);refine WL.box 3 Zh rfl rfl (λL=>?_);refine sg rfl rfl<|nx<|WC.seq ?_
 obtain⟨C,F,D,H,hr⟩:=hr;replace hr:_=r:=hr;subst hr;refine WC.drawn [false,false,false,false,false,false,false,false,false] eR İ (λQ=>?_);refine γ.nl (r:=Rp.int .u8) (e:=5) ([]:Ŀ Int) (λ_=>Zh) rfl ĳ (λu G' a x=>?_) ?_
 .exact⟨#[],[],rfl,rfl,λ_=>by kernel_rfl,rfl⟩
 refine Ρ ?_;refine γ.nT (f:=78) (kk:=5) (r:=Rp.int .u8) (e:=5) (xs:=([]:Ŀ Int)) (r':=Rp.int .u8) (e':=5) C (λ_=>Zh) rfl İ İ (λu G' a x=>?_) ?_
 .obtain⟨I,_⟩:=(show(gx (Rp.int .u8) 5 5 ([]:Ŀ Int)) (u 5) G'/\True from x);exact⟨u 5,I,λp c tk B A=>⟨_,_,_,λ_=>YC.of I4 rfl,E7 _ _ p c tk _ _ _ _ _ F,by simp only[ς,B]<;>rfl,A,s.mono a,n.mono a⟩⟩
 refine γ.DT (c:=.string (bytesOf C)) (λ_=>Zh) (λu G' a x=>?_) ?_
 .obtain⟨⟨p,c,B,A⟩,_⟩:=(show D2 (Rp.int .u8) C G'.m (u 7)/\_ from x);simp only[ς,B];exact Y0.kL underlying32 underlying5 underlying9 A rfl
 refine γ.nl (r:=Rp.int .u8) (e:=5) ([]:Ŀ Int) (λ_=>Zh) rfl ĳ (λu G' a x=>?_) ?_
 .exact⟨#[],[],rfl,rfl,λ_=>by kernel_rfl,rfl⟩
 refine Ρ ?_;refine γ.nT (f:=78) (kk:=9) (r:=Rp.int .u8) (e:=5) (xs:=([]:Ŀ Int)) (r':=Rp.int .u8) (e':=5) D (λ_=>Zh) rfl İ İ (λu G' a x=>?_) ?_
 .obtain⟨I,_⟩:=(show(gx (Rp.int .u8) 5 9 ([]:Ŀ Int)) (u 9) G'/\_ from x);exact⟨u 9,I,λp c tk B A=>⟨_,_,_,λ_=>YC.of I4 rfl,E7 _ _ p c tk _ _ _ _ _ H,by simp only[ς,B]<;>rfl,A,t.mono a,q.mono a⟩⟩
 refine γ.DT (c:=.string (bytesOf D)) (λ_=>Zh) (λu G' a x=>?_) ?_
 .obtain⟨⟨p,c,B,A⟩,_⟩:=(show D2 (Rp.int .u8) D G'.m (u 11)/\_ from x);simp only[ς,B];exact Y0.kL underlying32 underlying5 underlying9 A rfl
 refine Ρ ?_;refine γ.ti (λU T S R X J P h3 h2 A=>?_);refine WL.DK (show WL _ _ _ _ _ _ (St w0 G0 X.m _)from ?_);refine è ?_;exact WE.jT rfl rfl rfl
instance nj{S r}:SpcM ((Fl S)) r (Cr 28 #[i' S] (λG=>True) (fU (fP .i64 8) r)):=.mk λhr=>by
 refine Ρ ?_;intro w0 G0 u hr _;refine mU (e:=71) (r:=(fP .i64 8)) (vs:=#[(0,.agg (Ó (ζ (ζ (ζ (ζ (ζ (ζ (ζ (ζ (λ_=>0) 0 0) 1 1) 2 2) 3 3) 4 4) 5 5) 6 6) 7 7)).toArray)]) (cs:=(Ó (ζ (ζ (ζ (ζ (ζ (ζ (ζ (ζ (λ_=>0) 0 0) 1 1) 2 2) 3 3) 4 4) 5 5) 6 6) 7 7))++([])) ([ζ (ζ (ζ (ζ (ζ (ζ (ζ (ζ (λ_=>0) 0 0) 1 1) 2 2) 3 3) 4 4) 5 5) 6 6) 7 7]:Ŀ (Fin 8->Int)) z z z z z ĳ (λ_=>İ) ⟨Ó (ζ (ζ (ζ (ζ (ζ (ζ (ζ (ζ (λ_=>0) 0 0) 1 1) 2 2) 3 3) 4 4) 5 5) 6 6) 7 7),[],z,z,z⟩ (key:=999) z (by rw[u];rfl) λp1 ap aY aQ=>Υ z<|o'<|sr<|Υ z<|WC.mC (hH:=by exact aQ) hr [0] [] [] [] (λ(⟨o,f,d,I⟩:(Ŀ (Fin 8->Int))×ŀ Addr×Nat×Int)=>⟨(o,I),[(3,ε f o d),(4,i' I)],λk=>sv k f d o,[]⟩) (λ(⟨U,T,R⟩:(Ŀ (Fin 8->Int))×ŀ Addr×Nat)=>⟨U,[(3,ε T U R)],λak=>sv ak T R U,[]⟩) ⟨[ζ (ζ (ζ (ζ (ζ (ζ (ζ (ζ (λ_=>0) 0 0) 1 1) 2 2) 3 3) 4 4) 5 5) 6 6) 7 7],p1,1,0⟩ ?_
 rintro _ k ⟨o,f,d,I⟩ ag l hr;refine Ρ ?_;intro _ p2 am _ aS hr;refine WC.mC (hH:=by exact⟨aS,kX⟩) hr [0,3,4] [] [0,4] [] (λ(⟨n,q,p,s,a⟩:(Ŀ (Fin 8->Int))×ŀ Addr×Nat×ŀ Ow×Int)=>⟨(n,a),[(5,ε q n p),(6,i' a)],λJ=>sv J q p n/\Tok 8 71 (ε q n p) n.length s,[(1005,s)]⟩) (λ(⟨t,B,A,H⟩:(Ŀ (Fin 8->Int))×ŀ Addr×Nat×ŀ Ow)=>⟨t,[(5,ε B t A)],λY=>sv Y B A t/\Tok 8 71 (ε B t A) t.length H,[(1005,H)]⟩) ⟨[],p2,0,none,0⟩ ?_;rintro _ J ⟨n,q,p,s,a⟩ g ⟨aa,O⟩ hr;refine Ρ ?_;intro _ hr;refine WC.mC (hH:=by exact⟨aa,O⟩) hr [0,3,4,6] [] [0,3,4,6] [] (λ(⟨c,j,i,h,Q⟩:(Ŀ (Fin 8->Int))×ŀ Addr×Nat×ŀ Ow×Int)=>⟨(c,Q),[(5,ε j c i),(7,i' Q)],λF=>sv F j i c/\Tok 8 71 (ε j c i) c.length h,[(1005,h)]⟩) (λ(⟨y,C,D,E⟩:(Ŀ (Fin 8->Int))×ŀ Addr×Nat×ŀ Ow)=>⟨y,[(5,ε C y D)],λV=>sv V C D y/\Tok 8 71 (ε C y D) y.length E,[(1005,E)]⟩) ⟨n,q,p,s,I⟩ ?_;rintro _ F ⟨c,j,i,h,Q⟩ m ⟨W,M⟩ hr;refine Ρ ?_;intro _ x1 _ _ L x2 _ _ hr _;refine WC.mB hr [0,3,4,5,6,7,8] [1005] [0,3,4,5,6,7,8] [1005] (λ(⟨N,P⟩:Int×(Fin 8->Int))=>⟨(N,P),[(9,i' N)],tr,[(8,û L (Ó P) 71)]⟩) (λ(K:(Fin 8->Int))=>⟨K,[],tr,[(8,û L (Ó K) 71)]⟩) ⟨Q,ζ x1 I.toNat (Η x2 Q)⟩ ?_;intro aq K hr x _;refine Ρ ?_;intro _ _ v aR hr;refine oA hr λZ hr=>jP (r:=(fP .i64 8)) 1005 z z BO nX z ĳ z z (W.mono (mx x v)) z (by rw[u];rfl) M aR Z λp4 aM aG aJ ax aL X=>Ö z<|t'<|E'<|b'<|w'<|θ z<|iP z<|Ö z<|t'<|N' ⟨aJ,(c++[K]),p4,aM,aG,i64.wrap (Q+1)⟩ hr ⟨(mx (mx (mx m x) v) ax),aL,X⟩ (Å z) (w1 z)
instance BX{h r}:SpcM ((xu h)) r (∀{g f},Cr 293 #[ε g h f] (λG=>su G g f h) (fU (Rp.int .u32) r)):=.mk λhr {g f}=>by
 refine Ρ ?_;intro q j _ hr e;refine WC.mB hr [0] [] [0] [] (λ(i:Int)=>⟨i,[(3,i' i)],tr,[]⟩) (λ(o:Int)=>⟨o,[(3,i' o)],tr,[]⟩) (h.length:Int) ?_;intro k o hr l _;refine b'<|sr<|θ z<|θ z<|oA hr λp hr=>WL.qs (r:=(Rp.int .u32)) z z F' tL z (e.mono l) z z p λy v s=>Υ z<|m' ?_
 obtain rfl:_=r:=hr;exact j' z z ⟨_,_,z,s⟩
instance fJ'{c r}:SpcM ((AY c)) r (Cr 236 #[.int .u64 c] (λG=>True) (fU (Rp.int .u32) r)):=.mk λhr=>by
 refine J' (args:=[_]) (N:=11) func236 z z z λv t i o=>sr<|Ö z<|nr<|θ z<|Δ (vU z z ĳ)<|Δ (oB tI uv z)<|θ z<|Δ (Wg z z ĳ)<|Δ (oB tI uv z)<|mU (e:=248) (r:=(Rp.int .u32)) (vs:=#[(0,.int .u32 (u32.wrap (Int.tmod c 4294967296))),(1,.int .u32 (u32.wrap (u64.wrap (Int.tdiv c 4294967296))))]) (cs:=[.int .u32 (u32.wrap (Int.tmod c 4294967296))]++([.int .u32 (u32.wrap (u64.wrap (Int.tdiv c 4294967296)))]++([]))) ([u32.wrap (Int.tmod c 4294967296),u32.wrap (u64.wrap (Int.tdiv c 4294967296))]:Ŀ Int) z z z z z ĳ (λ_=>İ) ⟨[.int .u32 (u32.wrap (Int.tmod c 4294967296))],[.int .u32 (u32.wrap (u64.wrap (Int.tdiv c 4294967296)))]++([]),z,z,⟨[.int .u32 (u32.wrap (u64.wrap (Int.tdiv c 4294967296)))],[],z,z,z⟩⟩ (key:=999) z (by rw[i];rfl) (λu p k h=>?_)
 refine oE hr λq g hr=>gd z z (x' rE z) (BX.h g) z (h) (λl s j d=>?_);obtain⟨n,m,rfl,f⟩:=d;refine Υ z<|m' ?_
 obtain rfl:_=r:=hr;exact j' z z ⟨_,_,z,f⟩
instance dB'{h m r}:SpcM ((rQ h m)) r (∀{k j},Cr 235 #[.bool h,ε k m j] (λG=>su G k j m) (Ï r)):=.mk λhr {k j}=>Ι
instance eO'{u r}:SpcM ((uq u)) r (Cr 160 #[i' u] (λG=>True) (Ï r)):=.mk λhr=>Ι
instance ga'{f r}:SpcM ((Bg f)) r (∀{d c},Cr 264 #[.agg ((η f d c)).toArray] (λG=>su G d c f.υ) (λG v=>v=i' r)):=.mk λhr {d c}=>Ι
instance ey'{g i r}:SpcM ((yT g i)) r (∀{e d},Cr 328 #[ε e g d,i' i] (λG=>su G e d g) (λG v=>v=.int .u64 r)):=.mk λhr {e d}=>Ι
instance gR'{g r}:SpcM ((Ko g)) r (∀{e d},Cr 338 #[ε e g d] (λG=>su G e d g) (λG v=>v=.int .u64 r)):=.mk λhr {e d}=>Ι
instance iC'{j i r}:SpcM ((RM j i)) r (Cr 337 #[.int .u64 j,.int .u64 i] (λG=>True) (λG v=>v=.int .u64 r)):=.mk λhr=>by refine Ρ ?_;intro m h _ hr _;refine WC.mA hr [] [] [] [] (λ(⟨g,e⟩:Int×Int)=>⟨(g,e),[(0,.int .u64 g),(1,.int .u64 e)],tr,[]⟩) (λ(k:Int)=>⟨k,[(0,.int .u64 k)],tr,[]⟩) ⟨j,i⟩
instance cQ'{m o r}:SpcM ((Z6 m o)) r (∀{j n h l},Cr 307 #[ε j m n,ε h o l] (λG=>su G j n m/\su G h l o) (λG v=>v=i' r)):=.mk λhr {j n h l}=>by refine Ρ ?_;intro D i _ _ _ _ _ hr _;refine WC.mA hr [0,1] [] [] [] (λ(p:Int)=>⟨p,[(5,i' p)],tr,[]⟩) (λ(_:Unit)=>⟨(.inr ()),[],tr,[]⟩) (i64.wrap ((m.length:Int)-1))
instance iq'{c m r}:SpcM ((QM c m)) r (∀{B C},Cr 333 #[ε B c C,.int .u64 m] (λG=>su G B C c) (λG v=>∃A x,v=.tuple #[ε A r.1 x,.int .u64 r.2]/\su G A x r.1)):=.mk λhr {B C}=>by
 refine Ρ ?_;intro U u _ V E L W hr _;refine WC.mB hr [0,1,6] [] [6] [] (λ(⟨h,d,f,t⟩:(Ŀ Int)×ŀ Ow×Int×Int)=>⟨(h,f,t),[(7,.int .u64 f),(8,i' t)],λk=>Ε (Rp.int .u32) 248 k (.slice E (c.length:Int).toNat ((c.length:Int).toNat)) h d,[(4012,d)]⟩) (λ(⟨o,j,y⟩:(Ŀ Int)×ŀ Ow×Int)=>⟨(o,y),[(7,.int .u64 y)],λq=>Ε (Rp.int .u32) 248 q (.slice E (c.length:Int).toNat ((c.length:Int).toNat)) o j,[(4012,j)]⟩) ⟨(List.replicate (c.length:Int).toNat 0),L,0,i64.wrap ((c.length:Int)-1)⟩ ?_;rintro q ⟨o,j,y⟩ hr Z F;refine b'<|sr<|θ z<|pP (r:=(Rp.int .u32)) (e:=248) 4012 F z (by rw[V];rfl) (λH p i D a=>?_)
 refine oE hr λI O hr=>gd z z (x' rE z) (BX.h O) (by rw[qQ D]) ((rq D)) (λl J g s=>?_);obtain⟨af,n,rfl,K⟩:=s;refine θ z<|Ö z<|Υ z<|m' ?_
 obtain rfl:_=r:=hr;exact uw z z z ⟨_,_,z,K⟩
instance iL'{d c r}:SpcM ((S5 d c)) r (∀{t o s u},Cr 309 #[ε t d o,ε s c u] (λG=>su G t o d/\su G s u c) (fU (Rp.int .u32) r)):=.mk λhr {t o s u}=>by
 refine Ρ ?_;intro W L _ P _ _ J af an hr _;refine WC.mD hr [0,1,5] [] [5] [] (λ(⟨E,k,h⟩:(Ŀ Int)×ŀ Ow×Int)=>⟨(E,h),[(6,i' h)],λy=>Ε (Rp.int .u32) 248 y (.slice J (i64.wrap ((d.length:Int)+(c.length:Int))).toNat ((i64.wrap ((d.length:Int)+(c.length:Int))).toNat)) E k,[(4015,k)]⟩) (λ(⟨K,D⟩:(Ŀ Int)×ŀ Ow)=>⟨K,[],λQ=>Ε (Rp.int .u32) 248 Q (.slice J (i64.wrap ((d.length:Int)+(c.length:Int))).toNat ((i64.wrap ((d.length:Int)+(c.length:Int))).toNat)) K D,[(4015,D)]⟩) ⟨(List.replicate (i64.wrap ((d.length:Int)+(c.length:Int))).toNat 0),af,0⟩ ?_ ?_
 .rintro _ y ⟨E,k,h⟩ g O hr;refine Ρ ?_;intro _ hr;refine WC.mC hr [0,1,5,6] [] [0,1,5,6] [] (λ(⟨B,q,l,x⟩:(Ŀ Int)×ŀ Ow×Int×Int)=>⟨(B,l,x),[(7,.int .u64 l),(8,i' x)],λF=>Ε (Rp.int .u32) 248 F (.slice J (i64.wrap ((d.length:Int)+(c.length:Int))).toNat ((i64.wrap ((d.length:Int)+(c.length:Int))).toNat)) B q,[(4015,q)]⟩) (λ(⟨H,C,v⟩:(Ŀ Int)×ŀ Ow×Int)=>⟨(H,v),[(7,.int .u64 v)],λI=>Ε (Rp.int .u32) 248 I (.slice J (i64.wrap ((d.length:Int)+(c.length:Int))).toNat ((i64.wrap ((d.length:Int)+(c.length:Int))).toNat)) H C,[(4015,C)]⟩) ⟨E,k,0,0⟩ ?_;rintro _ F ⟨B,q,l,x⟩ j m hr;refine o' ?_;refine è ?_;intro hr;refine I' hr z (λN hr=>?_) (λN hr=>?_)
  .refine q'<|b'<|o'<|Y'<|o'<|fM [ff,ff,ff,ff,ff,ff,ff,ff,ff,ff,ff,ff,ff,ff,ff,ff,ff,ff,ff,ff] eR İ λX=>fO z<|fO z ?_
   refine è ?_;intro Y _ _ U _ hr _;exact oE hr λT a hr=>cn (λ_ f=>pI F' tL (m.mono f) z z a)<|cn (λ_ f=>Y0.loadT V0 (m.mono f) (key:=4015) z z (zy (om m a)))<|cn (λ_ f=>oB uv tI z)<|cn (λ_ f=>V' z z)<|fO z<|pE X<|iP z<|Ö z<|t'<|Λ<|b'<|sr<|θ z<|θ z<|θ z<|iP z<|θ z<|Δ (vU z z ĳ)<|Δ (oB tI uv z)<|oE hr λx5 n hr=>Δ (pI F' tL m z z n)<|zG (r:=(Rp.int .u32)) (e:=248) (cs':=[.int .u32 (u32.wrap (Int.tmod (u64.wrap ((u64.wrap ((u64.wrap ((u64.wrap Y)*(u64.wrap U)))+(u64.wrap T)))+l)) 4294967296))]) (i:=i64.wrap (h+x)) (z':=u32.wrap (Int.tmod (u64.wrap ((u64.wrap ((u64.wrap ((u64.wrap Y)*(u64.wrap U)))+(u64.wrap T)))+l)) 4294967296)) 4015 z tL z m z z z z z n λao ah=>nx<|w'<|θ z<|Δ (Wg z z ĳ)<|Ι
  exact Ι
 rintro Q ⟨K,D⟩ hr ar V;refine b'<|sr<|θ z<|pP (r:=(Rp.int .u32)) (e:=248) 4015 V z (by rw[P];rfl) (λaC aB aw S au=>?_)
 refine oE hr λaD A hr=>gd z z (x' rE z) (BX.h A) (by rw[qQ S]) ((rq S)) (λay aE av R=>?_);obtain⟨Z,az,rfl,p⟩:=R;refine Υ z<|m' ?_
 obtain rfl:_=r:=hr;exact j' z z ⟨_,_,z,p⟩
instance gK'{e f r}:SpcM ((J6 e f)) r (∀{i g h j},Cr 317 #[ε i e g,ε h f j] (λG=>su G i g e/\su G h j f) (λG v=>∃o n m q,v=.tuple #[ε o r.1 n,ε m r.2 q]/\su G o n r.1/\su G m q r.2)):=.mk λhr {i g h j}=>Ι
instance iD'{I H r}:SpcM ((RL I H)) r (∀{C F x E},Cr 318 #[ε C I F,ε x H E] (λG=>su G C F I/\su G x E H) (fU (Rp.int .u32) r)):=.mk λhr {C F x E}=>by refine Ρ ?_;intro Q s _ _ T hr a;refine WC.mA hr [] [] [] [] (λ(⟨l,g,i,j,k,f⟩:(Ŀ Int)×ŀ Addr×Nat×(Ŀ Int)×ŀ Addr×Nat)=>⟨(l,j),[(0,ε g l i),(1,ε k j f)],λd=>su d g i l/\su d k f j,[]⟩) (λ(⟨J,A,u⟩:(Ŀ Int)×ŀ Addr×Nat)=>⟨(.inr J),[(0,ε A J u)],λo=>su o A u J,[]⟩) ⟨I,C,F,H,x,E⟩
instance gu'{q n r}:SpcM ((xz q n)) r (∀{f d e c},Cr 279 #[.agg ((η q f d)).toArray,.agg ((η n e c)).toArray] (λG=>su G f d q.υ/\su G e c n.υ) (Ï r)):=.mk λhr {f d e c}=>Ι
instance Wr{C y r}:SpcM ((yQ C y)) r (∀{e c d f},Cr 278 #[.agg ((η C e c)).toArray,.agg ((η y d f)).toArray] (λG=>su G e c C.υ/\su G d f y.υ) (λG v=>∃j k g l,v=.tuple #[.agg ((η r.1 j k)).toArray,.agg ((η r.2.1 g l)).toArray,i' r.2.2]/\su G j k r.1.υ/\su G g l r.2.1.υ)):=.mk λhr {e c d f}=>Ι
instance lz{t q r}:SpcM ((La t q)) r (∀{d c g f},Cr 305 #[.agg ((η t d c)).toArray,.agg ((η q g f)).toArray] (λG=>su G d c t.υ/\su G g f q.υ) (Ï r)):=.mk λhr {d c g f}=>Ι
instance id'{j r}:SpcM ((Md j)) r (∀{d c},Cr 304 #[.agg ((η j d c)).toArray] (λG=>su G d c j.υ) (Ï r)):=.mk λhr {d c}=>Ι
instance fp'{T R r}:SpcM ((AK T R)) r (∀{o l p n},Cr 261 #[.agg ((η T o l)).toArray,.agg ((η R p n)).toArray] (λG=>su G o l T.υ/\su G p n R.υ) (eA r)):=.mk λhr {o l p n}=>Ι
instance ie'{u s r}:SpcM ((Gd u s)) r (∀{h e j f},Cr 280 #[.agg ((η u h e)).toArray,.agg ((η s j f)).toArray] (λG=>su G h e u.υ/\su G j f s.υ) (iz r)):=.mk λhr {h e j f}=>Ι
instance eT'{h r}:SpcM ((oy h)) r (∀{d c f e},Cr 206 #[.agg ((Ω h d c f e)).toArray] (λG=>su G d c h.num.υ/\su G f e h.den.υ) (λG v=>v=i' r)):=.mk λhr {d c f e}=>Ι
instance zN{j r}:SpcM ((FG j)) r (Cr 232 #[.agg (Ó j).toArray] (λG=>True) (λG v=>v=.bool r)):=.mk λhr=>by refine Ρ ?_;intro m e _ k hr _;refine WC.mA hr [1] [1] [] [] (λ(g:Int)=>⟨g,[(3,i' g)],tr,[]⟩) (λ(_:Unit)=>⟨(.inr ()),[],tr,[]⟩) 0
instance je'{q k r}:SpcM ((Mf q k)) r (Cr 265 #[.agg (Ó q).toArray,.agg (Ó k).toArray] (λG=>True) (λG v=>v=.tuple #[.agg (Ó r.1).toArray,i' r.2])):=.mk λhr=>by refine Ρ ?_;intro A l _ m t n hr _;refine WC.mA hr [2,3,4] [3,4] [2,4] [4] (λ(⟨d,c⟩:Int×(Fin 8->Int))=>⟨(d,c),[(6,i' d)],tr,[(2,û m (Ó c) 145)]⟩) (λ(e:(Fin 8->Int))=>⟨e,[],tr,[(2,û m (Ó e) 145)]⟩) ⟨0,q⟩
instance M5{A t r}:SpcM ((rb A t)) r (∀{j f g e},Cr 263 #[.agg ((η A j f)).toArray,.agg ((η t g e)).toArray] (λG=>su G j f A.υ/\su G g e t.υ) (Ï r)):=.mk λhr {j f g e}=>Ι
instance Wo{q p r}:SpcM ((rj q p)) r (∀{m g k j l e c f},Cr 266 #[.agg ((Ω q m g k j)).toArray,.agg ((Ω p l e c f)).toArray] (λG=>su G m g q.num.υ/\su G k j q.den.υ/\su G l e p.num.υ/\su G c f p.den.υ) (eA r)):=.mk λhr {m g k j l e c f}=>Ι
instance Nl{Z f p1 r}:SpcM ((FH Z f p1)) r (∀{s t q A c d},Cr 207 #[.agg ((Ω Z s t q A)).toArray,.agg (Ó f).toArray,ε c p1 d] (λG=>su G s t Z.num.υ/\su G q A Z.den.υ/\sl c' G c d p1) (iA c' r)):=.mk λhr {s t q A c d}=>by
 refine Ρ ?_;intro w0 G0 _ Y _ _ _ _ P Q p2 N _ j _ _ hr _;refine WC.mC (hH:=by exact⟨j,kX⟩) hr [2,3,4] [3,4] [] [] (λ(⟨y,D,C,E,a⟩:(Ŀ Za)×ŀ Addr×Nat×ŀ Ow×Int)=>⟨(y,a),[(8,ε D y C),(9,i' a)],λM=>sl c' M D C y/\Tok 12 147 (ε D y C) y.length E,[(1008,E)]⟩) (λ(⟨F,K,J,L⟩:(Ŀ Za)×ŀ Addr×Nat×ŀ Ow)=>⟨(.inr F),[(8,ε K F J)],λV=>sl c' V K J F/\Tok 12 147 (ε K F J) F.length L,[(1008,L)]⟩) ⟨[],p2,0,none,0⟩ ?_;rintro _ M ⟨y,D,C,E,a⟩ m ⟨S,O⟩ hr;refine o' ?_;refine è ?_;intro hr;refine I' hr z (λh hr=>?_) (λh hr=>?_)
 .refine q'<|b'<|o'<|Y'<|o'<|fM [ff,ff,ff,ff,ff,ff,ff,ff,ff,tt,ff] eR İ λe=>cn (λ_ k=>y' 4 GG z z (U' _ _ _))<|fO z ?_
  refine è ?_;intro _ _ _ _ _ _ _ _ _ _ _ _ _ _ _ B hr _;refine kJ (λ_=>z) z145<|γ.DH e λR=>?_
  refine è ?_;intro hr;refine o'<|sr<|θ z<|Δ (pH z z)<|nx<|I' hr z (λn hr=>?_) (λn hr=>?_)
  .exact Ι
  refine q'<|b'<|fM [tt,ff,ff,ff,ff,ff,ff,ff,ff] eR İ λe=>uC z (k' z) ?_
  refine è ?_;intro _ _ _ _ _ _ _ _ _ _ _ _ _ _ _ l _ U _ _ _ _ _ _ _ _ T i hr _;refine oA hr λx hr=>jP (r:=c') 1008 z z Q' k0 z ĳ z z (S.mono (mx U T)) z (by rw[Y];rfl) O i x λp4 g H p u I v=>Ö z<|t'<|Λ<|E'<|b'<|w'<|θ z<|iP z<|Ö z<|t'<|N' ⟨p,(y++[(Za.mk l B.1)]),p4,g,H,i64.wrap (a+1)⟩ hr ⟨(mx (mx (mx m U) T) u),I,v⟩ (Å z) (w3 z z z)
 exact Ι
instance if'{m r}:SpcM ((Gc m)) r (∀{g f e c},Cr 281 #[.agg ((Ω m g f e c)).toArray] (λG=>su G g f m.num.υ/\su G e c m.den.υ) (eA r)):=.mk λhr {g f e c}=>Ι
instance gT'{Z r}:SpcM ((Fa Z)) r (∀{R aa},Cr 214 #[ε R Z aa] (λG=>sl c' G R aa Z) (fU c' r)):=.mk λhr {R aa}=>by
 refine Ρ ?_;intro w0 G0 x _ _ c9 _ _ A bH bx bz bT bW y aq au bE b1 b2 hr _;refine WC.mD hr [0,3,4] [4] [0,3,4] [4] (λ(⟨aR,a5,am,ai⟩:Int×Zg×ŀ Addr×Nat)=>⟨(aR,a5),[(5,i' aR)],λa0=>su a0 am ai a5.υ,[(3,û b1 (η a5 am ai) 118)]⟩) (λ(⟨aL,O,P⟩:Zg×ŀ Addr×Nat)=>⟨aL,[],λaD=>su aD O P aL.υ,[(3,û b1 (η aL O P) 118)]⟩) ⟨0,c9,bH,bx⟩ ?_ ?_
 .rintro _ a0 ⟨aR,a5,am,ai⟩ S ar hr;refine o' ?_;refine è ?_;intro hr;refine I' hr z (λcZ hr=>?_) (λcZ hr=>?_)
  .refine q'<|b'<|o'<|Y'<|o'<|fM [ff,ff,ff,ff,ff,ff,ff,ff,ff,ff,ff,ff,ff,ff,ff,ff,ff,tt,tt,ff,ff] eR İ λhb=>fO z<|fO z ?_
   refine è ?_;intro _ _ cj _ _ _ _ _ _ _ _ _ _ _ hr _;obtain⟨db,cK,cX,b8⟩:=GP (T' (xP (nQ (r8 (nQ (iM x cj))))) (mx (mx A y) S));refine cn (λ_ g=>mY _ mH z z (λj v N=>g _ _ _ (cX j v N))) ?_;refine è ?_;intro _ _ cl _ _ _ _ _ _ _ _ _ _ _ hr _;obtain⟨c4,cO,cV,bM⟩:=GP (T' (xP (nQ (r8 (nQ (iM x cl))))) (mx (mx A y) S));refine cn (λ_ g=>mY _ mH z z (λj v N=>g _ _ _ (cV j v N))) ?_;refine è ?_;intro bS hr _;refine oE hr λi cg hr=>mh (f:=278) (φ:=λG v=>∃l n o m,v=.tuple #[.agg ((η i.1 l n)).toArray,.agg ((η i.2.1 o m)).toArray,i' i.2.2]/\su G l n i.1.υ/\su G o m i.2.1.υ) (λ_=>z) (λv d e g h=>?_) (λu M g a=>?_) ?_
   .obtain⟨l,n,o,m,rfl,F,H⟩:=h;exact⟨_,_,_,_,z,F.mono g,H.mono g⟩
   .obtain⟨⟨ax,aB,bP,Y⟩,_⟩:=(show(Ï bS) M.m (u 43)/\True from a);exact⟨_,_,_,λ_=>x' Ab z,Wr.h cg,(by simp only[bP]<;>rfl),⟨(b8.mono g),Y⟩⟩
   refine km (φ:=λG v=>∃p6 B p7 E,v=.tuple #[.agg ((η i.1 p6 B)).toArray,.agg ((η i.2.1 p7 E)).toArray,i' i.2.2]/\su G p6 B i.1.υ/\su G p7 E i.2.1.υ) (λ_=>z) (λv d e g h=>?_) (λu M g a=>?_) ?_
   .obtain⟨p6,B,p7,E,rfl,X,aH⟩:=h;exact⟨_,_,_,_,z,X.mono g,aH.mono g⟩
   .obtain⟨⟨l,n,o,m,bU,F,H⟩,_,_⟩:=(show(λG v=>∃l n o m,v=.tuple #[.agg ((η i.1 l n)).toArray,.agg ((η i.2.1 o m)).toArray,i' i.2.2]/\su G l n i.1.υ/\su G o m i.2.1.υ) M.m (u 44)/\True/\True from a);simp only[ς,bU];exact⟨_,k' z,l,n,o,m,z,F,H⟩
   refine km (φ:=Ï i.1) (λ_=>z) (λv d e g h=>?_) (λu M g a=>?_) ?_
   .obtain⟨p8,dg,rfl,bL⟩:=h;exact⟨_,_,z,bL.mono g⟩
   .obtain⟨⟨p6,B,p7,E,Q,X,aH⟩,_,_,_⟩:=(show(λG v=>∃p6 B p7 E,v=.tuple #[.agg ((η i.1 p6 B)).toArray,.agg ((η i.2.1 p7 E)).toArray,i' i.2.2]/\su G p6 B i.1.υ/\su G p7 E i.2.1.υ) M.m (u 29)/\True/\True/\True from a);simp only[ς,Q];exact⟨_,O' z z,p6,B,z,X⟩
   refine γ.ni (kk:=29) (φ:=Ï i.2.1) İ (λ_=>z) (λv d e g h=>?_) (λu M g a=>?_) ?_
   .obtain⟨p9,cY,rfl,ck⟩:=h;exact⟨_,_,z,ck.mono g⟩
   .obtain⟨_,⟨p6,B,p7,E,Q,X,aH⟩,_,_,_⟩:=(show True/\(λG v=>∃p6 B p7 E,v=.tuple #[.agg ((η i.1 p6 B)).toArray,.agg ((η i.2.1 p7 E)).toArray,i' i.2.2]/\su G p6 B i.1.υ/\su G p7 E i.2.1.υ) M.m (u 29)/\True/\True/\True from a);exact⟨_,_,Q,(by simp only[ς,Q]<;>rfl),z,p7,E,z,aH⟩
   refine na (c:=i' i.2.2) (λ_=>z) (λu M g a=>?_) ?_
   .obtain⟨_,_,⟨p6,B,p7,E,Q,X,aH⟩,_,_,_⟩:=(show True/\True/\(λG v=>∃p6 B p7 E,v=.tuple #[.agg ((η i.1 p6 B)).toArray,.agg ((η i.2.1 p7 E)).toArray,i' i.2.2]/\su G p6 B i.1.υ/\su G p7 E i.2.1.υ) M.m (u 29)/\True/\True/\True from a);simp only[ς,Q];exact O' z z
   refine kJ (λ_=>z) vP<|kJ (λ_=>z) vP<|γ.yv (λdO dL ds dr dp dl dq X2 bY bR ay bb bk bo bn bl=>?_)
   obtain⟨p9,cY,rfl,ck⟩:=bb;obtain⟨p8,dg,rfl,bL⟩:=bk;obtain⟨p6,B,p7,E,rfl,X,aH⟩:=bo;obtain⟨l,n,o,m,rfl,F,H⟩:=bn;obtain⟨ax,aB,rfl,Y⟩:=bl;refine tQ bR (λb7 cL cW=>?_);subst cL;replace ay:=B7 ay ĳ cW;refine tQ ay (λb6 c5 dP=>?_);subst c5;refine l7 (show WL _ _ _ _ _ _ (St w0 G0 X2.m _)from ?_);refine fZ 6 vL z<|fZ 7 vL z<|Ö z<|t'<|Λ<|b'<|w'<|Δ (y' 3 mH z z z)<|Δ (y' 6 mH z z z)<|oE hr λcD cc hr=>gd z z (x' wN z) (M5.h cc) z (⟨(ar.mono bY),bL⟩) (λdj cy bO be=>?_)
   obtain⟨bj,bh,rfl,bg⟩:=be;exact fZ 3 vL z<|Ι
  exact Ι
 rintro aD ⟨aL,O,P⟩ hr I aI;refine b'<|o'<|sr<|Υ z<|WC.mD hr [0,3,4] [3] [0,3,4] [3] (λ(⟨aO,a6,aj,al⟩:Int×Zg×ŀ Addr×Nat)=>⟨(aO,a6),[(9,i' aO)],λa3=>su a3 aj al a6.υ,[(4,û b2 (η a6 aj al) 118)]⟩) (λ(⟨bv,ap,ao⟩:Zg×ŀ Addr×Nat)=>⟨bv,[],λbw=>su bw ap ao bv.υ,[(4,û b2 (η bv ap ao) 118)]⟩) ⟨0,bT,aq,au⟩ ?_ ?_
 .rintro _ a3 ⟨aO,a6,aj,al⟩ L aG hr;refine o' ?_;refine è ?_;intro hr;refine I' hr z (λc6 hr=>?_) (λc6 hr=>?_)
  .refine q'<|b'<|o'<|Y'<|o'<|fM [ff,ff,ff,ff,ff,ff,ff,ff,ff,ff,tt,tt,ff,ff] eR İ λhb=>cn (λ_ g=>y' 3 mH z z z)<|fO z ?_
   refine è ?_;intro _ _ ci _ _ _ _ _ _ _ _ _ _ _ hr _;obtain⟨c0,de,cH,bX⟩:=GP (T' (xP (nQ (r8 (nQ (iM x ci))))) (mx (mx (mx A y) I) L));refine cn (λ_ g=>mY _ mH z z (λj v N=>g _ _ _ (cH j v N)))<|oE hr λk cF hr=>qH (post:=λG v=>∃p s t q,v=.tuple #[.agg ((η k.1 p s)).toArray,.agg ((η k.2.1 t q)).toArray,i' k.2.2]/\su G p s k.1.υ/\su G t q k.2.1.υ) (λ_=>z) (λ_ _=>x' Ab z) (Wr.h cF) z (λM g=>⟨((aI.mono L).mono g),(bX.mono g)⟩) (λv d e g h=>?_) ?_
   .obtain⟨p,s,t,q,rfl,K,J⟩:=h;exact⟨_,_,_,_,z,K.mono g,J.mono g⟩
   refine km (φ:=λG v=>∃p2 D p3 C,v=.tuple #[.agg ((η k.1 p2 D)).toArray,.agg ((η k.2.1 p3 C)).toArray,i' k.2.2]/\su G p2 D k.1.υ/\su G p3 C k.2.1.υ) (λ_=>z) (λv d e g h=>?_) (λu M g a=>?_) ?_
   .obtain⟨p2,D,p3,C,rfl,aK,aJ⟩:=h;exact⟨_,_,_,_,z,aK.mono g,aJ.mono g⟩
   .obtain⟨⟨p,s,t,q,b9,K,J⟩,_⟩:=(show(λG v=>∃p s t q,v=.tuple #[.agg ((η k.1 p s)).toArray,.agg ((η k.2.1 t q)).toArray,i' k.2.2]/\su G p s k.1.υ/\su G t q k.2.1.υ) M.m (u 65)/\True from a);simp only[ς,b9];exact⟨_,k' z,p,s,t,q,z,K,J⟩
   refine km (φ:=Ï k.1) (λ_=>z) (λv d e g h=>?_) (λu M g a=>?_) ?_
   .obtain⟨p4,cS,rfl,bQ⟩:=h;exact⟨_,_,z,bQ.mono g⟩
   .obtain⟨⟨p2,D,p3,C,ak,aK,aJ⟩,_,_⟩:=(show(λG v=>∃p2 D p3 C,v=.tuple #[.agg ((η k.1 p2 D)).toArray,.agg ((η k.2.1 p3 C)).toArray,i' k.2.2]/\su G p2 D k.1.υ/\su G p3 C k.2.1.υ) M.m (u 57)/\True/\True from a);simp only[ς,ak];exact⟨_,O' z z,p2,D,z,aK⟩
   refine γ.ni (kk:=57) (φ:=Ï k.2.1) İ (λ_=>z) (λv d e g h=>?_) (λu M g a=>?_) ?_
   .obtain⟨p5,cM,rfl,cu⟩:=h;exact⟨_,_,z,cu.mono g⟩
   .obtain⟨_,⟨p2,D,p3,C,ak,aK,aJ⟩,_,_⟩:=(show True/\(λG v=>∃p2 D p3 C,v=.tuple #[.agg ((η k.1 p2 D)).toArray,.agg ((η k.2.1 p3 C)).toArray,i' k.2.2]/\su G p2 D k.1.υ/\su G p3 C k.2.1.υ) M.m (u 57)/\True/\True from a);exact⟨_,_,ak,(by simp only[ς,ak]<;>rfl),z,p3,C,z,aJ⟩
   refine na (c:=i' k.2.2) (λ_=>z) (λu M g a=>?_) ?_
   .obtain⟨_,_,⟨p2,D,p3,C,ak,aK,aJ⟩,_,_⟩:=(show True/\True/\(λG v=>∃p2 D p3 C,v=.tuple #[.agg ((η k.1 p2 D)).toArray,.agg ((η k.2.1 p3 C)).toArray,i' k.2.2]/\su G p2 D k.1.υ/\su G p3 C k.2.1.υ) M.m (u 57)/\True/\True from a);simp only[ς,ak];exact O' z z
   refine kJ (λ_=>z) vP<|kJ (λ_=>z) vP<|γ.nu (λdS dT dm dG dv dC X1 aU b0 aA ba bF bD bK=>?_)
   obtain⟨p5,cM,rfl,cu⟩:=ba;obtain⟨p4,cS,rfl,bQ⟩:=bF;obtain⟨p2,D,p3,C,rfl,aK,aJ⟩:=bD;obtain⟨p,s,t,q,rfl,K,J⟩:=bK;refine tQ b0 (λb5 cU dc=>?_);subst cU;replace aA:=B7 aA ĳ dc;refine tQ aA (λb4 dh dJ=>?_);subst dh;refine l7 (show WL _ _ _ _ _ _ (St w0 G0 X1.m _)from ?_);refine fZ 10 vL z<|fZ 11 vL z<|Ö z<|t'<|Λ<|b'<|fM [ff,ff,ff,ff,ff,ff,ff,ff,ff] eR İ λhb=>?_
   refine è ?_;intro _ _ co _ _ _ _ _ _ _ _ _ _ _ hr _;obtain⟨c8,dd,cT,bV⟩:=GP (T' (r8 (nQ (r8 (nQ (iM x co))))) (mx (mx (mx (mx A y) I) L) aU));refine cn (λ_ g=>mY _ mH z z (λj v N=>g _ _ _ (cT j v N)))<|cn (λ_ g=>y' 10 mH z z z)<|oE hr λbZ ce hr=>qH (post:=Ï bZ) (λ_=>z) (λ_ _=>x' wN z) (M5.h ce) z (λM g=>⟨(bV.mono g),(bQ.mono g)⟩) (λv d e g h=>?_) ?_
   .obtain⟨bq,bt,rfl,an⟩:=h;exact⟨_,_,z,an.mono g⟩
   exact Ι
  exact Ι
 rintro bw ⟨bv,ap,ao⟩ hr av bG;refine b'<|sr<|Δ (y' 3 mH z z z)<|Δ (y' 4 mH z z z)<|oE hr λc2 cE hr=>gd z z (x' IL z) (ie'.h cE) z (⟨(aI.mono av),bG⟩) (λdx cm aX bI=>?_)
 obtain⟨aE,az,aw,aC,rfl,ad,ah⟩:=bI;refine θ z<|ju z<|ju z<|W' 13 z rp z λb3=>fZ 13 jZ z<|Υ z<|WC.nA hr [0,13] [] (λ(⟨a8,W,T,U,V⟩:Zf×ŀ Addr×Nat×ŀ Addr×Nat)=>⟨[],Ju Z a8,λa2=>su a2 W T a8.num.υ/\su a2 U V a8.den.υ,[(13,û b3 (Ω a8 W T U V) 120)]⟩)
instance iE'{i r}:SpcM ((Kp i)) r (Cr 230 #[.agg (Ó i).toArray] (λG=>True) (λG v=>v=i' r)):=.mk λhr=>by refine Ρ ?_;intro m h _ l hr _;refine WC.mA hr [1] [1] [] [] (λ(⟨f,e⟩:Int×Int)=>⟨(f,e),[(3,i' f),(4,i' e)],tr,[]⟩) (λ(k:Int)=>⟨k,[(3,i' k)],tr,[]⟩) ⟨0,0⟩
instance eP'{k r}:SpcM ((xf k)) r (∀{h g},Cr 153 #[ε h k g] (λG=>sl c' G h g k) (λG v=>v=i' r)):=.mk λhr {h g}=>by refine Ρ ?_;intro s f _ hr _;refine WC.mA hr [0] [] [] [] (λ(⟨e,l⟩:Int×Int)=>⟨(e,l),[(3,i' e),(4,i' l)],tr,[]⟩) (λ(o:Int)=>⟨o,[(3,i' o)],tr,[]⟩) ⟨(-1),0⟩
instance hB'{p n r}:SpcM ((Lx p n)) r (∀{j g h f},Cr 218 #[.agg ((η p j g)).toArray,.agg ((η n h f)).toArray] (λG=>su G j g p.υ/\su G h f n.υ) (λG v=>v=.bool r)):=.mk λhr {j g h f}=>by refine Ρ ?_;intro y l _ _ _ A u _ _ hr _;refine WC.mA hr [2,3] [2,3] [] [] (λ(o:Int)=>⟨o,[(5,i' o)],tr,[]⟩) (λ(_:Unit)=>⟨(.inr ()),[],tr,[]⟩) 0
instance hC'{l k r}:SpcM ((Bh l k)) r (∀{j f h g i d c e},Cr 140 #[.agg ((Ω l j f h g)).toArray,.agg ((Ω k i d c e)).toArray] (λG=>su G j f l.num.υ/\su G h g l.den.υ/\su G i d k.num.υ/\su G c e k.den.υ) (λG v=>v=.bool r)):=.mk λhr {j f h g i d c e}=>Ι
instance hU'{l k r}:SpcM ((EA l k)) r (∀{j h g f i d c e},Cr 79 #[.agg (((Ω l.c j h g f):Ŀ Value)++(Ó l.m)).toArray,.agg (((Ω k.c i d c e):Ŀ Value)++(Ó k.m)).toArray] (λG=>su G j h l.c.num.υ/\su G g f l.c.den.υ/\su G i d k.c.num.υ/\su G c e k.c.den.υ) (λG v=>v=.bool r)):=.mk λhr {j h g f i d c e}=>Ι
instance eU'{C x r}:SpcM ((tE C x)) r (∀{p o s m},Cr 33 #[ε p C o,ε s x m] (λG=>sl c' G p o C/\sl c' G s m x) (λG v=>v=.bool r)):=.mk λhr {p o s m}=>by refine Ρ ?_;intro R l _ _ _ _ hr _;refine WC.mA hr [0,1] [] [] [] (λ(H:Int)=>⟨H,[(5,i' H)],tr,[]⟩) (λ(_:Unit)=>⟨(.inr ()),[],tr,[]⟩) 0
instance fQ'{o m r}:SpcM ((xA o m)) r (Cr 204 #[.agg (Ó o).toArray,.agg (Ó m).toArray] (λG=>True) (λG v=>v=i' r)):=.mk λhr=>by refine Ρ ?_;intro s f _ t p hr _;refine WC.mA hr [2,3] [2,3] [] [] (λ(h:Int)=>⟨h,[(5,i' h)],tr,[]⟩) (λ(_:Unit)=>⟨(.inr ()),[],tr,[]⟩) 0
instance ig'{q k r}:SpcM ((Mc q k)) r (∀{h f g e},Cr 289 #[.agg ((η q h f)).toArray,.agg ((η k g e)).toArray] (λG=>su G h f q.υ/\su G g e k.υ) (λG v=>v=i' r)):=.mk λhr {h f g e}=>by
 refine è ?_;intro _ _ _ _ _ _ _ hr _;refine o'<|sr<|Δ (BF z)<|dQ hr z (mZ (n' 2 uY z z z) (đ Value.bool (nV _))) z (λE hr=>?_) (λE hr=>?_)
 .refine θ z<|gy z z (BF z) z<|gy z z (n' 3 uY z z z) z<|gy z z (kE z) z<|Κ z<|nx<|jM hr z (λx hr=>?_) (λx hr=>?_)
  .exact Ι
  refine q'<|b'<|o'<|sr<|Δ (BF z)<|dQ hr z (mZ (n' 2 uY z z z) (đ Value.bool (nV _))) z (λC hr=>?_) (λC hr=>?_)
  .exact Ι
  exact Ι
 refine θ z<|fK z<|ο z<|nx<|tM z<|q'<|b'<|o'<|sr<|Δ (BF z)<|dQ hr z (mZ (n' 2 uY z z z) (đ Value.bool (nV _))) z (λF hr=>?_) (λF hr=>?_)
 .exact Ι
 exact Ι
instance gU'{p o r}:SpcM ((vD p o)) r (∀{l g j i k e c f},Cr 282 #[.agg ((Ω p l g j i)).toArray,.agg ((Ω o k e c f)).toArray] (λG=>su G l g p.num.υ/\su G j i p.den.υ/\su G k e o.num.υ/\su G c f o.den.υ) (λG v=>v=i' r)):=.mk λhr {l g j i k e c f}=>Ι
instance ih'{i h r}:SpcM ((Gf i h)) r (∀{k n l m},Cr 215 #[ε k i n,ε l h m] (λG=>sl c' G k n i/\sl c' G l m h) (λG v=>v=i' r)):=.mk λhr {k n l m}=>by refine Ρ ?_;intro w0 H _ _ _ hr _;refine WC.mA hr [0,1] [] [0,1] [] (λ(o:Int)=>⟨o,[(5,i' o)],tr,[]⟩) (λ(_:Unit)=>⟨(.inr ()),[],tr,[]⟩) 0
instance gV'{p u r}:SpcM ((Fe p u)) r (∀{n o},Cr 134 #[ε n p o,.bool u] (λG=>sq G n o p) (fU (Rp.sl c') r)):=.mk λhr {n o}=>by
 refine Ρ ?_;intro T S K p1 R _ ax hr _;refine WC.mC hr [0,1] [] [] [] (λ(⟨g,i,h,j⟩:(Ŀ (Ŀ Za))×ŀ Addr×Nat×Int)=>⟨(g,j),[(5,ε i g h),(6,i' j)],λJ=>sq J i h g,[]⟩) (λ(⟨C,H,E⟩:(Ŀ (Ŀ Za))×ŀ Addr×Nat)=>⟨C,[(5,ε H C E)],λM=>sq M H E C,[]⟩) ⟨[],p1,0,0⟩ ?_;rintro _ J ⟨g,i,h,j⟩ k f hr;refine Ρ ?_;intro _ _ _ _ _ _ _ _ _ _ s P d x t v hr _;refine WC.mB hr [0,1,5,6,7] [] [0,1,5,6,7] [] (λ(y:Int)=>⟨y,[(8,i' y)],tr,[]⟩) (λ(q:Int)=>⟨q,[(8,i' q)],tr,[]⟩) 0 ?_;intro m q hr c _;refine b'<|WC.nD hr [0,1,5,6,7,8] [] (λ(_:Unit)=>⟨[],tY g j s q,tr,[]⟩) ?_ ?_
 .refine sr<|θ z<|Δ (P' Q' (v.mono c) z)<|dQ hr z (eB z z) z (λl hr=>?_) (λl hr=>?_)
  .exact θ z<|yl z<|Ê (M' z z) z<|Ê (M' z z) z<|Ê (M' z z) z<|sf z z z<|Κ z<|θ z<|ib z<|Ê (M' z z) z<|Ê (M' z z) z<|Ê (M' z z) z<|Ê (M' z z) z<|Ê (M' z z) z<|Ê (M' z z) z<|sf z z z<|Κ z<|nx<|oh z<|Ι
  refine Ρ ?_;intro _ _ hr _;exact Ê (M' z z) z<|Ê (M' z z) z<|Ê (M' z z) z<|Ê (M' z z) z<|Ê (M' z z) z<|Ê (M' z z) z<|sf z z z<|Κ z<|nx<|oh z<|Ι
 intro Q _ hr A _;refine Ρ ?_;intro _ _ F V hr;refine oA hr λa hr=>WL.u3 (r:=(Rp.sl c')) z z jN oI z (f.mono (mx (mx (mx d c) A) F)) z z a (λp4 a1 O=>?_);exact oA hr λB hr=>jP (r:=(Rp.sl c')) 2067 z z jN js z ĳ z z V z (by rw[K];rfl) kX O B λp5 aX aW a0 L e aU=>Υ z<|w'<|θ z<|θ z<|θ z<|oA hr λN hr=>WL.slice3 (r:=(Rp.sl c')) z z jN oI z (f.mono (mx (mx (mx (mx d c) A) F) L)) z z z N λp6 I=>θ z<|oA hr λD hr=>jP (r:=(Rp.sl c')) 2073 z z jN js z ĳ z z I z (by rw[K];rfl) kX e D λp7 X Y W U ar Z=>Ι
instance GK{q r}:SpcM ((ZX q)) r (Cr 90 #[i' q] (λG=>True) (eA r)):=.mk λhr=>Ι
instance gC'{h r}:SpcM ((Ez h)) r (∀{g c d f},Cr 133 #[.agg ((Ω h g c d f)).toArray] (λG=>su G g c h.num.υ/\su G d f h.den.υ) (fU c' r)):=.mk λhr {g c d f}=>Ι
instance oq{g r}:SpcM ((K8 g)) r (∀{e d},Cr 288 #[.agg ((η g e d)).toArray] (λG=>su G e d g.υ) (λG v=>v=.bool r)):=.mk λhr {e d}=>Ι
instance gx'{g r}:SpcM ((uj g)) r (∀{f e d c},Cr 231 #[.agg ((Ω g f e d c)).toArray] (λG=>su G f e g.num.υ/\su G d c g.den.υ) (λG v=>v=.bool r)):=.mk λhr {f e d c}=>Ι
instance gy'{q r}:SpcM ((AZ q)) r (∀{o n},Cr 154 #[ε o q n] (λG=>sl c' G o n q) (λG v=>v=.bool r)):=.mk λhr {o n}=>by refine Ρ ?_;intro O p _ hr _;refine WC.mA hr [0] [] [] [] (λ(m:Int)=>⟨m,[(3,i' m)],tr,[]⟩) (λ(_:Unit)=>⟨(.inr ()),[],tr,[]⟩) 0
instance jf'{i r}:SpcM ((Me i)) r (Cr 290 #[i' i] (λG=>True) (λG v=>v=.int .u8 r)):=.mk λhr=>by refine Ρ ?_;intro k g _ hr _;refine WC.mA hr [0] [] [] [] (λ(⟨e,h⟩:Int×Int)=>⟨(e,h),[(3,i' e),(4,i' h)],tr,[]⟩) (λ(j:Int)=>⟨j,[(3,i' j)],tr,[]⟩) ⟨1,0⟩
instance ir'{j r}:SpcM ((J7 j)) r (Cr 233 #[.agg (Ó j).toArray] (λG=>True) (λG v=>v=.int .u8 r)):=.mk λhr=>by refine Ρ ?_;intro p f _ m hr _;refine WC.mA hr [1] [1] [] [] (λ(⟨e,h⟩:Int×Int)=>⟨(e,h),[(3,.int .u8 e),(4,i' h)],tr,[]⟩) (λ(k:Int)=>⟨k,[(3,.int .u8 k)],tr,[]⟩) ⟨0,0⟩
instance gE'{l r}:SpcM ((Bj l)) r (∀{i h},Cr 155 #[ε i l h] (λG=>sl c' G i h l) (λG v=>v=.int .u8 r)):=.mk λhr {i h}=>by refine Ρ ?_;intro s g _ hr _;refine WC.mA hr [0] [] [] [] (λ(⟨d,m⟩:Int×Int)=>⟨(d,m),[(3,.int .u8 d),(4,i' m)],tr,[]⟩) (λ(f:Int)=>⟨f,[(3,.int .u8 f)],tr,[]⟩) ⟨0,0⟩
instance gk'{h m r}:SpcM ((yR h m)) r (∀{e d},Cr 213 #[ε e h d,i' m] (λG=>sl c' G e d h) (λG v=>v=.bool r)):=.mk λhr {e d}=>Ι
instance ii'{k n r}:SpcM ((Gj k n)) r (∀{i h},Cr 132 #[ε i k h,i' n] (λG=>sq G i h k) (λG v=>v=.bool r)):=.mk λhr {i h}=>by refine Ρ ?_;intro s f _ hr _;refine WC.mA hr [0,1] [] [] [] (λ(j:Int)=>⟨j,[(5,i' j)],tr,[]⟩) (λ(_:Unit)=>⟨(.inr ()),[],tr,[]⟩) 0
instance gW'{l y p r}:SpcM ((Fg l y p)) r (∀{L M s t},Cr 74 #[i' l,ε L y M,ε s p t] (λG=>sq G L M y/\sq G s t p) (l1 r)):=.mk λhr {L M s t}=>by
 refine è ?_;intro w0 G0 _ R V a hr _;refine aL' hr (λ(⟨J,g,f,d,c,S⟩:Zc×ŀ Addr×Nat×ŀ Addr×Nat×Mem)=>⟨[(0,i' l),(1,ε L y M),(2,ε s p t),(6,iI a)],Qk l y p,Mem.le G0 S/\sq S g f J.eqs/\sq S d c J.δ,St w0 G0 S [(6,û a (Ã J g f d c) 48)]⟩) ?_ ?_
 .refine Ρ ?_;intro _ _ _ _ hr _;refine pF ⟨(Zc.mk 0 [] []),none,0,none,0,G0⟩ ⟨hr,mr,(X' _ _),(X' _ _)⟩ (Å z) (w1 z)
 rintro⟨J,g,f,d,c,S⟩ ⟨hr,u,aT,aH⟩;refine Ρ ?_;intro _ _ x a2 hr;refine oA hr λO hr=>jP (r:=(Rp.sl c')) 2032 z z jN js z ĳ z z a2 z (by rw[R];rfl) kX (V.mono (mx u x)) O λp2 a7 Z q C a4 P=>Υ z<|o'<|sr<|Υ z<|ny (X:=(Ŀ (Ŀ Za))×ŀ Addr×Nat×ŀ Ow×Int×Mem) hr (λ⟨h,m,o,k,F,I⟩=>⟨(h,F),[(0,i' l),(2,ε s p t),(6,iI a),(8,ε m h o),(9,i' F)],Mem.le q I/\sq I m o h/\Tok 1 50 (ε m h o) h.length k,St w0 G0 I [(6,û a (Ã J g f d c) 48),(1008,k)]⟩) (λ(⟨A,B,D,E,e⟩:(Ŀ (Ŀ Za))×ŀ Addr×Nat×ŀ Ow×Mem)=>⟨A,[(0,i' l),(2,ε s p t),(6,iI a),(8,ε B A D)],Mem.le q e/\sq e B D A/\Tok 1 50 (ε B A D) A.length E,St w0 G0 e [(6,û a (Ã J g f d c) 48),(1008,E)]⟩) ⟨([]++y),p2,a7,Z,0,q⟩ z (Å z) ⟨mr,a4,P⟩ ?_ ?_ ?_
 .intro w v;have v:=v.Þ (i:=2032) (j:=1008) z (by rw[R];rfl);exact v.weaken (lc z (lc z ln))
 .rintro _ ⟨h,m,o,k,F,I⟩ ⟨n,K,H⟩ hr;refine Ρ ?_;intro _ _ _ _ _ _ _ _ _ _ _ _ _ _ Y _ _ _ _ _ _ Q _ W _ _ _ _ _ N aX hr _;refine oA hr λT hr=>jP (r:=(Rp.sl c')) 1008 z z jN js z ĳ z z (K.mono (mx (mx Y W) N)) z (by rw[R];rfl) H aX T λp5 aU aS aY ap a8 U=>Ö z<|t'<|E'<|b'<|w'<|θ z<|iP z<|Ö z<|t'<|N' ⟨(h++[Q]),p5,aU,aS,i64.wrap (F+1),aY⟩ hr ⟨(mx (mx (mx (mx n Y) W) N) ap),a8,U⟩ (Å z) (w2 z z)
 rintro⟨A,B,D,E,e⟩ ⟨hr,ar,av,aW⟩;exact Ι
instance gO'{c r}:SpcM ((Jc c)) r (Cr 131 #[.agg (Ó c).toArray] (λG=>True) (λG v=>v=.bool r)):=.mk λhr=>by
 refine Ρ ?_;intro s g _ o y hr _;refine A' 3 z wC z z z (U' _ _ _) (U' _ _ _) (λu t=>Rp.one (Rp.DP 8) (G:=g) (x:=(λ_=>false)) (cs:=ö Value.bool 8 (λ_=>false)) z u (by first|simpa using t|simpa[Value.cells]using t))<|nx<|o'<|sr<|Υ z<|WC.mA hr [1,3] [1] [] [] (λ(⟨h,d⟩:Int×(Fin 8->Bool))=>⟨(h,d),[(4,i' h)],tr,[(3,û y (ö Value.bool 8 d) 143)]⟩) (λ(_:Unit)=>⟨(.inr ()),[],tr,[]⟩) ⟨0,(λ_=>false)⟩
instance iM'{d c r}:SpcM ((S4 d c)) r (∀{y B v A},Cr 306 #[ε y d B,ε v c A] (λG=>su G y B d/\su G v A c) (fU (Rp.int .u32) r)):=.mk λhr {y B v A}=>by
 refine Ρ ?_;intro T x _ U _ _ D M V hr _;refine WC.mB hr [0,1,5,6] [] [6] [] (λ(⟨j,g,f,u⟩:(Ŀ Int)×ŀ Ow×Int×Int)=>⟨(j,f,u),[(7,.int .u64 f),(8,i' u)],λl=>Ε (Rp.int .u32) 248 l (.slice D (i64.wrap ((if(d.length:Int)<(c.length:Int)then(c.length:Int)else(d.length:Int))+1)).toNat ((i64.wrap ((if(d.length:Int)<(c.length:Int)then(c.length:Int)else(d.length:Int))+1)).toNat)) j g,[(4017,g)]⟩) (λ(⟨o,k⟩:(Ŀ Int)×ŀ Ow)=>⟨o,[],λq=>Ε (Rp.int .u32) 248 q (.slice D (i64.wrap ((if(d.length:Int)<(c.length:Int)then(c.length:Int)else(d.length:Int))+1)).toNat ((i64.wrap ((if(d.length:Int)<(c.length:Int)then(c.length:Int)else(d.length:Int))+1)).toNat)) o k,[(4017,k)]⟩) ⟨(List.replicate (i64.wrap ((if(d.length:Int)<(c.length:Int)then(c.length:Int)else(d.length:Int))+1)).toNat 0),M,0,0⟩ ?_;rintro q ⟨o,k⟩ hr Y E;refine b'<|sr<|θ z<|pP (r:=(Rp.int .u32)) (e:=248) 4017 E z (by rw[U];rfl) (λp af h C Z=>?_)
 refine oE hr λs P hr=>gd z z (x' rE z) (BX.h P) (by rw[qQ C]) ((rq C)) (λi F a t=>?_);obtain⟨n,m,rfl,L⟩:=t;refine Υ z<|m' ?_
 obtain rfl:_=r:=hr;exact j' z z ⟨_,_,z,L⟩
instance ht'{h D r}:SpcM ((K9 h D)) r (∀{y B v A},Cr 308 #[ε y h B,ε v D A] (λG=>su G y B h/\su G v A D) (fU (Rp.int .u32) r)):=.mk λhr {y B v A}=>by
 refine Ρ ?_;intro T x _ U _ _ E M V hr _;refine WC.mB hr [0,1,5] [] [5] [] (λ(⟨j,g,c,u⟩:(Ŀ Int)×ŀ Ow×Int×Int)=>⟨(j,c,u),[(6,.int .u64 c),(7,i' u)],λl=>Ε (Rp.int .u32) 248 l (.slice E (h.length:Int).toNat ((h.length:Int).toNat)) j g,[(4011,g)]⟩) (λ(⟨o,k⟩:(Ŀ Int)×ŀ Ow)=>⟨o,[],λs=>Ε (Rp.int .u32) 248 s (.slice E (h.length:Int).toNat ((h.length:Int).toNat)) o k,[(4011,k)]⟩) ⟨(List.replicate (h.length:Int).toNat 0),M,0,0⟩ ?_;rintro s ⟨o,k⟩ hr Z F;refine b'<|sr<|θ z<|pP (r:=(Rp.int .u32)) (e:=248) 4011 F z (by rw[U];rfl) (λp n f C a=>?_)
 refine oE hr λq P hr=>gd z z (x' rE z) (BX.h P) (by rw[qQ C]) ((rq C)) (λi H d t=>?_);obtain⟨m,af,rfl,L⟩:=t;refine Υ z<|m' ?_
 obtain rfl:_=r:=hr;exact j' z z ⟨_,_,z,L⟩
instance jg'{L K r}:SpcM ((Uy L K)) r (∀{j g l k},Cr 262 #[.agg ((η L j g)).toArray,.agg ((η K l k)).toArray] (λG=>su G j g L.υ/\su G l k K.υ) (Ï r)):=.mk λhr {j g l k}=>Ι
instance gX'{t s r}:SpcM ((vC t s)) r (∀{m o e k l n g j},Cr 205 #[.agg ((Ω t m o e k)).toArray,.agg ((Ω s l n g j)).toArray] (λG=>su G m o t.num.υ/\su G e k t.den.υ/\su G l n s.num.υ/\su G g j s.den.υ) (eA r)):=.mk λhr {m o e k l n g j}=>by
 refine J' (args:=[_,_]) (N:=22) func205 z z z (λw0 G0 aA ak=>?_);obtain⟨I,A,J,y⟩:=ak;refine sr<|jO 2 z z z λb2=>jO 3 z z z λb3=>W' 4 z rp z λb4=>nx<|o'<|fM [ff,ff,ff,ff,ff,ff,ff,ff,ff,ff,ff,ff,ff,ff,ff] eR İ λhb=>cn (λ_ c=>xO z)<|cn (λ_ c=>R' ((η t.num m o)).toArray 2 mH z z z (mK ([]) ((η t.num m o)) ((η t.den e k))))<|cn (λ_ c=>BH z) ?_
 refine è ?_;intro V _ U hr _;refine oE hr λa aj hr=>mh (f:=262) (φ:=Ï a) (λ_=>z) (λv G1 G2 c h=>?_) (λu W c hu=>?_) ?_
 .obtain⟨T,Q,rfl,x⟩:=h;exact⟨_,_,z,x.mono c⟩
 .obtain⟨⟨C,E,Z,q⟩,⟨D,B,ac,p⟩,_⟩:=(show(Ï U) W.m (u 14)/\(Ï V) W.m (u 9)/\True from hu);exact⟨_,_,_,λ_=>x' II z,jg'.h aj,(by simp only[Z,ac]<;>rfl),⟨p,q⟩⟩
 refine Ρ ?_;intro hr;refine zJ (d:=15) (post:=Ï a) (d':=14) (post':=Ï U) (d'':=9) (post'':=Ï V) (λar av aw aC K R S M=>?_);obtain⟨T,Q,rfl,x⟩:=R;obtain⟨C,E,rfl,q⟩:=S;obtain⟨D,B,rfl,p⟩:=M;refine oE hr λay af hr=>gd z z (x' wN z) (M5.h af) z (⟨(A.mono K),(y.mono K)⟩) (λau az ab O=>?_);obtain⟨al,am,rfl,L⟩:=O;refine oE hr λaD ai hr=>gd z z (x' IH z) (fp'.h ai) z (⟨(x.mono ab),L⟩) (λaq aB ap P=>?_);obtain⟨ad,X,Y,aa,rfl,F,H⟩:=P;refine fZ 4 jZ z<|t'<|Λ<|b'<|m' ?_
 obtain rfl:_=r:=hr;exact j' z (kD (i:=4) mg z z z) ⟨_,_,_,_,z,F,H⟩
instance WT{D B r}:SpcM ((Bp D B)) r (∀{M S P Q},Cr 119 #[ε M D S,ε P B Q] (λG=>sl c' G M S D/\sl c' G P Q B) (fU c' r)):=.mk λhr {M S P Q}=>by
 refine Ρ ?_;intro w0 G0 _ q _ p1 aW _ bQ hr _;refine WC.mC (hH:=by exact⟨bQ,kX⟩) hr [0,1] [] [] [] (λ(⟨E,R,L,K,V,C⟩:(Ŀ Za)×ŀ Addr×Nat×ŀ Ow×Int×Int)=>⟨(E,V,C),[(5,ε R E L),(6,i' V),(7,i' C)],λam=>sl c' am R L E/\Tok 12 147 (ε R E L) E.length K,[(1005,K)]⟩) (λ(⟨a,p,j,ap⟩:(Ŀ Za)×ŀ Addr×Nat×ŀ Ow)=>⟨a,[(5,ε p a j)],λaT=>sl c' aT p j a/\Tok 12 147 (ε p a j) a.length ap,[(1005,ap)]⟩) ⟨[],p1,0,none,0,0⟩ ?_;rintro _ am ⟨E,R,L,K,V,C⟩ d ⟨aA,ar⟩ hr;refine WC.nB hr [0,1,5,6,7] [1005] (λ(_:Unit)=>⟨[],xa D B E V C,tr,[]⟩) ?_;intro ak _ hr f _;refine Y'<|WC.nD hr [0,1,7] [] (λ(⟨U,Z,c,Y,T⟩:(Ŀ Za)×ŀ Addr×Nat×ŀ Ow×Int)=>⟨[(5,ε Z U c),(6,i' T)],AM D B C U T,λX=>sl c' X Z c U/\Tok 12 147 (ε Z U c) U.length Y,[(1005,Y)]⟩) ?_ ?_
 .refine WC.nD hr [0,1,5,6,7] [1005] (λ(t:Bool)=>⟨[(43,.bool t)],vr D B E V C t,tr,[]⟩) ?_ ?_
  .refine Ρ ?_;intro _ _ hr;refine Ê (M' z z) z<|Ê (M' z z) z<|sf z z z<|Κ z<|t'<|Λ<|pF ⟨ak,true⟩ ⟨hr,mr,trivial⟩ (Å z) (w1 z)
  intro aR t hr F _;refine Ρ ?_;intro _ x7 _ _ _ _ _ _ _ _ _ _ _ _ _ _ _ u bC hr _;refine oA hr λbp hr=>jP (r:=c') 1005 z z Q' k0 z ĳ z z (aA.mono (mx (mx f F) u)) z (by rw[q];rfl) ar bC bp λp7 bZ bl bV a1 bI bs=>Ö z<|nr<|θ z<|iP z<|Υ z<|nz<|p'<|K'<|N' ⟨bV,(E++[x7]),p7,bZ,bl,i64.wrap (V+1),C⟩ hr ⟨(mx (mx (mx (mx d f) F) u) a1),bI,bs⟩ (Å z) (w1 z)
 rintro X ⟨U,Z,c,Y,T⟩ hr n ⟨aO,aD⟩;refine WC.nD hr [0,1,6] [] (λ(⟨W,g,e,af,h⟩:(Ŀ Za)×ŀ Addr×Nat×ŀ Ow×Int)=>⟨[(5,ε g W e),(7,i' h)],Kq D B T W h,λv=>sl c' v g e W/\Tok 12 147 (ε g W e) W.length af,[(1005,af)]⟩) ?_ ?_
 .refine WC.nB hr [0,1,5,6,7] [1005] (λ(s:Bool)=>⟨[(70,.bool s)],AL D B C U T s,tr,[]⟩) ?_;intro aU s hr A _;refine Ρ ?_;intro _ x4 _ _ _ _ _ _ _ _ _ _ _ _ _ _ _ x bH hr _;refine oA hr λbt hr=>jP (r:=c') 1005 z z Q' k0 z ĳ z z (aO.mono (mx A x)) z (by rw[q];rfl) aD bH bt λp5 bB bz bY aY bX bu=>Ö z<|nr<|θ z<|iP z<|Υ z<|nz<|p'<|K'<|N' ⟨bY,(U++[x4]),p5,bB,bz,T,i64.wrap (C+1)⟩ hr ⟨(mx (mx (mx (mx (mx d f) n) A) x) aY),bX,bu⟩ (Å z) (w1 z)
 rintro v ⟨W,g,e,af,h⟩ hr O ⟨aQ,aF⟩;refine o'<|fM [ff,ff,ff,ff,ff,ff,ff,ff,ff,ff,ff,ff] eR İ λhb=>fO z<|fO z ?_
 refine è ?_;intro _ _ _ _ _ _ _ _ _ _ _ _ _ _ _ _ _ _ _ _ _ _ _ _ _ _ _ _ _ _ J hr _;refine kJ (λ_=>z) rp<|γ.nt (λcg b9 X1 N aX aV=>?_)
 obtain⟨b1,rfl,bn⟩:=aX;obtain⟨m,l,i,k,rfl,I,H⟩:=aV;refine pQ bn (l7 (show WL _ _ _ _ _ _ (St w0 G0 X1.m _)from ?_));refine fZ 8 jZ z<|t'<|Λ<|b'<|o' ?_
 refine è ?_;intro _ hr _;refine I' hr z (λb3 hr=>?_) (λb3 hr=>?_)
 .refine fM [tt,ff,ff,ff,ff,ff,ff] eR İ λhb=>?_;refine è ?_;intro x3 _ _ _ _ _ _ _ _ _ _ _ _ _ _ _ y bR hr _;refine oA hr λbm hr=>jP (r:=c') 1005 z z Q' k0 z ĳ z z (aQ.mono (mx N y)) z (by rw[q];rfl) aF bR bm λp3 bJ bk bE aZ bS bo=>Ö z<|t'<|Λ<|b'<|sr<|θ z<|iP z<|Υ z<|w'<|θ z<|iP z<|Ö z<|t'<|E'<|N' ⟨bE,(W++[(Za.mk J x3.m)]),p3,bJ,bk,i64.wrap (T+1),i64.wrap (h+1)⟩ hr ⟨(mx (mx (mx (mx (mx (mx d f) n) O) N) y) aZ),bS,bo⟩ (Å z) (w1 z)
 exact Ι
instance fW'{S i r}:SpcM ((AA S i)) r (∀{J I},Cr 73 #[ε J S I,.agg (Ó i).toArray] (λG=>sl c' G J I S) (iA c' r)):=.mk λhr {J I}=>by
 refine Ρ ?_;intro Z Y K ag R _ _ p2 V q ay hr _;refine WC.mC hr [0,3] [3] [] [] (λ(⟨o,m,l,Q⟩:(Ŀ Za)×ŀ Addr×Nat×Int)=>⟨(o,Q),[(6,ε m o l),(7,i' Q)],λp=>sl c' p m l o,[]⟩) (λ(⟨C,D,B⟩:(Ŀ Za)×ŀ Addr×Nat)=>⟨C,[(6,ε D C B)],λO=>sl c' O D B C,[]⟩) ⟨[],p2,0,0⟩ ?_;rintro _ p ⟨o,m,l,Q⟩ k P hr;refine Ρ ?_;intro _ u hr;refine WC.mD hr [0,3,6,7,8] [3] [0,3,6,7,8] [3] (λ(⟨L,A⟩:Int×(Fin 8->Int))=>⟨(L,A),[(9,i' L)],tr,[(8,û u (Ó A) 145)]⟩) (λ(n:(Fin 8->Int))=>⟨n,[],tr,[(8,û u (Ó n) 145)]⟩) ⟨0,(λ_=>0)⟩ ?_ ?_
 .rintro _ F ⟨L,A⟩ y _ hr;refine o'<|sr<|θ z<|kv z<|nx<|I' hr z (λaz hr=>?_) (λaz hr=>?_)
  .refine q'<|b'<|o'<|Y'<|fM [ff,ff,ff,ff,ff,ff,ff,ff,ff,ff] eR İ λa=>fO z<|oA hr λx hr=>cn (λ_ h=>VW GD jV z z x) ?_
   refine è ?_;intro x2 _ N _ _ _ _ _ _ _ _ _ _ _ _ hr X;exact cn (λ_ h=>nw eM z (GL (T' (T' (xP (nQ (iM K N))) (mx (mx q k) y)) h) X))<|pE a<|oA hr λaw hr=>Δ (VW aM' jV z z aw)<|qJ 8 (Ó (ζ A ((Η i L).toNat) (Η x2.m L))).toArray z jV z z z (by first|(rw[U'];omega)|(show _<(ö _ _ _).toArray.size;rw[U'];omega)) z (cY' _ _ _ _ _)<|Ι
  exact Ι
 intro U n hr t _;refine b'<|fM [tt,ff,ff,ff,ff,ff,ff] eR İ λa=>uC z (k' z)<|fO z<|fO z<|oE hr λs af hr=>cn (λ_ h=>kf Q' bB' ((K.mono (mx (mx q k) t)).mono h) z z af)<|cn (λ_ h=>oj z) ?_
 obtain⟨g,d,f,c,au,E,H⟩:=pG (T' (r8 (nQ (iM K af))) (mx (mx q k) t));refine cn (λ_ h=>mY _ mg z z (λj v hv=>h _ _ _ (au j v hv)))<|cn (λ_ h=>y' 8 GG z z (U' _ _ _))<|pE a<|Δ (l5 (vs:=#[(0,.agg ((Ω s.c g d f c)).toArray),(1,.agg (Ó n).toArray)]) (v:=.agg (((Ω s.c g d f c):Ŀ Value)++(Ó n)).toArray) z z (λ_=>İ))<|mU (e:=147) (r:=c') (vs:=#[(0,.agg (((Ω s.c g d f c):Ŀ Value)++(Ó n)).toArray)]) (cs:=(((Ω s.c g d f c):Ŀ Value)++(Ó n))++([])) ([(Za.mk s.c n)]:Ŀ Za) z z z z z ĳ (λ_=>İ) ⟨((Ω s.c g d f c):Ŀ Value)++(Ó n),[],z,⟨(Ω s.c g d f c),Ó n,z,⟨(η s.c.num g d),(η s.c.den f c),z,⟨[.bool s.c.num.neg],[ε g s.c.num.υ d],z,z,⟨_,z,E⟩⟩,⟨[.bool s.c.den.neg],[ε f s.c.den.υ c],z,z,⟨_,z,H⟩⟩⟩,z⟩,z⟩ (key:=999) z (by rw[ag];rfl) (λp3 aG M ax=>?_)
 refine oE hr λao ah hr=>gd z z (x' zS z) (WT.h ah) z (⟨(P.mono (mx t M)),ax⟩) (λaE ap W T=>?_);obtain⟨aj,ak,rfl,am⟩:=T;exact Ι
instance fE'{y Y r}:SpcM ((AF y Y)) r (∀{k l j g},Cr 30 #[.agg ((Ã y k l j g)).toArray,.agg (Ó Y).toArray] (λG=>sq G k l y.eqs/\sq G j g y.δ) (u9 r)):=.mk λhr {k l j g}=>by
 refine Ρ ?_;intro w0 G0 _ af _ b1 b2 b3 p1 _ _ bv p2 aQ o bx hr _;refine WC.mD (hH:=by exact⟨(bv.mono o),kX⟩) hr [2,3,4,6] [2,3,4] [2,3,4,6] [2,3,4] (λ(⟨t,L,F,M,ah⟩:(Ŀ (Ŀ Za))×ŀ Addr×Nat×ŀ Ow×Int)=>⟨(t,ah),[(5,ε L t F),(7,i' ah)],λar=>sq ar L F t/\Tok 1 50 (ε L t F) t.length M,[(1005,M)]⟩) (λ(⟨x,B,A,q⟩:(Ŀ (Ŀ Za))×ŀ Addr×Nat×ŀ Ow)=>⟨x,[(5,ε B x A)],λae=>sq ae B A x/\Tok 1 50 (ε B x A) x.length q,[(1005,q)]⟩) ⟨[],p1,0,none,0⟩ ?_ ?_
 .rintro _ ar ⟨t,L,F,M,ah⟩ P ⟨aF,au⟩ hr;refine o' ?_;refine è ?_;intro hr;refine I' hr z (λbu hr=>?_) (λbu hr=>?_)
  .refine q'<|b'<|o'<|Y'<|o'<|fM [ff,ff,ff,ff,ff,ff,ff,ff,ff,tt] eR İ λhb=>cn (λ_ f=>Ng z)<|cn (λ_ f=>n' 2 jU z z z) ?_
   refine è ?_;intro _ _ _ _ _ _ _ _ _ n hr _;refine km (φ:=iA c' n) (λ_=>z) (λv G1 G2 f h=>?_) (λu Q f a=>?_) ?_
   .obtain⟨p9,N,rfl,i⟩:=h;exact⟨_,_,z,i.mono f⟩
   .obtain⟨⟨aa,ac,a5,E⟩,_⟩:=(show(iA c' n) Q.m (u 31)/\True from a);simp only[ς,a5];exact⟨_,k' z,aa,ac,z,E⟩
   refine km (φ:=fU c' n.1) (λ_=>z) (λv G1 G2 f h=>?_) (λu Q f a=>?_) ?_
   .obtain⟨C,X,rfl,aw⟩:=h;exact⟨_,_,z,aw.mono f⟩
   .obtain⟨⟨p9,N,aj,i⟩,_,_⟩:=(show(iA c' n) Q.m (u 24)/\True/\True from a);simp only[ς,aj];exact⟨_,O' z z,p9,N,z,i⟩
   refine na (c:=i' n.2) (λ_=>z) (λu Q f a=>?_) ?_
   .obtain⟨_,⟨p9,N,aj,i⟩,_,_⟩:=(show True/\(iA c' n) Q.m (u 24)/\True/\True from a);simp only[ς,aj];exact O' z z
   refine zJ (d:=32) (post:=fU c' n.1) (d':=24) (post':=iA c' n) (d'':=31) (post'':=iA c' n) (λbM bJ bK bT az aO aI aL=>?_);obtain⟨C,X,rfl,aw⟩:=aO;obtain⟨p9,N,rfl,i⟩:=aI;obtain⟨aa,ac,rfl,E⟩:=aL;refine Ö z<|Ö z<|t'<|Λ<|b'<|w'<|θ z<|θ z<|mU (e:=50) (r:=(Rp.sl c')) (vs:=#[(0,ε C n.1 X)]) (cs:=[ε C n.1 X]++([])) ([n.1]:Ŀ (Ŀ Za)) z z z z z ĳ (λ_=>İ) ⟨[ε C n.1 X],[],z,⟨_,z,aw⟩,z⟩ (key:=999) z (by rw[af];rfl) (λb0 bV ax bo=>?_)
   refine oA hr λbl hr=>jP (r:=(Rp.sl c')) 1005 z z jN js z ĳ z z (aF.mono (mx az ax)) z (by rw[af];rfl) au bo bl λbC bp a1 bz a8 bh aW=>Ö z<|t'<|E'<|b'<|w'<|θ z<|iP z<|Ö z<|t'<|N' ⟨bz,(t++[n.1]),bC,bp,a1,i64.wrap (ah+1)⟩ hr ⟨(mx (mx (mx P az) ax) a8),bh,aW⟩ (Å z) (w4 z z z z)
  exact Ι
 rintro ae ⟨x,B,A,q⟩ hr S ⟨a7,bA⟩;refine b'<|o'<|sr<|Υ z<|WC.mC (hH:=by exact⟨(bx.mono S),kX⟩) hr [2,3,4,5] [2,3,4,1005] [2,4,5] [2,4,1005] (λ(⟨s,O,K,I,T⟩:(Ŀ (Ŀ Za))×ŀ Addr×Nat×ŀ Ow×Int)=>⟨(s,T),[(6,ε O s K),(10,i' T)],λaq=>sq aq O K s/\Tok 1 50 (ε O s K) s.length I,[(1006,I)]⟩) (λ(⟨R,U,V,Z⟩:(Ŀ (Ŀ Za))×ŀ Addr×Nat×ŀ Ow)=>⟨R,[(6,ε U R V)],λaH=>sq aH U V R/\Tok 1 50 (ε U R V) R.length Z,[(1006,Z)]⟩) ⟨[],p2,0,none,0⟩ ?_
 rintro _ aq ⟨s,O,K,I,T⟩ H ⟨aE,an⟩ hr;refine o' ?_;refine è ?_;intro hr;refine I' hr z (λbG hr=>?_) (λbG hr=>?_)
 .refine q'<|b'<|o'<|Y'<|o'<|fM [ff,ff,ff,ff,ff,ff,ff,ff,ff,tt] eR İ λhb=>cn (λ_ f=>V4 z)<|cn (λ_ f=>n' 2 jU z z z) ?_
  refine è ?_;intro _ _ _ _ _ _ _ _ _ m hr _;refine km (φ:=iA c' m) (λ_=>z) (λv G1 G2 f h=>?_) (λu Q f a=>?_) ?_
  .obtain⟨p4,D,rfl,p⟩:=h;exact⟨_,_,z,p.mono f⟩
  .obtain⟨⟨ad,W,aZ,J⟩,_⟩:=(show(iA c' m) Q.m (u 52)/\True from a);simp only[ς,aZ];exact⟨_,k' z,ad,W,z,J⟩
  refine km (φ:=fU c' m.1) (λ_=>z) (λv G1 G2 f h=>?_) (λu Q f a=>?_) ?_
  .obtain⟨p5,ay,rfl,aS⟩:=h;exact⟨_,_,z,aS.mono f⟩
  .obtain⟨⟨p4,D,ai,p⟩,_,_⟩:=(show(iA c' m) Q.m (u 45)/\True/\True from a);simp only[ς,ai];exact⟨_,O' z z,p4,D,z,p⟩
  refine na (c:=i' m.2) (λ_=>z) (λu Q f a=>?_) ?_
  .obtain⟨_,⟨p4,D,ai,p⟩,_,_⟩:=(show True/\(iA c' m) Q.m (u 45)/\True/\True from a);simp only[ς,ai];exact O' z z
  refine zJ (d:=53) (post:=fU c' m.1) (d':=45) (post':=iA c' m) (d'':=52) (post'':=iA c' m) (λbN bL bO bS aG aK aM aP=>?_);obtain⟨p5,ay,rfl,aS⟩:=aK;obtain⟨p4,D,rfl,p⟩:=aM;obtain⟨ad,W,rfl,J⟩:=aP;refine Ö z<|Ö z<|t'<|Λ<|b'<|w'<|θ z<|θ z<|mU (e:=50) (r:=(Rp.sl c')) (vs:=#[(0,ε p5 m.1 ay)]) (cs:=[ε p5 m.1 ay]++([])) ([m.1]:Ŀ (Ŀ Za)) z z z z z ĳ (λ_=>İ) ⟨[ε p5 m.1 ay],[],z,⟨_,z,aS⟩,z⟩ (key:=999) z (by rw[af];rfl) (λp6 bZ aD br=>?_)
  refine oA hr λbg hr=>jP (r:=(Rp.sl c')) 1006 z z jN js z ĳ z z (aE.mono (mx aG aD)) z (by rw[af];rfl) an br bg λp7 bE bf bD a2 bt bk=>Ö z<|t'<|E'<|b'<|w'<|θ z<|iP z<|Ö z<|t'<|N' ⟨bD,(s++[m.1]),p7,bE,bf,i64.wrap (T+1)⟩ hr ⟨(mx (mx (mx H aG) aD) a2),bt,bk⟩ (Å z) (w5 z z z z z)
 exact Ι
instance Ws{i n c r}:SpcM ((xg i n c)) r (∀{f e},Cr 161 #[ε f i e,i' n,i' c] (λG=>sl c' G f e i) (λG v=>v=.bool r)):=.mk λhr {f e}=>Ι
instance gY'{D P r}:SpcM ((Ff D P)) r (∀{s y},Cr 152 #[ε s D y,i' P] (λG=>sq G s y D) (λG v=>v=.bool r)):=.mk λhr {s y}=>by
 refine Ρ ?_;intro w0 x _ _ hr i;refine WC.mC hr [0,1] [] [] [] (λ(q:Int)=>⟨q,[(5,i' q)],tr,[]⟩) (λ(_:Unit)=>⟨(.inr ()),[],tr,[]⟩) 0 ?_;intro _ p q g _ hr;refine o' ?_;refine è ?_;intro hr;refine I' hr z (λA hr=>?_) (λA hr=>?_)
 .refine q'<|b'<|o'<|Y'<|o'<|fM [ff,ff,ff,ff,ff,ff,ff,ff,ff,ff,ff,ff,ff,ff,ff,ff,ff,ff,ff,ff,ff,ff,ff,ff,ff,ff,ff,ff,ff,ff,ff,ff,ff,ff,ff,ff,ff,ff,ff,ff,ff] eR İ λU=>fO z<|fO z<|oE hr λx1 L hr=>cn (λ_ e=>kf jN oI ((i.mono g).mono e) z z L) ?_
  obtain⟨p1,aE,m,N⟩:=xT (T' (iM i L) g);refine cn (λ_ e=>nw oG z (e _ _ _ m))<|fO z<|oE hr λai Q hr=>uA z (λ_=>x' zX z) (Ws.h Q) z (λM e=>(N.mono e)) ?_
  cases ai
  .refine Ρ ?_;intro hr;refine Ê (M' z z) z<|Ê (M' z z) z<|sf z z z<|Κ z<|t'<|Λ<|b'<|oh z<|sr<|Υ z<|m'<|g'<|a'<|a'<|g'<|mX<|a' (Û hr z z)
  refine cn (λ_ e=>kE z)<|fO z<|cy z z (λ_ e=>k' z)<|cy z z (λ_ e=>k' z)<|oE hr λx2 E hr=>cy z z (λ_ e=>kf jN oI ((i.mono g).mono e) z z E) ?_
  obtain⟨p2,aD,aj,T⟩:=xT (T' (iM i E) g);refine cy z z (λ_ e=>nw oG z (e _ _ _ aj))<|cy z z (λ_ e=>P' Q' (T.mono e) z)<|BL hr (C' z z) (λ_ e=>eB z z) (λan hr=>?_) (λan hr=>?_)
  .refine Ρ ?_;intro hr;refine Ê (M' z z) z<|Ê (M' z z) z<|sf z z z<|Κ z<|t'<|Λ<|b'<|oh z<|sr<|Υ z<|m'<|g'<|a'<|a'<|g'<|mX<|a' (Û hr z z)
  refine cn (λ_ e=>f' z z)<|fO z<|cy z z (λ_ e=>k' z)<|cy z z (λ_ e=>k' z)<|oE hr λx3 I hr=>cy z z (λ_ e=>kf jN oI ((i.mono g).mono e) z z I) ?_
  obtain⟨p3,aA,ao,O⟩:=xT (T' (iM i I) g);refine cy z z (λ_ e=>nw oG z (e _ _ _ ao))<|oE hr λo R hr=>qH (post:=fU c' o) (λ_=>(C' z z)) (λ_ _=>x' Iu z) (gT'.h R) z (λM e=>(O.mono e)) (λv G1 G2 e h=>?_) ?_
  .obtain⟨n,l,rfl,k⟩:=h;exact⟨_,_,z,k.mono e⟩
  refine mQ (λ_=>(C' z z)) (λ_ _ e=>k' z)<|mQ (λ_=>(C' z z)) (λ_ _ e=>k' z)<|oE hr λx4 F hr=>mQ (λ_=>(C' z z)) (λ_ _ e=>kf jN oI ((i.mono g).mono e) z z F) ?_
  obtain⟨p4,aB,X,Z⟩:=xT (T' (iM i F) g);refine mQ (λ_=>(C' z z)) (λ_ _ e=>nw oG z (e _ _ _ X))<|oE hr λJ S hr=>γ.vQ (f:=33) (c:=.bool J) (λ_=>(C' z z)) (λu M e hu=>?_) ?_
  .obtain⟨⟨n,l,B,k⟩,_⟩:=(show(fU c' o) M.m (u 35)/\True from hu);exact⟨_,_,_,λ_=>x' XY z,eU'.h S,(by simp only[B]<;>rfl),⟨k,(Z.mono e)⟩⟩
  cases J
  .refine mQ (λ_=>(C' z z)) (λ_ _ e=>kE z)<|cu (λ_ _ e=>f' z z)<|cu (λ_ _ e=>k' z)<|mi (λ_=>(A9 z z))<|mi (λ_=>(A9 z z))<|mi (λ_=>(A9 z z))<|mi (λ_=>(M' z z))<|mi (λ_=>(M' z z))<|mi (λ_=>(M' z z))<|mi (λ_=>(M' z z))<|mi (λ_=>(M' z z))<|mi (λ_=>(M' z z))<|mi (λ_=>(M' z z))<|mi (λ_=>(M' z z))<|mi (λ_=>(M' z z))<|BI (d:=35) (post:=fU c' o) (λt aC ar j=>?_)
   obtain⟨n,l,rfl,k⟩:=j;refine Ê (M' z z) z<|Ê (M' z z) z<|sf z z z<|Κ z<|t'<|Λ<|b'<|oh z<|sr<|Υ z<|m'<|g'<|a'<|a'<|g'<|mX<|a' (Û hr z z)
  refine mQ (λ_=>(C' z z)) (λ_ _ e=>kE z)<|cu (λ_ _ e=>f' z z)<|cu (λ_ _ e=>k' z)<|mQ (λ_=>(C' z z)) (λ_ _ e=>k' z) ?_
  by_cases a:0<q
  .replace hr:=hr.pos a;refine mQ (λ_=>(C' z z)) (λ_ _ e=>mZ (vI z z) (đ Value.bool (Ă a)))<|mQ (λ_=>(C' z z)) (λ_ _ e=>k' z)<|mQ (λ_=>(C' z z)) (λ_ _ e=>k' z)<|mQ (λ_=>(C' z z)) (λ_ _ e=>k' z)<|mQ (λ_=>(C' z z)) (λ_ _ e=>GH z z)<|oE hr λx5 H hr=>mQ (λ_=>(C' z z)) (λ_ _ e=>kf jN oI ((i.mono g).mono e) z z H) ?_
   obtain⟨p5,aw,al,ak⟩:=xT (T' (iM i H) g);refine mQ (λ_=>(C' z z)) (λ_ _ e=>nw oG z (e _ _ _ al))<|mQ (λ_=>(C' z z)) (λ_ _ e=>k' z)<|mQ (λ_=>(C' z z)) (λ_ _ e=>k' z)<|oE hr λx6 K hr=>mQ (λ_=>(C' z z)) (λ_ _ e=>kf jN oI ((i.mono g).mono e) z z K) ?_
   obtain⟨p6,ay,Y,V⟩:=xT (T' (iM i K) g);refine mQ (λ_=>(C' z z)) (λ_ _ e=>nw oG z (e _ _ _ Y)) ?_;exact Ι
  replace hr:=hr.neg a;refine mQ (λ_=>(C' z z)) (λ_ _ e=>mZ (vI z z) (đ Value.bool (ċ a)))<|mQ (λ_=>(C' z z)) (λ_ _ e=>k' z)<|mi (λ_=>(uG z z))<|mi (λ_=>(uG z z))<|mi (λ_=>(uG z z))<|mi (λ_=>(uG z z))<|mi (λ_=>(uG z z))<|mi (λ_=>(uG z z))<|mi (λ_=>(uG z z))<|mi (λ_=>(uG z z))<|mi (λ_=>(uG z z))<|BI (d:=35) (post:=fU c' o) (λt W C j=>?_)
  obtain⟨n,l,rfl,k⟩:=j;exact yl z<|gy z z (f' z z) z<|ο z<|t'<|Λ<|b'<|tM z<|Ι
 exact Ι
instance gz'{l r}:SpcM ((A0 l)) r (∀{f g c d},Cr 86 #[.agg ((Ã l f g c d)).toArray] (λG=>sq G f g l.eqs/\sq G c d l.δ) (λG v=>v=.bool r)):=.mk λhr {f g c d}=>by
 refine è ?_;intro x n _ _ _ p hr _;refine WC.nB hr [1] [1] (λ(_:Unit)=>⟨[],QI l,tr,[]⟩) ?_;intro i _ hr j _;refine o'<|sr<|Υ z<|WC.mA hr [1] [1] [] [] (λ(q:Int)=>⟨q,[(3,i' q)],tr,[]⟩) (λ(_:Unit)=>⟨(.inr ()),[],tr,[]⟩) 0
instance ik'{n r}:SpcM ((Gi n)) r (∀{h k c d},Cr 157 #[.agg ((Ã n h k c d)).toArray] (λG=>sq G h k n.eqs/\sq G c d n.δ) (λG v=>v=.string r)):=.mk λhr {h k c d}=>by
 refine è ?_;intro K _ _ l g _ hr f;have a:=tU (w0:=K);refine o' ?_;refine è ?_;intro _ hr _;refine jM hr z (λA hr=>?_) (λA hr=>?_)
 .exact Ι
 refine q'<|b'<|sr<|WL.sD (e:=5) (r:=(Rp.int .u8)) (vs:=#[]) (cs:=[]) ([]:Ŀ Int) 4006 z z z z z ĳ (λ_=>İ) (z) λV J y=>Δ (y' 1 l6 z z z)<|oE hr λP o hr=>mm (λw s=>s.Þ (i:=4006) (j:=5000) z (by rw[l];rfl))<|mO z z (x' I4 z) (E7 _ _ _ _ _ _ _ _ _ _ o) z (⟨y,g,f⟩) (lc z ln) a (λM R L E m=>?_)
 obtain⟨F,H,B,rfl,rfl,t⟩:=m;refine mm (λw s=>s.Þ (i:=5000) (j:=4008) z (by rw[l];rfl))<|pP (r:=(Rp.int .u8)) (e:=5) 4008 t z (by rw[l];rfl) λO S D u C=>Δ (Y0.kL V8 Bw xN u z)<|Υ z<|m' (Û hr z z)
instance iN'{k1 r}:SpcM ((Lf k1)) r (∀{Q L A B},Cr 88 #[.agg ((Ã k1 Q L A B)).toArray] (λG=>sq G Q L k1.eqs/\sq G A B k1.δ) (λG v=>∃ab ae J P,v=.tuple #[.agg ((Ã r.1 ab ae J P)).toArray,.agg (Ó r.2).toArray]/\sq G ab ae r.1.eqs/\sq G J P r.1.δ)):=.mk λhr {Q L A B}=>by
 refine J' (args:=[_]) (N:=44) func88 z z z (λw0 G0 a9 aS=>?_);obtain⟨af,U⟩:=aS;refine sr<|jO 1 z z z λb1=>W' 2 z pk z λb2=>W' 3 z tv z λb3=>nr<|Δ (qO z)<|Δ (n' 1 eM z z z)<|oE hr λaX aM hr=>gd z z (x' O2 z) (nj.h aM) z (trivial) (λa5 bb H ak=>?_)
 obtain⟨aR,aJ,rfl,l⟩:=ak;refine Υ z<|o'<|B8 [] ln [ff,ff,ff,ff,ff,tt,tt,tt,ff,ff] eR İ λT=>cn (λ_ c=>y' 1 l6 z z z) ?_
 refine è ?_;intro _ _ _ aF hr _;refine oE hr λx2 aC hr=>γ.pS (λ_=>z) (λ_=>kf BO tN l z z aC)<|γ.pS (λ_=>z) (λ_=>mY _ r0 z (U' _ _ _) (MV (iM l aC)))<|kJ (λ_=>z) pk<|kJ (λ_=>z) tv<|γ.yw (λbc bd a4 X1 g av R an=>?_)
 obtain⟨Y,V,O,K,rfl,E,q⟩:=an;refine fA.mW av (λb5 aV aY=>?_);subst aV;replace R:=B7 R ĳ aY;refine fA.mW R (λb4 aZ a7=>?_);subst aZ;refine fA.DK (show fA _ _ _ _ _ _ _ (St w0 G0 X1.m _)from ?_);refine nW (λw n=>(n.eU T g).weaken ln)<|fZ 5 rl z<|nS<|nW (λw n=>(n.eU T g).weaken ln)<|A' 6 z tN z z z (U' _ _ _) (U' _ _ _) (λu a=>Rp.one (fP .i64 8) (G:=X1.m) (x:=x2) (cs:=Ó x2) z u (by first|simpa using a|simpa[Value.cells]using a))<|nS<|wa (λw n=>(n.eU T g).weaken ln)<|Λ<|b'<|o'<|sr<|Υ z<|WC.mD hr [1,2,3,4,5,6] [1,2,3] [2,3,5,6] [2,3] (λ(⟨i1,S,k,j,f,e,ai⟩:Int×Zc×ŀ Addr×Nat×ŀ Addr×Nat×(Fin 8->Int))=>⟨(i1,S,ai),[(7,i' i1)],λaa=>sq aa k j S.eqs/\sq aa f e S.δ,[(5,û b4 (Ã S k j f e) 48),(6,û b5 (Ó ai) 71)]⟩) (λ(⟨h,F,D,y,t,Z⟩:Zc×ŀ Addr×Nat×ŀ Addr×Nat×(Fin 8->Int))=>⟨(h,Z),[],λX=>sq X F D h.eqs/\sq X y t h.δ,[(5,û b4 (Ã h F D y t) 48),(6,û b5 (Ó Z) 71)]⟩) ⟨1,aF,Y,V,O,K,x2⟩ ?_ ?_
 .rintro _ aa ⟨i1,S,k,j,f,e,ai⟩ d ⟨C,s⟩ hr;refine o' ?_;refine è ?_;intro hr;refine I' hr z (λa0 hr=>?_) (λa0 hr=>?_)
  .refine q'<|b'<|o'<|Y'<|o'<|fM [ff,ff,ff,ff,ff,ff,ff] eR İ λT=>cn (λ_ c=>y' 1 l6 z z z)<|fO z ?_
   refine è ?_;intro _ _ _ aG hr _;refine kJ (λ_=>z) pk<|γ.nt (λba a2 X2 o aq am=>?_)
   obtain⟨b6,rfl,aQ⟩:=aq;obtain⟨ad,W,I,M,rfl,p,m⟩:=am;refine pQ aQ (l7 (show WL _ _ _ _ _ _ (St w0 G0 X2.m _)from ?_));refine fZ 8 rl z<|t'<|Λ ?_
   refine è ?_;intro T _ _ _ hr _;refine Δ (Y0.CT z z)<|t'<|Λ<|b'<|jM hr z (λaW hr=>?_) (λaW hr=>?_)
   .refine B8 [] ln [ff,tt,tt,tt,tt] eR İ λT=>?_;refine è ?_;intro hr;exact oE hr λx4 aD hr=>nE z (kf BO tN (l.mono (mx (mx g d) o)) z z aD)<|nE z (mY _ r0 z (U' _ _ _) (MV (T' (iM l aD) (mx (mx g d) o))))<|xV T<|nW (λw n=>n.weaken ln)<|fZ 5 rl z<|nS<|nW (λw n=>n.weaken ln)<|A' 6 z tN z z z (U' _ _ _) (U' _ _ _) (λu a=>Rp.one (fP .i64 8) (G:=X2.m) (x:=x4) (cs:=Ó x4) z u (by first|simpa using a|simpa[Value.cells]using a))<|nS<|wa (λw n=>n.weaken ln)<|Ι
   exact Ι
  exact Ι
 rintro X ⟨h,F,D,y,t,Z⟩ hr a1 ⟨al,aj⟩;refine b'<|o'<|B8 [(6,û b5 (Ó Z) 71)] (lc z ln) [ff,tt] eR İ λT=>cn (λ_ c=>y' 5 l6 z z z)<|nE z (y' 6 r0 z z (U' _ _ _))<|xV T<|nW (λw n=>n.weaken (lc z ln))<|fZ 2 rl z<|nS<|nW (λw n=>n.weaken (lc z ln))<|A' 3 z tN z z z (U' _ _ _) (U' _ _ _) (λu a=>Rp.one (fP .i64 8) (G:=X) (x:=Z) (cs:=Ó Z) z u (by first|simpa using a|simpa[Value.cells]using a))<|nS<|wa (λw n=>n.weaken (lc z ln))<|Λ<|b'<|m' ?_
 obtain rfl:_=r:=hr;exact uw z (kD (i:=2) l6 z z z) (kD (i:=3) r0 z z (U' _ _ _)) ⟨_,_,_,_,z,al,aj⟩
instance fK'{o r}:SpcM ((yU o)) r (∀{j k},Cr 156 #[ε j o k] (λG=>sv G j k o) (λG v=>v=.bool r)):=.mk λhr {j k}=>by refine Ρ ?_;intro s m _ _ hr _;refine WC.mC hr [0] [] [] [] (λ(l:Int)=>⟨l,[(3,i' l)],tr,[]⟩) (λ(_:Unit)=>⟨(.inr ()),[],tr,[]⟩) 0 ?_;intro _ h l d _ hr;refine Ρ ?_;intro _ hr;refine WC.mA hr [0,3] [] [0,3] [] (λ(⟨e,q⟩:Int×Int)=>⟨(e,q),[(4,i' e),(5,i' q)],tr,[]⟩) (λ(g:Int)=>⟨(.inr g),[(4,i' g)],tr,[]⟩) ⟨0,0⟩
instance kg{c r}:SpcM ((Jh c)) r (Cr 158 #[.agg (Ó c).toArray] (λG=>True) (λG v=>v=.bool r)):=.mk λhr=>by
 refine Ρ ?_;intro s g _ o y hr _;refine A' 3 z wC z z z (U' _ _ _) (U' _ _ _) (λu t=>Rp.one (Rp.DP 8) (G:=g) (x:=(λ_=>false)) (cs:=ö Value.bool 8 (λ_=>false)) z u (by first|simpa using t|simpa[Value.cells]using t))<|nx<|o'<|sr<|Υ z<|WC.mA hr [1,3] [1] [] [] (λ(⟨h,d⟩:Int×(Fin 8->Bool))=>⟨(h,d),[(4,i' h)],tr,[(3,û y (ö Value.bool 8 d) 143)]⟩) (λ(_:Unit)=>⟨(.inr ()),[],tr,[]⟩) ⟨0,(λ_=>false)⟩
instance jh'{j r}:SpcM ((Gb j)) r (∀{e c f d},Cr 292 #[.agg ((Ω j e c f d)).toArray] (λG=>su G e c j.num.υ/\su G f d j.den.υ) (iz r)):=.mk λhr {e c f d}=>Ι
instance ji'{M I r}:SpcM ((Ge M I)) r (∀{o k m l n g f j},Cr 323 #[.agg ((Ω M o k m l)).toArray,.agg ((Ω I n g f j)).toArray] (λG=>su G o k M.num.υ/\su G m l M.den.υ/\su G n g I.num.υ/\su G f j I.den.υ) (eA r)):=.mk λhr {o k m l n g f j}=>Ι
instance is'{Y ae k1 r}:SpcM ((J9 Y ae k1)) r (∀{B ab E al},Cr 291 #[.agg (B).toArray,.agg (E).toArray,i' k1] (λG=>É ij 8 G B ab Y/\É ij 8 G E al ae) (λG v=>∃zk zu,v=.agg (zk).toArray/\É ij 8 G zk zu r)):=.mk λhr {B ab E al}=>by
 refine Ρ ?_;intro w0 G0 _ _ A N b2 b3 hr aa;refine oE hr λx1 aA hr=>Δ (rn oi jZ z z (ry A aA)) ?_;obtain⟨O,R,S,M,aF,V,Q⟩:=pG (vZ A aA);refine Δ (R' _ 3 mg z z z aF)<|W' 7 z rp z λb4=>fZ 7 jZ z<|nx<|o'<|sr<|Υ z<|ny (X:=Int×(Ŀ Zf)×Ŀ Value×Unit×Mem) hr (λ⟨a,U,D,H,W⟩=>⟨(a,U),[(3,iI N),(4,iI b2),(6,iI b3),(7,iI b4),(8,i' a)],Mem.le G0 W/\É ij 8 W D H U,St w0 G0 W [(3,û N (D) 325),(4,û b2 (E) 325),(6,û b3 ([.bool false,.slice none 0 0,.bool false,.slice none 0 0,.bool false,.slice none 0 0,.bool false,.slice none 0 0,.bool false,.slice none 0 0,.bool false,.slice none 0 0,.bool false,.slice none 0 0,.bool false,.slice none 0 0,.bool false,.slice none 0 0,.bool false,.slice none 0 0,.bool false,.slice none 0 0,.bool false,.slice none 0 0,.bool false,.slice none 0 0,.bool false,.slice none 0 0,.bool false,.slice none 0 0,.bool false,.slice none 0 0]:Ŀ Value) 325),(7,û b4 (Ω x1 O R S M) 120)]⟩) (λ(⟨ag,Z,ai,t⟩:(Ŀ Zf)×Ŀ Value×Unit×Mem)=>⟨ag,[(3,iI N),(6,iI b3)],Mem.le G0 t/\É ij 8 t Z ai ag,St w0 G0 t [(3,û N (Z) 325),(6,û b3 ([.bool false,.slice none 0 0,.bool false,.slice none 0 0,.bool false,.slice none 0 0,.bool false,.slice none 0 0,.bool false,.slice none 0 0,.bool false,.slice none 0 0,.bool false,.slice none 0 0,.bool false,.slice none 0 0,.bool false,.slice none 0 0,.bool false,.slice none 0 0,.bool false,.slice none 0 0,.bool false,.slice none 0 0,.bool false,.slice none 0 0,.bool false,.slice none 0 0,.bool false,.slice none 0 0,.bool false,.slice none 0 0]:Ŀ Value) 325)]⟩) ⟨0,Y,B,ab,G0⟩ z (Å z) ⟨mr,A⟩ (w4 z z z z) ?_ ?_
 .rintro _ ⟨a,U,D,H,W⟩ ⟨m,s⟩ hr;refine o'<|sr<|θ z<|kv z<|nx<|I' hr z (λaO hr=>?_) (λaO hr=>?_)
  .refine q'<|b'<|o'<|Y'<|fM [tt,ff,ff,ff,ff,ff,ff,ff,ff] eR İ λhb=>uC z (k' z)<|fO z<|oE hr λx2 am hr=>cn (λ_ c=>rn oi jZ z z (ry s am)) ?_
   obtain⟨ap,ar,av,aw,aE,L,T⟩:=pG (vZ s am);refine cn (λ_ c=>R' _ 3 mg z z z aE)<|cn (λ_ c=>y' 7 mg z z z)<|fO z<|oE hr λx3 ao hr=>cn (λ_ c=>rn oi jZ z z (ry (aa.mono m) ao)) ?_
   obtain⟨ay,az,au,aq,aH,P,K⟩:=pG (vZ (aa.mono m) ao);refine cn (λ_ c=>R' _ 4 mg z z z aH)<|oE hr λax aB hr=>qH (post:=eA ax) (λ_=>z) (λ_ _=>x' Aa z) (Wo.h aB) z (λG' c=>⟨((V.mono m).mono c),((Q.mono m).mono c),(P.mono c),(K.mono c)⟩) (λv G1 G2 c h=>?_) ?_
   .obtain⟨F,y,u,x,rfl,l,j⟩:=h;exact⟨_,_,_,_,z,l.mono c,j.mono c⟩
   refine BI (d:=24) (post:=eA ax) (λaS aW p ac=>?_);obtain⟨F,y,u,x,rfl,l,j⟩:=ac;refine oE hr λo aC hr=>gd z z (x' I0 z) (ji'.h aC) z (⟨(L.mono p),(T.mono p),l,j⟩) (λaR aG C ad=>?_);obtain⟨e,g,f,k,rfl,J,I⟩:=ad;refine oE hr λx4 an hr=>Δ (rn oi jZ z z (ry (s.mono (mx p C)) an))<|Ca (cs':=(Ω o e g f k)) (z':=o) 3 z jZ z ĳ (s.mono (mx p C)) z z z z ⟨(η o.num e g),(η o.den f k),z,⟨[.bool o.num.neg],[ε e o.num.υ g],z,z,⟨_,z,J⟩⟩,⟨[.bool o.den.neg],[ε f o.den.υ k],z,z,⟨_,z,I⟩⟩⟩ an λd1 aI=>t' ?_
   refine è ?_;intro hr;refine N' ⟨i64.wrap (a+1),U.set a.toNat o,d1,H,aG⟩ hr ⟨(mx (mx m p) C),aI⟩ (Å z) (w4 z z z z)
  refine nz<|p'<|p'<|K'<|og ⟨U,D,H,W⟩ ⟨hr,m,s⟩ (Å z) (w2 z z)
 rintro⟨ag,Z,ai,t⟩ ⟨hr,aP,q⟩;refine b'<|sr<|Δ (y' 3 kp z z (lI q))<|A' 6 z oL z z z (lI (show É ij 8 t ([.bool false,.slice none 0 0,.bool false,.slice none 0 0,.bool false,.slice none 0 0,.bool false,.slice none 0 0,.bool false,.slice none 0 0,.bool false,.slice none 0 0,.bool false,.slice none 0 0,.bool false,.slice none 0 0,.bool false,.slice none 0 0,.bool false,.slice none 0 0,.bool false,.slice none 0 0,.bool false,.slice none 0 0,.bool false,.slice none 0 0,.bool false,.slice none 0 0,.bool false,.slice none 0 0,.bool false,.slice none 0 0]:Ŀ Value) () _ from zH (G:=t) (r:=ij) (n:=8) (zc:=[.bool false,.slice none 0 0,.bool false,.slice none 0 0]) (z:=(Zf.mk (Zg.mk false []) (Zg.mk false []))) ⟨[.bool false,.slice none 0 0],[.bool false,.slice none 0 0],z,⟨[.bool false],[.slice none 0 0],z,z,⟨_,z,(X' _ _)⟩⟩,⟨[.bool false],[.slice none 0 0],z,z,⟨_,z,(X' _ _)⟩⟩⟩)) (lI q) (É.one q)<|nx<|m' ?_
 obtain rfl:_=r:=hr;exact j' z (kD (i:=6) kp z z (lI q)) ⟨_,_,z,q⟩
instance iW'{t r}:SpcM ((FT t)) r (∀{o p},Cr 234 #[ε o t p] (λG=>sv G o p t) (λG v=>v=i' r)):=.mk λhr {o p}=>by
 refine Ρ ?_;intro w0 Y ba hr aH;refine ny (X:=(Ŀ (Ŀ Zf))×ŀ Addr×Nat×ŀ Ow×(Ŀ Int)×ŀ Addr×Nat×ŀ Ow×Int×Mem) hr (λ⟨h,f,g,c,l,i,k,d,q,s⟩=>⟨(h,l,q),[(0,ε o t p),(3,ε f h g),(4,ε i l k),(5,i' q)],Mem.le Y s/\sl (Rp.arr ij 8) s f g h/\Tok 32 325 (ε f h g) h.length c/\sl (Rp.int .i64) s i k l/\Tok 1 3 (ε i l k) l.length d,St w0 Y s [(1003,c),(1004,d)]⟩) (λ(⟨Z,ad,ab,av,bg⟩:(Ŀ (Ŀ Zf))×ŀ Addr×Nat×ŀ Ow×Mem)=>⟨Z,[(3,ε ad Z ab)],Mem.le Y bg/\sl (Rp.arr ij 8) bg ad ab Z/\Tok 32 325 (ε ad Z ab) Z.length av,St w0 Y bg [(1003,av)]⟩) ⟨[],none,0,none,[],none,0,none,0,Y⟩ z (Å z) ⟨mr,(X' _ _),kX,(X' _ _),kX⟩ (wk (lw (lw ln))) ?_ ?_
 .rintro _ ⟨h,f,g,c,l,i,k,d,q,s⟩ ⟨M,L,ak,ac,aQ⟩ hr;refine Ρ ?_;intro _ P hr;refine ny (X:=Int×(Ŀ Zf)×Ŀ Value×Unit×Mem) hr (λ⟨am,aX,aE,az,au⟩=>⟨(am,aX),[(0,ε o t p),(3,ε f h g),(4,ε i l k),(5,i' q),(6,iI P),(7,i' am)],Mem.le s au/\É ij 8 au aE az aX,St w0 Y au [(6,û P (aE) 325),(1003,c),(1004,d)]⟩) (λ(⟨bc,aP,a7,a⟩:(Ŀ Zf)×Ŀ Value×Unit×Mem)=>⟨bc,[(0,ε o t p),(3,ε f h g),(4,ε i l k),(5,i' q),(6,iI P)],Mem.le s a/\É ij 8 a aP a7 bc,St w0 Y a [(6,û P (aP) 325),(1003,c),(1004,d)]⟩) ⟨0,(List.replicate 8 (Zf.mk (Zg.mk false []) (Zg.mk false []))),([.bool false,.slice none 0 0,.bool false,.slice none 0 0,.bool false,.slice none 0 0,.bool false,.slice none 0 0,.bool false,.slice none 0 0,.bool false,.slice none 0 0,.bool false,.slice none 0 0,.bool false,.slice none 0 0,.bool false,.slice none 0 0,.bool false,.slice none 0 0,.bool false,.slice none 0 0,.bool false,.slice none 0 0,.bool false,.slice none 0 0,.bool false,.slice none 0 0,.bool false,.slice none 0 0,.bool false,.slice none 0 0]:Ŀ Value),(),s⟩ z (Å z) ⟨mr,(show É ij 8 s ([.bool false,.slice none 0 0,.bool false,.slice none 0 0,.bool false,.slice none 0 0,.bool false,.slice none 0 0,.bool false,.slice none 0 0,.bool false,.slice none 0 0,.bool false,.slice none 0 0,.bool false,.slice none 0 0,.bool false,.slice none 0 0,.bool false,.slice none 0 0,.bool false,.slice none 0 0,.bool false,.slice none 0 0,.bool false,.slice none 0 0,.bool false,.slice none 0 0,.bool false,.slice none 0 0,.bool false,.slice none 0 0]:Ŀ Value) () _ from zH (G:=s) (r:=ij) (n:=8) (zc:=[.bool false,.slice none 0 0,.bool false,.slice none 0 0]) (z:=(Zf.mk (Zg.mk false []) (Zg.mk false []))) ⟨[.bool false,.slice none 0 0],[.bool false,.slice none 0 0],z,⟨[.bool false],[.slice none 0 0],z,z,⟨_,z,(X' _ _)⟩⟩,⟨[.bool false],[.slice none 0 0],z,z,⟨_,z,(X' _ _)⟩⟩⟩)⟩ (w3 z z z) ?_ ?_
  .rintro _ ⟨am,aX,aE,az,au⟩ ⟨S,a2⟩ hr;refine o'<|sr<|θ z<|kv z<|nx<|I' hr z (λch hr=>?_) (λch hr=>?_)
   .refine q'<|b'<|o'<|Y'<|w'<|θ z<|θ z<|θ z<|θ z<|oE hr λx7 bI hr=>Δ (kf tH tN (aH.mono (mx M S)) z z bI)<|oA hr λbt hr=>Δ (V6 GD jV z z bt)<|Δ (nw eM z (GL (T' (iM aH bI) (mx M S)) bt))<|oE hr λU bW hr=>gd z z (x' D1 z) (GK.h bW) z (trivial) (λcA cl aM bk=>?_)
    obtain⟨K,B,D,H,rfl,ay,aD⟩:=bk;refine oE hr λx8 bJ hr=>Δ (rn oi jZ z z (ry (a2.mono aM) bJ))<|Ca (cs':=(Ω U K B D H)) (z':=U) 6 z jZ z ĳ (a2.mono aM) z z z z ⟨(η U.num K B),(η U.den D H),z,⟨[.bool U.num.neg],[ε K U.num.υ B],z,z,⟨_,z,ay⟩⟩,⟨[.bool U.den.neg],[ε D U.den.υ H],z,z,⟨_,z,aD⟩⟩⟩ bJ λd2 cq=>t' ?_
    refine è ?_;intro hr;refine N' ⟨i64.wrap (am+1),aX.set am.toNat U,d2,az,cl⟩ hr ⟨(mx S aM),cq⟩ (Å z) (w3 z z z)
   refine nz<|p'<|p'<|K'<|og ⟨aX,aE,az,au⟩ ⟨hr,S,a2⟩ (Å z) (w3 z z z)
  rintro⟨bc,aP,a7,a⟩ ⟨hr,m,bO⟩;refine b'<|o'<|sr<|Υ z<|ny (X:=Int×(Ŀ Zf)×Ŀ Value×Unit×Mem) hr (λ⟨aO,bd,aN,a5,a1⟩=>⟨(aO,bd),[(0,ε o t p),(3,ε f h g),(4,ε i l k),(5,i' q),(6,iI P),(8,i' aO)],Mem.le a a1/\É ij 8 a1 aN a5 bd,St w0 Y a1 [(6,û P (aN) 325),(1003,c),(1004,d)]⟩) (λ(⟨be,W,a6,N⟩:(Ŀ Zf)×Ŀ Value×Unit×Mem)=>⟨be,[(0,ε o t p),(3,ε f h g),(4,ε i l k),(5,i' q),(6,iI P)],Mem.le a N/\É ij 8 N W a6 be,St w0 Y N [(6,û P (W) 325),(1003,c),(1004,d)]⟩) ⟨0,bc,aP,a7,a⟩ z (Å z) ⟨mr,bO⟩ (w3 z z z) ?_ ?_
  .rintro _ ⟨aO,bd,aN,a5,a1⟩ ⟨I,aC⟩ hr;refine o' ?_;refine è ?_;intro hr;refine I' hr z (λcr hr=>?_) (λcr hr=>?_)
   .refine q'<|b'<|o'<|Y'<|fM [ff,ff,ff,ff,ff,ff,ff,ff,ff] eR İ λhb=>cn (λ_ x=>y' 6 kp z z (lI aC))<|fO z<|fO z<|oE hr λx5 bs hr=>cn (λ_ x=>kf oH oL ((L.mono (mx m I)).mono x) z z bs) ?_
    obtain⟨cJ,bn,b4⟩:=(T' (iM L bs) (mx m I));refine cn (λ_ x=>mY _ kp z (lI (u:=()) bn) (λj v hv=>x _ _ _ (b4 j v (by simpa using hv)))) ?_;refine è ?_;intro _ _ hr _;refine oE hr λb6 bM hr=>gd z z (x' IQ z) (is'.h bM) z (⟨aC,(show É _ _ _ _ () _ from bn)⟩) (λcD cc a8 bj=>?_);obtain⟨bX,bQ,rfl,a4⟩:=bj;refine A' 6 z oL z z z (lI (aC.mono a8)) (lI a4) (É.one a4)<|t' ?_
    refine è ?_;intro hr;refine N' ⟨i64.wrap (aO+1),b6,bX,bQ,cc⟩ hr ⟨(mx I a8),a4⟩ (Å z) (w3 z z z)
   refine nz<|p'<|p'<|K'<|og ⟨bd,aN,a5,a1⟩ ⟨hr,I,aC⟩ (Å z) (w3 z z z)
  rintro⟨be,W,a6,N⟩ ⟨hr,O,aq⟩;refine b'<|sr<|Υ z<|o'<|ny (X:=Int×Mem) hr (λ⟨aa,ax⟩=>⟨aa,[(0,ε o t p),(3,ε f h g),(4,ε i l k),(5,i' q),(6,iI P),(9,i' aa)],Mem.le N ax,St w0 Y ax [(6,û P (W) 325),(1003,c),(1004,d)]⟩) (λ(⟨A,a9⟩:Int×Mem)=>⟨A,[(0,ε o t p),(3,ε f h g),(4,ε i l k),(5,i' q),(6,iI P),(9,i' A)],Mem.le N a9,St w0 Y a9 [(6,û P (W) 325),(1003,c),(1004,d)]⟩) ⟨0,N⟩ z (Å z) mr (w3 z z z) ?_ ?_
  .rintro _ ⟨aa,ax⟩ R hr;refine Ρ ?_;intro _ hr;refine oE hr λx4 br hr=>gy z z (rn oi jZ z z (ry (aq.mono R) br)) z ?_;obtain⟨bH,bK,bB,bx,ca,aT,aR⟩:=pG (vZ (aq.mono R) br);refine gy z z (R' _ 6 mg z z z ca) z<|oE hr λcK bY hr=>H' (C' z z) z (x' Is z) (eT'.h bY) z (⟨aT,aR⟩)<|gy z z (eB z z) z<|Κ z<|nx<|I' hr z (λce hr=>?_) (λce hr=>?_)
   .exact Ι
   exact Ι
  rintro⟨A,a9⟩ ⟨hr,y⟩;refine Ρ ?_;intro _ hr;refine oE hr λx1 bL hr=>Δ (rn oi jZ z z (ry (aq.mono y) bL)) ?_;obtain⟨bz,bF,bG,bv,b7,aZ,aU⟩:=pG (vZ (aq.mono y) bL);refine Δ (R' _ 6 mg z z z b7)<|oE hr λcm bS hr=>gd z z (x' IS z) (jh'.h bS) z (⟨aZ,aU⟩) (λcF bm af bi=>?_)
  obtain⟨ar,ap,ag,ai,rfl,aj,ah⟩:=bi;refine θ z<|ju z ?_
  refine è ?_;intro b2 hr;refine ny (X:=Int×(Ŀ Zf)×Ŀ Value×Unit×Mem) hr (λ⟨Q,aW,aI,aG,aY⟩=>⟨(Q,aW),[(0,ε o t p),(3,ε f h g),(4,ε i l k),(5,i' q),(6,iI P),(9,i' A),(10,iI b2),(12,i' Q)],Mem.le bm aY/\É ij 8 aY aI aG aW,St w0 Y aY [(6,û P (aI) 325),(10,û b2 (Ω cm.1 ar ap ag ai) 120),(1003,c),(1004,d)]⟩) (λ(⟨a0,V,bo,bh⟩:(Ŀ Zf)×Ŀ Value×Unit×Mem)=>⟨a0,[(0,ε o t p),(3,ε f h g),(4,ε i l k),(5,i' q),(6,iI P),(9,i' A)],Mem.le bm bh/\É ij 8 bh V bo a0,St w0 Y bh [(6,û P (V) 325),(1003,c),(1004,d)]⟩) ⟨0,be,W,a6,bm⟩ z (Å z) ⟨mr,(aq.mono (mx y af))⟩ (w4 z z z z) ?_ ?_
  .rintro _ ⟨Q,aW,aI,aG,aY⟩ ⟨ae,ao⟩ hr;refine o'<|sr<|θ z<|kv z<|nx<|I' hr z (λck hr=>?_) (λck hr=>?_)
   .refine q'<|b'<|o'<|Y'<|fM [tt,ff,ff,ff,ff] eR İ λhb=>uC z (k' z)<|fO z<|oE hr λx2 bq hr=>cn (λ_ x=>rn oi jZ z z (ry ao bq)) ?_
    obtain⟨bw,bA,bC,bD,b5,aS,aV⟩:=pG (vZ ao bq);refine cn (λ_ x=>R' _ 6 mg z z z b5)<|cn (λ_ x=>y' 10 mg z z z)<|pE hb<|oE hr λT bT hr=>gd z z (x' Aa z) (Wo.h bT) z (⟨aS,aV,(aj.mono ae),(ah.mono ae)⟩) (λcE ct aA bl=>?_)
    obtain⟨C,F,E,J,rfl,aL,aK⟩:=bl;refine oE hr λx3 bu hr=>Δ (rn oi jZ z z (ry (ao.mono aA) bu))<|Ca (cs':=(Ω T C F E J)) (z':=T) 6 z jZ z ĳ (ao.mono aA) z z z z ⟨(η T.num C F),(η T.den E J),z,⟨[.bool T.num.neg],[ε C T.num.υ F],z,z,⟨_,z,aL⟩⟩,⟨[.bool T.den.neg],[ε E T.den.υ J],z,z,⟨_,z,aK⟩⟩⟩ bu λd1 cb=>t' ?_
    refine è ?_;intro hr;refine N' ⟨i64.wrap (Q+1),aW.set Q.toNat T,d1,aG,ct⟩ hr ⟨(mx ae aA),cb⟩ (Å z) (w4 z z z z)
   refine nz<|p'<|p'<|K'<|og ⟨aW,aI,aG,aY⟩ ⟨hr,ae,ao⟩ (Å z) (w3 z z z)
  rintro⟨a0,V,bo,bh⟩ ⟨hr,aF,a3⟩;refine b'<|w'<|θ z<|Δ (y' 6 kp z z (lI a3))<|mU (e:=325) (r:=(Rp.arr ij 8)) (vs:=#[(0,.agg (V).toArray)]) (cs:=V++([])) ([a0]:Ŀ (Ŀ Zf)) z z z z z ĳ (wi (n:=32) (lI a3) (λ_=>(λ_=>İ))) ⟨V,[],z,a3,z⟩ (key:=999) z (by rw[ba];rfl) (λp1 cI aB cg=>?_)
  refine oA hr λbR hr=>jP (r:=(Rp.arr ij 8)) 1003 z z oH vY z ĳ z z (L.mono (mx (mx (mx (mx (mx m O) y) af) aF) aB)) z (by rw[ba];rfl) ak cg bR λp2 co bZ cL bf ci bU=>θ z ?_;refine è ?_;intro _ _ aJ cj hr;obtain⟨bV,hr⟩:=hr;have N1:=mx (mx (mx (mx (mx (mx (mx (mx M m) O) y) af) aF) aB) bf) aJ;have N2:=mx (mx (mx (mx (mx (mx (mx m O) y) af) aF) aB) bf) aJ;refine jP (r:=(Rp.int .i64)) 1004 z z zw M7 z ĳ z z (ac.mono N2) z (by rw[ba];rfl) aQ cj bV λp4 b9 b3 cp bb b8 bP=>Ö z<|Ö z<|t'<|E'<|b'<|w'<|θ z<|iP z<|Ö z<|t'<|N' ⟨(h++[a0]),p2,co,bZ,(l++[A]),p4,b9,b3,i64.wrap (q+1),cp⟩ hr ⟨(mx N1 bb),(ci.mono (mx aJ bb)),bU,b8,bP⟩ (Å z) (w2 z z)
 rintro⟨Z,ad,ab,av,bg⟩ ⟨hr,cx,bp,cd⟩;exact Ι
instance GY{d c r}:SpcM ((FU d c)) r (Cr 208 #[i' d,i' c] (λG=>True) (λG v=>v=.agg (Ó r).toArray)):=.mk λhr=>Ι
instance iX'{D r}:SpcM ((Ly D)) r (∀{H I},Cr 159 #[ε H D I] (λG=>sv G H I D) (iA (fP .i64 8) r)):=.mk λhr {H I}=>by
 refine è ?_;intro w0 Z q hr t;refine o' ?_;refine è ?_;intro _ hr _;refine jM hr z (λW hr=>?_) (λW hr=>?_)
 .exact Ι
 refine q'<|b'<|sr<|mU (e:=71) (r:=(fP .i64 8)) (vs:=#[]) (cs:=[]) ([]:Ŀ (Fin 8->Int)) z z z z z ĳ (λ_=>İ) (z) (key:=999) z (by rw[q];rfl) λp1 aq n af=>θ z<|oA hr λT hr=>jP (r:=(fP .i64 8)) 2011 z z tH nX z ĳ z z af z (by rw[q];rfl) kX (t.mono n) T λp2 a Q B u J L=>Υ z<|o'<|sr<|θ z<|oE hr λan K hr=>H' z z (x' Iy z) (iW'.h K) z ((t.mono (mx n u)))<|Δ (eB z z)<|nx<|I' hr z (λR hr=>?_) (λR hr=>?_)
 .exact Ι
 refine Ρ ?_;intro _ hr;refine ny (X:=(Ŀ (Fin 8->Int))×ŀ Addr×Nat×ŀ Ow×Int×Mem) hr (λ⟨c,g,d,f,C,o⟩=>⟨(c,C),[(4,ε g c d),(5,i' C)],Mem.le B o/\sv o g d c/\Tok 8 71 (ε g c d) c.length f,St w0 Z o [(1004,f)]⟩) (λ(⟨h,l,k,m,x⟩:(Ŀ (Fin 8->Int))×ŀ Addr×Nat×ŀ Ow×Mem)=>⟨h,[(4,ε l h k)],Mem.le B x/\sv x l k h/\Tok 8 71 (ε l h k) h.length m,St w0 Z x [(1004,m)]⟩) ⟨([]++D),p2,a,Q,0,B⟩ z (Å z) ⟨mr,J,L⟩ ?_ ?_ ?_
 .intro w S;have S:=S.Þ (i:=2011) (j:=1004) z (by rw[q];rfl);exact S.weaken (lc z ln)
 .rintro _ ⟨c,g,d,f,C,o⟩ ⟨y,A,s⟩ hr;refine Ρ ?_;intro _ p _ _ v V hr _;refine oA hr λP hr=>jP (r:=(fP .i64 8)) 1004 z z tH nX z ĳ z z (A.mono v) z (by rw[q];rfl) s V P λp4 Y U N F aj O=>Ö z<|t'<|E'<|b'<|w'<|θ z<|iP z<|Ö z<|t'<|N' ⟨(c++[p]),p4,Y,U,i64.wrap (C+1),N⟩ hr ⟨(mx (mx y v) F),aj,O⟩ (Å z) (w1 z)
 rintro⟨h,l,k,m,x⟩ ⟨hr,ak,E,ag⟩;exact Ι
instance it'{o1 f r}:SpcM ((J8 o1 f)) r (∀{e a},Cr 89 #[ε e o1 a,.agg (Ó f).toArray] (λG=>sv G e a o1) (iA (fP .i64 8) r)):=.mk λhr {e a}=>by
 refine Ρ ?_;intro U T _ P K _ _ _ _ _ _ R _ _ y s _ _ p1 O _ u hr _;refine WC.mC (hH:=by exact⟨u,kX⟩) hr [3,6] [3] [] [] (λ(⟨c,h,g,d,L⟩:(Ŀ (Fin 8->Int))×ŀ Addr×Nat×ŀ Ow×Int)=>⟨(c,L),[(8,ε h c g),(9,i' L)],λk=>sv k h g c/\Tok 8 71 (ε h c g) c.length d,[(1008,d)]⟩) (λ(⟨l,o,n,t⟩:(Ŀ (Fin 8->Int))×ŀ Addr×Nat×ŀ Ow)=>⟨l,[(8,ε o l n)],λJ=>sv J o n l/\Tok 8 71 (ε o l n) l.length t,[(1008,t)]⟩) ⟨[],p1,0,none,0⟩ ?_;rintro _ k ⟨c,h,g,d,L⟩ j ⟨I,C⟩ hr;refine Ρ ?_;intro _ V hr;refine WC.mB hr [3,6,8,9,10] [3,1008] [3,6,8,9,10] [3,1008] (λ(⟨E,A⟩:Int×(Fin 8->Int))=>⟨(E,A),[(11,i' E)],tr,[(10,û V (Ó A) 71)]⟩) (λ(m:(Fin 8->Int))=>⟨m,[],tr,[(10,û V (Ó m) 71)]⟩) ⟨0,(λ_=>0)⟩ ?_;intro Q m hr F _;refine Ρ ?_;intro _ _ H x hr;refine oA hr λaf hr=>jP (r:=(fP .i64 8)) 1008 z z tH nX z ĳ z z (I.mono (mx F H)) z (by rw[P];rfl) C x af λp3 q i B S v p=>Ö z<|t'<|E'<|b'<|w'<|θ z<|iP z<|Ö z<|t'<|N' ⟨B,(c++[m]),p3,q,i,i64.wrap (L+1)⟩ hr ⟨(mx (mx (mx j F) H) S),v,p⟩ (Å z) (w2 z z)
instance gm'{c r}:SpcM ((Eu c)) r (Cr 64 #[i' c] (λG=>True) (λG v=>v=.bool r)):=.mk λhr=>Ι
end Go.Proofs.YtepbagkffgddlaaGreat

