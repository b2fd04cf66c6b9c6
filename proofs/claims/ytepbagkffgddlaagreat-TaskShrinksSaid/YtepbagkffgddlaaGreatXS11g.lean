/- The law TaskShrinks holds for every input: a part of its proof (fC the code does, plain models, and fC they return). No condition. -/
import Derived.Test.YtepbagkffgddlaaGreatXS11fb
set_option linter.unusedVariables false
set_option linter.unusedSimpArgs false
namespace Go.Proofs.YtepbagkffgddlaaGreat
open Go.IntKind (i8 i16 i32 i64 u8 u16 u32 u64)
open Go.Proofs.Tryz
open Go Go.EL Go.RowKit Go.Proofs
set_option maxHeartbeats 4000000
set_option maxRecDepth 20000
theorem PB(B:Zd)(A:Zd)(i:ŀ Addr)(j:Nat)(f:ŀ Addr)(h:Nat)(n:ŀ Addr)(x:Nat)(o:ŀ Addr)(q:Nat)(l:ŀ Addr)(k:Nat)(g:ŀ Addr)(d:Nat)(p:ŀ Addr)(u:Nat)(y:ŀ Addr)(t:Nat)(r:Int)(hr:(J5 B A).Α r):Cr 50 #[.agg ((fz B i j f h n x o q)).toArray,.agg ((fz A l k g d p u y t)).toArray] (λG=>sq G i j B.k.eqs/\sq G f h B.k.ε/\sl c' G n x B.q.p/\sv G o q B.q.o/\sq G l k A.k.eqs/\sq G g d A.k.ε/\sl c' G p u A.q.p/\sv G y t A.q.o) (λG v=>v=i' r):=by
 refine J' (args:=[_,_]) (N:=17) func50 z z z (λw0 Y M H=>?_);obtain⟨J,D,O,R,K,F,Q,P⟩:=H;refine sr<|jO 2 z z z λW=>jO 3 z z z λa=>Μ z<|o'<|fN [ff,ff,ff,ff,ff,ff,ff,ff,ff] eP İ λT=>cn (λ_ c=>zB z)<|cn (λ_ c=>n' 2 dN z z z)<|cn (λ_ c=>zB z)<|cn (λ_ c=>n' 3 dN z z z)<|oE hr λs I hr=>uy z (λ_=>x' OX z) (Wm.h I) z (λX c=>trivial)<|cn (λ_ c=>BO z)<|cn (λ_ c=>n' 2 dN z z z)<|cn (λ_ c=>BO z)<|cn (λ_ c=>n' 3 dN z z z)<|pF T<|oE hr λm C hr=>H' z z (x' OX z) (Wm.h C) z (trivial)<|nb (e:=3) (r:=(Rp.int .i64)) (vs:=#[(0,i' s),(1,i' m)]) (cs:=[i' s]++([i' m]++([]))) ([s,m]:Ŀ Int) z z z z z ĳ (λ_=>İ) ⟨[i' s],[i' m]++([]),z,z,⟨[i' m],[],z,z,z⟩⟩ (key:=999) z (by rw[M];rfl) (λZ V S L=>?_)
 refine oE hr λU E hr=>H' z z (x' Yg z) (iB'.h E) z (L)<|dE z<|t'<|Κ<|b'<|m' (Å hr z z)
instance {B:Zd}{A:Zd}{r:Int}:SpcM ((J5 B A)) r (∀{i:ŀ Addr}{j:Nat}{f:ŀ Addr}{h:Nat}{n:ŀ Addr}{x:Nat}{o:ŀ Addr}{q:Nat}{l:ŀ Addr}{k:Nat}{g:ŀ Addr}{d:Nat}{p:ŀ Addr}{u:Nat}{y:ŀ Addr}{t:Nat},Cr 50 #[.agg ((fz B i j f h n x o q)).toArray,.agg ((fz A l k g d p u y t)).toArray] (λG=>sq G i j B.k.eqs/\sq G f h B.k.ε/\sl c' G n x B.q.p/\sv G o q B.q.o/\sq G l k A.k.eqs/\sq G g d A.k.ε/\sl c' G p u A.q.p/\sv G y t A.q.o) (λG v=>v=i' r)):=⟨λa {i j f h n x o q l k g d p u y t}=>PB _ _ i j f h n x o q l k g d p u y t _ a⟩
theorem Ot:Go.Sort.SWO (Go.Proofs.ltOf ls):=by
 have key:∀x y:Zd,Go.Proofs.ltOf ls x y=true↔x.ξ<y.ξ\/x.ξ=y.ξ/\x.id<y.id:=λx y=>by
  show decide (ls x y<0)=true↔_;rw[decide_eq_true_eq];unfold ls;by_cases a:x.ξ<y.ξ
  .rw[ą a];omega
  rw[ā a];by_cases b:y.ξ<x.ξ
  .rw[ą b];omega
  rw[ā b];by_cases c:x.id<y.id
  .rw[ą c];omega
  rw[ā c];split<;>omega
 refine⟨λx=>?_,λx y z d h2=>?_,λx y z d h2=>?_⟩
 .rw[<-Bool.not_eq_true,key];omega
 .rw[key]at *;omega
 rw[<-Bool.not_eq_true,key]at *;omega
theorem Za8(l:Ŀ Zd)(a b f:Int)(p:ŀ Addr)(c n:Nat)(tk:ŀ Ow)(r:Ŀ Zd)(hr:(Pa l a b f).Α r):Cl 96 #[.slice p n c,.int .i64 a,.int .i64 b,.int .i64 f,.func (.func 50) #[] #[]] [(5000,tk)] (λG=>Ε ZF 56 G (.slice p n c) l tk) (λG L v=>∃C,L=[(5000,C)]/\v=.tuple #[]/\Ε ZF 56 G (.slice p n c) r C):=by
 obtain⟨⟨rfl,rfl,⟨X,Y⟩,h2⟩,hr⟩:=hr;obtain⟨k,rfl⟩:∃k:Nat,f=k:=⟨f.toNat,ŉ⟩;refine(C6 (r:=ZF) (sz:=11) rfl ĳ Ot Tryz.Dl rfl (λ_=>İ) (λ_=>İ) (λx y W cy w G hi hp=>?_) Yf 56 p n c l tk k ŉ ŉ).mono (λ_ h=>h) (λG L v ⟨ys,I,T,U,V,q4,q5⟩=>?_)
 .obtain⟨p1,p2⟩:=hp;obtain⟨E,D,m,j,O,N,K,J,rfl,g,d,s,q⟩:=Rr p1;obtain⟨H,F,u,t,S,R,Q,P,rfl,i,e,B,A⟩:=Rr p2;exact PB _ _ _ _ _ _ _ _ _ _ _ _ _ _ _ _ _ _ _ (Zx4 x y) w G hi ⟨g,d,s,q,i,e,B,A⟩
 have:ys=r:=hr ys ⟨q4,q5.imp (λh=>by simpa[Go.Proofs.ltOf]using h)⟩;subst this;exact⟨I,T,U,V⟩
theorem PG(c:Zc)(h:ŀ Addr)(m:Nat)(i:ŀ Addr)(l:Nat)(r:(Ŀ Zc))(hr:(yP c).Α r):Cr 38 #[.agg ([i' c.kind,δ h c.p m,δ i c.o l]).toArray] (λG=>sl c' G h m c.p/\sv G i l c.o) (fS tK r):=by
 refine é ?_;intro t j _ _ _ _ hr _;refine WC.nD hr [4] [] (λ(g:Bool)=>⟨[(5,.bool g)],Js c g,tr,[]⟩) ?_ ?_
 .refine sr<|Γ (eB z z)<|Μ z<|I' hr z (λp hr=>?_) (λp hr=>?_)
  .exact Ι
  exact Ι
 intro d g hr C _;refine iS hr z (λB hr=>?_) (λB hr=>?_)
 .exact Ι
 refine WC.nC hr [4] [] (λ(f:Bool)=>⟨[(10,.bool f)],Jr c f,tr,[]⟩) ?_;refine sr<|Γ (eB z z)<|Μ z<|I' hr z (λq hr=>?_) (λq hr=>?_)
 .exact Ι
 exact Ι
instance {c:Zc}{r:(Ŀ Zc)}:SpcM ((yP c)) r (∀{h:ŀ Addr}{m:Nat}{i:ŀ Addr}{l:Nat},Cr 38 #[.agg ([i' c.kind,δ h c.p m,δ i c.o l]).toArray] (λG=>sl c' G h m c.p/\sv G i l c.o) (fS tK r)):=⟨λa {h m i l}=>PG _ h m i l _ a⟩
theorem E3(o:Zb)(h:Zc)(e:ŀ Addr)(f:Nat)(c:ŀ Addr)(d:Nat)(j:ŀ Addr)(m:Nat)(k:ŀ Addr)(n:Nat)(r:Ĳ)(hr:(tH o h).Α r):Cr 46 #[.agg ((ñ o e f c d)).toArray,.agg ([i' h.kind,δ j h.p m,δ k h.o n]).toArray] (λG=>sq G e f o.eqs/\sq G c d o.ε/\sl c' G j m h.p/\sv G k n h.o) (λG v=>v=.string r):=by
 refine J' (args:=[_,_]) (N:=10) func46 z z z (λH F C s=>?_);obtain⟨l,i,t,q⟩:=s;refine sr<|jO 2 z z z λD=>jO 3 z z z λI=>Μ z<|o'<|fN [ff,ff,ff] eP İ λy=>cn (λ_ g=>y' 2 kz z z z)<|oE hr λB u hr=>uy z (λ_=>x' yD z) (yF _ _ _ _ _ _ u) z (λE g=>⟨(l.mono g),(i.mono g)⟩) ?_
 refine é ?_;intro hr;refine oE hr λA p hr=>H' z z (x' I9 z) (Kh _ _ _ _ _ _ p) z (⟨t,q⟩)<|oA hr λx hr=>Γ (Y0.ML z z x)<|dE z<|t'<|Κ<|b'<|m' (Å hr z z)
instance {o:Zb}{h:Zc}{r:Ĳ}:SpcM ((tH o h)) r (∀{e:ŀ Addr}{f:Nat}{c:ŀ Addr}{d:Nat}{j:ŀ Addr}{m:Nat}{k:ŀ Addr}{n:Nat},Cr 46 #[.agg ((ñ o e f c d)).toArray,.agg ([i' h.kind,δ j h.p m,δ k h.o n]).toArray] (λG=>sq G e f o.eqs/\sq G c d o.ε/\sl c' G j m h.p/\sv G k n h.o) (λG v=>v=.string r)):=⟨λa {e f c d j m k n}=>E3 _ _ e f c d j m k n _ a⟩
def u9(e a c d mb:Nat)(k:Zb)(h:ŀ Addr)(f:Nat)(i:ŀ Addr)(g:Nat)(s:ŀ Addr×Nat×ŀ Ow×ŀ Ow)(B:Ze):Lo:=[(105416,some ⟨e,.cells #[.slice s.1 B.t.length s.2.1,.int .i64 B.next] 26 (0,0),0⟩),(5000,s.2.2.1),(5590,s.2.2.2),(105417,some ⟨a,.cells #[.func (.func 71) #[] #[.pointer (some ⟨a,0,none⟩),.pointer (some ⟨c,0,none⟩),.pointer (some ⟨d,0,none⟩),.pointer (some ⟨e,0,none⟩)]] 140 (0,0),0⟩),(105409,some ⟨c,.cells #[.int .i64 k.n,.slice h k.eqs.length f,.slice i k.ε.length g] 48 (0,0),0⟩),(105413,some ⟨d,.cells #[.map (some mb)] 138 (0,0),0⟩)]
structure va (mb:Nat) (D:Ŀ (Ĳ×Int)) (B:Ze) (s:ŀ Addr×Nat×ŀ Ow×ŀ Ow) (G:Mem):Prop where
 row:Ε ZF 56 G (.slice s.1 B.t.length s.2.1) B.t s.2.2.1
 map:Ù rK (mM (Rp.int .i64) G) (.map (some mb)) D s.2.2.2
def DY(f:Zb->Zc->Ŀ (Ĳ×Int)->Ze->Cq ((Int×Int)×Ŀ (Ĳ×Int)×Ze)):Prop:=∀(j a c d mb:Nat) (k:Zb) (h:ŀ Addr) (e:Nat) (i:ŀ Addr) (g:Nat) (q:Zc) (p:ŀ Addr) (l:Nat) (n:ŀ Addr) (m:Nat) (D:Ŀ (Ĳ×Int)) (B:Ze) (s:ŀ Addr×Nat×ŀ Ow×ŀ Ow) (o:(Int×Int)×Ŀ (Ĳ×Int)×Ze),(f k q D B).Α o->
 Cl 71 #[.agg ([.int .i64 q.kind,.slice p q.p.length l,.slice n q.o.length m]).toArray,.pointer (some ⟨a,0,none⟩),.pointer (some ⟨c,0,none⟩),.pointer (some ⟨d,0,none⟩),.pointer (some ⟨j,0,none⟩)] (u9 j a c d mb k h e i g s B)
  (λG=>va mb D B s G/\(Η (Rp.sl Zk) G (.slice h k.eqs.length e) k.eqs/\Η (Rp.sl Zk) G (.slice i k.ε.length g) k.ε)/\Η Zk G (.slice p q.p.length l) q.p/\Η (Rp.vec .i64 8) G (.slice n q.o.length m) q.o)
  (λG L v=>∃s',L=u9 j a c d mb k h e i g s' o.2.2/\v=.tuple #[.int .i64 o.1.1,.int .i64 o.1.2]/\va mb o.2.1 o.2.2 s' G)
theorem va.zero{m d e f mb:Nat}{k:Zb}{j:ŀ Addr}{g:Nat}{l:ŀ Addr}{i:Nat}{D:Ŀ (Ĳ×Int)}{B:Ze}{s:ŀ Addr×Nat×ŀ Ow×ŀ Ow}{G:Mem}(h:va mb D B s G):(u9 m d e f mb k j g l i s B).zero:=by
 intro q c x a;simp only[u9,Ď,ĝ,ţ]at c;rcases c with rfl|rfl|rfl|rfl|rfl|rfl
 .cases a;rfl
 .exact h.row.zero a
 .exact h.map.zero a
 .cases a;rfl
 .cases a;rfl
 cases a;rfl
theorem va.mono{mb:Nat}{D:Ŀ (Ĳ×Int)}{B:Ze}{s:ŀ Addr×Nat×ŀ Ow×ŀ Ow}{G G':Mem}(h:va mb D B s G)(a:Mem.le G G'):va mb D B s G':=⟨h.row.mono a,h.map.mono a⟩
theorem ZnC:DY (vl 0):=λ_ _ _ _ _ _ _ _ _ _ _ _ _ _ _ _ _ _ _ hr=>False.elim hr
theorem ZnD{n:Nat}(ih:DY (vl n)):DY (vl (n+1)):=by
 intro Z V W Y mb k g d i f q C m A t D B s o hr;refine eL.enter (args:=[_,_,_,_,_]) (N:=73) func71 rfl rfl rfl (λw0 G0 aa ah=>?_);obtain⟨hA,⟨P,Q⟩,T,U⟩:=ah;have hz:w0.L.zero:=by rw[aa];exact hA.zero
 refine sr<|WL.box 5 Zh rfl rfl (λb5=>?_)
 refine yy (Y0.assign rfl) rfl<|yy (Y0.assign rfl) rfl<|nx<|WC.seq ?_
 refine sr<|yy (Y0.eR 5 oH rfl rfl rfl) rfl ?_
 obtain⟨l,hl,hr⟩:=hr;refine WL.call Zh rfl (YC.of X8 rfl) (PG _ _ _ _ _ _ hl) rfl ⟨T,U⟩ (λlv G1 J c=>?_);obtain⟨lp,am,rfl,H⟩:=c;refine yy (Y0.CO underlying90 H rfl) rfl<|mv rfl rfl<|nx<|WC.block ?_
 have aq:l.length<=9223372036854775807:=by obtain⟨_,_,_,_,h,_⟩:=H;omega
 refine WC.gZ (X:=Nat×Ŀ (Ĳ×Int)×Ze×(ŀ Addr×Nat×ŀ Ow×ŀ Ow)×Mem) (λL=>match L with|⟨j,_,_,_,_⟩=>[(1,.pointer (some ⟨V,0,none⟩)),(2,.pointer (some ⟨W,0,none⟩)),(3,.pointer (some ⟨Y,0,none⟩)),(4,.pointer (some ⟨Z,0,none⟩)),(5,.pointer (some ⟨b5,0,none⟩)),(16,.slice lp l.length am),(17,.int .i64 (l.length:Int)),(18,.int .i64 (j:Int))])
  (λL=>match L with|⟨j,I,B',s',G⟩=>j<=l.length/\Mem.le G1 G/\va mb I B' s' G/\(oV (vl n k) (ti k q) (l.drop j) I B').Α o)
  (λL=>match L with|⟨_,_,B',s',G⟩=>St w0 G0 G ((5,some ⟨b5,.cells ([.int .i64 q.kind,.slice C q.p.length m,.slice A q.o.length t]).toArray 54 (0,0),0⟩)::u9 Z V W Y mb k g d i f s' B')) (λL=>l.length-L.1) ⟨0,D,B,s,G1⟩ (fc rfl (fc rfl (fc rfl (fc rfl (fc rfl (fc rfl (fc rfl (fc rfl fn)))))))) ⟨Ĝ _,Mem.le_refl _,hA.mono J,by rw[aa9];exact hr⟩ (λw F=>F) ?_
 rintro⟨j,I,B',s',G⟩ ⟨hj,E,O,hr⟩;dsimp only at hj E O hr⊢;have a:Mem.le G0 G:=Mem.le_trans J E;refine sr<|yy (Y0.lss rfl rfl) rfl<|nx<|WC.seq ?_
 refine WC.eC (p:=(j:Int)<(l.length:Int)) rfl (λhc=>?_) (λhc=>?_)
 .have ad:j<l.length:=ŉ;have hx:(0:Int)<=(j:Int)/\l[(j:Int).toNat]?=some l[j]:=⟨ŉ,by simp[ad]⟩;have hw:i64.wrap ((j:Int)+1)=((j+1:Nat):Int):=by rw[ĩ];omega
  rw[ĭ ad]at hr;obtain⟨p,hp,hr⟩:=hr;refine WC.skip<|WE.then<|WC.seq<|WC.block<|sr<|yy (Y0.lS underlying90 od (H.mono E) rfl rfl hx) rfl ?_
  obtain⟨xp,xc,xo,xd,xe,an,ao⟩:=Jp (At.mono (Η.at H hx) E);refine yy (Y0.jE _ oH rfl rfl xe) rfl ?_;refine WL.alloc 109 Zh z54 rfl (λb9=>?_);refine WL.fq 109 Zh od rfl rfl rfl rfl rfl (Ć.1 rfl) ?_;refine nx<|sr<|yy (Y0.Ô 105417 wx rfl rfl rfl) rfl<|yy (Y0.eR 109 oH rfl rfl rfl) rfl ?_
  refine WL.kf Zh rfl (YC.yh O0 rfl rfl) (ih Z V W Y mb k g d i f _ _ _ _ _ _ _ _ _ hp) rfl ⟨O,⟨P.mono a,Q.mono a⟩,an,ao⟩ (lc rfl (lc rfl (lc rfl (lc rfl (lc rfl (lc rfl ln)))))) hz (λv G2 L2 ae c=>?_);obtain⟨s2,rfl,rfl,aj⟩:=c;refine WL.ø (S':=St w0 G0 G2 ((5,some ⟨b5,.cells ([.int .i64 q.kind,.slice C q.p.length m,.slice A q.o.length t]).toArray 54 (0,0),0⟩)::u9 Z V W Y mb k g d i f s2 p.2.2)) (λw F=>F.weaken (lc rfl (lc rfl (lc rfl (lc rfl (lc rfl (lc rfl (lc rfl ln)))))))) ?_;refine mv rfl rfl<|yy (Y0.extract rfl rfl) rfl<|yy (Y0.extract rfl rfl) rfl<|yy (Y0.assign rfl) rfl<|yy (Y0.assign rfl) rfl<|nx ?_
  refine sr<|mv rfl rfl<|yy (Y0.neq rfl rfl) rfl<|nx ?_
  obtain⟨he,hr⟩:=hr;refine WC.eC (p:=¬p.1.2=0) rfl (λhn=>absurd he hn) (λ_=>?_);refine WC.skip<|WE.inBlock<|WE.then<|WC.region<|yy (Y0.add rfl rfl) rfl ?_
  rw[hw];exact mv rfl rfl<|WL.nil<|WE.gH (x:=(j,I,B',s',G)) (j+1,p.2.1,p.2.2,s2,G2) ⟨ŉ,Mem.le_trans E ae,aj,hr⟩ (fc rfl (fc rfl (fc rfl (fc rfl (fc rfl (fc rfl (fc rfl (fc rfl fn)))))))) (λw F=>F) (by show l.length-(j+1)<l.length-j;omega)
 have ak:j=l.length:=ŉ;subst ak;rw[aaf]at hr;refine WC.exit<|WE.å<|WE.å<|WE.Í<|WE.then ?_
 refine sr<|yy (Y0.eR 105409 lK rfl rfl rfl) rfl<|yy (Y0.eR 5 oH rfl rfl rfl) rfl ?_
 obtain⟨s,F,S,hr⟩:=hr;refine WL.gT Zh rfl (YC.of I7 rfl) (E3 _ _ _ _ _ _ _ _ _ _ _ F) rfl ⟨P.mono a,Q.mono a,T.mono a,U.mono a⟩ ?_;refine yy (Y0.assign rfl) rfl<|nx<|WC.seq ?_
 refine sr<|yy (Y0.Ô 105413 qu rfl rfl rfl) rfl<|mv rfl rfl ?_
 refine WL.oT (k:=s) 5590 true (R:=λu=>u=.tuple #[.int .i64 ((fg I s).getD 0),.bool (fg I s).isSome]) Zh rfl underlying138 XW O.map rfl rfl rfl S (λh=>by rw[h];rfl) (λval y h hv=>by rw[h,Vn hv];rfl) (λu hu=>?_);subst hu;refine mv rfl rfl<|yy (Y0.extract rfl rfl) rfl<|yy (Y0.extract rfl rfl) rfl<|yy (Y0.assign rfl) rfl<|yy (Y0.assign rfl) rfl<|nx ?_
 refine sr<|mv rfl rfl<|nx ?_
 cases hm:fg I s with
 |some id=>
  rw[hm]at hr;refine WC.pR rfl ?_;replace hr:_=o:=hr;subst hr;refine sr<|mv rfl rfl<|yy (Y0.assign rfl) rfl<|yy (Y0.assign rfl) rfl<|nx<|WC.ret<|WE.hL ?_
  refine WE.ø (S':=St w0 G0 G (u9 Z V W Y mb k g d i f s' B')) (λw F=>F.weaken (lc rfl (lc rfl (lc rfl (lc rfl (lc rfl (lc rfl ln))))))) ?_;exact WE.uV rfl rfl rfl ⟨s',rfl,rfl,O⟩
 |none=>
  rw[hm]at hr;obtain⟨⟨⟨ap,ar⟩,al⟩,hr⟩:=hr;replace hr:_=o:=hr;subst hr;refine WC.pQ rfl ?_;refine WC.skip<|WE.then<|WC.seq<|sr<|yy (Y0.Bu rfl) rfl<|yy (Y0.Ô 105416 uW rfl rfl rfl) rfl<|yy (Y0.sG underlying24 O.row rfl) rfl ?_
  refine WL.lP (p:=100<=(B'.t.length:Int)) Zh (Y0.geq rfl rfl) rfl (λhb=>absurd hb ŉ) (λhb=>?_);refine mv rfl rfl ?_;refine WL.rf (rW rfl rfl) (Y0.zw rfl) rfl ?_;refine WL.rf (rW rfl rfl) (Y0.Ô 105416 dN rfl rfl rfl) rfl ?_;refine WL.rf (rW rfl rfl) (Y0.geq rfl rfl) rfl ?_;refine yy (Y0.eU rfl rfl) rfl<|nx ?_
  refine WC.eC (p:=1000000<=B'.next) rfl (λhb=>absurd hb ŉ) (λ_=>?_);refine WC.skip<|WE.then ?_
  refine sr<|yy (Y0.Ô 105413 qu rfl rfl rfl) rfl<|mv rfl rfl<|yy (Y0.zw rfl) rfl<|yy (Y0.Ô 105416 dN rfl rfl rfl) rfl ?_
  refine WL.lT (Rv':=mM (Rp.int .i64) G) (k:=s) (z:=B'.next) 5590 Zh underlying138 O.map rfl rfl rfl rfl S rfl (λ_ _ _ _ h=>h) al (λmt ag=>?_);refine nx ?_;refine sr<|yy (Y0.Bu rfl) rfl<|yy (Y0.Ô 105416 uW rfl rfl rfl) rfl<|yy (Y0.zw rfl) rfl<|yy (Y0.Ô 105416 dN rfl rfl rfl) rfl<|yy (Y0.eR 105409 lK rfl rfl rfl) rfl<|yy (Y0.eR 5 oH rfl rfl rfl) rfl ?_
  refine yy (Y0.build (vs:=#[(0,.int .i64 B'.next),(1,.agg ([.int .i64 k.n,.slice g k.eqs.length d,.slice i k.ε.length f]).toArray),(2,.agg ([.int .i64 q.kind,.slice C q.p.length m,.slice A q.o.length t]).toArray),(5,.int .i64 (-1))]) (v:=.agg ([.int .i64 B'.next,.int .i64 k.n,.slice g k.eqs.length d,.slice i k.ε.length f,.int .i64 q.kind,.slice C q.p.length m,.slice A q.o.length t,.int .i64 0,.int .i64 0,.int .i64 (-1),.bool false]).toArray) rfl rfl (λ_=>İ)) rfl ?_;refine WL.qY (e:=56) (r:=ZF) (vs:=#[(0,.agg ([.int .i64 B'.next,.int .i64 k.n,.slice g k.eqs.length d,.slice i k.ε.length f,.int .i64 q.kind,.slice C q.p.length m,.slice A q.o.length t,.int .i64 0,.int .i64 0,.int .i64 (-1),.bool false]).toArray)]) (cs:=[.int .i64 B'.next,.int .i64 k.n,.slice g k.eqs.length d,.slice i k.ε.length f,.int .i64 q.kind,.slice C q.p.length m,.slice A q.o.length t,.int .i64 0,.int .i64 0,.int .i64 (-1),.bool false]++([])) ([(Zd.mk B'.next k q 0 0 (-1) false)]:Ŀ Zd) Zh rfl rfl rfl rfl ĳ (λ_=>İ) ⟨[.int .i64 B'.next,.int .i64 k.n,.slice g k.eqs.length d,.slice i k.ε.length f,.int .i64 q.kind,.slice C q.p.length m,.slice A q.o.length t,.int .i64 0,.int .i64 0,.int .i64 (-1),.bool false],[],rfl,⟨[.int .i64 B'.next],[.int .i64 k.n,.slice g k.eqs.length d,.slice i k.ε.length f,.int .i64 q.kind,.slice C q.p.length m,.slice A q.o.length t,.int .i64 0,.int .i64 0,.int .i64 (-1),.bool false],rfl,rfl,⟨[.int .i64 k.n,.slice g k.eqs.length d,.slice i k.ε.length f],[.int .i64 q.kind,.slice C q.p.length m,.slice A q.o.length t,.int .i64 0,.int .i64 0,.int .i64 (-1),.bool false],rfl,⟨[.int .i64 k.n],[.slice g k.eqs.length d,.slice i k.ε.length f],rfl,rfl,⟨[.slice g k.eqs.length d],[.slice i k.ε.length f],rfl,⟨_,rfl,P.mono a⟩,⟨_,rfl,Q.mono a⟩⟩⟩,⟨[.int .i64 q.kind,.slice C q.p.length m,.slice A q.o.length t],[.int .i64 0,.int .i64 0,.int .i64 (-1),.bool false],rfl,⟨[.int .i64 q.kind],[.slice C q.p.length m,.slice A q.o.length t],rfl,rfl,⟨[.slice C q.p.length m],[.slice A q.o.length t],rfl,⟨_,rfl,T.mono a⟩,⟨_,rfl,U.mono a⟩⟩⟩,⟨[.int .i64 0],[.int .i64 0,.int .i64 (-1),.bool false],rfl,rfl,⟨[.int .i64 0],[.int .i64 (-1),.bool false],rfl,rfl,⟨[.int .i64 (-1)],[.bool false],rfl,rfl,rfl⟩⟩⟩⟩⟩⟩,rfl⟩ (key:=999) rfl (by rw[aa];rfl) (λp1 G3 K q1=>?_);refine WL.iW (r:=ZF) (e:=56) 5000 Zh rfl underlying24 qU rfl ĳ rfl rfl (O.row.mono K) rfl q1 (by simp only[Ā,Ě,Ļ];show _<=small;simp only[small];omega) (λp2 c2 ai q2=>?_);refine yy (Y0.Bu rfl) rfl<|WL.fL 105416 #[.slice p2 (B'.t++[(Zd.mk B'.next k q 0 0 (-1) false)]).length c2,.int .i64 B'.next] Zh Du rfl rfl rfl (show 0<2 by decide) rfl rfl ?_
  refine nx ?_;refine sr<|yy (Y0.zw rfl) rfl<|yy (Y0.Ô 105416 dN rfl rfl rfl) rfl<|yy (Y0.add rfl rfl) rfl<|yy (Y0.zw rfl) rfl<|WL.fL 105416 #[.slice p2 (B'.t++[(Zd.mk B'.next k q 0 0 (-1) false)]).length c2,.int .i64 (i64.wrap (B'.next+1))] Zh jZ rfl rfl rfl (show 1<2 by decide) rfl rfl ?_
  refine nx ?_;have ac:(fg (eT I s B'.next) s).getD 0=B'.next:=by rw[y5,ą rfl];rfl
  refine sr<|yy (Y0.Ô 105413 qu rfl rfl rfl) rfl<|mv rfl rfl<|yy (Y0.lE (mk:=Value.int .i64) (k:=s) 5590 0 (λh=>Vn h) underlying138 XW ag rfl rfl rfl S) rfl ?_
  rw[ac];refine yy (Y0.assign rfl) rfl<|yy (Y0.assign rfl) rfl<|nx<|WC.ret ?_
  refine WE.ø (S':=St w0 G0 G3 (u9 Z V W Y mb k g d i f (p2,c2,ai,mt) ⟨B'.t++[(Zd.mk B'.next k q 0 0 (-1) false)],i64.wrap (B'.next+1)⟩)) (λw F=>F.weaken (lc rfl (lc rfl (lc rfl (lc rfl (lc rfl (lc rfl ln))))))) ?_;exact WE.uV rfl rfl rfl ⟨(p2,c2,ai,mt),rfl,rfl,⟨q2,ag.mono K⟩⟩
theorem P2:∀n,DY (vl n)
 |0=>ZnC
 |n+1=>ZnD (P2 n)
instance eN'{q K r}:SpcM ((uj q K)) r (∀{t y i},Cl 217 #[δ t q y,.int .u64 K] [(5000,i)] (λG=>ru G (δ t q y) q i) (λG L v=>∃T W B,L=[(5000,B)]/\v=δ T r W/\ru G (δ T r W) r B)):=.mk λhr {t y i}=>by refine Ο ?_;intro I p _ hr Y;refine WC.mA hr [] [] [] [] (λ(⟨g,k,o,d,c⟩:(Ŀ Int)×ŀ Addr×Nat×ŀ Ow×Int)=>⟨(g,c),[(0,δ k g o),(1,.int .u64 c)],λf=>ru f (δ k g o) g d,[(5000,d)]⟩) (λ(⟨u,x,s,h,j⟩:(Ŀ Int)×ŀ Addr×Nat×ŀ Ow×Int)=>⟨(u,j),[(0,δ x u s),(1,.int .u64 j)],λl=>ru l (δ x u s) u h,[(5000,h)]⟩) ⟨q,t,y,i,K⟩
instance Wt{g D r}:SpcM ((AM g D)) r (∀{j l e},Cl 139 #[δ j g l,i' D] [(5000,e)] (λG=>ru G (δ j g l) g e) (λG L v=>∃C E k,L=[(5000,k)]/\v=δ C r E/\ru G (δ C r E) r k)):=.mk λhr {j l e}=>Ι
instance tP{A C r}:SpcM ((AX A C)) r (∀{F M s i g},Cl 284 #[δ F A M,.agg ((θ C i g)).toArray] [(5000,s)] (λG=>ru G (δ F A M) A s/\su G i g C.χ) (λG L v=>∃zp zc R,L=[(5000,R)]/\v=δ zp r zc/\ru G (δ zp r zc) r R)):=.mk λhr {F M s i g}=>by refine é ?_;intro I o _ _ _ P hr _;refine WC.nB hr [0,3] [3,5000] (λ(a:Int)=>⟨[(5,.int .u64 a)],EC A C a,tr,[]⟩) ?_;intro J a hr f _;refine Ο ?_;intro af D _ Z Y O W hr _;refine WC.mA hr [3] [3] [] [] (λ(⟨q,t,u,l,Q⟩:(Ŀ Int)×ŀ Addr×Nat×ŀ Ow×Int)=>⟨(q,Q),[(0,δ t q u),(6,i' Q)],λm=>ru m (δ t q u) q l,[(5000,l)]⟩) (λ(⟨E,H,K,j⟩:(Ŀ Int)×ŀ Addr×Nat×ŀ Ow)=>⟨E,[(0,δ H E K)],λn=>ru n (δ H E K) E j,[(5000,j)]⟩) ⟨af,Z,Y,O,0⟩
instance hT'{s h r}:SpcM ((Qy s h)) r (∀{y B q f c e d},Cl 219 #[δ y s B,.agg ((Υ h f c e d)).toArray] [(5000,q)] (λG=>ru G (δ y s B) s q/\su G f c h.num.χ/\su G e d h.den.χ) (λG L v=>∃P Q A,L=[(5000,A)]/\v=δ P r Q/\ru G (δ P r Q) r A)):=.mk λhr {y B q f c e d}=>by
 refine rz (args:=[_,_]) (N:=12) func219 z z z (λM X R H=>?_);obtain⟨D,j,i⟩:=H;have a:M.L.zero:=by rw[R];intro p K x hx;simp only[Ď,ĝ,ţ]at K;subst K;exact BY D hx
 refine sr<|jO 3 z z z λb2=>Μ z<|o'<|WC.nl (l:=iu [0,1,2,4,5,3,6,7] _) (Fx İ) [(3,ü b2 (Υ h f c e d) 120)] (lc z ln) [ff,ff,ff,tt,tt] eP İ λt=>fO z<|cn (λ_ C=>xO z)<|cn (λ_ C=>R' ((θ h.num f c)).toArray 3 mP z z z (jh ([]) ((θ h.num f c)) ((θ h.den e d))))<|nI z (BH z)<|nI z (R' ((θ h.den e d)).toArray 3 mP z z z (jh ((θ h.num f c)) ((θ h.den e d)) ([])))<|xY t<|nX (λw k=>k.weaken (lc z ln))<|oE hr λag J hr=>mU z z (x' Ag z) (tP.h J) z (⟨D,j⟩) (lc z ln) a (λU ae T g n=>?_)
 obtain⟨Z,Y,S,rfl,rfl,F⟩:=n;refine nV<|nX (λw k=>(k.eS t g).weaken (lc z ln))<|oE hr λaf E hr=>mU z z (x' Ag z) (tP.h E) z (⟨F,(i.mono g)⟩) (lc z ln) a (λad O ac m o=>?_)
 obtain⟨V,W,u,rfl,rfl,I⟩:=o;refine nV<|fA.y0 (λw k=>(k.eS t (mx g m)).weaken (lc z ln)) z (rB z) z<|wa (λw k=>(k.eS t (mx g m)).weaken (lc z ln))<|Κ<|b'<|m' ?_
 obtain rfl:_=r:=hr;refine mT (S':=St M X O [(5000,u)]) (w1 z)<|j' z z ⟨_,_,_,z,z,I⟩
instance hA'{a M r}:SpcM ((FV a M)) r (∀{p q S n t},Cl 142 #[δ p a q,δ n M t] [(5000,S)] (λG=>ru G (δ p a q) a S/\sl c' G n t M) (λG L v=>∃zp zc I,L=[(5000,I)]/\v=δ zp r zc/\ru G (δ zp r zc) r I)):=.mk λhr {p q S n t}=>by
 refine Ο ?_;intro O U f _ _ _ aR T d X ax Z aC hr _;have hz:=tS (w0:=O);refine WC.mC hr [1] [] [] [] (λ(⟨F,B,C,j,J⟩:(Ŀ Int)×ŀ Addr×Nat×ŀ Ow×Int)=>⟨(F,J),[(0,δ B F C),(5,i' J)],λs=>ru s (δ B F C) F j,[(5000,j)]⟩) (λ(⟨Y,V,W,k⟩:(Ŀ Int)×ŀ Addr×Nat×ŀ Ow)=>⟨Y,[(0,δ V Y W)],λu=>ru u (δ V Y W) Y k,[(5000,k)]⟩) ⟨aR,X,ax,Z,0⟩ ?_;rintro _ s ⟨F,B,C,j,J⟩ c ai hr;refine Ο ?_;intro _ _ _ _ _ _ _ _ _ _ _ _ _ _ _ _ aN R h N av ac aH hr _;refine WC.mC hr [1,5] [] [1,5] [] (λ(⟨H,y,E,i,x⟩:(Ŀ Int)×ŀ Addr×Nat×ŀ Ow×Int)=>⟨(H,x),[(0,δ y H E),(6,i' x)],λm=>ru m (δ y H E) H i,[(5000,i)]⟩) (λ(⟨P,A,D,g⟩:(Ŀ Int)×ŀ Addr×Nat×ŀ Ow)=>⟨P,[(0,δ A P D)],λl=>ru l (δ A P D) P g,[(5000,g)]⟩) ⟨aN,N,av,ac,0⟩ ?_;rintro _ m ⟨H,y,E,i,x⟩ e an hr;refine Ο ?_;intro _ _ _ ag _ _ _ _ _ _ _ _ _ _ _ _ hr ak;refine Γ (nF dN z (GO (T' (xP (nT (iN f ag))) (mx (mx (mx d c) h) e)) ak))<|Γ (pD Bx tJ z)<|oE hr λaP Q hr=>mU z z (x' IA z) (eN'.h Q) z (an) (lc z ln) hz (λaW aQ a2 af K=>?_)
 obtain⟨aw,aE,ad,rfl,rfl,ay⟩:=K;exact Ι
instance nL{B I r}:SpcM ((FE B I)) r (∀{J O A y u},Cl 138 #[δ J B O,δ y I u] [(5000,A)] (λG=>ru G (δ J B O) B A/\sq G y u I) (λG L v=>∃zp zc K,L=[(5000,K)]/\v=δ zp r zc/\ru G (δ zp r zc) r K)):=.mk λhr {J O A y u}=>by refine Ο ?_;intro E U _ _ _ _ a o _ Y W D V hr _;refine WC.mA hr [1] [] [] [] (λ(⟨l,j,k,d,H⟩:(Ŀ Int)×ŀ Addr×Nat×ŀ Ow×Int)=>⟨(l,H),[(0,δ j l k),(5,i' H)],λg=>ru g (δ j l k) l d,[(5000,d)]⟩) (λ(⟨s,t,q,e⟩:(Ŀ Int)×ŀ Addr×Nat×ŀ Ow)=>⟨s,[(0,δ t s q)],λh=>ru h (δ t s q) s e,[(5000,e)]⟩) ⟨a,Y,W,D,0⟩
theorem E2(y:(Ŀ Int))(q:Zb)(B:ŀ Addr)(D:Nat)(u:ŀ Ow)(g:ŀ Addr)(h:Nat)(d:ŀ Addr)(e:Nat)(r:(Ŀ Int))(hr:(vx y q).Α r):Cl 78 #[δ B y D,.agg ((ñ q g h d e)).toArray] [(5000,u)] (λG=>ru G (δ B y D) y u/\sq G g h q.eqs/\sq G d e q.ε) (λG L v=>∃S U C,L=[(5000,C)]/\v=δ S r U/\ru G (δ S r U) r C):=by
 refine rz (args:=[_,_]) (N:=15) func78 z z z (λR G0 V M=>?_);obtain⟨F,s,n⟩:=M;have a:R.L.zero:=by rw[V];intro p Q x hx;simp only[Ď,ĝ,ţ]at Q;subst Q;exact BY F hx
 refine sr<|jO 3 z z z λb2=>Μ z<|o'<|WC.nl (l:=iu [0,1,2,4,5,7,8,3,6,9,10] _) (Fx İ) [(3,ü b2 (ñ q g h d e) 48)] (lc z ln) [ff,ff,ff,tt,tt,tt,tt] eP İ λt=>fO z<|cn (λ_ E=>rC z)<|cn (λ_ E=>n' 3 dN z z z)<|nI z (Nc z)<|nI z (n' 3 jY z z z)<|nI z (V6 z)<|nI z (n' 3 jY z z z)<|xY t<|nX (λw i=>i.weaken (lc z ln))<|oE hr λap P hr=>mU z z (x' zY z) (Wt.h P) z (F) (lc z ln) a (λZ an Y c m=>?_)
 obtain⟨ah,ae,X,rfl,rfl,K⟩:=m;refine nV<|nX (λw i=>(i.eS t c).weaken (lc z ln))<|oE hr λao H hr=>mU z z (x' zX z) (nL.h H) z (⟨K,(s.mono c)⟩) (lc z ln) a (λam ar al f o=>?_)
 obtain⟨aa,ab,W,rfl,rfl,O⟩:=o;refine nV<|nX (λw i=>(i.eS t (mx c f)).weaken (lc z ln))<|oE hr λaq J hr=>mU z z (x' zX z) (nL.h J) z (⟨O,(n.mono (mx c f))⟩) (lc z ln) a (λai T af j k=>?_)
 obtain⟨ac,ag,A,rfl,rfl,I⟩:=k;refine nV<|fA.y0 (λw i=>(i.eS t (mx (mx c f) j)).weaken (lc z ln)) z (rB z) z<|wa (λw i=>(i.eS t (mx (mx c f) j)).weaken (lc z ln))<|Κ<|b'<|m' ?_
 obtain rfl:_=r:=hr;refine mT (S':=St R G0 T [(5000,A)]) (w1 z)<|j' z z ⟨_,_,_,z,z,I⟩
instance {y:(Ŀ Int)}{q:Zb}{r:(Ŀ Int)}:SpcM ((vx y q)) r (∀{B:ŀ Addr}{D:Nat}{u:ŀ Ow}{g:ŀ Addr}{h:Nat}{d:ŀ Addr}{e:Nat},Cl 78 #[δ B y D,.agg ((ñ q g h d e)).toArray] [(5000,u)] (λG=>ru G (δ B y D) y u/\sq G g h q.eqs/\sq G d e q.ε) (λG L v=>∃S U C,L=[(5000,C)]/\v=δ S r U/\ru G (δ S r U) r C)):=⟨λa {B D u g h d e}=>E2 _ _ B D u g h d e _ a⟩
theorem vn(a1 y:Zb)(k:ŀ Addr)(j:Nat)(g:ŀ Addr)(d:Nat)(m:ŀ Addr)(l:Nat)(i:ŀ Addr)(h:Nat)(r:Bool)(hr:(Z7 a1 y).Α r):Cr 32 #[.agg ([.int .i64 a1.n,.slice k a1.eqs.length j,.slice g a1.ε.length d]).toArray,.agg ([.int .i64 y.n,.slice m y.eqs.length l,.slice i y.ε.length h]).toArray] (λG=>Η (Rp.sl Zk) G (.slice k a1.eqs.length j) a1.eqs/\Η (Rp.sl Zk) G (.slice g a1.ε.length d) a1.ε/\Η (Rp.sl Zk) G (.slice m y.eqs.length l) y.eqs/\Η (Rp.sl Zk) G (.slice i y.ε.length h) y.ε) (λG v=>v=.bool r):=by
 refine iM.enter (args:=[_,_]) (N:=14) func32 rfl rfl rfl (λw0 G0 O E=>?_);obtain⟨s,n,t,q⟩:=E;refine sr ?_;refine WL.box 2 Zh rfl rfl (λK=>?_);refine WL.box 3 Zh rfl rfl (λL=>?_);refine sg rfl rfl<|nx<|WC.seq ?_
 obtain⟨C,F,D,H,hr⟩:=hr;replace hr:_=r:=hr;subst hr;refine WC.drawn [false,false,false,false,false,false,false,false,false] eP İ (λQ=>?_);refine γ.nt (r:=Rp.int .u8) (e:=5) ([]:Ŀ Int) (λ_=>Zh) rfl ĳ (λu G' a x=>?_) ?_
 .exact⟨#[],[],rfl,rfl,λ_=>by kernel_rfl,rfl⟩
 refine Ο ?_;refine γ.nW (f:=78) (kk:=5) (r:=Rp.int .u8) (e:=5) (xs:=([]:Ŀ Int)) (r':=Rp.int .u8) (e':=5) C (λ_=>Zh) rfl İ İ (λu G' a x=>?_) ?_
 .obtain⟨I,_⟩:=(show(gr (Rp.int .u8) 5 5 ([]:Ŀ Int)) (u 5) G'/\True from x);exact⟨u 5,I,λp c tk B A=>⟨_,_,_,λ_=>YC.of I8 rfl,E2 _ _ p c tk _ _ _ _ _ F,by simp only[υ,B]<;>rfl,A,s.mono a,n.mono a⟩⟩
 refine γ.DS (c:=.string (bytesOf C)) (λ_=>Zh) (λu G' a x=>?_) ?_
 .obtain⟨⟨p,c,B,A⟩,_⟩:=(show D1 (Rp.int .u8) C G'.m (u 7)/\_ from x);simp only[υ,B];exact Y0.kR underlying32 underlying5 underlying9 A rfl
 refine γ.nt (r:=Rp.int .u8) (e:=5) ([]:Ŀ Int) (λ_=>Zh) rfl ĳ (λu G' a x=>?_) ?_
 .exact⟨#[],[],rfl,rfl,λ_=>by kernel_rfl,rfl⟩
 refine Ο ?_;refine γ.nW (f:=78) (kk:=9) (r:=Rp.int .u8) (e:=5) (xs:=([]:Ŀ Int)) (r':=Rp.int .u8) (e':=5) D (λ_=>Zh) rfl İ İ (λu G' a x=>?_) ?_
 .obtain⟨I,_⟩:=(show(gr (Rp.int .u8) 5 9 ([]:Ŀ Int)) (u 9) G'/\_ from x);exact⟨u 9,I,λp c tk B A=>⟨_,_,_,λ_=>YC.of I8 rfl,E2 _ _ p c tk _ _ _ _ _ H,by simp only[υ,B]<;>rfl,A,t.mono a,q.mono a⟩⟩
 refine γ.DS (c:=.string (bytesOf D)) (λ_=>Zh) (λu G' a x=>?_) ?_
 .obtain⟨⟨p,c,B,A⟩,_⟩:=(show D1 (Rp.int .u8) D G'.m (u 11)/\_ from x);simp only[υ,B];exact Y0.kR underlying32 underlying5 underlying9 A rfl
 refine Ο ?_;refine γ.tn (λU T S R X J P h3 h2 A=>?_);refine WL.DJ (show WL _ _ _ _ _ _ (St w0 G0 X.m _)from ?_);refine é ?_;exact WE.jX rfl rfl rfl
instance nM{S r}:SpcM ((Lh S)) r (Cr 28 #[i' S] (λG=>True) (fS (fV .i64 8) r)):=.mk λhr=>by
 refine Ο ?_;intro w0 G0 u hr _;refine nb (e:=71) (r:=(fV .i64 8)) (vs:=#[(0,.agg (Ø (ζ (ζ (ζ (ζ (ζ (ζ (ζ (ζ (λ_=>0) 0 0) 1 1) 2 2) 3 3) 4 4) 5 5) 6 6) 7 7)).toArray)]) (cs:=(Ø (ζ (ζ (ζ (ζ (ζ (ζ (ζ (ζ (λ_=>0) 0 0) 1 1) 2 2) 3 3) 4 4) 5 5) 6 6) 7 7))++([])) ([ζ (ζ (ζ (ζ (ζ (ζ (ζ (ζ (λ_=>0) 0 0) 1 1) 2 2) 3 3) 4 4) 5 5) 6 6) 7 7]:Ŀ (Fin 8->Int)) z z z z z ĳ (λ_=>İ) ⟨Ø (ζ (ζ (ζ (ζ (ζ (ζ (ζ (ζ (λ_=>0) 0 0) 1 1) 2 2) 3 3) 4 4) 5 5) 6 6) 7 7),[],z,z,z⟩ (key:=999) z (by rw[u];rfl) λp1 ap aY aQ=>Μ z<|o'<|sr<|Μ z<|WC.mC (hH:=by exact aQ) hr [0] [] [] [] (λ(⟨o,f,d,I⟩:(Ŀ (Fin 8->Int))×ŀ Addr×Nat×Int)=>⟨(o,I),[(3,δ f o d),(4,i' I)],λk=>sv k f d o,[]⟩) (λ(⟨U,T,R⟩:(Ŀ (Fin 8->Int))×ŀ Addr×Nat)=>⟨U,[(3,δ T U R)],λak=>sv ak T R U,[]⟩) ⟨[ζ (ζ (ζ (ζ (ζ (ζ (ζ (ζ (λ_=>0) 0 0) 1 1) 2 2) 3 3) 4 4) 5 5) 6 6) 7 7],p1,1,0⟩ ?_
 rintro _ k ⟨o,f,d,I⟩ ag l hr;refine Ο ?_;intro _ p2 am _ aS hr;refine WC.mC (hH:=by exact⟨aS,la⟩) hr [0,3,4] [] [0,4] [] (λ(⟨n,q,p,s,a⟩:(Ŀ (Fin 8->Int))×ŀ Addr×Nat×ŀ Ow×Int)=>⟨(n,a),[(5,δ q n p),(6,i' a)],λJ=>sv J q p n/\Tok 8 71 (δ q n p) n.length s,[(1005,s)]⟩) (λ(⟨t,B,A,H⟩:(Ŀ (Fin 8->Int))×ŀ Addr×Nat×ŀ Ow)=>⟨t,[(5,δ B t A)],λY=>sv Y B A t/\Tok 8 71 (δ B t A) t.length H,[(1005,H)]⟩) ⟨[],p2,0,none,0⟩ ?_;rintro _ J ⟨n,q,p,s,a⟩ g ⟨aa,O⟩ hr;refine Ο ?_;intro _ hr;refine WC.mC (hH:=by exact⟨aa,O⟩) hr [0,3,4,6] [] [0,3,4,6] [] (λ(⟨c,j,i,h,Q⟩:(Ŀ (Fin 8->Int))×ŀ Addr×Nat×ŀ Ow×Int)=>⟨(c,Q),[(5,δ j c i),(7,i' Q)],λF=>sv F j i c/\Tok 8 71 (δ j c i) c.length h,[(1005,h)]⟩) (λ(⟨y,C,D,E⟩:(Ŀ (Fin 8->Int))×ŀ Addr×Nat×ŀ Ow)=>⟨y,[(5,δ C y D)],λV=>sv V C D y/\Tok 8 71 (δ C y D) y.length E,[(1005,E)]⟩) ⟨n,q,p,s,I⟩ ?_;rintro _ F ⟨c,j,i,h,Q⟩ m ⟨W,M⟩ hr;refine Ο ?_;intro _ x1 _ _ L x2 _ _ hr _;refine WC.mB hr [0,3,4,5,6,7,8] [1005] [0,3,4,5,6,7,8] [1005] (λ(⟨N,P⟩:Int×(Fin 8->Int))=>⟨(N,P),[(9,i' N)],tr,[(8,ü L (Ø P) 71)]⟩) (λ(K:(Fin 8->Int))=>⟨K,[],tr,[(8,ü L (Ø K) 71)]⟩) ⟨Q,ζ x1 I.toNat (Θ x2 Q)⟩ ?_;intro aq K hr x _;refine Ο ?_;intro _ _ v aR hr;refine oA hr λZ hr=>jU (r:=(fV .i64 8)) 1005 z z MT nY z ĳ z z (W.mono (mx x v)) z (by rw[u];rfl) M aR Z λp4 aM aG aJ ax aL X=>dE z<|t'<|E'<|b'<|w'<|η z<|iT z<|dE z<|t'<|N' ⟨aJ,(c++[K]),p4,aM,aG,i64.wrap (Q+1)⟩ hr ⟨(mx (mx (mx m x) v) ax),aL,X⟩ (Ç z) (w1 z)
instance BX{h r}:SpcM ((xu h)) r (∀{g f},Cr 293 #[δ g h f] (λG=>su G g f h) (fS (Rp.int .u32) r)):=.mk λhr {g f}=>by
 refine Ο ?_;intro q j _ hr e;refine WC.mB hr [0] [] [0] [] (λ(i:Int)=>⟨i,[(3,i' i)],tr,[]⟩) (λ(o:Int)=>⟨o,[(3,i' o)],tr,[]⟩) (h.length:Int) ?_;intro k o hr l _;refine b'<|sr<|η z<|η z<|oA hr λp hr=>WL.qv (r:=(Rp.int .u32)) z z F' tL z (e.mono l) z z p λy v s=>Μ z<|m' ?_
 obtain rfl:_=r:=hr;exact j' z z ⟨_,_,z,s⟩
instance fJ'{c r}:SpcM ((AU c)) r (Cr 236 #[.int .u64 c] (λG=>True) (fS (Rp.int .u32) r)):=.mk λhr=>by
 refine J' (args:=[_]) (N:=11) func236 z z z λv t i o=>sr<|dE z<|nr<|η z<|Γ (vT z z ĳ)<|Γ (pD tJ uq z)<|η z<|Γ (Wi z z ĳ)<|Γ (pD tJ uq z)<|nb (e:=248) (r:=(Rp.int .u32)) (vs:=#[(0,.int .u32 (u32.wrap (Int.tmod c 4294967296))),(1,.int .u32 (u32.wrap (u64.wrap (Int.tdiv c 4294967296))))]) (cs:=[.int .u32 (u32.wrap (Int.tmod c 4294967296))]++([.int .u32 (u32.wrap (u64.wrap (Int.tdiv c 4294967296)))]++([]))) ([u32.wrap (Int.tmod c 4294967296),u32.wrap (u64.wrap (Int.tdiv c 4294967296))]:Ŀ Int) z z z z z ĳ (λ_=>İ) ⟨[.int .u32 (u32.wrap (Int.tmod c 4294967296))],[.int .u32 (u32.wrap (u64.wrap (Int.tdiv c 4294967296)))]++([]),z,z,⟨[.int .u32 (u32.wrap (u64.wrap (Int.tdiv c 4294967296)))],[],z,z,z⟩⟩ (key:=999) z (by rw[i];rfl) (λu p k h=>?_)
 refine oE hr λq g hr=>gw z z (x' rN z) (BX.h g) z (h) (λl s j d=>?_);obtain⟨n,m,rfl,f⟩:=d;refine Μ z<|m' ?_
 obtain rfl:_=r:=hr;exact j' z z ⟨_,_,z,f⟩
instance dB'{h m r}:SpcM ((rX h m)) r (∀{k j},Cr 235 #[.bool h,δ k m j] (λG=>su G k j m) (Ï r)):=.mk λhr {k j}=>Ι
instance eO'{u r}:SpcM ((uk u)) r (Cr 160 #[i' u] (λG=>True) (Ï r)):=.mk λhr=>Ι
instance ga'{f r}:SpcM ((Bf f)) r (∀{d c},Cr 264 #[.agg ((θ f d c)).toArray] (λG=>su G d c f.χ) (λG v=>v=i' r)):=.mk λhr {d c}=>Ι
instance ey'{g i r}:SpcM ((yW g i)) r (∀{e d},Cr 328 #[δ e g d,i' i] (λG=>su G e d g) (λG v=>v=.int .u64 r)):=.mk λhr {e d}=>Ι
instance gR'{g r}:SpcM ((Ku g)) r (∀{e d},Cr 338 #[δ e g d] (λG=>su G e d g) (λG v=>v=.int .u64 r)):=.mk λhr {e d}=>Ι
instance iC'{j i r}:SpcM ((RH j i)) r (Cr 337 #[.int .u64 j,.int .u64 i] (λG=>True) (λG v=>v=.int .u64 r)):=.mk λhr=>by refine Ο ?_;intro m h _ hr _;refine WC.mA hr [] [] [] [] (λ(⟨g,e⟩:Int×Int)=>⟨(g,e),[(0,.int .u64 g),(1,.int .u64 e)],tr,[]⟩) (λ(k:Int)=>⟨k,[(0,.int .u64 k)],tr,[]⟩) ⟨j,i⟩
instance cQ'{m o r}:SpcM ((Z6 m o)) r (∀{j n h l},Cr 307 #[δ j m n,δ h o l] (λG=>su G j n m/\su G h l o) (λG v=>v=i' r)):=.mk λhr {j n h l}=>by refine Ο ?_;intro D i _ _ _ _ _ hr _;refine WC.mA hr [0,1] [] [] [] (λ(p:Int)=>⟨p,[(5,i' p)],tr,[]⟩) (λ(_:Unit)=>⟨(.inr ()),[],tr,[]⟩) (i64.wrap ((m.length:Int)-1))
instance iq'{c m r}:SpcM ((QG c m)) r (∀{B C},Cr 333 #[δ B c C,.int .u64 m] (λG=>su G B C c) (λG v=>∃A x,v=.tuple #[δ A r.1 x,.int .u64 r.2]/\su G A x r.1)):=.mk λhr {B C}=>by
 refine Ο ?_;intro U u _ V E L W hr _;refine WC.mB hr [0,1,6] [] [6] [] (λ(⟨h,d,f,t⟩:(Ŀ Int)×ŀ Ow×Int×Int)=>⟨(h,f,t),[(7,.int .u64 f),(8,i' t)],λk=>Ε (Rp.int .u32) 248 k (.slice E (c.length:Int).toNat ((c.length:Int).toNat)) h d,[(4012,d)]⟩) (λ(⟨o,j,y⟩:(Ŀ Int)×ŀ Ow×Int)=>⟨(o,y),[(7,.int .u64 y)],λq=>Ε (Rp.int .u32) 248 q (.slice E (c.length:Int).toNat ((c.length:Int).toNat)) o j,[(4012,j)]⟩) ⟨(List.replicate (c.length:Int).toNat 0),L,0,i64.wrap ((c.length:Int)-1)⟩ ?_;rintro q ⟨o,j,y⟩ hr Z F;refine b'<|sr<|η z<|pS (r:=(Rp.int .u32)) (e:=248) 4012 F z (by rw[V];rfl) (λH p i D a=>?_)
 refine oE hr λI O hr=>gw z z (x' rN z) (BX.h O) (by rw[qT D]) ((rF D)) (λl J g s=>?_);obtain⟨af,n,rfl,K⟩:=s;refine η z<|dE z<|Μ z<|m' ?_
 obtain rfl:_=r:=hr;exact ur z z z ⟨_,_,z,K⟩
instance iL'{d c r}:SpcM ((S4 d c)) r (∀{t o s u},Cr 309 #[δ t d o,δ s c u] (λG=>su G t o d/\su G s u c) (fS (Rp.int .u32) r)):=.mk λhr {t o s u}=>by
 refine Ο ?_;intro W L _ P _ _ J af an hr _;refine WC.mD hr [0,1,5] [] [5] [] (λ(⟨E,k,h⟩:(Ŀ Int)×ŀ Ow×Int)=>⟨(E,h),[(6,i' h)],λy=>Ε (Rp.int .u32) 248 y (.slice J (i64.wrap ((d.length:Int)+(c.length:Int))).toNat ((i64.wrap ((d.length:Int)+(c.length:Int))).toNat)) E k,[(4015,k)]⟩) (λ(⟨K,D⟩:(Ŀ Int)×ŀ Ow)=>⟨K,[],λQ=>Ε (Rp.int .u32) 248 Q (.slice J (i64.wrap ((d.length:Int)+(c.length:Int))).toNat ((i64.wrap ((d.length:Int)+(c.length:Int))).toNat)) K D,[(4015,D)]⟩) ⟨(List.replicate (i64.wrap ((d.length:Int)+(c.length:Int))).toNat 0),af,0⟩ ?_ ?_
 .rintro _ y ⟨E,k,h⟩ g O hr;refine Ο ?_;intro _ hr;refine WC.mC hr [0,1,5,6] [] [0,1,5,6] [] (λ(⟨B,q,l,x⟩:(Ŀ Int)×ŀ Ow×Int×Int)=>⟨(B,l,x),[(7,.int .u64 l),(8,i' x)],λF=>Ε (Rp.int .u32) 248 F (.slice J (i64.wrap ((d.length:Int)+(c.length:Int))).toNat ((i64.wrap ((d.length:Int)+(c.length:Int))).toNat)) B q,[(4015,q)]⟩) (λ(⟨H,C,v⟩:(Ŀ Int)×ŀ Ow×Int)=>⟨(H,v),[(7,.int .u64 v)],λI=>Ε (Rp.int .u32) 248 I (.slice J (i64.wrap ((d.length:Int)+(c.length:Int))).toNat ((i64.wrap ((d.length:Int)+(c.length:Int))).toNat)) H C,[(4015,C)]⟩) ⟨E,k,0,0⟩ ?_;rintro _ F ⟨B,q,l,x⟩ j m hr;refine o' ?_;refine é ?_;intro hr;refine I' hr z (λN hr=>?_) (λN hr=>?_)
  .refine q'<|b'<|o'<|Y'<|o'<|fN [ff,ff,ff,ff,ff,ff,ff,ff,ff,ff,ff,ff,ff,ff,ff,ff,ff,ff,ff,ff] eP İ λX=>fO z<|fO z ?_
   refine é ?_;intro Y _ _ U _ hr _;exact oE hr λT a hr=>cn (λ_ f=>pJ F' tL (m.mono f) z z a)<|cn (λ_ f=>Y0.loadT V2 (m.mono f) (key:=4015) z z (zA (oq m a)))<|cn (λ_ f=>pD uq tJ z)<|cn (λ_ f=>V' z z)<|fO z<|pF X<|iT z<|dE z<|t'<|Κ<|b'<|sr<|η z<|η z<|η z<|iT z<|η z<|Γ (vT z z ĳ)<|Γ (pD tJ uq z)<|oE hr λx5 n hr=>Γ (pJ F' tL m z z n)<|zL (r:=(Rp.int .u32)) (e:=248) (cs':=[.int .u32 (u32.wrap (Int.tmod (u64.wrap ((u64.wrap ((u64.wrap ((u64.wrap Y)*(u64.wrap U)))+(u64.wrap T)))+l)) 4294967296))]) (i:=i64.wrap (h+x)) (z':=u32.wrap (Int.tmod (u64.wrap ((u64.wrap ((u64.wrap ((u64.wrap Y)*(u64.wrap U)))+(u64.wrap T)))+l)) 4294967296)) 4015 z tL z m z z z z z n λao ah=>nx<|w'<|η z<|Γ (Wi z z ĳ)<|Ι
  exact Ι
 rintro Q ⟨K,D⟩ hr ar V;refine b'<|sr<|η z<|pS (r:=(Rp.int .u32)) (e:=248) 4015 V z (by rw[P];rfl) (λaC aB aw S au=>?_)
 refine oE hr λaD A hr=>gw z z (x' rN z) (BX.h A) (by rw[qT S]) ((rF S)) (λay aE av R=>?_);obtain⟨Z,az,rfl,p⟩:=R;refine Μ z<|m' ?_
 obtain rfl:_=r:=hr;exact j' z z ⟨_,_,z,p⟩
instance gK'{e f r}:SpcM ((Ki e f)) r (∀{i g h j},Cr 317 #[δ i e g,δ h f j] (λG=>su G i g e/\su G h j f) (λG v=>∃o n m q,v=.tuple #[δ o r.1 n,δ m r.2 q]/\su G o n r.1/\su G m q r.2)):=.mk λhr {i g h j}=>Ι
instance iD'{I H r}:SpcM ((R3 I H)) r (∀{C F x E},Cr 318 #[δ C I F,δ x H E] (λG=>su G C F I/\su G x E H) (fS (Rp.int .u32) r)):=.mk λhr {C F x E}=>by refine Ο ?_;intro Q s _ _ T hr a;refine WC.mA hr [] [] [] [] (λ(⟨l,g,i,j,k,f⟩:(Ŀ Int)×ŀ Addr×Nat×(Ŀ Int)×ŀ Addr×Nat)=>⟨(l,j),[(0,δ g l i),(1,δ k j f)],λd=>su d g i l/\su d k f j,[]⟩) (λ(⟨J,A,u⟩:(Ŀ Int)×ŀ Addr×Nat)=>⟨(.inr J),[(0,δ A J u)],λo=>su o A u J,[]⟩) ⟨I,C,F,H,x,E⟩
instance gu'{q n r}:SpcM ((xB q n)) r (∀{f d e c},Cr 279 #[.agg ((θ q f d)).toArray,.agg ((θ n e c)).toArray] (λG=>su G f d q.χ/\su G e c n.χ) (Ï r)):=.mk λhr {f d e c}=>Ι
instance Wu{C y r}:SpcM ((yR C y)) r (∀{e c d f},Cr 278 #[.agg ((θ C e c)).toArray,.agg ((θ y d f)).toArray] (λG=>su G e c C.χ/\su G d f y.χ) (λG v=>∃j k g l,v=.tuple #[.agg ((θ r.1 j k)).toArray,.agg ((θ r.2.1 g l)).toArray,i' r.2.2]/\su G j k r.1.χ/\su G g l r.2.1.χ)):=.mk λhr {e c d f}=>Ι
instance lD{t q r}:SpcM ((Lb t q)) r (∀{d c g f},Cr 305 #[.agg ((θ t d c)).toArray,.agg ((θ q g f)).toArray] (λG=>su G d c t.χ/\su G g f q.χ) (Ï r)):=.mk λhr {d c g f}=>Ι
instance id'{j r}:SpcM ((Mg j)) r (∀{d c},Cr 304 #[.agg ((θ j d c)).toArray] (λG=>su G d c j.χ) (Ï r)):=.mk λhr {d c}=>Ι
instance fp'{T R r}:SpcM ((AS T R)) r (∀{o l p n},Cr 261 #[.agg ((θ T o l)).toArray,.agg ((θ R p n)).toArray] (λG=>su G o l T.χ/\su G p n R.χ) (er r)):=.mk λhr {o l p n}=>Ι
instance ie'{u s r}:SpcM ((Gc u s)) r (∀{h e j f},Cr 280 #[.agg ((θ u h e)).toArray,.agg ((θ s j f)).toArray] (λG=>su G h e u.χ/\su G j f s.χ) (iA r)):=.mk λhr {h e j f}=>Ι
instance eT'{h r}:SpcM ((oC h)) r (∀{d c f e},Cr 206 #[.agg ((Υ h d c f e)).toArray] (λG=>su G d c h.num.χ/\su G f e h.den.χ) (λG v=>v=i' r)):=.mk λhr {d c f e}=>Ι
instance zR{j r}:SpcM ((FC j)) r (Cr 232 #[.agg (Ø j).toArray] (λG=>True) (λG v=>v=.bool r)):=.mk λhr=>by refine Ο ?_;intro m e _ k hr _;refine WC.mA hr [1] [1] [] [] (λ(g:Int)=>⟨g,[(3,i' g)],tr,[]⟩) (λ(_:Unit)=>⟨(.inr ()),[],tr,[]⟩) 0
instance je'{q k r}:SpcM ((Mi q k)) r (Cr 265 #[.agg (Ø q).toArray,.agg (Ø k).toArray] (λG=>True) (λG v=>v=.tuple #[.agg (Ø r.1).toArray,i' r.2])):=.mk λhr=>by refine Ο ?_;intro A l _ m t n hr _;refine WC.mA hr [2,3,4] [3,4] [2,4] [4] (λ(⟨d,c⟩:Int×(Fin 8->Int))=>⟨(d,c),[(6,i' d)],tr,[(2,ü m (Ø c) 145)]⟩) (λ(e:(Fin 8->Int))=>⟨e,[],tr,[(2,ü m (Ø e) 145)]⟩) ⟨0,q⟩
instance M3{A t r}:SpcM ((ri A t)) r (∀{j f g e},Cr 263 #[.agg ((θ A j f)).toArray,.agg ((θ t g e)).toArray] (λG=>su G j f A.χ/\su G g e t.χ) (Ï r)):=.mk λhr {j f g e}=>Ι
instance Wr{q p r}:SpcM ((rn q p)) r (∀{m g k j l e c f},Cr 266 #[.agg ((Υ q m g k j)).toArray,.agg ((Υ p l e c f)).toArray] (λG=>su G m g q.num.χ/\su G k j q.den.χ/\su G l e p.num.χ/\su G c f p.den.χ) (er r)):=.mk λhr {m g k j l e c f}=>Ι
instance Ni{Z f p1 r}:SpcM ((FD Z f p1)) r (∀{s t q A c d},Cr 207 #[.agg ((Υ Z s t q A)).toArray,.agg (Ø f).toArray,δ c p1 d] (λG=>su G s t Z.num.χ/\su G q A Z.den.χ/\sl c' G c d p1) (iB c' r)):=.mk λhr {s t q A c d}=>by
 refine Ο ?_;intro w0 G0 _ Y _ _ _ _ P Q p2 N _ j _ _ hr _;refine WC.mC (hH:=by exact⟨j,la⟩) hr [2,3,4] [3,4] [] [] (λ(⟨y,D,C,E,a⟩:(Ŀ Za)×ŀ Addr×Nat×ŀ Ow×Int)=>⟨(y,a),[(8,δ D y C),(9,i' a)],λM=>sl c' M D C y/\Tok 12 147 (δ D y C) y.length E,[(1008,E)]⟩) (λ(⟨F,K,J,L⟩:(Ŀ Za)×ŀ Addr×Nat×ŀ Ow)=>⟨(.inr F),[(8,δ K F J)],λV=>sl c' V K J F/\Tok 12 147 (δ K F J) F.length L,[(1008,L)]⟩) ⟨[],p2,0,none,0⟩ ?_;rintro _ M ⟨y,D,C,E,a⟩ m ⟨S,O⟩ hr;refine o' ?_;refine é ?_;intro hr;refine I' hr z (λh hr=>?_) (λh hr=>?_)
 .refine q'<|b'<|o'<|Y'<|o'<|fN [ff,ff,ff,ff,ff,ff,ff,ff,ff,tt,ff] eP İ λe=>cn (λ_ k=>y' 4 GH z z (U' _ _ _))<|fO z ?_
  refine é ?_;intro _ _ _ _ _ _ _ _ _ _ _ _ _ _ _ B hr _;refine lr (λ_=>z) z145<|γ.DG e λR=>?_
  refine é ?_;intro hr;refine o'<|sr<|η z<|Γ (pI z z)<|nx<|I' hr z (λn hr=>?_) (λn hr=>?_)
  .exact Ι
  refine q'<|b'<|fN [tt,ff,ff,ff,ff,ff,ff,ff,ff] eP İ λe=>uA z (k' z) ?_
  refine é ?_;intro _ _ _ _ _ _ _ _ _ _ _ _ _ _ _ l _ U _ _ _ _ _ _ _ _ T i hr _;refine oA hr λx hr=>jU (r:=c') 1008 z z Q' lf z ĳ z z (S.mono (mx U T)) z (by rw[Y];rfl) O i x λp4 g H p u I v=>dE z<|t'<|Κ<|E'<|b'<|w'<|η z<|iT z<|dE z<|t'<|N' ⟨p,(y++[(Za.mk l B.1)]),p4,g,H,i64.wrap (a+1)⟩ hr ⟨(mx (mx (mx m U) T) u),I,v⟩ (Ç z) (w3 z z z)
 exact Ι
instance if'{m r}:SpcM ((Gw m)) r (∀{g f e c},Cr 281 #[.agg ((Υ m g f e c)).toArray] (λG=>su G g f m.num.χ/\su G e c m.den.χ) (er r)):=.mk λhr {g f e c}=>Ι
instance gT'{Z r}:SpcM ((E5 Z)) r (∀{R aa},Cr 214 #[δ R Z aa] (λG=>sl c' G R aa Z) (fS c' r)):=.mk λhr {R aa}=>by
 refine Ο ?_;intro w0 G0 x _ _ c9 _ _ A bH bx bz bT bW y aq au bE b1 b2 hr _;refine WC.mD hr [0,3,4] [4] [0,3,4] [4] (λ(⟨aR,a5,am,ai⟩:Int×Zg×ŀ Addr×Nat)=>⟨(aR,a5),[(5,i' aR)],λa0=>su a0 am ai a5.χ,[(3,ü b1 (θ a5 am ai) 118)]⟩) (λ(⟨aL,O,P⟩:Zg×ŀ Addr×Nat)=>⟨aL,[],λaD=>su aD O P aL.χ,[(3,ü b1 (θ aL O P) 118)]⟩) ⟨0,c9,bH,bx⟩ ?_ ?_
 .rintro _ a0 ⟨aR,a5,am,ai⟩ S ar hr;refine o' ?_;refine é ?_;intro hr;refine I' hr z (λcZ hr=>?_) (λcZ hr=>?_)
  .refine q'<|b'<|o'<|Y'<|o'<|fN [ff,ff,ff,ff,ff,ff,ff,ff,ff,ff,ff,ff,ff,ff,ff,ff,ff,tt,tt,ff,ff] eP İ λhb=>fO z<|fO z ?_
   refine é ?_;intro _ _ cj _ _ _ _ _ _ _ _ _ _ _ hr _;obtain⟨db,cK,cX,b8⟩:=GV (T' (xP (nT (se (nT (iN x cj))))) (mx (mx A y) S));refine cn (λ_ g=>nf _ mP z z (λj v N=>g _ _ _ (cX j v N))) ?_;refine é ?_;intro _ _ cl _ _ _ _ _ _ _ _ _ _ _ hr _;obtain⟨c4,cO,cV,bM⟩:=GV (T' (xP (nT (se (nT (iN x cl))))) (mx (mx A y) S));refine cn (λ_ g=>nf _ mP z z (λj v N=>g _ _ _ (cV j v N))) ?_;refine é ?_;intro bS hr _;refine oE hr λi cg hr=>mo (f:=278) (φ:=λG v=>∃l n o m,v=.tuple #[.agg ((θ i.1 l n)).toArray,.agg ((θ i.2.1 o m)).toArray,i' i.2.2]/\su G l n i.1.χ/\su G o m i.2.1.χ) (λ_=>z) (λv d e g h=>?_) (λu M g a=>?_) ?_
   .obtain⟨l,n,o,m,rfl,F,H⟩:=h;exact⟨_,_,_,_,z,F.mono g,H.mono g⟩
   .obtain⟨⟨ax,aB,bP,Y⟩,_⟩:=(show(Ï bS) M.m (u 43)/\True from a);exact⟨_,_,_,λ_=>x' Af z,Wu.h cg,(by simp only[bP]<;>rfl),⟨(b8.mono g),Y⟩⟩
   refine kq (φ:=λG v=>∃p6 B p7 E,v=.tuple #[.agg ((θ i.1 p6 B)).toArray,.agg ((θ i.2.1 p7 E)).toArray,i' i.2.2]/\su G p6 B i.1.χ/\su G p7 E i.2.1.χ) (λ_=>z) (λv d e g h=>?_) (λu M g a=>?_) ?_
   .obtain⟨p6,B,p7,E,rfl,X,aH⟩:=h;exact⟨_,_,_,_,z,X.mono g,aH.mono g⟩
   .obtain⟨⟨l,n,o,m,bU,F,H⟩,_,_⟩:=(show(λG v=>∃l n o m,v=.tuple #[.agg ((θ i.1 l n)).toArray,.agg ((θ i.2.1 o m)).toArray,i' i.2.2]/\su G l n i.1.χ/\su G o m i.2.1.χ) M.m (u 44)/\True/\True from a);simp only[υ,bU];exact⟨_,k' z,l,n,o,m,z,F,H⟩
   refine kq (φ:=Ï i.1) (λ_=>z) (λv d e g h=>?_) (λu M g a=>?_) ?_
   .obtain⟨p8,dg,rfl,bL⟩:=h;exact⟨_,_,z,bL.mono g⟩
   .obtain⟨⟨p6,B,p7,E,Q,X,aH⟩,_,_,_⟩:=(show(λG v=>∃p6 B p7 E,v=.tuple #[.agg ((θ i.1 p6 B)).toArray,.agg ((θ i.2.1 p7 E)).toArray,i' i.2.2]/\su G p6 B i.1.χ/\su G p7 E i.2.1.χ) M.m (u 29)/\True/\True/\True from a);simp only[υ,Q];exact⟨_,O' z z,p6,B,z,X⟩
   refine γ.nq (kk:=29) (φ:=Ï i.2.1) İ (λ_=>z) (λv d e g h=>?_) (λu M g a=>?_) ?_
   .obtain⟨p9,cY,rfl,ck⟩:=h;exact⟨_,_,z,ck.mono g⟩
   .obtain⟨_,⟨p6,B,p7,E,Q,X,aH⟩,_,_,_⟩:=(show True/\(λG v=>∃p6 B p7 E,v=.tuple #[.agg ((θ i.1 p6 B)).toArray,.agg ((θ i.2.1 p7 E)).toArray,i' i.2.2]/\su G p6 B i.1.χ/\su G p7 E i.2.1.χ) M.m (u 29)/\True/\True/\True from a);exact⟨_,_,Q,(by simp only[υ,Q]<;>rfl),z,p7,E,z,aH⟩
   refine nh (c:=i' i.2.2) (λ_=>z) (λu M g a=>?_) ?_
   .obtain⟨_,_,⟨p6,B,p7,E,Q,X,aH⟩,_,_,_⟩:=(show True/\True/\(λG v=>∃p6 B p7 E,v=.tuple #[.agg ((θ i.1 p6 B)).toArray,.agg ((θ i.2.1 p7 E)).toArray,i' i.2.2]/\su G p6 B i.1.χ/\su G p7 E i.2.1.χ) M.m (u 29)/\True/\True/\True from a);simp only[υ,Q];exact O' z z
   refine lr (λ_=>z) vP<|lr (λ_=>z) vP<|γ.yz (λdO dL ds dr dp dl dq X2 bY bR ay bb bk bo bn bl=>?_)
   obtain⟨p9,cY,rfl,ck⟩:=bb;obtain⟨p8,dg,rfl,bL⟩:=bk;obtain⟨p6,B,p7,E,rfl,X,aH⟩:=bo;obtain⟨l,n,o,m,rfl,F,H⟩:=bn;obtain⟨ax,aB,rfl,Y⟩:=bl;refine vV bR (λb7 cL cW=>?_);subst cL;replace ay:=GU ay ĳ cW;refine vV ay (λb6 c5 dP=>?_);subst c5;refine my (show WL _ _ _ _ _ _ (St w0 G0 X2.m _)from ?_);refine fY 6 vM z<|fY 7 vM z<|dE z<|t'<|Κ<|b'<|w'<|Γ (y' 3 mP z z z)<|Γ (y' 6 mP z z z)<|oE hr λcD cc hr=>gw z z (x' wP z) (M3.h cc) z (⟨(ar.mono bY),bL⟩) (λdj cy bO be=>?_)
   obtain⟨bj,bh,rfl,bg⟩:=be;exact fY 3 vM z<|Ι
  exact Ι
 rintro aD ⟨aL,O,P⟩ hr I aI;refine b'<|o'<|sr<|Μ z<|WC.mD hr [0,3,4] [3] [0,3,4] [3] (λ(⟨aO,a6,aj,al⟩:Int×Zg×ŀ Addr×Nat)=>⟨(aO,a6),[(9,i' aO)],λa3=>su a3 aj al a6.χ,[(4,ü b2 (θ a6 aj al) 118)]⟩) (λ(⟨bv,ap,ao⟩:Zg×ŀ Addr×Nat)=>⟨bv,[],λbw=>su bw ap ao bv.χ,[(4,ü b2 (θ bv ap ao) 118)]⟩) ⟨0,bT,aq,au⟩ ?_ ?_
 .rintro _ a3 ⟨aO,a6,aj,al⟩ L aG hr;refine o' ?_;refine é ?_;intro hr;refine I' hr z (λc6 hr=>?_) (λc6 hr=>?_)
  .refine q'<|b'<|o'<|Y'<|o'<|fN [ff,ff,ff,ff,ff,ff,ff,ff,ff,ff,tt,tt,ff,ff] eP İ λhb=>cn (λ_ g=>y' 3 mP z z z)<|fO z ?_
   refine é ?_;intro _ _ ci _ _ _ _ _ _ _ _ _ _ _ hr _;obtain⟨c0,de,cH,bX⟩:=GV (T' (xP (nT (se (nT (iN x ci))))) (mx (mx (mx A y) I) L));refine cn (λ_ g=>nf _ mP z z (λj v N=>g _ _ _ (cH j v N)))<|oE hr λk cF hr=>qK (post:=λG v=>∃p s t q,v=.tuple #[.agg ((θ k.1 p s)).toArray,.agg ((θ k.2.1 t q)).toArray,i' k.2.2]/\su G p s k.1.χ/\su G t q k.2.1.χ) (λ_=>z) (λ_ _=>x' Af z) (Wu.h cF) z (λM g=>⟨((aI.mono L).mono g),(bX.mono g)⟩) (λv d e g h=>?_) ?_
   .obtain⟨p,s,t,q,rfl,K,J⟩:=h;exact⟨_,_,_,_,z,K.mono g,J.mono g⟩
   refine kq (φ:=λG v=>∃p2 D p3 C,v=.tuple #[.agg ((θ k.1 p2 D)).toArray,.agg ((θ k.2.1 p3 C)).toArray,i' k.2.2]/\su G p2 D k.1.χ/\su G p3 C k.2.1.χ) (λ_=>z) (λv d e g h=>?_) (λu M g a=>?_) ?_
   .obtain⟨p2,D,p3,C,rfl,aK,aJ⟩:=h;exact⟨_,_,_,_,z,aK.mono g,aJ.mono g⟩
   .obtain⟨⟨p,s,t,q,b9,K,J⟩,_⟩:=(show(λG v=>∃p s t q,v=.tuple #[.agg ((θ k.1 p s)).toArray,.agg ((θ k.2.1 t q)).toArray,i' k.2.2]/\su G p s k.1.χ/\su G t q k.2.1.χ) M.m (u 65)/\True from a);simp only[υ,b9];exact⟨_,k' z,p,s,t,q,z,K,J⟩
   refine kq (φ:=Ï k.1) (λ_=>z) (λv d e g h=>?_) (λu M g a=>?_) ?_
   .obtain⟨p4,cS,rfl,bQ⟩:=h;exact⟨_,_,z,bQ.mono g⟩
   .obtain⟨⟨p2,D,p3,C,ak,aK,aJ⟩,_,_⟩:=(show(λG v=>∃p2 D p3 C,v=.tuple #[.agg ((θ k.1 p2 D)).toArray,.agg ((θ k.2.1 p3 C)).toArray,i' k.2.2]/\su G p2 D k.1.χ/\su G p3 C k.2.1.χ) M.m (u 57)/\True/\True from a);simp only[υ,ak];exact⟨_,O' z z,p2,D,z,aK⟩
   refine γ.nq (kk:=57) (φ:=Ï k.2.1) İ (λ_=>z) (λv d e g h=>?_) (λu M g a=>?_) ?_
   .obtain⟨p5,cM,rfl,cu⟩:=h;exact⟨_,_,z,cu.mono g⟩
   .obtain⟨_,⟨p2,D,p3,C,ak,aK,aJ⟩,_,_⟩:=(show True/\(λG v=>∃p2 D p3 C,v=.tuple #[.agg ((θ k.1 p2 D)).toArray,.agg ((θ k.2.1 p3 C)).toArray,i' k.2.2]/\su G p2 D k.1.χ/\su G p3 C k.2.1.χ) M.m (u 57)/\True/\True from a);exact⟨_,_,ak,(by simp only[υ,ak]<;>rfl),z,p3,C,z,aJ⟩
   refine nh (c:=i' k.2.2) (λ_=>z) (λu M g a=>?_) ?_
   .obtain⟨_,_,⟨p2,D,p3,C,ak,aK,aJ⟩,_,_⟩:=(show True/\True/\(λG v=>∃p2 D p3 C,v=.tuple #[.agg ((θ k.1 p2 D)).toArray,.agg ((θ k.2.1 p3 C)).toArray,i' k.2.2]/\su G p2 D k.1.χ/\su G p3 C k.2.1.χ) M.m (u 57)/\True/\True from a);simp only[υ,ak];exact O' z z
   refine lr (λ_=>z) vP<|lr (λ_=>z) vP<|γ.nz (λdS dT dm dG dv dC X1 aU b0 aA ba bF bD bK=>?_)
   obtain⟨p5,cM,rfl,cu⟩:=ba;obtain⟨p4,cS,rfl,bQ⟩:=bF;obtain⟨p2,D,p3,C,rfl,aK,aJ⟩:=bD;obtain⟨p,s,t,q,rfl,K,J⟩:=bK;refine vV b0 (λb5 cU dc=>?_);subst cU;replace aA:=GU aA ĳ dc;refine vV aA (λb4 dh dJ=>?_);subst dh;refine my (show WL _ _ _ _ _ _ (St w0 G0 X1.m _)from ?_);refine fY 10 vM z<|fY 11 vM z<|dE z<|t'<|Κ<|b'<|fN [ff,ff,ff,ff,ff,ff,ff,ff,ff] eP İ λhb=>?_
   refine é ?_;intro _ _ co _ _ _ _ _ _ _ _ _ _ _ hr _;obtain⟨c8,dd,cT,bV⟩:=GV (T' (se (nT (se (nT (iN x co))))) (mx (mx (mx (mx A y) I) L) aU));refine cn (λ_ g=>nf _ mP z z (λj v N=>g _ _ _ (cT j v N)))<|cn (λ_ g=>y' 10 mP z z z)<|oE hr λbZ ce hr=>qK (post:=Ï bZ) (λ_=>z) (λ_ _=>x' wP z) (M3.h ce) z (λM g=>⟨(bV.mono g),(bQ.mono g)⟩) (λv d e g h=>?_) ?_
   .obtain⟨bq,bt,rfl,an⟩:=h;exact⟨_,_,z,an.mono g⟩
   exact Ι
  exact Ι
 rintro bw ⟨bv,ap,ao⟩ hr av bG;refine b'<|sr<|Γ (y' 3 mP z z z)<|Γ (y' 4 mP z z z)<|oE hr λc2 cE hr=>gw z z (x' IS z) (ie'.h cE) z (⟨(aI.mono av),bG⟩) (λdx cm aX bI=>?_)
 obtain⟨aE,az,aw,aC,rfl,ad,ah⟩:=bI;refine η z<|kr z<|kr z<|W' 13 z rE z λb3=>fY 13 ke z<|Μ z<|WC.nA hr [0,13] [] (λ(⟨a8,W,T,U,V⟩:Zf×ŀ Addr×Nat×ŀ Addr×Nat)=>⟨[],Jz Z a8,λa2=>su a2 W T a8.num.χ/\su a2 U V a8.den.χ,[(13,ü b3 (Υ a8 W T U V) 120)]⟩)
instance iE'{i r}:SpcM ((Kv i)) r (Cr 230 #[.agg (Ø i).toArray] (λG=>True) (λG v=>v=i' r)):=.mk λhr=>by refine Ο ?_;intro m h _ l hr _;refine WC.mA hr [1] [1] [] [] (λ(⟨f,e⟩:Int×Int)=>⟨(f,e),[(3,i' f),(4,i' e)],tr,[]⟩) (λ(k:Int)=>⟨k,[(3,i' k)],tr,[]⟩) ⟨0,0⟩
instance eP'{k r}:SpcM ((xf k)) r (∀{h g},Cr 153 #[δ h k g] (λG=>sl c' G h g k) (λG v=>v=i' r)):=.mk λhr {h g}=>by refine Ο ?_;intro s f _ hr _;refine WC.mA hr [0] [] [] [] (λ(⟨e,l⟩:Int×Int)=>⟨(e,l),[(3,i' e),(4,i' l)],tr,[]⟩) (λ(o:Int)=>⟨o,[(3,i' o)],tr,[]⟩) ⟨(-1),0⟩
instance hB'{p n r}:SpcM ((Lz p n)) r (∀{j g h f},Cr 218 #[.agg ((θ p j g)).toArray,.agg ((θ n h f)).toArray] (λG=>su G j g p.χ/\su G h f n.χ) (λG v=>v=.bool r)):=.mk λhr {j g h f}=>by refine Ο ?_;intro y l _ _ _ A u _ _ hr _;refine WC.mA hr [2,3] [2,3] [] [] (λ(o:Int)=>⟨o,[(5,i' o)],tr,[]⟩) (λ(_:Unit)=>⟨(.inr ()),[],tr,[]⟩) 0
instance hC'{l k r}:SpcM ((Bg l k)) r (∀{j f h g i d c e},Cr 140 #[.agg ((Υ l j f h g)).toArray,.agg ((Υ k i d c e)).toArray] (λG=>su G j f l.num.χ/\su G h g l.den.χ/\su G i d k.num.χ/\su G c e k.den.χ) (λG v=>v=.bool r)):=.mk λhr {j f h g i d c e}=>Ι
instance hU'{l k r}:SpcM ((Ez l k)) r (∀{j h g f i d c e},Cr 79 #[.agg (((Υ l.c j h g f):Ŀ Value)++(Ø l.m)).toArray,.agg (((Υ k.c i d c e):Ŀ Value)++(Ø k.m)).toArray] (λG=>su G j h l.c.num.χ/\su G g f l.c.den.χ/\su G i d k.c.num.χ/\su G c e k.c.den.χ) (λG v=>v=.bool r)):=.mk λhr {j h g f i d c e}=>Ι
instance eU'{C x r}:SpcM ((tX C x)) r (∀{p o s m},Cr 33 #[δ p C o,δ s x m] (λG=>sl c' G p o C/\sl c' G s m x) (λG v=>v=.bool r)):=.mk λhr {p o s m}=>by refine Ο ?_;intro R l _ _ _ _ hr _;refine WC.mA hr [0,1] [] [] [] (λ(H:Int)=>⟨H,[(5,i' H)],tr,[]⟩) (λ(_:Unit)=>⟨(.inr ()),[],tr,[]⟩) 0
instance fQ'{o m r}:SpcM ((xH o m)) r (Cr 204 #[.agg (Ø o).toArray,.agg (Ø m).toArray] (λG=>True) (λG v=>v=i' r)):=.mk λhr=>by refine Ο ?_;intro s f _ t p hr _;refine WC.mA hr [2,3] [2,3] [] [] (λ(h:Int)=>⟨h,[(5,i' h)],tr,[]⟩) (λ(_:Unit)=>⟨(.inr ()),[],tr,[]⟩) 0
instance ig'{q k r}:SpcM ((Mf q k)) r (∀{h f g e},Cr 289 #[.agg ((θ q h f)).toArray,.agg ((θ k g e)).toArray] (λG=>su G h f q.χ/\su G g e k.χ) (λG v=>v=i' r)):=.mk λhr {h f g e}=>by
 refine é ?_;intro _ _ _ _ _ _ _ hr _;refine o'<|sr<|Γ (BG z)<|Ð hr z (lB (n' 2 q6 z z z) (đ Value.bool (me _))) z (λE hr=>?_) (λE hr=>?_)
 .refine η z<|gy z z (BG z) z<|gy z z (n' 3 q6 z z z) z<|gy z z (gS z) z<|Β z<|nx<|iS hr z (λx hr=>?_) (λx hr=>?_)
  .exact Ι
  refine q'<|b'<|o'<|sr<|Γ (BG z)<|Ð hr z (lB (n' 2 q6 z z z) (đ Value.bool (me _))) z (λC hr=>?_) (λC hr=>?_)
  .exact Ι
  exact Ι
 refine η z<|fh z<|ν z<|nx<|qO z<|q'<|b'<|o'<|sr<|Γ (BG z)<|Ð hr z (lB (n' 2 q6 z z z) (đ Value.bool (me _))) z (λF hr=>?_) (λF hr=>?_)
 .exact Ι
 exact Ι
instance gU'{p o r}:SpcM ((vF p o)) r (∀{l g j i k e c f},Cr 282 #[.agg ((Υ p l g j i)).toArray,.agg ((Υ o k e c f)).toArray] (λG=>su G l g p.num.χ/\su G j i p.den.χ/\su G k e o.num.χ/\su G c f o.den.χ) (λG v=>v=i' r)):=.mk λhr {l g j i k e c f}=>Ι
instance ih'{i h r}:SpcM ((Ge i h)) r (∀{k n l m},Cr 215 #[δ k i n,δ l h m] (λG=>sl c' G k n i/\sl c' G l m h) (λG v=>v=i' r)):=.mk λhr {k n l m}=>by refine Ο ?_;intro w0 H _ _ _ hr _;refine WC.mA hr [0,1] [] [0,1] [] (λ(o:Int)=>⟨o,[(5,i' o)],tr,[]⟩) (λ(_:Unit)=>⟨(.inr ()),[],tr,[]⟩) 0
instance gV'{p u r}:SpcM ((E8 p u)) r (∀{n o},Cr 134 #[δ n p o,.bool u] (λG=>sq G n o p) (fS (Rp.sl c') r)):=.mk λhr {n o}=>by
 refine Ο ?_;intro T S K p1 R _ ax hr _;refine WC.mC hr [0,1] [] [] [] (λ(⟨g,i,h,j⟩:(Ŀ (Ŀ Za))×ŀ Addr×Nat×Int)=>⟨(g,j),[(5,δ i g h),(6,i' j)],λJ=>sq J i h g,[]⟩) (λ(⟨C,H,E⟩:(Ŀ (Ŀ Za))×ŀ Addr×Nat)=>⟨C,[(5,δ H C E)],λM=>sq M H E C,[]⟩) ⟨[],p1,0,0⟩ ?_;rintro _ J ⟨g,i,h,j⟩ k f hr;refine Ο ?_;intro _ _ _ _ _ _ _ _ _ _ s P d x t v hr _;refine WC.mB hr [0,1,5,6,7] [] [0,1,5,6,7] [] (λ(y:Int)=>⟨y,[(8,i' y)],tr,[]⟩) (λ(q:Int)=>⟨q,[(8,i' q)],tr,[]⟩) 0 ?_;intro m q hr c _;refine b'<|WC.nD hr [0,1,5,6,7,8] [] (λ(_:Unit)=>⟨[],tV g j s q,tr,[]⟩) ?_ ?_
 .refine sr<|η z<|Γ (P' Q' (v.mono c) z)<|Ð hr z (eB z z) z (λl hr=>?_) (λl hr=>?_)
  .exact η z<|wz z<|î (M' z z) z<|î (M' z z) z<|î (M' z z) z<|sf z z z<|Β z<|η z<|gK z<|î (M' z z) z<|î (M' z z) z<|î (M' z z) z<|î (M' z z) z<|î (M' z z) z<|î (M' z z) z<|sf z z z<|Β z<|nx<|kC z<|Ι
  refine Ο ?_;intro _ _ hr _;exact î (M' z z) z<|î (M' z z) z<|î (M' z z) z<|î (M' z z) z<|î (M' z z) z<|î (M' z z) z<|sf z z z<|Β z<|nx<|kC z<|Ι
 intro Q _ hr A _;refine Ο ?_;intro _ _ F V hr;refine oA hr λa hr=>WL.uZ (r:=(Rp.sl c')) z z jT pK z (f.mono (mx (mx (mx d c) A) F)) z z a (λp4 a1 O=>?_);exact oA hr λB hr=>jU (r:=(Rp.sl c')) 2067 z z jT jA z ĳ z z V z (by rw[K];rfl) la O B λp5 aX aW a0 L e aU=>Μ z<|w'<|η z<|η z<|η z<|oA hr λN hr=>WL.slice3 (r:=(Rp.sl c')) z z jT pK z (f.mono (mx (mx (mx (mx d c) A) F) L)) z z z N λp6 I=>η z<|oA hr λD hr=>jU (r:=(Rp.sl c')) 2073 z z jT jA z ĳ z z I z (by rw[K];rfl) la e D λp7 X Y W U ar Z=>Ι
instance GN{q r}:SpcM ((ZX q)) r (Cr 90 #[i' q] (λG=>True) (er r)):=.mk λhr=>Ι
instance gC'{h r}:SpcM ((Ey h)) r (∀{g c d f},Cr 133 #[.agg ((Υ h g c d f)).toArray] (λG=>su G g c h.num.χ/\su G d f h.den.χ) (fS c' r)):=.mk λhr {g c d f}=>Ι
instance ov{g r}:SpcM ((K9 g)) r (∀{e d},Cr 288 #[.agg ((θ g e d)).toArray] (λG=>su G e d g.χ) (λG v=>v=.bool r)):=.mk λhr {e d}=>Ι
instance gx'{g r}:SpcM ((ug g)) r (∀{f e d c},Cr 231 #[.agg ((Υ g f e d c)).toArray] (λG=>su G f e g.num.χ/\su G d c g.den.χ) (λG v=>v=.bool r)):=.mk λhr {f e d c}=>Ι
instance gy'{q r}:SpcM ((AV q)) r (∀{o n},Cr 154 #[δ o q n] (λG=>sl c' G o n q) (λG v=>v=.bool r)):=.mk λhr {o n}=>by refine Ο ?_;intro O p _ hr _;refine WC.mA hr [0] [] [] [] (λ(m:Int)=>⟨m,[(3,i' m)],tr,[]⟩) (λ(_:Unit)=>⟨(.inr ()),[],tr,[]⟩) 0
instance jf'{i r}:SpcM ((Mh i)) r (Cr 290 #[i' i] (λG=>True) (λG v=>v=.int .u8 r)):=.mk λhr=>by refine Ο ?_;intro k g _ hr _;refine WC.mA hr [0] [] [] [] (λ(⟨e,h⟩:Int×Int)=>⟨(e,h),[(3,i' e),(4,i' h)],tr,[]⟩) (λ(j:Int)=>⟨j,[(3,i' j)],tr,[]⟩) ⟨1,0⟩
instance ir'{j r}:SpcM ((Kj j)) r (Cr 233 #[.agg (Ø j).toArray] (λG=>True) (λG v=>v=.int .u8 r)):=.mk λhr=>by refine Ο ?_;intro p f _ m hr _;refine WC.mA hr [1] [1] [] [] (λ(⟨e,h⟩:Int×Int)=>⟨(e,h),[(3,.int .u8 e),(4,i' h)],tr,[]⟩) (λ(k:Int)=>⟨k,[(3,.int .u8 k)],tr,[]⟩) ⟨0,0⟩
instance gE'{l r}:SpcM ((Bi l)) r (∀{i h},Cr 155 #[δ i l h] (λG=>sl c' G i h l) (λG v=>v=.int .u8 r)):=.mk λhr {i h}=>by refine Ο ?_;intro s g _ hr _;refine WC.mA hr [0] [] [] [] (λ(⟨d,m⟩:Int×Int)=>⟨(d,m),[(3,.int .u8 d),(4,i' m)],tr,[]⟩) (λ(f:Int)=>⟨f,[(3,.int .u8 f)],tr,[]⟩) ⟨0,0⟩
instance gk'{h m r}:SpcM ((yS h m)) r (∀{e d},Cr 213 #[δ e h d,i' m] (λG=>sl c' G e d h) (λG v=>v=.bool r)):=.mk λhr {e d}=>Ι
instance ii'{k n r}:SpcM ((Gi k n)) r (∀{i h},Cr 132 #[δ i k h,i' n] (λG=>sq G i h k) (λG v=>v=.bool r)):=.mk λhr {i h}=>by refine Ο ?_;intro s f _ hr _;refine WC.mA hr [0,1] [] [] [] (λ(j:Int)=>⟨j,[(5,i' j)],tr,[]⟩) (λ(_:Unit)=>⟨(.inr ()),[],tr,[]⟩) 0
instance gW'{l y p r}:SpcM ((Fb l y p)) r (∀{L M s t},Cr 74 #[i' l,δ L y M,δ s p t] (λG=>sq G L M y/\sq G s t p) (l8 r)):=.mk λhr {L M s t}=>by
 refine é ?_;intro w0 G0 _ R V a hr _;refine aL' hr (λ(⟨J,g,f,d,c,S⟩:Zb×ŀ Addr×Nat×ŀ Addr×Nat×Mem)=>⟨[(0,i' l),(1,δ L y M),(2,δ s p t),(6,iJ a)],Qa l y p,Mem.le G0 S/\sq S g f J.eqs/\sq S d c J.ε,St w0 G0 S [(6,ü a (ñ J g f d c) 48)]⟩) ?_ ?_
 .refine Ο ?_;intro _ _ _ _ hr _;refine pG ⟨(Zb.mk 0 [] []),none,0,none,0,G0⟩ ⟨hr,mr,(X' _ _),(X' _ _)⟩ (Ç z) (w1 z)
 rintro⟨J,g,f,d,c,S⟩ ⟨hr,u,aT,aH⟩;refine Ο ?_;intro _ _ x a2 hr;refine oA hr λO hr=>jU (r:=(Rp.sl c')) 2032 z z jT jA z ĳ z z a2 z (by rw[R];rfl) la (V.mono (mx u x)) O λp2 a7 Z q C a4 P=>Μ z<|o'<|sr<|Μ z<|nG (X:=(Ŀ (Ŀ Za))×ŀ Addr×Nat×ŀ Ow×Int×Mem) hr (λ⟨h,m,o,k,F,I⟩=>⟨(h,F),[(0,i' l),(2,δ s p t),(6,iJ a),(8,δ m h o),(9,i' F)],Mem.le q I/\sq I m o h/\Tok 1 50 (δ m h o) h.length k,St w0 G0 I [(6,ü a (ñ J g f d c) 48),(1008,k)]⟩) (λ(⟨A,B,D,E,e⟩:(Ŀ (Ŀ Za))×ŀ Addr×Nat×ŀ Ow×Mem)=>⟨A,[(0,i' l),(2,δ s p t),(6,iJ a),(8,δ B A D)],Mem.le q e/\sq e B D A/\Tok 1 50 (δ B A D) A.length E,St w0 G0 e [(6,ü a (ñ J g f d c) 48),(1008,E)]⟩) ⟨([]++y),p2,a7,Z,0,q⟩ z (Ç z) ⟨mr,a4,P⟩ ?_ ?_ ?_
 .intro w v;have v:=v.Þ (i:=2032) (j:=1008) z (by rw[R];rfl);exact v.weaken (lc z (lc z ln))
 .rintro _ ⟨h,m,o,k,F,I⟩ ⟨n,K,H⟩ hr;refine Ο ?_;intro _ _ _ _ _ _ _ _ _ _ _ _ _ _ Y _ _ _ _ _ _ Q _ W _ _ _ _ _ N aX hr _;refine oA hr λT hr=>jU (r:=(Rp.sl c')) 1008 z z jT jA z ĳ z z (K.mono (mx (mx Y W) N)) z (by rw[R];rfl) H aX T λp5 aU aS aY ap a8 U=>dE z<|t'<|E'<|b'<|w'<|η z<|iT z<|dE z<|t'<|N' ⟨(h++[Q]),p5,aU,aS,i64.wrap (F+1),aY⟩ hr ⟨(mx (mx (mx (mx n Y) W) N) ap),a8,U⟩ (Ç z) (w2 z z)
 rintro⟨A,B,D,E,e⟩ ⟨hr,ar,av,aW⟩;exact Ι
instance gO'{c r}:SpcM ((Ji c)) r (Cr 131 #[.agg (Ø c).toArray] (λG=>True) (λG v=>v=.bool r)):=.mk λhr=>by
 refine Ο ?_;intro s g _ o y hr _;refine A' 3 z wD z z z (U' _ _ _) (U' _ _ _) (λu t=>Rp.one (Rp.DO 8) (G:=g) (x:=(λ_=>false)) (cs:=ö Value.bool 8 (λ_=>false)) z u (by first|simpa using t|simpa[Value.cells]using t))<|nx<|o'<|sr<|Μ z<|WC.mA hr [1,3] [1] [] [] (λ(⟨h,d⟩:Int×(Fin 8->Bool))=>⟨(h,d),[(4,i' h)],tr,[(3,ü y (ö Value.bool 8 d) 143)]⟩) (λ(_:Unit)=>⟨(.inr ()),[],tr,[]⟩) ⟨0,(λ_=>false)⟩
instance iM'{d c r}:SpcM ((S3 d c)) r (∀{y B v A},Cr 306 #[δ y d B,δ v c A] (λG=>su G y B d/\su G v A c) (fS (Rp.int .u32) r)):=.mk λhr {y B v A}=>by
 refine Ο ?_;intro T x _ U _ _ D M V hr _;refine WC.mB hr [0,1,5,6] [] [6] [] (λ(⟨j,g,f,u⟩:(Ŀ Int)×ŀ Ow×Int×Int)=>⟨(j,f,u),[(7,.int .u64 f),(8,i' u)],λl=>Ε (Rp.int .u32) 248 l (.slice D (i64.wrap ((if(d.length:Int)<(c.length:Int)then(c.length:Int)else(d.length:Int))+1)).toNat ((i64.wrap ((if(d.length:Int)<(c.length:Int)then(c.length:Int)else(d.length:Int))+1)).toNat)) j g,[(4017,g)]⟩) (λ(⟨o,k⟩:(Ŀ Int)×ŀ Ow)=>⟨o,[],λq=>Ε (Rp.int .u32) 248 q (.slice D (i64.wrap ((if(d.length:Int)<(c.length:Int)then(c.length:Int)else(d.length:Int))+1)).toNat ((i64.wrap ((if(d.length:Int)<(c.length:Int)then(c.length:Int)else(d.length:Int))+1)).toNat)) o k,[(4017,k)]⟩) ⟨(List.replicate (i64.wrap ((if(d.length:Int)<(c.length:Int)then(c.length:Int)else(d.length:Int))+1)).toNat 0),M,0,0⟩ ?_;rintro q ⟨o,k⟩ hr Y E;refine b'<|sr<|η z<|pS (r:=(Rp.int .u32)) (e:=248) 4017 E z (by rw[U];rfl) (λp af h C Z=>?_)
 refine oE hr λs P hr=>gw z z (x' rN z) (BX.h P) (by rw[qT C]) ((rF C)) (λi F a t=>?_);obtain⟨n,m,rfl,L⟩:=t;refine Μ z<|m' ?_
 obtain rfl:_=r:=hr;exact j' z z ⟨_,_,z,L⟩
instance ht'{h D r}:SpcM ((La h D)) r (∀{y B v A},Cr 308 #[δ y h B,δ v D A] (λG=>su G y B h/\su G v A D) (fS (Rp.int .u32) r)):=.mk λhr {y B v A}=>by
 refine Ο ?_;intro T x _ U _ _ E M V hr _;refine WC.mB hr [0,1,5] [] [5] [] (λ(⟨j,g,c,u⟩:(Ŀ Int)×ŀ Ow×Int×Int)=>⟨(j,c,u),[(6,.int .u64 c),(7,i' u)],λl=>Ε (Rp.int .u32) 248 l (.slice E (h.length:Int).toNat ((h.length:Int).toNat)) j g,[(4011,g)]⟩) (λ(⟨o,k⟩:(Ŀ Int)×ŀ Ow)=>⟨o,[],λs=>Ε (Rp.int .u32) 248 s (.slice E (h.length:Int).toNat ((h.length:Int).toNat)) o k,[(4011,k)]⟩) ⟨(List.replicate (h.length:Int).toNat 0),M,0,0⟩ ?_;rintro s ⟨o,k⟩ hr Z F;refine b'<|sr<|η z<|pS (r:=(Rp.int .u32)) (e:=248) 4011 F z (by rw[U];rfl) (λp n f C a=>?_)
 refine oE hr λq P hr=>gw z z (x' rN z) (BX.h P) (by rw[qT C]) ((rF C)) (λi H d t=>?_);obtain⟨m,af,rfl,L⟩:=t;refine Μ z<|m' ?_
 obtain rfl:_=r:=hr;exact j' z z ⟨_,_,z,L⟩
instance jg'{L K r}:SpcM ((Uz L K)) r (∀{j g l k},Cr 262 #[.agg ((θ L j g)).toArray,.agg ((θ K l k)).toArray] (λG=>su G j g L.χ/\su G l k K.χ) (Ï r)):=.mk λhr {j g l k}=>Ι
instance gX'{t s r}:SpcM ((vE t s)) r (∀{m o e k l n g j},Cr 205 #[.agg ((Υ t m o e k)).toArray,.agg ((Υ s l n g j)).toArray] (λG=>su G m o t.num.χ/\su G e k t.den.χ/\su G l n s.num.χ/\su G g j s.den.χ) (er r)):=.mk λhr {m o e k l n g j}=>by
 refine J' (args:=[_,_]) (N:=22) func205 z z z (λw0 G0 aA ak=>?_);obtain⟨I,A,J,y⟩:=ak;refine sr<|jO 2 z z z λb2=>jO 3 z z z λb3=>W' 4 z rE z λb4=>nx<|o'<|fN [ff,ff,ff,ff,ff,ff,ff,ff,ff,ff,ff,ff,ff,ff,ff] eP İ λhb=>cn (λ_ c=>xO z)<|cn (λ_ c=>R' ((θ t.num m o)).toArray 2 mP z z z (jh ([]) ((θ t.num m o)) ((θ t.den e k))))<|cn (λ_ c=>BH z) ?_
 refine é ?_;intro V _ U hr _;refine oE hr λa aj hr=>mo (f:=262) (φ:=Ï a) (λ_=>z) (λv G1 G2 c h=>?_) (λu W c hu=>?_) ?_
 .obtain⟨T,Q,rfl,x⟩:=h;exact⟨_,_,z,x.mono c⟩
 .obtain⟨⟨C,E,Z,q⟩,⟨D,B,ac,p⟩,_⟩:=(show(Ï U) W.m (u 14)/\(Ï V) W.m (u 9)/\True from hu);exact⟨_,_,_,λ_=>x' IN z,jg'.h aj,(by simp only[Z,ac]<;>rfl),⟨p,q⟩⟩
 refine Ο ?_;intro hr;refine zO (d:=15) (post:=Ï a) (d':=14) (post':=Ï U) (d'':=9) (post'':=Ï V) (λar av aw aC K R S M=>?_);obtain⟨T,Q,rfl,x⟩:=R;obtain⟨C,E,rfl,q⟩:=S;obtain⟨D,B,rfl,p⟩:=M;refine oE hr λay af hr=>gw z z (x' wP z) (M3.h af) z (⟨(A.mono K),(y.mono K)⟩) (λau az ab O=>?_);obtain⟨al,am,rfl,L⟩:=O;refine oE hr λaD ai hr=>gw z z (x' IM z) (fp'.h ai) z (⟨(x.mono ab),L⟩) (λaq aB ap P=>?_);obtain⟨ad,X,Y,aa,rfl,F,H⟩:=P;refine fY 4 ke z<|t'<|Κ<|b'<|m' ?_
 obtain rfl:_=r:=hr;exact j' z (kL (i:=4) mn z z z) ⟨_,_,_,_,z,F,H⟩
instance WW{D B r}:SpcM ((Br D B)) r (∀{M S P Q},Cr 119 #[δ M D S,δ P B Q] (λG=>sl c' G M S D/\sl c' G P Q B) (fS c' r)):=.mk λhr {M S P Q}=>by
 refine Ο ?_;intro w0 G0 _ q _ p1 aW _ bQ hr _;refine WC.mC (hH:=by exact⟨bQ,la⟩) hr [0,1] [] [] [] (λ(⟨E,R,L,K,V,C⟩:(Ŀ Za)×ŀ Addr×Nat×ŀ Ow×Int×Int)=>⟨(E,V,C),[(5,δ R E L),(6,i' V),(7,i' C)],λam=>sl c' am R L E/\Tok 12 147 (δ R E L) E.length K,[(1005,K)]⟩) (λ(⟨a,p,j,ap⟩:(Ŀ Za)×ŀ Addr×Nat×ŀ Ow)=>⟨a,[(5,δ p a j)],λaT=>sl c' aT p j a/\Tok 12 147 (δ p a j) a.length ap,[(1005,ap)]⟩) ⟨[],p1,0,none,0,0⟩ ?_;rintro _ am ⟨E,R,L,K,V,C⟩ d ⟨aA,ar⟩ hr;refine WC.nB hr [0,1,5,6,7] [1005] (λ(_:Unit)=>⟨[],xa D B E V C,tr,[]⟩) ?_;intro ak _ hr f _;refine Y'<|WC.nD hr [0,1,7] [] (λ(⟨U,Z,c,Y,T⟩:(Ŀ Za)×ŀ Addr×Nat×ŀ Ow×Int)=>⟨[(5,δ Z U c),(6,i' T)],AL D B C U T,λX=>sl c' X Z c U/\Tok 12 147 (δ Z U c) U.length Y,[(1005,Y)]⟩) ?_ ?_
 .refine WC.nD hr [0,1,5,6,7] [1005] (λ(t:Bool)=>⟨[(43,.bool t)],vv D B E V C t,tr,[]⟩) ?_ ?_
  .refine Ο ?_;intro _ _ hr;refine î (M' z z) z<|î (M' z z) z<|sf z z z<|Β z<|t'<|Κ<|pG ⟨ak,true⟩ ⟨hr,mr,trivial⟩ (Ç z) (w1 z)
  intro aR t hr F _;refine Ο ?_;intro _ x7 _ _ _ _ _ _ _ _ _ _ _ _ _ _ _ u bC hr _;refine oA hr λbp hr=>jU (r:=c') 1005 z z Q' lf z ĳ z z (aA.mono (mx (mx f F) u)) z (by rw[q];rfl) ar bC bp λp7 bZ bl bV a1 bI bs=>dE z<|nr<|η z<|iT z<|Μ z<|nH<|p'<|K'<|N' ⟨bV,(E++[x7]),p7,bZ,bl,i64.wrap (V+1),C⟩ hr ⟨(mx (mx (mx (mx d f) F) u) a1),bI,bs⟩ (Ç z) (w1 z)
 rintro X ⟨U,Z,c,Y,T⟩ hr n ⟨aO,aD⟩;refine WC.nD hr [0,1,6] [] (λ(⟨W,g,e,af,h⟩:(Ŀ Za)×ŀ Addr×Nat×ŀ Ow×Int)=>⟨[(5,δ g W e),(7,i' h)],Kw D B T W h,λv=>sl c' v g e W/\Tok 12 147 (δ g W e) W.length af,[(1005,af)]⟩) ?_ ?_
 .refine WC.nB hr [0,1,5,6,7] [1005] (λ(s:Bool)=>⟨[(70,.bool s)],AK D B C U T s,tr,[]⟩) ?_;intro aU s hr A _;refine Ο ?_;intro _ x4 _ _ _ _ _ _ _ _ _ _ _ _ _ _ _ x bH hr _;refine oA hr λbt hr=>jU (r:=c') 1005 z z Q' lf z ĳ z z (aO.mono (mx A x)) z (by rw[q];rfl) aD bH bt λp5 bB bz bY aY bX bu=>dE z<|nr<|η z<|iT z<|Μ z<|nH<|p'<|K'<|N' ⟨bY,(U++[x4]),p5,bB,bz,T,i64.wrap (C+1)⟩ hr ⟨(mx (mx (mx (mx (mx d f) n) A) x) aY),bX,bu⟩ (Ç z) (w1 z)
 rintro v ⟨W,g,e,af,h⟩ hr O ⟨aQ,aF⟩;refine o'<|fN [ff,ff,ff,ff,ff,ff,ff,ff,ff,ff,ff,ff] eP İ λhb=>fO z<|fO z ?_
 refine é ?_;intro _ _ _ _ _ _ _ _ _ _ _ _ _ _ _ _ _ _ _ _ _ _ _ _ _ _ _ _ _ _ J hr _;refine lr (λ_=>z) rE<|γ.ny (λcg b9 X1 N aX aV=>?_)
 obtain⟨b1,rfl,bn⟩:=aX;obtain⟨m,l,i,k,rfl,I,H⟩:=aV;refine pT bn (my (show WL _ _ _ _ _ _ (St w0 G0 X1.m _)from ?_));refine fY 8 ke z<|t'<|Κ<|b'<|o' ?_
 refine é ?_;intro _ hr _;refine I' hr z (λb3 hr=>?_) (λb3 hr=>?_)
 .refine fN [tt,ff,ff,ff,ff,ff,ff] eP İ λhb=>?_;refine é ?_;intro x3 _ _ _ _ _ _ _ _ _ _ _ _ _ _ _ y bR hr _;refine oA hr λbm hr=>jU (r:=c') 1005 z z Q' lf z ĳ z z (aQ.mono (mx N y)) z (by rw[q];rfl) aF bR bm λp3 bJ bk bE aZ bS bo=>dE z<|t'<|Κ<|b'<|sr<|η z<|iT z<|Μ z<|w'<|η z<|iT z<|dE z<|t'<|E'<|N' ⟨bE,(W++[(Za.mk J x3.m)]),p3,bJ,bk,i64.wrap (T+1),i64.wrap (h+1)⟩ hr ⟨(mx (mx (mx (mx (mx (mx d f) n) O) N) y) aZ),bS,bo⟩ (Ç z) (w1 z)
 exact Ι
instance fW'{S i r}:SpcM ((AA S i)) r (∀{J I},Cr 73 #[δ J S I,.agg (Ø i).toArray] (λG=>sl c' G J I S) (iB c' r)):=.mk λhr {J I}=>by
 refine Ο ?_;intro Z Y K ag R _ _ p2 V q ay hr _;refine WC.mC hr [0,3] [3] [] [] (λ(⟨o,m,l,Q⟩:(Ŀ Za)×ŀ Addr×Nat×Int)=>⟨(o,Q),[(6,δ m o l),(7,i' Q)],λp=>sl c' p m l o,[]⟩) (λ(⟨C,D,B⟩:(Ŀ Za)×ŀ Addr×Nat)=>⟨C,[(6,δ D C B)],λO=>sl c' O D B C,[]⟩) ⟨[],p2,0,0⟩ ?_;rintro _ p ⟨o,m,l,Q⟩ k P hr;refine Ο ?_;intro _ u hr;refine WC.mD hr [0,3,6,7,8] [3] [0,3,6,7,8] [3] (λ(⟨L,A⟩:Int×(Fin 8->Int))=>⟨(L,A),[(9,i' L)],tr,[(8,ü u (Ø A) 145)]⟩) (λ(n:(Fin 8->Int))=>⟨n,[],tr,[(8,ü u (Ø n) 145)]⟩) ⟨0,(λ_=>0)⟩ ?_ ?_
 .rintro _ F ⟨L,A⟩ y _ hr;refine o'<|sr<|η z<|ku z<|nx<|I' hr z (λaz hr=>?_) (λaz hr=>?_)
  .refine q'<|b'<|o'<|Y'<|fN [ff,ff,ff,ff,ff,ff,ff,ff,ff,ff] eP İ λa=>fO z<|oA hr λx hr=>cn (λ_ h=>V0 GF jZ z z x) ?_
   refine é ?_;intro x2 _ N _ _ _ _ _ _ _ _ _ _ _ _ hr X;exact cn (λ_ h=>nF dN z (GO (T' (T' (xP (nT (iN K N))) (mx (mx q k) y)) h) X))<|pF a<|oA hr λaw hr=>Γ (V0 aM' jZ z z aw)<|rp 8 (Ø (ζ A ((Θ i L).toNat) (Θ x2.m L))).toArray z jZ z z z (by first|(rw[U'];omega)|(show _<(ö _ _ _).toArray.size;rw[U'];omega)) z (cY' _ _ _ _ _)<|Ι
  exact Ι
 intro U n hr t _;refine b'<|fN [tt,ff,ff,ff,ff,ff,ff] eP İ λa=>uA z (k' z)<|fO z<|fO z<|oE hr λs af hr=>cn (λ_ h=>ki Q' bB' ((K.mono (mx (mx q k) t)).mono h) z z af)<|cn (λ_ h=>oo z) ?_
 obtain⟨g,d,f,c,au,E,H⟩:=pH (T' (se (nT (iN K af))) (mx (mx q k) t));refine cn (λ_ h=>nf _ mn z z (λj v hv=>h _ _ _ (au j v hv)))<|cn (λ_ h=>y' 8 GH z z (U' _ _ _))<|pF a<|Γ (ma (vs:=#[(0,.agg ((Υ s.c g d f c)).toArray),(1,.agg (Ø n).toArray)]) (v:=.agg (((Υ s.c g d f c):Ŀ Value)++(Ø n)).toArray) z z (λ_=>İ))<|nb (e:=147) (r:=c') (vs:=#[(0,.agg (((Υ s.c g d f c):Ŀ Value)++(Ø n)).toArray)]) (cs:=(((Υ s.c g d f c):Ŀ Value)++(Ø n))++([])) ([(Za.mk s.c n)]:Ŀ Za) z z z z z ĳ (λ_=>İ) ⟨((Υ s.c g d f c):Ŀ Value)++(Ø n),[],z,⟨(Υ s.c g d f c),Ø n,z,⟨(θ s.c.num g d),(θ s.c.den f c),z,⟨[.bool s.c.num.neg],[δ g s.c.num.χ d],z,z,⟨_,z,E⟩⟩,⟨[.bool s.c.den.neg],[δ f s.c.den.χ c],z,z,⟨_,z,H⟩⟩⟩,z⟩,z⟩ (key:=999) z (by rw[ag];rfl) (λp3 aG M ax=>?_)
 refine oE hr λao ah hr=>gw z z (x' zV z) (WW.h ah) z (⟨(P.mono (mx t M)),ax⟩) (λaE ap W T=>?_);obtain⟨aj,ak,rfl,am⟩:=T;exact Ι
instance fE'{y Y r}:SpcM ((ED y Y)) r (∀{k l j g},Cr 30 #[.agg ((ñ y k l j g)).toArray,.agg (Ø Y).toArray] (λG=>sq G k l y.eqs/\sq G j g y.ε) (u6 r)):=.mk λhr {k l j g}=>by
 refine Ο ?_;intro w0 G0 _ af _ b1 b2 b3 p1 _ _ bv p2 aQ o bx hr _;refine WC.mD (hH:=by exact⟨(bv.mono o),la⟩) hr [2,3,4,6] [2,3,4] [2,3,4,6] [2,3,4] (λ(⟨t,L,F,M,ah⟩:(Ŀ (Ŀ Za))×ŀ Addr×Nat×ŀ Ow×Int)=>⟨(t,ah),[(5,δ L t F),(7,i' ah)],λar=>sq ar L F t/\Tok 1 50 (δ L t F) t.length M,[(1005,M)]⟩) (λ(⟨x,B,A,q⟩:(Ŀ (Ŀ Za))×ŀ Addr×Nat×ŀ Ow)=>⟨x,[(5,δ B x A)],λae=>sq ae B A x/\Tok 1 50 (δ B x A) x.length q,[(1005,q)]⟩) ⟨[],p1,0,none,0⟩ ?_ ?_
 .rintro _ ar ⟨t,L,F,M,ah⟩ P ⟨aF,au⟩ hr;refine o' ?_;refine é ?_;intro hr;refine I' hr z (λbu hr=>?_) (λbu hr=>?_)
  .refine q'<|b'<|o'<|Y'<|o'<|fN [ff,ff,ff,ff,ff,ff,ff,ff,ff,tt] eP İ λhb=>cn (λ_ f=>Nc z)<|cn (λ_ f=>n' 2 jY z z z) ?_
   refine é ?_;intro _ _ _ _ _ _ _ _ _ n hr _;refine kq (φ:=iB c' n) (λ_=>z) (λv G1 G2 f h=>?_) (λu Q f a=>?_) ?_
   .obtain⟨p9,N,rfl,i⟩:=h;exact⟨_,_,z,i.mono f⟩
   .obtain⟨⟨aa,ac,a5,E⟩,_⟩:=(show(iB c' n) Q.m (u 31)/\True from a);simp only[υ,a5];exact⟨_,k' z,aa,ac,z,E⟩
   refine kq (φ:=fS c' n.1) (λ_=>z) (λv G1 G2 f h=>?_) (λu Q f a=>?_) ?_
   .obtain⟨C,X,rfl,aw⟩:=h;exact⟨_,_,z,aw.mono f⟩
   .obtain⟨⟨p9,N,aj,i⟩,_,_⟩:=(show(iB c' n) Q.m (u 24)/\True/\True from a);simp only[υ,aj];exact⟨_,O' z z,p9,N,z,i⟩
   refine nh (c:=i' n.2) (λ_=>z) (λu Q f a=>?_) ?_
   .obtain⟨_,⟨p9,N,aj,i⟩,_,_⟩:=(show True/\(iB c' n) Q.m (u 24)/\True/\True from a);simp only[υ,aj];exact O' z z
   refine zO (d:=32) (post:=fS c' n.1) (d':=24) (post':=iB c' n) (d'':=31) (post'':=iB c' n) (λbM bJ bK bT az aO aI aL=>?_);obtain⟨C,X,rfl,aw⟩:=aO;obtain⟨p9,N,rfl,i⟩:=aI;obtain⟨aa,ac,rfl,E⟩:=aL;refine dE z<|dE z<|t'<|Κ<|b'<|w'<|η z<|η z<|nb (e:=50) (r:=(Rp.sl c')) (vs:=#[(0,δ C n.1 X)]) (cs:=[δ C n.1 X]++([])) ([n.1]:Ŀ (Ŀ Za)) z z z z z ĳ (λ_=>İ) ⟨[δ C n.1 X],[],z,⟨_,z,aw⟩,z⟩ (key:=999) z (by rw[af];rfl) (λb0 bV ax bo=>?_)
   refine oA hr λbl hr=>jU (r:=(Rp.sl c')) 1005 z z jT jA z ĳ z z (aF.mono (mx az ax)) z (by rw[af];rfl) au bo bl λbC bp a1 bz a8 bh aW=>dE z<|t'<|E'<|b'<|w'<|η z<|iT z<|dE z<|t'<|N' ⟨bz,(t++[n.1]),bC,bp,a1,i64.wrap (ah+1)⟩ hr ⟨(mx (mx (mx P az) ax) a8),bh,aW⟩ (Ç z) (w4 z z z z)
  exact Ι
 rintro ae ⟨x,B,A,q⟩ hr S ⟨a7,bA⟩;refine b'<|o'<|sr<|Μ z<|WC.mC (hH:=by exact⟨(bx.mono S),la⟩) hr [2,3,4,5] [2,3,4,1005] [2,4,5] [2,4,1005] (λ(⟨s,O,K,I,T⟩:(Ŀ (Ŀ Za))×ŀ Addr×Nat×ŀ Ow×Int)=>⟨(s,T),[(6,δ O s K),(10,i' T)],λaq=>sq aq O K s/\Tok 1 50 (δ O s K) s.length I,[(1006,I)]⟩) (λ(⟨R,U,V,Z⟩:(Ŀ (Ŀ Za))×ŀ Addr×Nat×ŀ Ow)=>⟨R,[(6,δ U R V)],λaH=>sq aH U V R/\Tok 1 50 (δ U R V) R.length Z,[(1006,Z)]⟩) ⟨[],p2,0,none,0⟩ ?_
 rintro _ aq ⟨s,O,K,I,T⟩ H ⟨aE,an⟩ hr;refine o' ?_;refine é ?_;intro hr;refine I' hr z (λbG hr=>?_) (λbG hr=>?_)
 .refine q'<|b'<|o'<|Y'<|o'<|fN [ff,ff,ff,ff,ff,ff,ff,ff,ff,tt] eP İ λhb=>cn (λ_ f=>V6 z)<|cn (λ_ f=>n' 2 jY z z z) ?_
  refine é ?_;intro _ _ _ _ _ _ _ _ _ m hr _;refine kq (φ:=iB c' m) (λ_=>z) (λv G1 G2 f h=>?_) (λu Q f a=>?_) ?_
  .obtain⟨p4,D,rfl,p⟩:=h;exact⟨_,_,z,p.mono f⟩
  .obtain⟨⟨ad,W,aZ,J⟩,_⟩:=(show(iB c' m) Q.m (u 52)/\True from a);simp only[υ,aZ];exact⟨_,k' z,ad,W,z,J⟩
  refine kq (φ:=fS c' m.1) (λ_=>z) (λv G1 G2 f h=>?_) (λu Q f a=>?_) ?_
  .obtain⟨p5,ay,rfl,aS⟩:=h;exact⟨_,_,z,aS.mono f⟩
  .obtain⟨⟨p4,D,ai,p⟩,_,_⟩:=(show(iB c' m) Q.m (u 45)/\True/\True from a);simp only[υ,ai];exact⟨_,O' z z,p4,D,z,p⟩
  refine nh (c:=i' m.2) (λ_=>z) (λu Q f a=>?_) ?_
  .obtain⟨_,⟨p4,D,ai,p⟩,_,_⟩:=(show True/\(iB c' m) Q.m (u 45)/\True/\True from a);simp only[υ,ai];exact O' z z
  refine zO (d:=53) (post:=fS c' m.1) (d':=45) (post':=iB c' m) (d'':=52) (post'':=iB c' m) (λbN bL bO bS aG aK aM aP=>?_);obtain⟨p5,ay,rfl,aS⟩:=aK;obtain⟨p4,D,rfl,p⟩:=aM;obtain⟨ad,W,rfl,J⟩:=aP;refine dE z<|dE z<|t'<|Κ<|b'<|w'<|η z<|η z<|nb (e:=50) (r:=(Rp.sl c')) (vs:=#[(0,δ p5 m.1 ay)]) (cs:=[δ p5 m.1 ay]++([])) ([m.1]:Ŀ (Ŀ Za)) z z z z z ĳ (λ_=>İ) ⟨[δ p5 m.1 ay],[],z,⟨_,z,aS⟩,z⟩ (key:=999) z (by rw[af];rfl) (λp6 bZ aD br=>?_)
  refine oA hr λbg hr=>jU (r:=(Rp.sl c')) 1006 z z jT jA z ĳ z z (aE.mono (mx aG aD)) z (by rw[af];rfl) an br bg λp7 bE bf bD a2 bt bk=>dE z<|t'<|E'<|b'<|w'<|η z<|iT z<|dE z<|t'<|N' ⟨bD,(s++[m.1]),p7,bE,bf,i64.wrap (T+1)⟩ hr ⟨(mx (mx (mx H aG) aD) a2),bt,bk⟩ (Ç z) (w5 z z z z z)
 exact Ι
instance Wv{i n c r}:SpcM ((xg i n c)) r (∀{f e},Cr 161 #[δ f i e,i' n,i' c] (λG=>sl c' G f e i) (λG v=>v=.bool r)):=.mk λhr {f e}=>Ι
instance gY'{D P r}:SpcM ((Fa D P)) r (∀{s y},Cr 152 #[δ s D y,i' P] (λG=>sq G s y D) (λG v=>v=.bool r)):=.mk λhr {s y}=>by
 refine Ο ?_;intro w0 x _ _ hr i;refine WC.mC hr [0,1] [] [] [] (λ(q:Int)=>⟨q,[(5,i' q)],tr,[]⟩) (λ(_:Unit)=>⟨(.inr ()),[],tr,[]⟩) 0 ?_;intro _ p q g _ hr;refine o' ?_;refine é ?_;intro hr;refine I' hr z (λA hr=>?_) (λA hr=>?_)
 .refine q'<|b'<|o'<|Y'<|o'<|fN [ff,ff,ff,ff,ff,ff,ff,ff,ff,ff,ff,ff,ff,ff,ff,ff,ff,ff,ff,ff,ff,ff,ff,ff,ff,ff,ff,ff,ff,ff,ff,ff,ff,ff,ff,ff,ff,ff,ff,ff,ff] eP İ λU=>fO z<|fO z<|oE hr λx1 L hr=>cn (λ_ e=>ki jT pK ((i.mono g).mono e) z z L) ?_
  obtain⟨p1,aE,m,N⟩:=xV (T' (iN i L) g);refine cn (λ_ e=>nF ry z (e _ _ _ m))<|fO z<|oE hr λai Q hr=>uy z (λ_=>x' z1 z) (Wv.h Q) z (λM e=>(N.mono e)) ?_
  cases ai
  .refine Ο ?_;intro hr;refine î (M' z z) z<|î (M' z z) z<|sf z z z<|Β z<|t'<|Κ<|b'<|kC z<|sr<|Μ z<|m'<|g'<|a'<|a'<|g'<|jt<|a' (Å hr z z)
  refine cn (λ_ e=>gS z)<|fO z<|cy z z (λ_ e=>k' z)<|cy z z (λ_ e=>k' z)<|oE hr λx2 E hr=>cy z z (λ_ e=>ki jT pK ((i.mono g).mono e) z z E) ?_
  obtain⟨p2,aD,aj,T⟩:=xV (T' (iN i E) g);refine cy z z (λ_ e=>nF ry z (e _ _ _ aj))<|cy z z (λ_ e=>P' Q' (T.mono e) z)<|BM hr (C' z z) (λ_ e=>eB z z) (λan hr=>?_) (λan hr=>?_)
  .refine Ο ?_;intro hr;refine î (M' z z) z<|î (M' z z) z<|sf z z z<|Β z<|t'<|Κ<|b'<|kC z<|sr<|Μ z<|m'<|g'<|a'<|a'<|g'<|jt<|a' (Å hr z z)
  refine cn (λ_ e=>f' z z)<|fO z<|cy z z (λ_ e=>k' z)<|cy z z (λ_ e=>k' z)<|oE hr λx3 I hr=>cy z z (λ_ e=>ki jT pK ((i.mono g).mono e) z z I) ?_
  obtain⟨p3,aA,ao,O⟩:=xV (T' (iN i I) g);refine cy z z (λ_ e=>nF ry z (e _ _ _ ao))<|oE hr λo R hr=>qK (post:=fS c' o) (λ_=>(C' z z)) (λ_ _=>x' Iz z) (gT'.h R) z (λM e=>(O.mono e)) (λv G1 G2 e h=>?_) ?_
  .obtain⟨n,l,rfl,k⟩:=h;exact⟨_,_,z,k.mono e⟩
  refine mX (λ_=>(C' z z)) (λ_ _ e=>k' z)<|mX (λ_=>(C' z z)) (λ_ _ e=>k' z)<|oE hr λx4 F hr=>mX (λ_=>(C' z z)) (λ_ _ e=>ki jT pK ((i.mono g).mono e) z z F) ?_
  obtain⟨p4,aB,X,Z⟩:=xV (T' (iN i F) g);refine mX (λ_=>(C' z z)) (λ_ _ e=>nF ry z (e _ _ _ X))<|oE hr λJ S hr=>γ.vQ (f:=33) (c:=.bool J) (λ_=>(C' z z)) (λu M e hu=>?_) ?_
  .obtain⟨⟨n,l,B,k⟩,_⟩:=(show(fS c' o) M.m (u 35)/\True from hu);exact⟨_,_,_,λ_=>x' X7 z,eU'.h S,(by simp only[B]<;>rfl),⟨k,(Z.mono e)⟩⟩
  cases J
  .refine mX (λ_=>(C' z z)) (λ_ _ e=>gS z)<|cu (λ_ _ e=>f' z z)<|cu (λ_ _ e=>k' z)<|mq (λ_=>(A5 z z))<|mq (λ_=>(A5 z z))<|mq (λ_=>(A5 z z))<|mq (λ_=>(M' z z))<|mq (λ_=>(M' z z))<|mq (λ_=>(M' z z))<|mq (λ_=>(M' z z))<|mq (λ_=>(M' z z))<|mq (λ_=>(M' z z))<|mq (λ_=>(M' z z))<|mq (λ_=>(M' z z))<|mq (λ_=>(M' z z))<|BI (d:=35) (post:=fS c' o) (λt aC ar j=>?_)
   obtain⟨n,l,rfl,k⟩:=j;refine î (M' z z) z<|î (M' z z) z<|sf z z z<|Β z<|t'<|Κ<|b'<|kC z<|sr<|Μ z<|m'<|g'<|a'<|a'<|g'<|jt<|a' (Å hr z z)
  refine mX (λ_=>(C' z z)) (λ_ _ e=>gS z)<|cu (λ_ _ e=>f' z z)<|cu (λ_ _ e=>k' z)<|mX (λ_=>(C' z z)) (λ_ _ e=>k' z) ?_
  by_cases a:0<q
  .replace hr:=hr.pos a;refine mX (λ_=>(C' z z)) (λ_ _ e=>lB (uu z z) (đ Value.bool (Ă a)))<|mX (λ_=>(C' z z)) (λ_ _ e=>k' z)<|mX (λ_=>(C' z z)) (λ_ _ e=>k' z)<|mX (λ_=>(C' z z)) (λ_ _ e=>k' z)<|mX (λ_=>(C' z z)) (λ_ _ e=>GI z z)<|oE hr λx5 H hr=>mX (λ_=>(C' z z)) (λ_ _ e=>ki jT pK ((i.mono g).mono e) z z H) ?_
   obtain⟨p5,aw,al,ak⟩:=xV (T' (iN i H) g);refine mX (λ_=>(C' z z)) (λ_ _ e=>nF ry z (e _ _ _ al))<|mX (λ_=>(C' z z)) (λ_ _ e=>k' z)<|mX (λ_=>(C' z z)) (λ_ _ e=>k' z)<|oE hr λx6 K hr=>mX (λ_=>(C' z z)) (λ_ _ e=>ki jT pK ((i.mono g).mono e) z z K) ?_
   obtain⟨p6,ay,Y,V⟩:=xV (T' (iN i K) g);refine mX (λ_=>(C' z z)) (λ_ _ e=>nF ry z (e _ _ _ Y)) ?_;exact Ι
  replace hr:=hr.neg a;refine mX (λ_=>(C' z z)) (λ_ _ e=>lB (uu z z) (đ Value.bool (ċ a)))<|mX (λ_=>(C' z z)) (λ_ _ e=>k' z)<|mq (λ_=>(uE z z))<|mq (λ_=>(uE z z))<|mq (λ_=>(uE z z))<|mq (λ_=>(uE z z))<|mq (λ_=>(uE z z))<|mq (λ_=>(uE z z))<|mq (λ_=>(uE z z))<|mq (λ_=>(uE z z))<|mq (λ_=>(uE z z))<|BI (d:=35) (post:=fS c' o) (λt W C j=>?_)
  obtain⟨n,l,rfl,k⟩:=j;exact wz z<|gy z z (f' z z) z<|ν z<|t'<|Κ<|b'<|qO z<|Ι
 exact Ι
instance gz'{l r}:SpcM ((AW l)) r (∀{f g c d},Cr 86 #[.agg ((ñ l f g c d)).toArray] (λG=>sq G f g l.eqs/\sq G c d l.ε) (λG v=>v=.bool r)):=.mk λhr {f g c d}=>by
 refine é ?_;intro x n _ _ _ p hr _;refine WC.nB hr [1] [1] (λ(_:Unit)=>⟨[],Qz l,tr,[]⟩) ?_;intro i _ hr j _;refine o'<|sr<|Μ z<|WC.mA hr [1] [1] [] [] (λ(q:Int)=>⟨q,[(3,i' q)],tr,[]⟩) (λ(_:Unit)=>⟨(.inr ()),[],tr,[]⟩) 0
instance ik'{n r}:SpcM ((Gh n)) r (∀{h k c d},Cr 157 #[.agg ((ñ n h k c d)).toArray] (λG=>sq G h k n.eqs/\sq G c d n.ε) (λG v=>v=.string r)):=.mk λhr {h k c d}=>by
 refine é ?_;intro K _ _ l g _ hr f;have a:=tS (w0:=K);refine o' ?_;refine é ?_;intro _ hr _;refine iS hr z (λA hr=>?_) (λA hr=>?_)
 .exact Ι
 refine q'<|b'<|sr<|WL.sI (e:=5) (r:=(Rp.int .u8)) (vs:=#[]) (cs:=[]) ([]:Ŀ Int) 4006 z z z z z ĳ (λ_=>İ) (z) λV J y=>Γ (y' 1 kz z z z)<|oE hr λP o hr=>mz (λw s=>s.Þ (i:=4006) (j:=5000) z (by rw[l];rfl))<|mU z z (x' I8 z) (E2 _ _ _ _ _ _ _ _ _ _ o) z (⟨y,g,f⟩) (lc z ln) a (λM R L E m=>?_)
 obtain⟨F,H,B,rfl,rfl,t⟩:=m;refine mz (λw s=>s.Þ (i:=5000) (j:=4008) z (by rw[l];rfl))<|pS (r:=(Rp.int .u8)) (e:=5) 4008 t z (by rw[l];rfl) λO S D u C=>Γ (Y0.kR Wa GG xN u z)<|Μ z<|m' (Å hr z z)
instance iN'{k1 r}:SpcM ((Lg k1)) r (∀{Q L A B},Cr 88 #[.agg ((ñ k1 Q L A B)).toArray] (λG=>sq G Q L k1.eqs/\sq G A B k1.ε) (λG v=>∃ab ae J P,v=.tuple #[.agg ((ñ r.1 ab ae J P)).toArray,.agg (Ø r.2).toArray]/\sq G ab ae r.1.eqs/\sq G J P r.1.ε)):=.mk λhr {Q L A B}=>by
 refine J' (args:=[_]) (N:=44) func88 z z z (λw0 G0 a9 aS=>?_);obtain⟨af,U⟩:=aS;refine sr<|jO 1 z z z λb1=>W' 2 z rM z λb2=>W' 3 z u7 z λb3=>nr<|Γ (rC z)<|Γ (n' 1 dN z z z)<|oE hr λaX aM hr=>gw z z (x' X6 z) (nM.h aM) z (trivial) (λa5 bb H ak=>?_)
 obtain⟨aR,aJ,rfl,l⟩:=ak;refine Μ z<|o'<|B8 [] ln [ff,ff,ff,ff,ff,tt,tt,tt,ff,ff] eP İ λT=>cn (λ_ c=>y' 1 kz z z z) ?_
 refine é ?_;intro _ _ _ aF hr _;refine oE hr λx2 aC hr=>γ.pV (λ_=>z) (λ_=>ki MT xS l z z aC)<|γ.pV (λ_=>z) (λ_=>nf _ zH z (U' _ _ _) (V3 (iN l aC)))<|lr (λ_=>z) rM<|lr (λ_=>z) u7<|γ.yA (λbc bd a4 X1 g av R an=>?_)
 obtain⟨Y,V,O,K,rfl,E,q⟩:=an;refine fA.nd av (λb5 aV aY=>?_);subst aV;replace R:=GU R ĳ aY;refine fA.nd R (λb4 aZ a7=>?_);subst aZ;refine fA.DJ (show fA _ _ _ _ _ _ _ (St w0 G0 X1.m _)from ?_);refine nX (λw n=>(n.eS T g).weaken ln)<|fY 5 tM z<|nV<|nX (λw n=>(n.eS T g).weaken ln)<|A' 6 z xS z z z (U' _ _ _) (U' _ _ _) (λu a=>Rp.one (fV .i64 8) (G:=X1.m) (x:=x2) (cs:=Ø x2) z u (by first|simpa using a|simpa[Value.cells]using a))<|nV<|wa (λw n=>(n.eS T g).weaken ln)<|Κ<|b'<|o'<|sr<|Μ z<|WC.mD hr [1,2,3,4,5,6] [1,2,3] [2,3,5,6] [2,3] (λ(⟨i1,S,k,j,f,e,ai⟩:Int×Zb×ŀ Addr×Nat×ŀ Addr×Nat×(Fin 8->Int))=>⟨(i1,S,ai),[(7,i' i1)],λaa=>sq aa k j S.eqs/\sq aa f e S.ε,[(5,ü b4 (ñ S k j f e) 48),(6,ü b5 (Ø ai) 71)]⟩) (λ(⟨h,F,D,y,t,Z⟩:Zb×ŀ Addr×Nat×ŀ Addr×Nat×(Fin 8->Int))=>⟨(h,Z),[],λX=>sq X F D h.eqs/\sq X y t h.ε,[(5,ü b4 (ñ h F D y t) 48),(6,ü b5 (Ø Z) 71)]⟩) ⟨1,aF,Y,V,O,K,x2⟩ ?_ ?_
 .rintro _ aa ⟨i1,S,k,j,f,e,ai⟩ d ⟨C,s⟩ hr;refine o' ?_;refine é ?_;intro hr;refine I' hr z (λa0 hr=>?_) (λa0 hr=>?_)
  .refine q'<|b'<|o'<|Y'<|o'<|fN [ff,ff,ff,ff,ff,ff,ff] eP İ λT=>cn (λ_ c=>y' 1 kz z z z)<|fO z ?_
   refine é ?_;intro _ _ _ aG hr _;refine lr (λ_=>z) rM<|γ.ny (λba a2 X2 o aq am=>?_)
   obtain⟨b6,rfl,aQ⟩:=aq;obtain⟨ad,W,I,M,rfl,p,m⟩:=am;refine pT aQ (my (show WL _ _ _ _ _ _ (St w0 G0 X2.m _)from ?_));refine fY 8 tM z<|t'<|Κ ?_
   refine é ?_;intro T _ _ _ hr _;refine Γ (Y0.CR z z)<|t'<|Κ<|b'<|iS hr z (λaW hr=>?_) (λaW hr=>?_)
   .refine B8 [] ln [ff,tt,tt,tt,tt] eP İ λT=>?_;refine é ?_;intro hr;exact oE hr λx4 aD hr=>nI z (ki MT xS (l.mono (mx (mx g d) o)) z z aD)<|nI z (nf _ zH z (U' _ _ _) (V3 (T' (iN l aD) (mx (mx g d) o))))<|xY T<|nX (λw n=>n.weaken ln)<|fY 5 tM z<|nV<|nX (λw n=>n.weaken ln)<|A' 6 z xS z z z (U' _ _ _) (U' _ _ _) (λu a=>Rp.one (fV .i64 8) (G:=X2.m) (x:=x4) (cs:=Ø x4) z u (by first|simpa using a|simpa[Value.cells]using a))<|nV<|wa (λw n=>n.weaken ln)<|Ι
   exact Ι
  exact Ι
 rintro X ⟨h,F,D,y,t,Z⟩ hr a1 ⟨al,aj⟩;refine b'<|o'<|B8 [(6,ü b5 (Ø Z) 71)] (lc z ln) [ff,tt] eP İ λT=>cn (λ_ c=>y' 5 kz z z z)<|nI z (y' 6 zH z z (U' _ _ _))<|xY T<|nX (λw n=>n.weaken (lc z ln))<|fY 2 tM z<|nV<|nX (λw n=>n.weaken (lc z ln))<|A' 3 z xS z z z (U' _ _ _) (U' _ _ _) (λu a=>Rp.one (fV .i64 8) (G:=X) (x:=Z) (cs:=Ø Z) z u (by first|simpa using a|simpa[Value.cells]using a))<|nV<|wa (λw n=>n.weaken (lc z ln))<|Κ<|b'<|m' ?_
 obtain rfl:_=r:=hr;exact ur z (kL (i:=2) kz z z z) (kL (i:=3) zH z z (U' _ _ _)) ⟨_,_,_,_,z,al,aj⟩
instance fK'{o r}:SpcM ((yX o)) r (∀{j k},Cr 156 #[δ j o k] (λG=>sv G j k o) (λG v=>v=.bool r)):=.mk λhr {j k}=>by refine Ο ?_;intro s m _ _ hr _;refine WC.mC hr [0] [] [] [] (λ(l:Int)=>⟨l,[(3,i' l)],tr,[]⟩) (λ(_:Unit)=>⟨(.inr ()),[],tr,[]⟩) 0 ?_;intro _ h l d _ hr;refine Ο ?_;intro _ hr;refine WC.mA hr [0,3] [] [0,3] [] (λ(⟨e,q⟩:Int×Int)=>⟨(e,q),[(4,i' e),(5,i' q)],tr,[]⟩) (λ(g:Int)=>⟨(.inr g),[(4,i' g)],tr,[]⟩) ⟨0,0⟩
instance kl{c r}:SpcM ((Jn c)) r (Cr 158 #[.agg (Ø c).toArray] (λG=>True) (λG v=>v=.bool r)):=.mk λhr=>by
 refine Ο ?_;intro s g _ o y hr _;refine A' 3 z wD z z z (U' _ _ _) (U' _ _ _) (λu t=>Rp.one (Rp.DO 8) (G:=g) (x:=(λ_=>false)) (cs:=ö Value.bool 8 (λ_=>false)) z u (by first|simpa using t|simpa[Value.cells]using t))<|nx<|o'<|sr<|Μ z<|WC.mA hr [1,3] [1] [] [] (λ(⟨h,d⟩:Int×(Fin 8->Bool))=>⟨(h,d),[(4,i' h)],tr,[(3,ü y (ö Value.bool 8 d) 143)]⟩) (λ(_:Unit)=>⟨(.inr ()),[],tr,[]⟩) ⟨0,(λ_=>false)⟩
instance jh'{j r}:SpcM ((Gv j)) r (∀{e c f d},Cr 292 #[.agg ((Υ j e c f d)).toArray] (λG=>su G e c j.num.χ/\su G f d j.den.χ) (iA r)):=.mk λhr {e c f d}=>Ι
instance ji'{M I r}:SpcM ((Gd M I)) r (∀{o k m l n g f j},Cr 323 #[.agg ((Υ M o k m l)).toArray,.agg ((Υ I n g f j)).toArray] (λG=>su G o k M.num.χ/\su G m l M.den.χ/\su G n g I.num.χ/\su G f j I.den.χ) (er r)):=.mk λhr {o k m l n g f j}=>Ι
instance is'{Y ae k1 r}:SpcM ((Kl Y ae k1)) r (∀{B ab E al},Cr 291 #[.agg (B).toArray,.agg (E).toArray,i' k1] (λG=>Ê ik 8 G B ab Y/\Ê ik 8 G E al ae) (λG v=>∃zk zu,v=.agg (zk).toArray/\Ê ik 8 G zk zu r)):=.mk λhr {B ab E al}=>by
 refine Ο ?_;intro w0 G0 _ _ A N b2 b3 hr aa;refine oE hr λx1 aA hr=>Γ (rD om ke z z (rG A aA)) ?_;obtain⟨O,R,S,M,aF,V,Q⟩:=pH (vZ A aA);refine Γ (R' _ 3 mn z z z aF)<|W' 7 z rE z λb4=>fY 7 ke z<|nx<|o'<|sr<|Μ z<|nG (X:=Int×(Ŀ Zf)×Ŀ Value×Unit×Mem) hr (λ⟨a,U,D,H,W⟩=>⟨(a,U),[(3,iJ N),(4,iJ b2),(6,iJ b3),(7,iJ b4),(8,i' a)],Mem.le G0 W/\Ê ik 8 W D H U,St w0 G0 W [(3,ü N (D) 325),(4,ü b2 (E) 325),(6,ü b3 ([.bool false,.slice none 0 0,.bool false,.slice none 0 0,.bool false,.slice none 0 0,.bool false,.slice none 0 0,.bool false,.slice none 0 0,.bool false,.slice none 0 0,.bool false,.slice none 0 0,.bool false,.slice none 0 0,.bool false,.slice none 0 0,.bool false,.slice none 0 0,.bool false,.slice none 0 0,.bool false,.slice none 0 0,.bool false,.slice none 0 0,.bool false,.slice none 0 0,.bool false,.slice none 0 0,.bool false,.slice none 0 0]:Ŀ Value) 325),(7,ü b4 (Υ x1 O R S M) 120)]⟩) (λ(⟨ag,Z,ai,t⟩:(Ŀ Zf)×Ŀ Value×Unit×Mem)=>⟨ag,[(3,iJ N),(6,iJ b3)],Mem.le G0 t/\Ê ik 8 t Z ai ag,St w0 G0 t [(3,ü N (Z) 325),(6,ü b3 ([.bool false,.slice none 0 0,.bool false,.slice none 0 0,.bool false,.slice none 0 0,.bool false,.slice none 0 0,.bool false,.slice none 0 0,.bool false,.slice none 0 0,.bool false,.slice none 0 0,.bool false,.slice none 0 0,.bool false,.slice none 0 0,.bool false,.slice none 0 0,.bool false,.slice none 0 0,.bool false,.slice none 0 0,.bool false,.slice none 0 0,.bool false,.slice none 0 0,.bool false,.slice none 0 0,.bool false,.slice none 0 0]:Ŀ Value) 325)]⟩) ⟨0,Y,B,ab,G0⟩ z (Ç z) ⟨mr,A⟩ (w4 z z z z) ?_ ?_
 .rintro _ ⟨a,U,D,H,W⟩ ⟨m,s⟩ hr;refine o'<|sr<|η z<|ku z<|nx<|I' hr z (λaO hr=>?_) (λaO hr=>?_)
  .refine q'<|b'<|o'<|Y'<|fN [tt,ff,ff,ff,ff,ff,ff,ff,ff] eP İ λhb=>uA z (k' z)<|fO z<|oE hr λx2 am hr=>cn (λ_ c=>rD om ke z z (rG s am)) ?_
   obtain⟨ap,ar,av,aw,aE,L,T⟩:=pH (vZ s am);refine cn (λ_ c=>R' _ 3 mn z z z aE)<|cn (λ_ c=>y' 7 mn z z z)<|fO z<|oE hr λx3 ao hr=>cn (λ_ c=>rD om ke z z (rG (aa.mono m) ao)) ?_
   obtain⟨ay,az,au,aq,aH,P,K⟩:=pH (vZ (aa.mono m) ao);refine cn (λ_ c=>R' _ 4 mn z z z aH)<|oE hr λax aB hr=>qK (post:=er ax) (λ_=>z) (λ_ _=>x' Ad z) (Wr.h aB) z (λG' c=>⟨((V.mono m).mono c),((Q.mono m).mono c),(P.mono c),(K.mono c)⟩) (λv G1 G2 c h=>?_) ?_
   .obtain⟨F,y,u,x,rfl,l,j⟩:=h;exact⟨_,_,_,_,z,l.mono c,j.mono c⟩
   refine BI (d:=24) (post:=er ax) (λaS aW p ac=>?_);obtain⟨F,y,u,x,rfl,l,j⟩:=ac;refine oE hr λo aC hr=>gw z z (x' I4 z) (ji'.h aC) z (⟨(L.mono p),(T.mono p),l,j⟩) (λaR aG C ad=>?_);obtain⟨e,g,f,k,rfl,J,I⟩:=ad;refine oE hr λx4 an hr=>Γ (rD om ke z z (rG (s.mono (mx p C)) an))<|Ca (cs':=(Υ o e g f k)) (z':=o) 3 z ke z ĳ (s.mono (mx p C)) z z z z ⟨(θ o.num e g),(θ o.den f k),z,⟨[.bool o.num.neg],[δ e o.num.χ g],z,z,⟨_,z,J⟩⟩,⟨[.bool o.den.neg],[δ f o.den.χ k],z,z,⟨_,z,I⟩⟩⟩ an λd1 aI=>t' ?_
   refine é ?_;intro hr;refine N' ⟨i64.wrap (a+1),U.set a.toNat o,d1,H,aG⟩ hr ⟨(mx (mx m p) C),aI⟩ (Ç z) (w4 z z z z)
  refine nH<|p'<|p'<|K'<|oj ⟨U,D,H,W⟩ ⟨hr,m,s⟩ (Ç z) (w2 z z)
 rintro⟨ag,Z,ai,t⟩ ⟨hr,aP,q⟩;refine b'<|sr<|Γ (y' 3 kA z z (lM q))<|A' 6 z oN z z z (lM (show Ê ik 8 t ([.bool false,.slice none 0 0,.bool false,.slice none 0 0,.bool false,.slice none 0 0,.bool false,.slice none 0 0,.bool false,.slice none 0 0,.bool false,.slice none 0 0,.bool false,.slice none 0 0,.bool false,.slice none 0 0,.bool false,.slice none 0 0,.bool false,.slice none 0 0,.bool false,.slice none 0 0,.bool false,.slice none 0 0,.bool false,.slice none 0 0,.bool false,.slice none 0 0,.bool false,.slice none 0 0,.bool false,.slice none 0 0]:Ŀ Value) () _ from zM (G:=t) (r:=ik) (n:=8) (zc:=[.bool false,.slice none 0 0,.bool false,.slice none 0 0]) (z:=(Zf.mk (Zg.mk false []) (Zg.mk false []))) ⟨[.bool false,.slice none 0 0],[.bool false,.slice none 0 0],z,⟨[.bool false],[.slice none 0 0],z,z,⟨_,z,(X' _ _)⟩⟩,⟨[.bool false],[.slice none 0 0],z,z,⟨_,z,(X' _ _)⟩⟩⟩)) (lM q) (Ê.one q)<|nx<|m' ?_
 obtain rfl:_=r:=hr;exact j' z (kL (i:=6) kA z z (lM q)) ⟨_,_,z,q⟩
instance iW'{t r}:SpcM ((FT t)) r (∀{o p},Cr 234 #[δ o t p] (λG=>sv G o p t) (λG v=>v=i' r)):=.mk λhr {o p}=>by
 refine Ο ?_;intro w0 Y ba hr aH;refine nG (X:=(Ŀ (Ŀ Zf))×ŀ Addr×Nat×ŀ Ow×(Ŀ Int)×ŀ Addr×Nat×ŀ Ow×Int×Mem) hr (λ⟨h,f,g,c,l,i,k,d,q,s⟩=>⟨(h,l,q),[(0,δ o t p),(3,δ f h g),(4,δ i l k),(5,i' q)],Mem.le Y s/\sl (Rp.arr ik 8) s f g h/\Tok 32 325 (δ f h g) h.length c/\sl (Rp.int .i64) s i k l/\Tok 1 3 (δ i l k) l.length d,St w0 Y s [(1003,c),(1004,d)]⟩) (λ(⟨Z,ad,ab,av,bg⟩:(Ŀ (Ŀ Zf))×ŀ Addr×Nat×ŀ Ow×Mem)=>⟨Z,[(3,δ ad Z ab)],Mem.le Y bg/\sl (Rp.arr ik 8) bg ad ab Z/\Tok 32 325 (δ ad Z ab) Z.length av,St w0 Y bg [(1003,av)]⟩) ⟨[],none,0,none,[],none,0,none,0,Y⟩ z (Ç z) ⟨mr,(X' _ _),la,(X' _ _),la⟩ (wk (lw (lw ln))) ?_ ?_
 .rintro _ ⟨h,f,g,c,l,i,k,d,q,s⟩ ⟨M,L,ak,ac,aQ⟩ hr;refine Ο ?_;intro _ P hr;refine nG (X:=Int×(Ŀ Zf)×Ŀ Value×Unit×Mem) hr (λ⟨am,aX,aE,az,au⟩=>⟨(am,aX),[(0,δ o t p),(3,δ f h g),(4,δ i l k),(5,i' q),(6,iJ P),(7,i' am)],Mem.le s au/\Ê ik 8 au aE az aX,St w0 Y au [(6,ü P (aE) 325),(1003,c),(1004,d)]⟩) (λ(⟨bc,aP,a7,a⟩:(Ŀ Zf)×Ŀ Value×Unit×Mem)=>⟨bc,[(0,δ o t p),(3,δ f h g),(4,δ i l k),(5,i' q),(6,iJ P)],Mem.le s a/\Ê ik 8 a aP a7 bc,St w0 Y a [(6,ü P (aP) 325),(1003,c),(1004,d)]⟩) ⟨0,(List.replicate 8 (Zf.mk (Zg.mk false []) (Zg.mk false []))),([.bool false,.slice none 0 0,.bool false,.slice none 0 0,.bool false,.slice none 0 0,.bool false,.slice none 0 0,.bool false,.slice none 0 0,.bool false,.slice none 0 0,.bool false,.slice none 0 0,.bool false,.slice none 0 0,.bool false,.slice none 0 0,.bool false,.slice none 0 0,.bool false,.slice none 0 0,.bool false,.slice none 0 0,.bool false,.slice none 0 0,.bool false,.slice none 0 0,.bool false,.slice none 0 0,.bool false,.slice none 0 0]:Ŀ Value),(),s⟩ z (Ç z) ⟨mr,(show Ê ik 8 s ([.bool false,.slice none 0 0,.bool false,.slice none 0 0,.bool false,.slice none 0 0,.bool false,.slice none 0 0,.bool false,.slice none 0 0,.bool false,.slice none 0 0,.bool false,.slice none 0 0,.bool false,.slice none 0 0,.bool false,.slice none 0 0,.bool false,.slice none 0 0,.bool false,.slice none 0 0,.bool false,.slice none 0 0,.bool false,.slice none 0 0,.bool false,.slice none 0 0,.bool false,.slice none 0 0,.bool false,.slice none 0 0]:Ŀ Value) () _ from zM (G:=s) (r:=ik) (n:=8) (zc:=[.bool false,.slice none 0 0,.bool false,.slice none 0 0]) (z:=(Zf.mk (Zg.mk false []) (Zg.mk false []))) ⟨[.bool false,.slice none 0 0],[.bool false,.slice none 0 0],z,⟨[.bool false],[.slice none 0 0],z,z,⟨_,z,(X' _ _)⟩⟩,⟨[.bool false],[.slice none 0 0],z,z,⟨_,z,(X' _ _)⟩⟩⟩)⟩ (w3 z z z) ?_ ?_
  .rintro _ ⟨am,aX,aE,az,au⟩ ⟨S,a2⟩ hr;refine o'<|sr<|η z<|ku z<|nx<|I' hr z (λch hr=>?_) (λch hr=>?_)
   .refine q'<|b'<|o'<|Y'<|w'<|η z<|η z<|η z<|η z<|oE hr λx7 bI hr=>Γ (ki tI xS (aH.mono (mx M S)) z z bI)<|oA hr λbt hr=>Γ (V8 GF jZ z z bt)<|Γ (nF dN z (GO (T' (iN aH bI) (mx M S)) bt))<|oE hr λU bW hr=>gw z z (x' D0 z) (GN.h bW) z (trivial) (λcA cl aM bk=>?_)
    obtain⟨K,B,D,H,rfl,ay,aD⟩:=bk;refine oE hr λx8 bJ hr=>Γ (rD om ke z z (rG (a2.mono aM) bJ))<|Ca (cs':=(Υ U K B D H)) (z':=U) 6 z ke z ĳ (a2.mono aM) z z z z ⟨(θ U.num K B),(θ U.den D H),z,⟨[.bool U.num.neg],[δ K U.num.χ B],z,z,⟨_,z,ay⟩⟩,⟨[.bool U.den.neg],[δ D U.den.χ H],z,z,⟨_,z,aD⟩⟩⟩ bJ λd2 cq=>t' ?_
    refine é ?_;intro hr;refine N' ⟨i64.wrap (am+1),aX.set am.toNat U,d2,az,cl⟩ hr ⟨(mx S aM),cq⟩ (Ç z) (w3 z z z)
   refine nH<|p'<|p'<|K'<|oj ⟨aX,aE,az,au⟩ ⟨hr,S,a2⟩ (Ç z) (w3 z z z)
  rintro⟨bc,aP,a7,a⟩ ⟨hr,m,bO⟩;refine b'<|o'<|sr<|Μ z<|nG (X:=Int×(Ŀ Zf)×Ŀ Value×Unit×Mem) hr (λ⟨aO,bd,aN,a5,a1⟩=>⟨(aO,bd),[(0,δ o t p),(3,δ f h g),(4,δ i l k),(5,i' q),(6,iJ P),(8,i' aO)],Mem.le a a1/\Ê ik 8 a1 aN a5 bd,St w0 Y a1 [(6,ü P (aN) 325),(1003,c),(1004,d)]⟩) (λ(⟨be,W,a6,N⟩:(Ŀ Zf)×Ŀ Value×Unit×Mem)=>⟨be,[(0,δ o t p),(3,δ f h g),(4,δ i l k),(5,i' q),(6,iJ P)],Mem.le a N/\Ê ik 8 N W a6 be,St w0 Y N [(6,ü P (W) 325),(1003,c),(1004,d)]⟩) ⟨0,bc,aP,a7,a⟩ z (Ç z) ⟨mr,bO⟩ (w3 z z z) ?_ ?_
  .rintro _ ⟨aO,bd,aN,a5,a1⟩ ⟨I,aC⟩ hr;refine o' ?_;refine é ?_;intro hr;refine I' hr z (λcr hr=>?_) (λcr hr=>?_)
   .refine q'<|b'<|o'<|Y'<|fN [ff,ff,ff,ff,ff,ff,ff,ff,ff] eP İ λhb=>cn (λ_ x=>y' 6 kA z z (lM aC))<|fO z<|fO z<|oE hr λx5 bs hr=>cn (λ_ x=>ki oK oN ((L.mono (mx m I)).mono x) z z bs) ?_
    obtain⟨cJ,bn,b4⟩:=(T' (iN L bs) (mx m I));refine cn (λ_ x=>nf _ kA z (lM (u:=()) bn) (λj v hv=>x _ _ _ (b4 j v (by simpa using hv)))) ?_;refine é ?_;intro _ _ hr _;refine oE hr λb6 bM hr=>gw z z (x' IV z) (is'.h bM) z (⟨aC,(show Ê _ _ _ _ () _ from bn)⟩) (λcD cc a8 bj=>?_);obtain⟨bX,bQ,rfl,a4⟩:=bj;refine A' 6 z oN z z z (lM (aC.mono a8)) (lM a4) (Ê.one a4)<|t' ?_
    refine é ?_;intro hr;refine N' ⟨i64.wrap (aO+1),b6,bX,bQ,cc⟩ hr ⟨(mx I a8),a4⟩ (Ç z) (w3 z z z)
   refine nH<|p'<|p'<|K'<|oj ⟨bd,aN,a5,a1⟩ ⟨hr,I,aC⟩ (Ç z) (w3 z z z)
  rintro⟨be,W,a6,N⟩ ⟨hr,O,aq⟩;refine b'<|sr<|Μ z<|o'<|nG (X:=Int×Mem) hr (λ⟨aa,ax⟩=>⟨aa,[(0,δ o t p),(3,δ f h g),(4,δ i l k),(5,i' q),(6,iJ P),(9,i' aa)],Mem.le N ax,St w0 Y ax [(6,ü P (W) 325),(1003,c),(1004,d)]⟩) (λ(⟨A,a9⟩:Int×Mem)=>⟨A,[(0,δ o t p),(3,δ f h g),(4,δ i l k),(5,i' q),(6,iJ P),(9,i' A)],Mem.le N a9,St w0 Y a9 [(6,ü P (W) 325),(1003,c),(1004,d)]⟩) ⟨0,N⟩ z (Ç z) mr (w3 z z z) ?_ ?_
  .rintro _ ⟨aa,ax⟩ R hr;refine Ο ?_;intro _ hr;refine oE hr λx4 br hr=>gy z z (rD om ke z z (rG (aq.mono R) br)) z ?_;obtain⟨bH,bK,bB,bx,ca,aT,aR⟩:=pH (vZ (aq.mono R) br);refine gy z z (R' _ 6 mn z z z ca) z<|oE hr λcK bY hr=>H' (C' z z) z (x' Ix z) (eT'.h bY) z (⟨aT,aR⟩)<|gy z z (eB z z) z<|Β z<|nx<|I' hr z (λce hr=>?_) (λce hr=>?_)
   .exact Ι
   exact Ι
  rintro⟨A,a9⟩ ⟨hr,y⟩;refine Ο ?_;intro _ hr;refine oE hr λx1 bL hr=>Γ (rD om ke z z (rG (aq.mono y) bL)) ?_;obtain⟨bz,bF,bG,bv,b7,aZ,aU⟩:=pH (vZ (aq.mono y) bL);refine Γ (R' _ 6 mn z z z b7)<|oE hr λcm bS hr=>gw z z (x' IW z) (jh'.h bS) z (⟨aZ,aU⟩) (λcF bm af bi=>?_)
  obtain⟨ar,ap,ag,ai,rfl,aj,ah⟩:=bi;refine η z<|kr z ?_
  refine é ?_;intro b2 hr;refine nG (X:=Int×(Ŀ Zf)×Ŀ Value×Unit×Mem) hr (λ⟨Q,aW,aI,aG,aY⟩=>⟨(Q,aW),[(0,δ o t p),(3,δ f h g),(4,δ i l k),(5,i' q),(6,iJ P),(9,i' A),(10,iJ b2),(12,i' Q)],Mem.le bm aY/\Ê ik 8 aY aI aG aW,St w0 Y aY [(6,ü P (aI) 325),(10,ü b2 (Υ cm.1 ar ap ag ai) 120),(1003,c),(1004,d)]⟩) (λ(⟨a0,V,bo,bh⟩:(Ŀ Zf)×Ŀ Value×Unit×Mem)=>⟨a0,[(0,δ o t p),(3,δ f h g),(4,δ i l k),(5,i' q),(6,iJ P),(9,i' A)],Mem.le bm bh/\Ê ik 8 bh V bo a0,St w0 Y bh [(6,ü P (V) 325),(1003,c),(1004,d)]⟩) ⟨0,be,W,a6,bm⟩ z (Ç z) ⟨mr,(aq.mono (mx y af))⟩ (w4 z z z z) ?_ ?_
  .rintro _ ⟨Q,aW,aI,aG,aY⟩ ⟨ae,ao⟩ hr;refine o'<|sr<|η z<|ku z<|nx<|I' hr z (λck hr=>?_) (λck hr=>?_)
   .refine q'<|b'<|o'<|Y'<|fN [tt,ff,ff,ff,ff] eP İ λhb=>uA z (k' z)<|fO z<|oE hr λx2 bq hr=>cn (λ_ x=>rD om ke z z (rG ao bq)) ?_
    obtain⟨bw,bA,bC,bD,b5,aS,aV⟩:=pH (vZ ao bq);refine cn (λ_ x=>R' _ 6 mn z z z b5)<|cn (λ_ x=>y' 10 mn z z z)<|pF hb<|oE hr λT bT hr=>gw z z (x' Ad z) (Wr.h bT) z (⟨aS,aV,(aj.mono ae),(ah.mono ae)⟩) (λcE ct aA bl=>?_)
    obtain⟨C,F,E,J,rfl,aL,aK⟩:=bl;refine oE hr λx3 bu hr=>Γ (rD om ke z z (rG (ao.mono aA) bu))<|Ca (cs':=(Υ T C F E J)) (z':=T) 6 z ke z ĳ (ao.mono aA) z z z z ⟨(θ T.num C F),(θ T.den E J),z,⟨[.bool T.num.neg],[δ C T.num.χ F],z,z,⟨_,z,aL⟩⟩,⟨[.bool T.den.neg],[δ E T.den.χ J],z,z,⟨_,z,aK⟩⟩⟩ bu λd1 cb=>t' ?_
    refine é ?_;intro hr;refine N' ⟨i64.wrap (Q+1),aW.set Q.toNat T,d1,aG,ct⟩ hr ⟨(mx ae aA),cb⟩ (Ç z) (w4 z z z z)
   refine nH<|p'<|p'<|K'<|oj ⟨aW,aI,aG,aY⟩ ⟨hr,ae,ao⟩ (Ç z) (w3 z z z)
  rintro⟨a0,V,bo,bh⟩ ⟨hr,aF,a3⟩;refine b'<|w'<|η z<|Γ (y' 6 kA z z (lM a3))<|nb (e:=325) (r:=(Rp.arr ik 8)) (vs:=#[(0,.agg (V).toArray)]) (cs:=V++([])) ([a0]:Ŀ (Ŀ Zf)) z z z z z ĳ (wi (n:=32) (lM a3) (λ_=>(λ_=>İ))) ⟨V,[],z,a3,z⟩ (key:=999) z (by rw[ba];rfl) (λp1 cI aB cg=>?_)
  refine oA hr λbR hr=>jU (r:=(Rp.arr ik 8)) 1003 z z oK vY z ĳ z z (L.mono (mx (mx (mx (mx (mx m O) y) af) aF) aB)) z (by rw[ba];rfl) ak cg bR λp2 co bZ cL bf ci bU=>η z ?_;refine é ?_;intro _ _ aJ cj hr;obtain⟨bV,hr⟩:=hr;have N1:=mx (mx (mx (mx (mx (mx (mx (mx M m) O) y) af) aF) aB) bf) aJ;have N2:=mx (mx (mx (mx (mx (mx (mx m O) y) af) aF) aB) bf) aJ;refine jU (r:=(Rp.int .i64)) 1004 z z zz M5 z ĳ z z (ac.mono N2) z (by rw[ba];rfl) aQ cj bV λp4 b9 b3 cp bb b8 bP=>dE z<|dE z<|t'<|E'<|b'<|w'<|η z<|iT z<|dE z<|t'<|N' ⟨(h++[a0]),p2,co,bZ,(l++[A]),p4,b9,b3,i64.wrap (q+1),cp⟩ hr ⟨(mx N1 bb),(ci.mono (mx aJ bb)),bU,b8,bP⟩ (Ç z) (w2 z z)
 rintro⟨Z,ad,ab,av,bg⟩ ⟨hr,cx,bp,cd⟩;exact Ι
instance G7{d c r}:SpcM ((FU d c)) r (Cr 208 #[i' d,i' c] (λG=>True) (λG v=>v=.agg (Ø r).toArray)):=.mk λhr=>Ι
instance iX'{D r}:SpcM ((LA D)) r (∀{H I},Cr 159 #[δ H D I] (λG=>sv G H I D) (iB (fV .i64 8) r)):=.mk λhr {H I}=>by
 refine é ?_;intro w0 Z q hr t;refine o' ?_;refine é ?_;intro _ hr _;refine iS hr z (λW hr=>?_) (λW hr=>?_)
 .exact Ι
 refine q'<|b'<|sr<|nb (e:=71) (r:=(fV .i64 8)) (vs:=#[]) (cs:=[]) ([]:Ŀ (Fin 8->Int)) z z z z z ĳ (λ_=>İ) (z) (key:=999) z (by rw[q];rfl) λp1 aq n af=>η z<|oA hr λT hr=>jU (r:=(fV .i64 8)) 2011 z z tI nY z ĳ z z af z (by rw[q];rfl) la (t.mono n) T λp2 a Q B u J L=>Μ z<|o'<|sr<|η z<|oE hr λan K hr=>H' z z (x' ID z) (iW'.h K) z ((t.mono (mx n u)))<|Γ (eB z z)<|nx<|I' hr z (λR hr=>?_) (λR hr=>?_)
 .exact Ι
 refine Ο ?_;intro _ hr;refine nG (X:=(Ŀ (Fin 8->Int))×ŀ Addr×Nat×ŀ Ow×Int×Mem) hr (λ⟨c,g,d,f,C,o⟩=>⟨(c,C),[(4,δ g c d),(5,i' C)],Mem.le B o/\sv o g d c/\Tok 8 71 (δ g c d) c.length f,St w0 Z o [(1004,f)]⟩) (λ(⟨h,l,k,m,x⟩:(Ŀ (Fin 8->Int))×ŀ Addr×Nat×ŀ Ow×Mem)=>⟨h,[(4,δ l h k)],Mem.le B x/\sv x l k h/\Tok 8 71 (δ l h k) h.length m,St w0 Z x [(1004,m)]⟩) ⟨([]++D),p2,a,Q,0,B⟩ z (Ç z) ⟨mr,J,L⟩ ?_ ?_ ?_
 .intro w S;have S:=S.Þ (i:=2011) (j:=1004) z (by rw[q];rfl);exact S.weaken (lc z ln)
 .rintro _ ⟨c,g,d,f,C,o⟩ ⟨y,A,s⟩ hr;refine Ο ?_;intro _ p _ _ v V hr _;refine oA hr λP hr=>jU (r:=(fV .i64 8)) 1004 z z tI nY z ĳ z z (A.mono v) z (by rw[q];rfl) s V P λp4 Y U N F aj O=>dE z<|t'<|E'<|b'<|w'<|η z<|iT z<|dE z<|t'<|N' ⟨(c++[p]),p4,Y,U,i64.wrap (C+1),N⟩ hr ⟨(mx (mx y v) F),aj,O⟩ (Ç z) (w1 z)
 rintro⟨h,l,k,m,x⟩ ⟨hr,ak,E,ag⟩;exact Ι
instance it'{o1 f r}:SpcM ((Kk o1 f)) r (∀{e a},Cr 89 #[δ e o1 a,.agg (Ø f).toArray] (λG=>sv G e a o1) (iB (fV .i64 8) r)):=.mk λhr {e a}=>by
 refine Ο ?_;intro U T _ P K _ _ _ _ _ _ R _ _ y s _ _ p1 O _ u hr _;refine WC.mC (hH:=by exact⟨u,la⟩) hr [3,6] [3] [] [] (λ(⟨c,h,g,d,L⟩:(Ŀ (Fin 8->Int))×ŀ Addr×Nat×ŀ Ow×Int)=>⟨(c,L),[(8,δ h c g),(9,i' L)],λk=>sv k h g c/\Tok 8 71 (δ h c g) c.length d,[(1008,d)]⟩) (λ(⟨l,o,n,t⟩:(Ŀ (Fin 8->Int))×ŀ Addr×Nat×ŀ Ow)=>⟨l,[(8,δ o l n)],λJ=>sv J o n l/\Tok 8 71 (δ o l n) l.length t,[(1008,t)]⟩) ⟨[],p1,0,none,0⟩ ?_;rintro _ k ⟨c,h,g,d,L⟩ j ⟨I,C⟩ hr;refine Ο ?_;intro _ V hr;refine WC.mB hr [3,6,8,9,10] [3,1008] [3,6,8,9,10] [3,1008] (λ(⟨E,A⟩:Int×(Fin 8->Int))=>⟨(E,A),[(11,i' E)],tr,[(10,ü V (Ø A) 71)]⟩) (λ(m:(Fin 8->Int))=>⟨m,[],tr,[(10,ü V (Ø m) 71)]⟩) ⟨0,(λ_=>0)⟩ ?_;intro Q m hr F _;refine Ο ?_;intro _ _ H x hr;refine oA hr λaf hr=>jU (r:=(fV .i64 8)) 1008 z z tI nY z ĳ z z (I.mono (mx F H)) z (by rw[P];rfl) C x af λp3 q i B S v p=>dE z<|t'<|E'<|b'<|w'<|η z<|iT z<|dE z<|t'<|N' ⟨B,(c++[m]),p3,q,i,i64.wrap (L+1)⟩ hr ⟨(mx (mx (mx j F) H) S),v,p⟩ (Ç z) (w2 z z)
instance gm'{c r}:SpcM ((Es c)) r (Cr 64 #[i' c] (λG=>True) (λG v=>v=.bool r)):=.mk λhr=>Ι
end Go.Proofs.YtepbagkffgddlaaGreat

