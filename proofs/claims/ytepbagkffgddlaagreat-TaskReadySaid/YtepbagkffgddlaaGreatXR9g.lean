/- The law TaskReady holds for every input: a part of its proof (fY the code does, plain models, and fY they return). No condition. -/
import Derived.Test.YtepbagkffgddlaaGreatXR9f
set_option linter.unusedVariables false
set_option linter.unusedSimpArgs false
namespace Go.Proofs.YtepbagkffgddlaaGreat
open Go.IntKind (i8 i16 i32 i64 u8 u16 u32 u64)
open Go.Proofs.Tryz
open Go Go.EL Go.RowKit Go.Proofs
set_option maxHeartbeats 4000000
set_option maxRecDepth 20000
theorem Pt(B:Ze)(A:Ze)(i:ŀ Addr)(j:Nat)(f:ŀ Addr)(h:Nat)(n:ŀ Addr)(x:Nat)(o:ŀ Addr)(q:Nat)(l:ŀ Addr)(k:Nat)(g:ŀ Addr)(d:Nat)(p:ŀ Addr)(u:Nat)(y:ŀ Addr)(t:Nat)(r:Int)(hr:(J1 B A).Α r):Cr 50 #[.agg ((eR B i j f h n x o q)).toArray,.agg ((eR A l k g d p u y t)).toArray] (λG=>sq G i j B.k.eqs/\sq G f h B.k.δ/\sl c' G n x B.q.p/\sv G o q B.q.o/\sq G l k A.k.eqs/\sq G g d A.k.δ/\sl c' G p u A.q.p/\sv G y t A.q.o) (λG v=>v=i' r):=by
 refine J' (args:=[_,_]) (N:=17) func50 z z z (λw0 Y M H=>?_);obtain⟨J,D,O,R,K,F,Q,P⟩:=H;refine sr<|jM 2 z z z λW=>jM 3 z z z λa=>Ρ z<|o'<|fA [ff,ff,ff,ff,ff,ff,ff,ff,ff] eL (by kernel_rfl) λT=>cn (λ_ c=>Gy z)<|cn (λ_ c=>n' 2 eN z z z)<|cn (λ_ c=>Gy z)<|cn (λ_ c=>n' 3 eN z z z)<|oE hr λs I hr=>uu z (λ_=>x' OP z) (V5.h I) z (λX c=>trivial)<|cn (λ_ c=>GC z)<|cn (λ_ c=>n' 2 eN z z z)<|cn (λ_ c=>GC z)<|cn (λ_ c=>n' 3 eN z z z)<|pz T<|oE hr λm C hr=>H' z z (x' OP z) (V5.h C) z (trivial)<|mY (e:=3) (r:=(Rp.int .i64)) (vs:=#[(0,i' s),(1,i' m)]) (cs:=[i' s]++([i' m]++([]))) ([s,m]:Ŀ Int) z z z z z (by decide) (λ_=>by kernel_rfl) ⟨[i' s],[i' m]++([]),z,z,⟨[i' m],[],z,z,z⟩⟩ (key:=999) z (by rw[M];rfl) (λZ V S L=>?_)
 refine oE hr λU E hr=>H' z z (x' XW z) (iB'.h E) z (L)<|Þ z<|t'<|Θ<|b'<|m' (Õ hr z z)
instance {B:Ze}{A:Ze}{r:Int}:c ((J1 B A)) r (∀ {i:ŀ Addr}{j:Nat}{f:ŀ Addr}{h:Nat}{n:ŀ Addr}{x:Nat}{o:ŀ Addr}{q:Nat}{l:ŀ Addr}{k:Nat}{g:ŀ Addr}{d:Nat}{p:ŀ Addr}{u:Nat}{y:ŀ Addr}{t:Nat},Cr 50 #[.agg ((eR B i j f h n x o q)).toArray,.agg ((eR A l k g d p u y t)).toArray] (λG=>sq G i j B.k.eqs/\sq G f h B.k.δ/\sl c' G n x B.q.p/\sv G o q B.q.o/\sq G l k A.k.eqs/\sq G g d A.k.δ/\sl c' G p u A.q.p/\sv G y t A.q.o) (λG v=>v=i' r)):=⟨λa {i j f h n x o q l k g d p u y t}=>Pt _ _ i j f h n x o q l k g d p u y t _ a⟩
theorem Ol:Go.Sort.SWO (Go.Proofs.ltOf lf):=by
 have key:∀ x y:Ze,Go.Proofs.ltOf lf x y=true↔x.υ<y.υ\/x.υ=y.υ/\x.id<y.id:=λx y=>by
  show decide (lf x y<0)=true↔_;rw[decide_eq_true_eq];unfold lf;by_cases a:x.υ<y.υ
  .rw[ą a];omega
  rw[ā a];by_cases b:y.υ<x.υ
  .rw[ą b];omega
  rw[ā b];by_cases c:x.id<y.id
  .rw[ą c];omega
  rw[ā c];split <;> omega
 refine⟨λx=>?_,λx y z d h2=>?_,λx y z d h2=>?_⟩
 .rw[<- Bool.not_eq_true,key];omega
 .rw[key]at *;omega
 rw[<- Bool.not_eq_true,key]at *;omega
theorem Za4(l:Ŀ Ze)(a b f:Int)(p:ŀ Addr)(c n:Nat)(tk:ŀ Ow)(r:Ŀ Ze)(hr:(O2 l a b f).Α r):Cl 96 #[.slice p n c,.int .i64 a,.int .i64 b,.int .i64 f,.func (.func 50) #[] #[]] [(5000,tk)] (λG=>Γ ZF 56 G (.slice p n c) l tk) (λG L v=>∃ C,L=[(5000,C)]/\v=.tuple #[]/\Γ ZF 56 G (.slice p n c) r C):=by
 obtain⟨⟨rfl,rfl,⟨X,Y⟩,h2⟩,hr⟩:=hr;obtain⟨k,rfl⟩:∃ k:Nat,f=k:=⟨f.toNat,by omega⟩;refine(CY (r:=ZF) (sz:=11) rfl (by decide) Ol Tryz.Dc rfl (λ_=>by kernel_rfl) (λ_=>by kernel_rfl) (λx y W cy w G hi hp=>?_) XV 56 p n c l tk k (by omega) (by omega)).mono (λ_ h=>h) (λG L v ⟨ys,I,T,U,V,q4,q5⟩=>?_)
 .obtain⟨p1,p2⟩:=hp;obtain⟨E,D,m,j,O,N,K,J,rfl,g,d,s,q⟩:=Q9 p1;obtain⟨H,F,u,t,S,R,Q,P,rfl,i,e,B,A⟩:=Q9 p2;exact Pt _ _ _ _ _ _ _ _ _ _ _ _ _ _ _ _ _ _ _ (ZxZ x y) w G hi ⟨g,d,s,q,i,e,B,A⟩
 have:ys=r:=hr ys ⟨q4,q5.imp (λh=>by simpa[Go.Proofs.ltOf]using h)⟩;subst this;exact⟨I,T,U,V⟩
theorem Pz(c:Zc)(h:ŀ Addr)(m:Nat)(i:ŀ Addr)(l:Nat)(r:(Ŀ Zc))(hr:(wQ c).Α r):Cr 38 #[.agg ([i' c.kind,ε h c.p m,ε i c.o l]).toArray] (λG=>sl c' G h m c.p/\sv G i l c.o) (fS tD r):=by
 refine è ?_;intro t j _ _ _ _ hr _;refine WC.nD hr [4] [] (λ(g:Bool)=>⟨[(5,.bool g)],Jo c g,tr,[]⟩) ?_ ?_
 .refine sr<|Δ (eB z z)<|Ρ z<|I' hr z (λp hr=>?_) (λp hr=>?_)
  .exact Ζ
  exact Ζ
 intro d g hr C _;refine kc hr z (λB hr=>?_) (λB hr=>?_)
 .exact Ζ
 refine WC.nC hr [4] [] (λ(f:Bool)=>⟨[(10,.bool f)],Jn c f,tr,[]⟩) ?_;refine sr<|Δ (eB z z)<|Ρ z<|I' hr z (λq hr=>?_) (λq hr=>?_)
 .exact Ζ
 exact Ζ
instance {c:Zc}{r:(Ŀ Zc)}:d ((wQ c)) r (∀ {h:ŀ Addr}{m:Nat}{i:ŀ Addr}{l:Nat},Cr 38 #[.agg ([i' c.kind,ε h c.p m,ε i c.o l]).toArray] (λG=>sl c' G h m c.p/\sv G i l c.o) (fS tD r)):=⟨λa {h m i l}=>Pz _ h m i l _ a⟩
theorem EW(o:Zb)(h:Zc)(e:ŀ Addr)(f:Nat)(c:ŀ Addr)(d:Nat)(j:ŀ Addr)(m:Nat)(k:ŀ Addr)(n:Nat)(r:Ĳ)(hr:(tz o h).Α r):Cr 46 #[.agg ((Ã o e f c d)).toArray,.agg ([i' h.kind,ε j h.p m,ε k h.o n]).toArray] (λG=>sq G e f o.eqs/\sq G c d o.δ/\sl c' G j m h.p/\sv G k n h.o) (λG v=>v=.string r):=by
 refine J' (args:=[_,_]) (N:=10) func46 z z z (λH F C s=>?_);obtain⟨l,i,t,q⟩:=s;refine sr<|jM 2 z z z λD=>jM 3 z z z λI=>Ρ z<|o'<|fA [ff,ff,ff] eL (by kernel_rfl) λy=>cn (λ_ g=>y' 2 mZ z z z)<|oE hr λB u hr=>uu z (λ_=>x' yp z) (yx _ _ _ _ _ _ u) z (λE g=>⟨(l.mono g),(i.mono g)⟩) ?_
 refine è ?_;intro hr;refine oE hr λA p hr=>H' z z (x' I0 z) (Kd _ _ _ _ _ _ p) z (⟨t,q⟩)<|oA hr λx hr=>Δ (Y0.MG z z x)<|Þ z<|t'<|Θ<|b'<|m' (Õ hr z z)
instance {o:Zb}{h:Zc}{r:Ĳ}:g ((tz o h)) r (∀ {e:ŀ Addr}{f:Nat}{c:ŀ Addr}{d:Nat}{j:ŀ Addr}{m:Nat}{k:ŀ Addr}{n:Nat},Cr 46 #[.agg ((Ã o e f c d)).toArray,.agg ([i' h.kind,ε j h.p m,ε k h.o n]).toArray] (λG=>sq G e f o.eqs/\sq G c d o.δ/\sl c' G j m h.p/\sv G k n h.o) (λG v=>v=.string r)):=⟨λa {e f c d j m k n}=>EW _ _ e f c d j m k n _ a⟩
def u6(e a c d mb:Nat)(k:Zb)(h:ŀ Addr)(f:Nat)(i:ŀ Addr)(g:Nat)(s:ŀ Addr×Nat×ŀ Ow×ŀ Ow)(B:Zd):Lo:=[(105416,some ⟨e,.cells #[.slice s.1 B.t.length s.2.1,.int .i64 B.next] 26 (0,0),0⟩),(5000,s.2.2.1),(5590,s.2.2.2),(105417,some ⟨a,.cells #[.func (.func 71) #[] #[.pointer (some ⟨a,0,none⟩),.pointer (some ⟨c,0,none⟩),.pointer (some ⟨d,0,none⟩),.pointer (some ⟨e,0,none⟩)]] 140 (0,0),0⟩),(105409,some ⟨c,.cells #[.int .i64 k.n,.slice h k.eqs.length f,.slice i k.δ.length g] 48 (0,0),0⟩),(105413,some ⟨d,.cells #[.map (some mb)] 138 (0,0),0⟩)]
structure u7 (mb:Nat) (D:Ŀ (Ĳ×Int)) (B:Zd) (s:ŀ Addr×Nat×ŀ Ow×ŀ Ow) (G:Mem):Prop where
 row:Γ ZF 56 G (.slice s.1 B.t.length s.2.1) B.t s.2.2.1
 map:Ø rz (mF (Rp.int .i64) G) (.map (some mb)) D s.2.2.2
def DO(f:Zb->Zc->Ŀ (Ĳ×Int)->Zd->Cq ((Int×Int)×Ŀ (Ĳ×Int)×Zd)):Prop:=∀ (j a c d mb:Nat) (k:Zb) (h:ŀ Addr) (e:Nat) (i:ŀ Addr) (g:Nat) (q:Zc) (p:ŀ Addr) (l:Nat) (n:ŀ Addr) (m:Nat) (D:Ŀ (Ĳ×Int)) (B:Zd) (s:ŀ Addr×Nat×ŀ Ow×ŀ Ow) (o:(Int×Int)×Ŀ (Ĳ×Int)×Zd),(f k q D B).Α o->
 Cl 71 #[.agg ([.int .i64 q.kind,.slice p q.p.length l,.slice n q.o.length m]).toArray,.pointer (some ⟨a,0,none⟩),.pointer (some ⟨c,0,none⟩),.pointer (some ⟨d,0,none⟩),.pointer (some ⟨j,0,none⟩)] (u6 j a c d mb k h e i g s B)
  (λG=>u7 mb D B s G/\(Η (Rp.sl Zk) G (.slice h k.eqs.length e) k.eqs/\Η (Rp.sl Zk) G (.slice i k.δ.length g) k.δ)/\Η Zk G (.slice p q.p.length l) q.p/\Η (Rp.vec .i64 8) G (.slice n q.o.length m) q.o)
  (λG L v=>∃ s',L=u6 j a c d mb k h e i g s' o.2.2/\v=.tuple #[.int .i64 o.1.1,.int .i64 o.1.2]/\u7 mb o.2.1 o.2.2 s' G)
theorem u7.zero{m d e f mb:Nat}{k:Zb}{j:ŀ Addr}{g:Nat}{l:ŀ Addr}{i:Nat}{D:Ŀ (Ĳ×Int)}{B:Zd}{s:ŀ Addr×Nat×ŀ Ow×ŀ Ow}{G:Mem}(h:u7 mb D B s G):(u6 m d e f mb k j g l i s B).zero:=by
 intro q c x a;simp only[u6,Ď,ĝ,ţ]at c;rcases c with rfl|rfl|rfl|rfl|rfl|rfl
 .cases a;rfl
 .exact h.row.zero a
 .exact h.map.zero a
 .cases a;rfl
 .cases a;rfl
 cases a;rfl
theorem u7.mono{mb:Nat}{D:Ŀ (Ĳ×Int)}{B:Zd}{s:ŀ Addr×Nat×ŀ Ow×ŀ Ow}{G G':Mem}(h:u7 mb D B s G)(a:Mem.le G G'):u7 mb D B s G':=⟨h.row.mono a,h.map.mono a⟩
theorem ZnC:DO (vi 0):=λ_ _ _ _ _ _ _ _ _ _ _ _ _ _ _ _ _ _ _ hr=>False.elim hr
theorem ZnD{n:Nat}(ih:DO (vi n)):DO (vi (n+1)):=by
 intro Z V W Y mb k g d i f q C m A t D B s o hr;refine eO.enter (args:=[_,_,_,_,_]) (N:=73) func71 rfl rfl rfl (λw0 G0 aa ah=>?_);obtain⟨hA,⟨P,Q⟩,T,U⟩:=ah;have hz:w0.L.zero:=by rw[aa];exact hA.zero
 refine sr<|WL.box 5 Zh rfl rfl (λb5=>?_)
 refine yy (Y0.assign rfl) rfl<|yy (Y0.assign rfl) rfl<|nx<|WC.seq ?_
 refine sr<|yy (Y0.eT 5 oF rfl rfl rfl) rfl ?_
 obtain⟨l,hl,hr⟩:=hr;refine WL.call Zh rfl (YC.of XN rfl) (Pz _ _ _ _ _ _ hl) rfl ⟨T,U⟩ (λlv G1 J c=>?_);obtain⟨lp,am,rfl,H⟩:=c;refine yy (Y0.CE underlying90 H rfl) rfl<|mv rfl rfl<|nx<|WC.block ?_
 have aq:l.length<=9223372036854775807:=by obtain⟨_,_,_,_,h,_⟩:=H;omega
 refine WC.gX (X:=Nat×Ŀ (Ĳ×Int)×Zd×(ŀ Addr×Nat×ŀ Ow×ŀ Ow)×Mem) (λL=>match L with|⟨j,_,_,_,_⟩=>[(1,.pointer (some ⟨V,0,none⟩)),(2,.pointer (some ⟨W,0,none⟩)),(3,.pointer (some ⟨Y,0,none⟩)),(4,.pointer (some ⟨Z,0,none⟩)),(5,.pointer (some ⟨b5,0,none⟩)),(16,.slice lp l.length am),(17,.int .i64 (l.length:Int)),(18,.int .i64 (j:Int))])
  (λL=>match L with|⟨j,I,B',s',G⟩=>j<=l.length/\Mem.le G1 G/\u7 mb I B' s' G/\(oR (vi n k) (ta k q) (l.drop j) I B').Α o)
  (λL=>match L with|⟨_,_,B',s',G⟩=>St w0 G0 G ((5,some ⟨b5,.cells ([.int .i64 q.kind,.slice C q.p.length m,.slice A q.o.length t]).toArray 54 (0,0),0⟩)::u6 Z V W Y mb k g d i f s' B')) (λL=>l.length-L.1) ⟨0,D,B,s,G1⟩ (fc rfl (fc rfl (fc rfl (fc rfl (fc rfl (fc rfl (fc rfl (fc rfl fn)))))))) ⟨Ĝ _,Mem.le_refl _,hA.mono J,by rw[abc];exact hr⟩ (λw F=>F) ?_
 rintro⟨j,I,B',s',G⟩ ⟨hj,E,O,hr⟩;dsimp only at hj E O hr ⊢;have a:Mem.le G0 G:=Mem.le_trans J E;refine sr<|yy (Y0.lss rfl rfl) rfl<|nx<|WC.seq ?_
 refine WC.eC (p:=(j:Int)<(l.length:Int)) rfl (λhc=>?_) (λhc=>?_)
 .have ad:j<l.length:=by omega
  have hx:(0:Int)<=(j:Int)/\l[(j:Int).toNat]? = some l[j]:=⟨by omega,by simp[ad]⟩;have hw:i64.wrap ((j:Int)+1)=((j+1:Nat):Int):=by rw[ĩ];omega
  rw[ĭ ad]at hr;obtain⟨p,hp,hr⟩:=hr;refine WC.skip<|WE.then<|WC.seq<|WC.block<|sr<|yy (Y0.lN underlying90 oa (H.mono E) rfl rfl hx) rfl ?_
  obtain⟨xp,xc,xo,xd,xe,an,ao⟩:=Jk (At.mono (Η.at H hx) E);refine yy (Y0.jw _ oF rfl rfl xe) rfl ?_;refine WL.alloc 109 Zh z54 rfl (λb9=>?_);refine WL.fp 109 Zh oa rfl rfl rfl rfl rfl (Ć.1 rfl) ?_;refine nx<|sr<|yy (Y0.Ò 105417 wm rfl rfl rfl) rfl<|yy (Y0.eT 109 oF rfl rfl rfl) rfl ?_
  refine WL.jX Zh rfl (YC.xW OS rfl rfl) (ih Z V W Y mb k g d i f _ _ _ _ _ _ _ _ _ hp) rfl ⟨O,⟨P.mono a,Q.mono a⟩,an,ao⟩ (lc rfl (lc rfl (lc rfl (lc rfl (lc rfl (lc rfl ln)))))) hz (λv G2 L2 ae c=>?_);obtain⟨s2,rfl,rfl,aj⟩:=c;refine WL.ö (S':=St w0 G0 G2 ((5,some ⟨b5,.cells ([.int .i64 q.kind,.slice C q.p.length m,.slice A q.o.length t]).toArray 54 (0,0),0⟩)::u6 Z V W Y mb k g d i f s2 p.2.2)) (λw F=>F.weaken (lc rfl (lc rfl (lc rfl (lc rfl (lc rfl (lc rfl (lc rfl ln)))))))) ?_;refine mv rfl rfl<|yy (Y0.extract rfl rfl) rfl<|yy (Y0.extract rfl rfl) rfl<|yy (Y0.assign rfl) rfl<|yy (Y0.assign rfl) rfl<|nx ?_
  refine sr<|mv rfl rfl<|yy (Y0.neq rfl rfl) rfl<|nx ?_
  obtain⟨he,hr⟩:=hr;refine WC.eC (p:=¬ p.1.2=0) rfl (λhn=>absurd he hn) (λ_=>?_);refine WC.skip<|WE.inBlock<|WE.then<|WC.region<|yy (Y0.add rfl rfl) rfl ?_
  rw[hw];exact mv rfl rfl<|WL.nil<|WE.gH (x:=(j,I,B',s',G)) (j+1,p.2.1,p.2.2,s2,G2) ⟨by omega,Mem.le_trans E ae,aj,hr⟩ (fc rfl (fc rfl (fc rfl (fc rfl (fc rfl (fc rfl (fc rfl (fc rfl fn)))))))) (λw F=>F) (by show l.length-(j+1)<l.length-j;omega)
 have ak:j=l.length:=by omega
 subst ak;rw[aag]at hr;refine WC.exit<|WE.å<|WE.å<|WE.Í<|WE.then ?_
 refine sr<|yy (Y0.eT 105409 lC rfl rfl rfl) rfl<|yy (Y0.eT 5 oF rfl rfl rfl) rfl ?_
 obtain⟨s,F,S,hr⟩:=hr;refine WL.gS Zh rfl (YC.of IY rfl) (EW _ _ _ _ _ _ _ _ _ _ _ F) rfl ⟨P.mono a,Q.mono a,T.mono a,U.mono a⟩ ?_;refine yy (Y0.assign rfl) rfl<|nx<|WC.seq ?_
 refine sr<|yy (Y0.Ò 105413 qi rfl rfl rfl) rfl<|mv rfl rfl ?_
 refine WL.oP (k:=s) 5590 true (R:=λu=>u=.tuple #[.int .i64 ((fg I s).getD 0),.bool (fg I s).isSome]) Zh rfl underlying138 XF O.map rfl rfl rfl S (λh=>by rw[h];rfl) (λval y h hv=>by rw[h,U7 hv];rfl) (λu hu=>?_);subst hu;refine mv rfl rfl<|yy (Y0.extract rfl rfl) rfl<|yy (Y0.extract rfl rfl) rfl<|yy (Y0.assign rfl) rfl<|yy (Y0.assign rfl) rfl<|nx ?_
 refine sr<|mv rfl rfl<|nx ?_
 cases hm:fg I s with
 | some id=>
  rw[hm]at hr;refine WC.pJ rfl ?_;replace hr:_=o:=hr;subst hr;refine sr<|mv rfl rfl<|yy (Y0.assign rfl) rfl<|yy (Y0.assign rfl) rfl<|nx<|WC.ret<|WE.hJ ?_
  refine WE.ö (S':=St w0 G0 G (u6 Z V W Y mb k g d i f s' B')) (λw F=>F.weaken (lc rfl (lc rfl (lc rfl (lc rfl (lc rfl (lc rfl ln))))))) ?_;exact WE.uS rfl rfl rfl ⟨s',rfl,rfl,O⟩
 | none=>
  rw[hm]at hr;obtain⟨⟨⟨ap,ar⟩,al⟩,hr⟩:=hr;replace hr:_=o:=hr;subst hr;refine WC.pI rfl ?_;refine WC.skip<|WE.then<|WC.seq<|sr<|yy (Y0.Bh rfl) rfl<|yy (Y0.Ò 105416 uT rfl rfl rfl) rfl<|yy (Y0.sp underlying24 O.row rfl) rfl ?_
  refine WL.lI (p:=100<=(B'.t.length:Int)) Zh (Y0.geq rfl rfl) rfl (λhb=>absurd hb (by omega)) (λhb=>?_);refine mv rfl rfl ?_;refine WL.qW (rM rfl rfl) (Y0.zd rfl) rfl ?_;refine WL.qW (rM rfl rfl) (Y0.Ò 105416 eN rfl rfl rfl) rfl ?_;refine WL.qW (rM rfl rfl) (Y0.geq rfl rfl) rfl ?_;refine yy (Y0.eW rfl rfl) rfl<|nx ?_
  refine WC.eC (p:=1000000<=B'.next) rfl (λhb=>absurd hb (by omega)) (λ_=>?_);refine WC.skip<|WE.then ?_
  refine sr<|yy (Y0.Ò 105413 qi rfl rfl rfl) rfl<|mv rfl rfl<|yy (Y0.zd rfl) rfl<|yy (Y0.Ò 105416 eN rfl rfl rfl) rfl ?_
  refine WL.lO (Rv':=mF (Rp.int .i64) G) (k:=s) (z:=B'.next) 5590 Zh underlying138 O.map rfl rfl rfl rfl S rfl (λ_ _ _ _ h=>h) al (λmt ag=>?_);refine nx ?_;refine sr<|yy (Y0.Bh rfl) rfl<|yy (Y0.Ò 105416 uT rfl rfl rfl) rfl<|yy (Y0.zd rfl) rfl<|yy (Y0.Ò 105416 eN rfl rfl rfl) rfl<|yy (Y0.eT 105409 lC rfl rfl rfl) rfl<|yy (Y0.eT 5 oF rfl rfl rfl) rfl ?_
  refine yy (Y0.build (vs:=#[(0,.int .i64 B'.next),(1,.agg ([.int .i64 k.n,.slice g k.eqs.length d,.slice i k.δ.length f]).toArray),(2,.agg ([.int .i64 q.kind,.slice C q.p.length m,.slice A q.o.length t]).toArray),(5,.int .i64 (-1))]) (v:=.agg ([.int .i64 B'.next,.int .i64 k.n,.slice g k.eqs.length d,.slice i k.δ.length f,.int .i64 q.kind,.slice C q.p.length m,.slice A q.o.length t,.int .i64 0,.int .i64 0,.int .i64 (-1),.bool false]).toArray) rfl rfl (λ_=>by kernel_rfl)) rfl ?_;refine WL.qP (e:=56) (r:=ZF) (vs:=#[(0,.agg ([.int .i64 B'.next,.int .i64 k.n,.slice g k.eqs.length d,.slice i k.δ.length f,.int .i64 q.kind,.slice C q.p.length m,.slice A q.o.length t,.int .i64 0,.int .i64 0,.int .i64 (-1),.bool false]).toArray)]) (cs:=[.int .i64 B'.next,.int .i64 k.n,.slice g k.eqs.length d,.slice i k.δ.length f,.int .i64 q.kind,.slice C q.p.length m,.slice A q.o.length t,.int .i64 0,.int .i64 0,.int .i64 (-1),.bool false]++([])) ([(Ze.mk B'.next k q 0 0 (-1) false)]:Ŀ Ze) Zh rfl rfl rfl rfl (by decide) (λ_=>by kernel_rfl) ⟨[.int .i64 B'.next,.int .i64 k.n,.slice g k.eqs.length d,.slice i k.δ.length f,.int .i64 q.kind,.slice C q.p.length m,.slice A q.o.length t,.int .i64 0,.int .i64 0,.int .i64 (-1),.bool false],[],rfl,⟨[.int .i64 B'.next],[.int .i64 k.n,.slice g k.eqs.length d,.slice i k.δ.length f,.int .i64 q.kind,.slice C q.p.length m,.slice A q.o.length t,.int .i64 0,.int .i64 0,.int .i64 (-1),.bool false],rfl,rfl,⟨[.int .i64 k.n,.slice g k.eqs.length d,.slice i k.δ.length f],[.int .i64 q.kind,.slice C q.p.length m,.slice A q.o.length t,.int .i64 0,.int .i64 0,.int .i64 (-1),.bool false],rfl,⟨[.int .i64 k.n],[.slice g k.eqs.length d,.slice i k.δ.length f],rfl,rfl,⟨[.slice g k.eqs.length d],[.slice i k.δ.length f],rfl,⟨_,rfl,P.mono a⟩,⟨_,rfl,Q.mono a⟩⟩⟩,⟨[.int .i64 q.kind,.slice C q.p.length m,.slice A q.o.length t],[.int .i64 0,.int .i64 0,.int .i64 (-1),.bool false],rfl,⟨[.int .i64 q.kind],[.slice C q.p.length m,.slice A q.o.length t],rfl,rfl,⟨[.slice C q.p.length m],[.slice A q.o.length t],rfl,⟨_,rfl,T.mono a⟩,⟨_,rfl,U.mono a⟩⟩⟩,⟨[.int .i64 0],[.int .i64 0,.int .i64 (-1),.bool false],rfl,rfl,⟨[.int .i64 0],[.int .i64 (-1),.bool false],rfl,rfl,⟨[.int .i64 (-1)],[.bool false],rfl,rfl,rfl⟩⟩⟩⟩⟩⟩,rfl⟩ (key:=999) rfl (by rw[aa];rfl) (λp1 G3 K q1=>?_);refine WL.iP (r:=ZF) (e:=56) 5000 Zh rfl underlying24 qK rfl (by decide) rfl rfl (O.row.mono K) rfl q1 (by simp only[Ā,Ě,Ļ];show _<=small;simp only[small];omega) (λp2 c2 ai q2=>?_);refine yy (Y0.Bh rfl) rfl<|WL.fL 105416 #[.slice p2 (B'.t++[(Ze.mk B'.next k q 0 0 (-1) false)]).length c2,.int .i64 B'.next] Zh Dj rfl rfl rfl (show 0<2 by decide) rfl rfl ?_
  refine nx ?_;refine sr<|yy (Y0.zd rfl) rfl<|yy (Y0.Ò 105416 eN rfl rfl rfl) rfl<|yy (Y0.add rfl rfl) rfl<|yy (Y0.zd rfl) rfl<|WL.fL 105416 #[.slice p2 (B'.t++[(Ze.mk B'.next k q 0 0 (-1) false)]).length c2,.int .i64 (i64.wrap (B'.next+1))] Zh jS rfl rfl rfl (show 1<2 by decide) rfl rfl ?_
  refine nx ?_;have ac:(fg (eV I s B'.next) s).getD 0=B'.next:=by rw[yQ,ą rfl];rfl
  refine sr<|yy (Y0.Ò 105413 qi rfl rfl rfl) rfl<|mv rfl rfl<|yy (Y0.lu (mk:=Value.int .i64) (k:=s) 5590 0 (λh=>U7 h) underlying138 XF ag rfl rfl rfl S) rfl ?_
  rw[ac];refine yy (Y0.assign rfl) rfl<|yy (Y0.assign rfl) rfl<|nx<|WC.ret ?_
  refine WE.ö (S':=St w0 G0 G3 (u6 Z V W Y mb k g d i f (p2,c2,ai,mt) ⟨B'.t++[(Ze.mk B'.next k q 0 0 (-1) false)],i64.wrap (B'.next+1)⟩)) (λw F=>F.weaken (lc rfl (lc rfl (lc rfl (lc rfl (lc rfl (lc rfl ln))))))) ?_;exact WE.uS rfl rfl rfl ⟨(p2,c2,ai,mt),rfl,rfl,⟨q2,ag.mono K⟩⟩
theorem PS:∀ n,DO (vi n)
 | 0=>ZnC
 | n+1=>ZnD (PS n)
instance eN'{q K r}:a ((uf q K)) r (∀ {t y i},Cl 217 #[ε t q y,.int .u64 K] [(5000,i)] (λG=>ru G (ε t q y) q i) (λG L v=>∃ T W B,L=[(5000,B)]/\v=ε T r W/\ru G (ε T r W) r B)):=.mk λhr {t y i}=>by refine Ξ ?_;intro I p _ hr Y;refine WC.mA hr [] [] [] [] (λ(⟨g,k,o,d,c⟩:(Ŀ Int)×ŀ Addr×Nat×ŀ Ow×Int)=>⟨(g,c),[(0,ε k g o),(1,.int .u64 c)],λf=>ru f (ε k g o) g d,[(5000,d)]⟩) (λ(⟨u,x,s,h,j⟩:(Ŀ Int)×ŀ Addr×Nat×ŀ Ow×Int)=>⟨(u,j),[(0,ε x u s),(1,.int .u64 j)],λl=>ru l (ε x u s) u h,[(5000,h)]⟩) ⟨q,t,y,i,K⟩
instance Wb{g D r}:a ((AB g D)) r (∀ {j l e},Cl 139 #[ε j g l,i' D] [(5000,e)] (λG=>ru G (ε j g l) g e) (λG L v=>∃ C E k,L=[(5000,k)]/\v=ε C r E/\ru G (ε C r E) r k)):=.mk λhr {j l e}=>Ζ
instance tJ{A C r}:c ((AO A C)) r (∀ {F M s i g},Cl 284 #[ε F A M,.agg ((η C i g)).toArray] [(5000,s)] (λG=>ru G (ε F A M) A s/\su G i g C.χ) (λG L v=>∃ zp zc R,L=[(5000,R)]/\v=ε zp r zc/\ru G (ε zp r zc) r R)):=.mk λhr {F M s i g}=>by refine è ?_;intro I o _ _ _ P hr _;refine WC.nB hr [0,3] [3,5000] (λ(a:Int)=>⟨[(5,.int .u64 a)],Es A C a,tr,[]⟩) ?_;intro J a hr f _;refine Ξ ?_;intro af D _ Z Y O W hr _;refine WC.mA hr [3] [3] [] [] (λ(⟨q,t,u,l,Q⟩:(Ŀ Int)×ŀ Addr×Nat×ŀ Ow×Int)=>⟨(q,Q),[(0,ε t q u),(6,i' Q)],λm=>ru m (ε t q u) q l,[(5000,l)]⟩) (λ(⟨E,H,K,j⟩:(Ŀ Int)×ŀ Addr×Nat×ŀ Ow)=>⟨E,[(0,ε H E K)],λn=>ru n (ε H E K) E j,[(5000,j)]⟩) ⟨af,Z,Y,O,0⟩
instance hT'{s h r}:a ((Ql s h)) r (∀ {y B q f c e d},Cl 219 #[ε y s B,.agg ((Υ h f c e d)).toArray] [(5000,q)] (λG=>ru G (ε y s B) s q/\su G f c h.num.χ/\su G e d h.den.χ) (λG L v=>∃ P Q A,L=[(5000,A)]/\v=ε P r Q/\ru G (ε P r Q) r A)):=.mk λhr {y B q f c e d}=>by
 refine rh (args:=[_,_]) (N:=12) func219 z z z (λM X R H=>?_);obtain⟨D,j,i⟩:=H;have hz:M.L.zero:=by rw[R];intro p K x hx;simp only[Ď,ĝ,ţ]at K;subst K;exact BO D hx
 refine sr<|jM 3 z z z λb2=>Ρ z<|o'<|WC.ng (l:=ir [0,1,2,4,5,3,6,7] _) (Fm (by kernel_rfl)) [(3,ú b2 (Υ h f c e d) 120)] (lc z ln) [ff,ff,ff,tt,tt] eL (by kernel_rfl) λt=>fM z<|cn (λ_ C=>xH z)<|cn (λ_ C=>R' ((η h.num f c)).toArray 3 mH z z z (mK ([]) ((η h.num f c)) ((η h.den e d))))<|nz z (Bw z)<|nz z (R' ((η h.den e d)).toArray 3 mH z z z (mK ((η h.num f c)) ((η h.den e d)) ([])))<|xO t<|nV (λw k=>k.weaken (lc z ln))<|oE hr λag J hr=>mP z z (x' zZ z) (tJ.h J) z (⟨D,j⟩) (lc z ln) hz (λU ae T g n=>?_)
 obtain⟨Z,Y,S,rfl,rfl,F⟩:=n;refine nT<|nV (λw k=>(k.eU t g).weaken (lc z ln))<|oE hr λaf E hr=>mP z z (x' zZ z) (tJ.h E) z (⟨F,(i.mono g)⟩) (lc z ln) hz (λad O ac m o=>?_)
 obtain⟨V,W,u,rfl,rfl,I⟩:=o;refine nT<|fz.y0 (λw k=>(k.eU t (mx g m)).weaken (lc z ln)) z (ri z) z<|vV (λw k=>(k.eU t (mx g m)).weaken (lc z ln))<|Θ<|b'<|m' ?_
 obtain rfl:_=r:=hr;refine mO (S':=St M X O [(5000,u)]) (w1 z)<|j' z z ⟨_,_,_,z,z,I⟩
instance hA'{a M r}:I ((FJ a M)) r (∀ {p q S n t},Cl 142 #[ε p a q,ε n M t] [(5000,S)] (λG=>ru G (ε p a q) a S/\sl c' G n t M) (λG L v=>∃ zp zc N,L=[(5000,N)]/\v=ε zp r zc/\ru G (ε zp r zc) r N)):=.mk λhr {p q S n t}=>by
 refine Ξ ?_;intro O U f _ _ _ aR T d aF ax Z aC hr _;have hz:=tM (w0:=O);refine WC.mC hr [1] [] [] [] (λ(⟨F,B,C,j,J⟩:(Ŀ Int)×ŀ Addr×Nat×ŀ Ow×Int)=>⟨(F,J),[(0,ε B F C),(5,i' J)],λs=>ru s (ε B F C) F j,[(5000,j)]⟩) (λ(⟨Y,V,W,k⟩:(Ŀ Int)×ŀ Addr×Nat×ŀ Ow)=>⟨Y,[(0,ε V Y W)],λu=>ru u (ε V Y W) Y k,[(5000,k)]⟩) ⟨aR,aF,ax,Z,0⟩ ?_;rintro _ s ⟨F,B,C,j,J⟩ c ai hr;refine Ξ ?_;intro _ _ _ _ _ _ _ _ _ _ _ _ _ _ _ _ aN R h Q av ac aH hr _;refine WC.mC hr [1,5] [] [1,5] [] (λ(⟨H,y,E,i,x⟩:(Ŀ Int)×ŀ Addr×Nat×ŀ Ow×Int)=>⟨(H,x),[(0,ε y H E),(6,i' x)],λm=>ru m (ε y H E) H i,[(5000,i)]⟩) (λ(⟨P,A,D,g⟩:(Ŀ Int)×ŀ Addr×Nat×ŀ Ow)=>⟨P,[(0,ε A P D)],λl=>ru l (ε A P D) P g,[(5000,g)]⟩) ⟨aN,Q,av,ac,0⟩ ?_;rintro _ m ⟨H,y,E,i,x⟩ e an hr;refine Ξ ?_;intro _ _ _ ag _ _ _ _ _ _ _ _ _ _ _ _ hr ak;refine Δ (mX eN z (GF (T' (qH (nE (iK f ag))) (mx (mx (mx d c) h) e)) ak))<|Δ (pw Bk tB z)<|oE hr λaP X hr=>mP z z (x' Iq z) (eN'.h X) z (an) (lc z ln) hz (λaW aQ a2 af K=>?_)
 obtain⟨aw,aE,ad,rfl,rfl,ay⟩:=K;exact Ζ
instance nH{B I r}:a ((Fu B I)) r (∀ {J O A y u},Cl 138 #[ε J B O,ε y I u] [(5000,A)] (λG=>ru G (ε J B O) B A/\sq G y u I) (λG L v=>∃ zp zc K,L=[(5000,K)]/\v=ε zp r zc/\ru G (ε zp r zc) r K)):=.mk λhr {J O A y u}=>by refine Ξ ?_;intro E U _ _ _ _ c o _ Y W D V hr _;refine WC.mA hr [1] [] [] [] (λ(⟨l,j,k,d,H⟩:(Ŀ Int)×ŀ Addr×Nat×ŀ Ow×Int)=>⟨(l,H),[(0,ε j l k),(5,i' H)],λg=>ru g (ε j l k) l d,[(5000,d)]⟩) (λ(⟨s,t,q,e⟩:(Ŀ Int)×ŀ Addr×Nat×ŀ Ow)=>⟨s,[(0,ε t s q)],λh=>ru h (ε t s q) s e,[(5000,e)]⟩) ⟨c,Y,W,D,0⟩
theorem EV(y:(Ŀ Int))(q:Zb)(B:ŀ Addr)(D:Nat)(u:ŀ Ow)(g:ŀ Addr)(h:Nat)(d:ŀ Addr)(e:Nat)(r:(Ŀ Int))(hr:(vk y q).Α r):Cl 78 #[ε B y D,.agg ((Ã q g h d e)).toArray] [(5000,u)] (λG=>ru G (ε B y D) y u/\sq G g h q.eqs/\sq G d e q.δ) (λG L v=>∃ S U C,L=[(5000,C)]/\v=ε S r U/\ru G (ε S r U) r C):=by
 refine rh (args:=[_,_]) (N:=15) func78 z z z (λR G0 V M=>?_);obtain⟨F,s,n⟩:=M;have a:R.L.zero:=by rw[V];intro p Q x hx;simp only[Ď,ĝ,ţ]at Q;subst Q;exact BO F hx
 refine sr<|jM 3 z z z λb2=>Ρ z<|o'<|WC.ng (l:=ir [0,1,2,4,5,7,8,3,6,9,10] _) (Fm (by kernel_rfl)) [(3,ú b2 (Ã q g h d e) 48)] (lc z ln) [ff,ff,ff,tt,tt,tt,tt] eL (by kernel_rfl) λt=>fM z<|cn (λ_ E=>rj z)<|cn (λ_ E=>n' 3 eN z z z)<|nz z (M7 z)<|nz z (n' 3 jR z z z)<|nz z (VR z)<|nz z (n' 3 jR z z z)<|xO t<|nV (λw i=>i.weaken (lc z ln))<|oE hr λap P hr=>mP z z (x' zN z) (Wb.h P) z (F) (lc z ln) a (λZ an Y c m=>?_)
 obtain⟨ah,ae,X,rfl,rfl,K⟩:=m;refine nT<|nV (λw i=>(i.eU t c).weaken (lc z ln))<|oE hr λao H hr=>mP z z (x' zM z) (nH.h H) z (⟨K,(s.mono c)⟩) (lc z ln) a (λam ar al f o=>?_)
 obtain⟨aa,ab,W,rfl,rfl,O⟩:=o;refine nT<|nV (λw i=>(i.eU t (mx c f)).weaken (lc z ln))<|oE hr λaq J hr=>mP z z (x' zM z) (nH.h J) z (⟨O,(n.mono (mx c f))⟩) (lc z ln) a (λai T af j k=>?_)
 obtain⟨ac,ag,A,rfl,rfl,I⟩:=k;refine nT<|fz.y0 (λw i=>(i.eU t (mx (mx c f) j)).weaken (lc z ln)) z (ri z) z<|vV (λw i=>(i.eU t (mx (mx c f) j)).weaken (lc z ln))<|Θ<|b'<|m' ?_
 obtain rfl:_=r:=hr;refine mO (S':=St R G0 T [(5000,A)]) (w1 z)<|j' z z ⟨_,_,_,z,z,I⟩
instance {y:(Ŀ Int)}{q:Zb}{r:(Ŀ Int)}:c ((vk y q)) r (∀ {B:ŀ Addr}{D:Nat}{u:ŀ Ow}{g:ŀ Addr}{h:Nat}{d:ŀ Addr}{e:Nat},Cl 78 #[ε B y D,.agg ((Ã q g h d e)).toArray] [(5000,u)] (λG=>ru G (ε B y D) y u/\sq G g h q.eqs/\sq G d e q.δ) (λG L v=>∃ S U C,L=[(5000,C)]/\v=ε S r U/\ru G (ε S r U) r C)):=⟨λa {B D u g h d e}=>EV _ _ B D u g h d e _ a⟩
theorem Jh(a1 y:Zb)(k:ŀ Addr)(j:Nat)(g:ŀ Addr)(d:Nat)(m:ŀ Addr)(l:Nat)(i:ŀ Addr)(h:Nat)(r:Bool)(hr:(Au a1 y).Α r):Cr 32 #[.agg ([.int .i64 a1.n,.slice k a1.eqs.length j,.slice g a1.δ.length d]).toArray,.agg ([.int .i64 y.n,.slice m y.eqs.length l,.slice i y.δ.length h]).toArray] (λG=>Η (Rp.sl Zk) G (.slice k a1.eqs.length j) a1.eqs/\Η (Rp.sl Zk) G (.slice g a1.δ.length d) a1.δ/\Η (Rp.sl Zk) G (.slice m y.eqs.length l) y.eqs/\Η (Rp.sl Zk) G (.slice i y.δ.length h) y.δ) (λG v=>v=.bool r):=by
 refine iJ.enter (args:=[_,_]) (N:=14) func32 rfl rfl rfl (λw0 G0 O E=>?_);obtain⟨s,n,t,q⟩:=E;refine sr ?_;refine WL.box 2 Zh rfl rfl (λK=>?_);refine WL.box 3 Zh rfl rfl (λL=>?_);refine sg rfl rfl<|nx<|WC.seq ?_
 obtain⟨C,F,D,H,hr⟩:=hr;replace hr:_=r:=hr;subst hr;refine WC.drawn [false,false,false,false,false,false,false,false,false] eL (by kernel_rfl) (λQ=>?_);refine γ.nl (r:=Rp.int .u8) (e:=5) ([]:Ŀ Int) (λ_=>Zh) rfl (by decide) (λu G' a x=>?_) ?_
 .exact⟨#[],[],rfl,rfl,λ_=>by kernel_rfl,rfl⟩
 refine Ξ ?_;refine γ.nU (f:=78) (kk:=5) (r:=Rp.int .u8) (e:=5) (xs:=([]:Ŀ Int)) (r':=Rp.int .u8) (e':=5) C (λ_=>Zh) rfl (by kernel_rfl) (by kernel_rfl) (λu G' a x=>?_) ?_
 .obtain⟨I,_⟩:=(show(gu (Rp.int .u8) 5 5 ([]:Ŀ Int)) (u 5) G'/\True from x);exact⟨u 5,I,λp c tk B A=>⟨_,_,_,λ_=>YC.of IZ rfl,EV _ _ p c tk _ _ _ _ _ F,by simp only[ς,B] <;> rfl,A,s.mono a,n.mono a⟩⟩
 refine γ.DI (c:=.string (bytesOf C)) (λ_=>Zh) (λu G' a x=>?_) ?_
 .obtain⟨⟨p,c,B,A⟩,_⟩:=(show DQ (Rp.int .u8) C G'.m (u 7)/\_ from x);simp only[ς,B];exact Y0.kK underlying32 underlying5 underlying9 A rfl
 refine γ.nl (r:=Rp.int .u8) (e:=5) ([]:Ŀ Int) (λ_=>Zh) rfl (by decide) (λu G' a x=>?_) ?_
 .exact⟨#[],[],rfl,rfl,λ_=>by kernel_rfl,rfl⟩
 refine Ξ ?_;refine γ.nU (f:=78) (kk:=9) (r:=Rp.int .u8) (e:=5) (xs:=([]:Ŀ Int)) (r':=Rp.int .u8) (e':=5) D (λ_=>Zh) rfl (by kernel_rfl) (by kernel_rfl) (λu G' a x=>?_) ?_
 .obtain⟨I,_⟩:=(show(gu (Rp.int .u8) 5 9 ([]:Ŀ Int)) (u 9) G'/\_ from x);exact⟨u 9,I,λp c tk B A=>⟨_,_,_,λ_=>YC.of IZ rfl,EV _ _ p c tk _ _ _ _ _ H,by simp only[ς,B] <;> rfl,A,t.mono a,q.mono a⟩⟩
 refine γ.DI (c:=.string (bytesOf D)) (λ_=>Zh) (λu G' a x=>?_) ?_
 .obtain⟨⟨p,c,B,A⟩,_⟩:=(show DQ (Rp.int .u8) D G'.m (u 11)/\_ from x);simp only[ς,B];exact Y0.kK underlying32 underlying5 underlying9 A rfl
 refine Ξ ?_;refine γ.te (λU T S R X J P h3 h2 A=>?_);refine WL.DA (show WL _ _ _ _ _ _ (St w0 G0 X.m _)from ?_);refine è ?_;exact WE.jQ rfl rfl rfl
instance nI{S r}:k ((La S)) r (Cr 28 #[i' S] (λG=>True) (fS (gf .i64 8) r)):=.mk λhr=>by
 refine Ξ ?_;intro w0 G0 v hr _;refine mY (e:=71) (r:=(gf .i64 8)) (vs:=#[(0,.agg (Ö (ζ (ζ (ζ (ζ (ζ (ζ (ζ (ζ (λ_=>0) 0 0) 1 1) 2 2) 3 3) 4 4) 5 5) 6 6) 7 7)).toArray)]) (cs:=(Ö (ζ (ζ (ζ (ζ (ζ (ζ (ζ (ζ (λ_=>0) 0 0) 1 1) 2 2) 3 3) 4 4) 5 5) 6 6) 7 7))++([])) ([ζ (ζ (ζ (ζ (ζ (ζ (ζ (ζ (λ_=>0) 0 0) 1 1) 2 2) 3 3) 4 4) 5 5) 6 6) 7 7]:Ŀ (Fin 8->Int)) z z z z z (by decide) (λ_=>by kernel_rfl) ⟨Ö (ζ (ζ (ζ (ζ (ζ (ζ (ζ (ζ (λ_=>0) 0 0) 1 1) 2 2) 3 3) 4 4) 5 5) 6 6) 7 7),[],z,z,z⟩ (key:=999) z (by rw[v];rfl) λp1 ap aY aQ=>Ρ z<|o'<|sr<|Ρ z<|WC.mC (hH:=by exact aQ) hr [0] [] [] [] (λ(⟨o,f,d,I⟩:(Ŀ (Fin 8->Int))×ŀ Addr×Nat×Int)=>⟨(o,I),[(3,ε f o d),(4,i' I)],λu=>sv u f d o,[]⟩) (λ(⟨U,T,R⟩:(Ŀ (Fin 8->Int))×ŀ Addr×Nat)=>⟨U,[(3,ε T U R)],λak=>sv ak T R U,[]⟩) ⟨[ζ (ζ (ζ (ζ (ζ (ζ (ζ (ζ (λ_=>0) 0 0) 1 1) 2 2) 3 3) 4 4) 5 5) 6 6) 7 7],p1,1,0⟩ ?_
 rintro _ u ⟨o,f,d,I⟩ ag l hr;refine Ξ ?_;intro _ p2 am _ aS hr;refine WC.mC (hH:=by exact⟨aS,kV⟩) hr [0,3,4] [] [0,4] [] (λ(⟨n,q,p,s,a⟩:(Ŀ (Fin 8->Int))×ŀ Addr×Nat×ŀ Ow×Int)=>⟨(n,a),[(5,ε q n p),(6,i' a)],λJ=>sv J q p n/\Tok 8 71 (ε q n p) n.length s,[(1005,s)]⟩) (λ(⟨t,B,A,H⟩:(Ŀ (Fin 8->Int))×ŀ Addr×Nat×ŀ Ow)=>⟨t,[(5,ε B t A)],λY=>sv Y B A t/\Tok 8 71 (ε B t A) t.length H,[(1005,H)]⟩) ⟨[],p2,0,none,0⟩ ?_;rintro _ J ⟨n,q,p,s,a⟩ g ⟨aa,O⟩ hr;refine Ξ ?_;intro _ hr;refine WC.mC (hH:=by exact⟨aa,O⟩) hr [0,3,4,6] [] [0,3,4,6] [] (λ(⟨c,j,i,h,Q⟩:(Ŀ (Fin 8->Int))×ŀ Addr×Nat×ŀ Ow×Int)=>⟨(c,Q),[(5,ε j c i),(7,i' Q)],λF=>sv F j i c/\Tok 8 71 (ε j c i) c.length h,[(1005,h)]⟩) (λ(⟨y,C,D,E⟩:(Ŀ (Fin 8->Int))×ŀ Addr×Nat×ŀ Ow)=>⟨y,[(5,ε C y D)],λV=>sv V C D y/\Tok 8 71 (ε C y D) y.length E,[(1005,E)]⟩) ⟨n,q,p,s,I⟩ ?_;rintro _ F ⟨c,j,i,h,Q⟩ m ⟨W,M⟩ hr;refine Ξ ?_;intro _ x1 _ _ N x2 _ _ hr _;refine WC.mB hr [0,3,4,5,6,7,8] [1005] [0,3,4,5,6,7,8] [1005] (λ(⟨X,P⟩:Int×(Fin 8->Int))=>⟨(X,P),[(9,i' X)],tr,[(8,ú N (Ö P) 71)]⟩) (λ(K:(Fin 8->Int))=>⟨K,[],tr,[(8,ú N (Ö K) 71)]⟩) ⟨Q,ζ x1 I.toNat (Ε x2 Q)⟩ ?_;intro aq K hr L _;refine Ξ ?_;intro _ _ x aR hr;refine oA hr λaF hr=>jN (r:=(gf .i64 8)) 1005 z z MO nW z (by decide) z z (W.mono (mx L x)) z (by rw[v];rfl) M aR aF λp4 aM aG aJ ax aL Z=>Þ z<|t'<|E'<|b'<|w'<|ν z<|iM z<|Þ z<|t'<|N' ⟨aJ,(c++[K]),p4,aM,aG,i64.wrap (Q+1)⟩ hr ⟨(mx (mx (mx m L) x) ax),aL,Z⟩ (Æ z) (w1 z)
instance BN{h r}:a ((xh h)) r (∀ {g f},Cr 293 #[ε g h f] (λG=>su G g f h) (fS (Rp.int .u32) r)):=.mk λhr {g f}=>by
 refine Ξ ?_;intro q j _ hr e;refine WC.mB hr [0] [] [0] [] (λ(i:Int)=>⟨i,[(3,i' i)],tr,[]⟩) (λ(o:Int)=>⟨o,[(3,i' o)],tr,[]⟩) (h.length:Int) ?_;intro k o hr l _;refine b'<|sr<|ν z<|ν z<|oA hr λp hr=>WL.qj (r:=(Rp.int .u32)) z z F' tF z (e.mono l) z z p λy v s=>Ρ z<|m' ?_
 obtain rfl:_=r:=hr;exact j' z z ⟨_,_,z,s⟩
instance fJ'{c r}:a ((AL c)) r (Cr 236 #[.int .u64 c] (λG=>True) (fS (Rp.int .u32) r)):=.mk λhr=>by
 refine J' (args:=[_]) (N:=11) func236 z z z λv t i o=>sr<|Þ z<|nr<|ν z<|Δ (xM z z (by decide))<|Δ (pw tB uk z)<|ν z<|Δ (V1 z z (by decide))<|Δ (pw tB uk z)<|mY (e:=248) (r:=(Rp.int .u32)) (vs:=#[(0,.int .u32 (u32.wrap (Int.tmod c 4294967296))),(1,.int .u32 (u32.wrap (u64.wrap (Int.tdiv c 4294967296))))]) (cs:=[.int .u32 (u32.wrap (Int.tmod c 4294967296))]++([.int .u32 (u32.wrap (u64.wrap (Int.tdiv c 4294967296)))]++([]))) ([u32.wrap (Int.tmod c 4294967296),u32.wrap (u64.wrap (Int.tdiv c 4294967296))]:Ŀ Int) z z z z z (by decide) (λ_=>by kernel_rfl) ⟨[.int .u32 (u32.wrap (Int.tmod c 4294967296))],[.int .u32 (u32.wrap (u64.wrap (Int.tdiv c 4294967296)))]++([]),z,z,⟨[.int .u32 (u32.wrap (u64.wrap (Int.tdiv c 4294967296)))],[],z,z,z⟩⟩ (key:=999) z (by rw[i];rfl) (λu p k h=>?_)
 refine oE hr λq g hr=>gR z z (x' rC z) (BN.h g) z (h) (λl s j d=>?_);obtain⟨n,m,rfl,f⟩:=d;refine Ρ z<|m' ?_
 obtain rfl:_=r:=hr;exact j' z z ⟨_,_,z,f⟩
instance dB'{h m r}:a ((rN h m)) r (∀ {k j},Cr 235 #[.bool h,ε k m j] (λG=>su G k j m) (Ï r)):=.mk λhr {k j}=>Ζ
instance eO'{u r}:a ((uh u)) r (Cr 160 #[i' u] (λG=>True) (Ï r)):=.mk λhr=>Ζ
instance ga'{f r}:a ((A3 f)) r (∀ {d c},Cr 264 #[.agg ((η f d c)).toArray] (λG=>su G d c f.χ) (λG v=>v=i' r)):=.mk λhr {d c}=>Ζ
instance ey'{g i r}:a ((yJ g i)) r (∀ {e d},Cr 328 #[ε e g d,i' i] (λG=>su G e d g) (λG v=>v=.int .u64 r)):=.mk λhr {e d}=>Ζ
instance gR'{g r}:a ((Ko g)) r (∀ {e d},Cr 338 #[ε e g d] (λG=>su G e d g) (λG v=>v=.int .u64 r)):=.mk λhr {e d}=>Ζ
instance iC'{j i r}:a ((Ru j i)) r (Cr 337 #[.int .u64 j,.int .u64 i] (λG=>True) (λG v=>v=.int .u64 r)):=.mk λhr=>by refine Ξ ?_;intro m h _ hr _;refine WC.mA hr [] [] [] [] (λ(⟨g,e⟩:Int×Int)=>⟨(g,e),[(0,.int .u64 g),(1,.int .u64 e)],tr,[]⟩) (λ(k:Int)=>⟨k,[(0,.int .u64 k)],tr,[]⟩) ⟨j,i⟩
instance cQ'{m o r}:a ((Z5 m o)) r (∀ {j n h l},Cr 307 #[ε j m n,ε h o l] (λG=>su G j n m/\su G h l o) (λG v=>v=i' r)):=.mk λhr {j n h l}=>by refine Ξ ?_;intro D i _ _ _ _ _ hr _;refine WC.mA hr [0,1] [] [] [] (λ(p:Int)=>⟨p,[(5,i' p)],tr,[]⟩) (λ(_:Unit)=>⟨(.inr ()),[],tr,[]⟩) (i64.wrap ((m.length:Int)-1))
instance iq'{c m r}:a ((Qv c m)) r (∀ {B C},Cr 333 #[ε B c C,.int .u64 m] (λG=>su G B C c) (λG v=>∃ A x,v=.tuple #[ε A r.1 x,.int .u64 r.2]/\su G A x r.1)):=.mk λhr {B C}=>by
 refine Ξ ?_;intro U u _ V E L W hr _;refine WC.mB hr [0,1,6] [] [6] [] (λ(⟨h,d,f,t⟩:(Ŀ Int)×ŀ Ow×Int×Int)=>⟨(h,f,t),[(7,.int .u64 f),(8,i' t)],λk=>Γ (Rp.int .u32) 248 k (.slice E (c.length:Int).toNat ((c.length:Int).toNat)) h d,[(4012,d)]⟩) (λ(⟨o,j,y⟩:(Ŀ Int)×ŀ Ow×Int)=>⟨(o,y),[(7,.int .u64 y)],λq=>Γ (Rp.int .u32) 248 q (.slice E (c.length:Int).toNat ((c.length:Int).toNat)) o j,[(4012,j)]⟩) ⟨(List.replicate (c.length:Int).toNat 0),L,0,i64.wrap ((c.length:Int)-1)⟩ ?_;rintro q ⟨o,j,y⟩ hr Z F;refine b'<|sr<|ν z<|pL (r:=(Rp.int .u32)) (e:=248) 4012 F z (by rw[V];rfl) (λI H l D g=>?_)
 refine oE hr λJ O hr=>gR z z (x' rC z) (BN.h O) (by rw[qJ D]) ((rm D)) (λn N i s=>?_);obtain⟨af,p,rfl,K⟩:=s;refine ν z<|Þ z<|Ρ z<|m' ?_
 obtain rfl:_=r:=hr;exact um z z z ⟨_,_,z,K⟩
instance iL'{d c r}:a ((SR d c)) r (∀ {t o s u},Cr 309 #[ε t d o,ε s c u] (λG=>su G t o d/\su G s u c) (fS (Rp.int .u32) r)):=.mk λhr {t o s u}=>by
 refine Ξ ?_;intro W L _ X _ _ J af an hr _;refine WC.mD hr [0,1,5] [] [5] [] (λ(⟨E,k,h⟩:(Ŀ Int)×ŀ Ow×Int)=>⟨(E,h),[(6,i' h)],λy=>Γ (Rp.int .u32) 248 y (.slice J (i64.wrap ((d.length:Int)+(c.length:Int))).toNat ((i64.wrap ((d.length:Int)+(c.length:Int))).toNat)) E k,[(4015,k)]⟩) (λ(⟨K,D⟩:(Ŀ Int)×ŀ Ow)=>⟨K,[],λQ=>Γ (Rp.int .u32) 248 Q (.slice J (i64.wrap ((d.length:Int)+(c.length:Int))).toNat ((i64.wrap ((d.length:Int)+(c.length:Int))).toNat)) K D,[(4015,D)]⟩) ⟨(List.replicate (i64.wrap ((d.length:Int)+(c.length:Int))).toNat 0),af,0⟩ ?_ ?_
 .rintro _ y ⟨E,k,h⟩ g O hr;refine Ξ ?_;intro _ hr;refine WC.mC hr [0,1,5,6] [] [0,1,5,6] [] (λ(⟨B,q,l,x⟩:(Ŀ Int)×ŀ Ow×Int×Int)=>⟨(B,l,x),[(7,.int .u64 l),(8,i' x)],λF=>Γ (Rp.int .u32) 248 F (.slice J (i64.wrap ((d.length:Int)+(c.length:Int))).toNat ((i64.wrap ((d.length:Int)+(c.length:Int))).toNat)) B q,[(4015,q)]⟩) (λ(⟨H,C,v⟩:(Ŀ Int)×ŀ Ow×Int)=>⟨(H,v),[(7,.int .u64 v)],λI=>Γ (Rp.int .u32) 248 I (.slice J (i64.wrap ((d.length:Int)+(c.length:Int))).toNat ((i64.wrap ((d.length:Int)+(c.length:Int))).toNat)) H C,[(4015,C)]⟩) ⟨E,k,0,0⟩ ?_;rintro _ F ⟨B,q,l,x⟩ j m hr;refine o' ?_;refine è ?_;intro hr;refine I' hr z (λP hr=>?_) (λP hr=>?_)
  .refine q'<|b'<|o'<|Y'<|o'<|fA [ff,ff,ff,ff,ff,ff,ff,ff,ff,ff,ff,ff,ff,ff,ff,ff,ff,ff,ff,ff] eL (by kernel_rfl) λZ=>fM z<|fM z ?_
   refine è ?_;intro Y _ _ U _ hr _;exact oE hr λT n hr=>cn (λ_ f=>pC F' tF (m.mono f) z z n)<|cn (λ_ f=>Y0.loadT VN (m.mono f) (key:=4015) z z (zg (oj m n)))<|cn (λ_ f=>pw uk tB z)<|cn (λ_ f=>V' z z)<|fM z<|pz Z<|iM z<|Þ z<|t'<|Θ<|b'<|sr<|ν z<|ν z<|ν z<|iM z<|ν z<|Δ (xM z z (by decide))<|Δ (pw tB uk z)<|oE hr λx5 p hr=>Δ (pC F' tF m z z p)<|zz (r:=(Rp.int .u32)) (e:=248) (cs':=[.int .u32 (u32.wrap (Int.tmod (u64.wrap ((u64.wrap ((u64.wrap ((u64.wrap Y)*(u64.wrap U)))+(u64.wrap T)))+l)) 4294967296))]) (i:=i64.wrap (h+x)) (z':=u32.wrap (Int.tmod (u64.wrap ((u64.wrap ((u64.wrap ((u64.wrap Y)*(u64.wrap U)))+(u64.wrap T)))+l)) 4294967296)) 4015 z tF z m z z z z z p λao ah=>nx<|w'<|ν z<|Δ (V1 z z (by decide))<|Ζ
  exact Ζ
 rintro Q ⟨K,D⟩ hr ar V;refine b'<|sr<|ν z<|pL (r:=(Rp.int .u32)) (e:=248) 4015 V z (by rw[X];rfl) (λaC aB aw S au=>?_)
 refine oE hr λaD N hr=>gR z z (x' rC z) (BN.h N) (by rw[qJ S]) ((rm S)) (λay aE av R=>?_);obtain⟨aA,az,rfl,A⟩:=R;refine Ρ z<|m' ?_
 obtain rfl:_=r:=hr;exact j' z z ⟨_,_,z,A⟩
instance gK'{e f r}:a ((Ke e f)) r (∀ {i g h j},Cr 317 #[ε i e g,ε h f j] (λG=>su G i g e/\su G h j f) (λG v=>∃ o n m q,v=.tuple #[ε o r.1 n,ε m r.2 q]/\su G o n r.1/\su G m q r.2)):=.mk λhr {i g h j}=>Ζ
instance iD'{I H r}:a ((RQ I H)) r (∀ {C F x E},Cr 318 #[ε C I F,ε x H E] (λG=>su G C F I/\su G x E H) (fS (Rp.int .u32) r)):=.mk λhr {C F x E}=>by refine Ξ ?_;intro Q s _ _ T hr c;refine WC.mA hr [] [] [] [] (λ(⟨l,g,i,j,k,f⟩:(Ŀ Int)×ŀ Addr×Nat×(Ŀ Int)×ŀ Addr×Nat)=>⟨(l,j),[(0,ε g l i),(1,ε k j f)],λd=>su d g i l/\su d k f j,[]⟩) (λ(⟨J,A,u⟩:(Ŀ Int)×ŀ Addr×Nat)=>⟨(.inr J),[(0,ε A J u)],λo=>su o A u J,[]⟩) ⟨I,C,F,H,x,E⟩
instance gu'{q n r}:a ((xu q n)) r (∀ {f d e c},Cr 279 #[.agg ((η q f d)).toArray,.agg ((η n e c)).toArray] (λG=>su G f d q.χ/\su G e c n.χ) (Ï r)):=.mk λhr {f d e c}=>Ζ
instance Wc{C y r}:a ((yE C y)) r (∀ {e c d f},Cr 278 #[.agg ((η C e c)).toArray,.agg ((η y d f)).toArray] (λG=>su G e c C.χ/\su G d f y.χ) (λG v=>∃ j k g l,v=.tuple #[.agg ((η r.1 j k)).toArray,.agg ((η r.2.1 g l)).toArray,i' r.2.2]/\su G j k r.1.χ/\su G g l r.2.1.χ)):=.mk λhr {e c d f}=>Ζ
instance ls{t q r}:a ((K5 t q)) r (∀ {d c g f},Cr 305 #[.agg ((η t d c)).toArray,.agg ((η q g f)).toArray] (λG=>su G d c t.χ/\su G g f q.χ) (Ï r)):=.mk λhr {d c g f}=>Ζ
instance id'{j r}:a ((Mc j)) r (∀ {d c},Cr 304 #[.agg ((η j d c)).toArray] (λG=>su G d c j.χ) (Ï r)):=.mk λhr {d c}=>Ζ
instance fp'{T R r}:a ((AI T R)) r (∀ {o l p n},Cr 261 #[.agg ((η T o l)).toArray,.agg ((η R p n)).toArray] (λG=>su G o l T.χ/\su G p n R.χ) (er r)):=.mk λhr {o l p n}=>Ζ
instance ie'{u s r}:a ((F1 u s)) r (∀ {h e j f},Cr 280 #[.agg ((η u h e)).toArray,.agg ((η s j f)).toArray] (λG=>su G h e u.χ/\su G j f s.χ) (ix r)):=.mk λhr {h e j f}=>Ζ
instance eT'{h r}:a ((oy h)) r (∀ {d c f e},Cr 206 #[.agg ((Υ h d c f e)).toArray] (λG=>su G d c h.num.χ/\su G f e h.den.χ) (λG v=>v=i' r)):=.mk λhr {d c f e}=>Ζ
instance zG{j r}:a ((Fs j)) r (Cr 232 #[.agg (Ö j).toArray] (λG=>True) (λG v=>v=.bool r)):=.mk λhr=>by refine Ξ ?_;intro m e _ k hr _;refine WC.mA hr [1] [1] [] [] (λ(g:Int)=>⟨g,[(3,i' g)],tr,[]⟩) (λ(_:Unit)=>⟨(.inr ()),[],tr,[]⟩) 0
instance je'{q k r}:a ((Me q k)) r (Cr 265 #[.agg (Ö q).toArray,.agg (Ö k).toArray] (λG=>True) (λG v=>v=.tuple #[.agg (Ö r.1).toArray,i' r.2])):=.mk λhr=>by refine Ξ ?_;intro A l _ m t n hr _;refine WC.mA hr [2,3,4] [3,4] [2,4] [4] (λ(⟨d,c⟩:Int×(Fin 8->Int))=>⟨(d,c),[(6,i' d)],tr,[(2,ú m (Ö c) 145)]⟩) (λ(e:(Fin 8->Int))=>⟨e,[],tr,[(2,ú m (Ö e) 145)]⟩) ⟨0,q⟩
instance MY{A t r}:a ((qY A t)) r (∀ {j f g e},Cr 263 #[.agg ((η A j f)).toArray,.agg ((η t g e)).toArray] (λG=>su G j f A.χ/\su G g e t.χ) (Ï r)):=.mk λhr {j f g e}=>Ζ
instance V9{q p r}:a ((qZ q p)) r (∀ {m g k j l e c f},Cr 266 #[.agg ((Υ q m g k j)).toArray,.agg ((Υ p l e c f)).toArray] (λG=>su G m g q.num.χ/\su G k j q.den.χ/\su G l e p.num.χ/\su G c f p.den.χ) (er r)):=.mk λhr {m g k j l e c f}=>Ζ
instance Nb{Z g p1 r}:e ((Ft Z g p1)) r (∀ {s t q A c d},Cr 207 #[.agg ((Υ Z s t q A)).toArray,.agg (Ö g).toArray,ε c p1 d] (λG=>su G s t Z.num.χ/\su G q A Z.den.χ/\sl c' G c d p1) (iy c' r)):=.mk λhr {s t q A c d}=>by
 refine Ξ ?_;intro w0 G0 _ Y _ _ _ _ Q R p2 P _ n _ _ hr _;refine WC.mC (hH:=by exact⟨n,kV⟩) hr [2,3,4] [3,4] [] [] (λ(⟨y,D,C,E,a⟩:(Ŀ Za)×ŀ Addr×Nat×ŀ Ow×Int)=>⟨(y,a),[(8,ε D y C),(9,i' a)],λM=>sl c' M D C y/\Tok 12 147 (ε D y C) y.length E,[(1008,E)]⟩) (λ(⟨F,K,J,L⟩:(Ŀ Za)×ŀ Addr×Nat×ŀ Ow)=>⟨(.inr F),[(8,ε K F J)],λV=>sl c' V K J F/\Tok 12 147 (ε K F J) F.length L,[(1008,L)]⟩) ⟨[],p2,0,none,0⟩ ?_;rintro _ M ⟨y,D,C,E,a⟩ m ⟨S,O⟩ hr;refine o' ?_;refine è ?_;intro hr;refine I' hr z (λi hr=>?_) (λi hr=>?_)
 .refine q'<|b'<|o'<|Y'<|o'<|fA [ff,ff,ff,ff,ff,ff,ff,ff,ff,tt,ff] eL (by kernel_rfl) λf=>cn (λ_ k=>y' 4 Gw z z (U' _ _ _))<|fM z ?_
  refine è ?_;intro _ _ _ _ _ _ _ _ _ _ _ _ _ _ _ B hr _;refine kI (λ_=>z) z145<|γ.Dx f λW=>?_
  refine è ?_;intro hr;refine o'<|sr<|ν z<|Δ (qD z z)<|nx<|I' hr z (λp hr=>?_) (λp hr=>?_)
  .exact Ζ
  refine q'<|b'<|fA [tt,ff,ff,ff,ff,ff,ff,ff,ff] eL (by kernel_rfl) λf=>uw z (k' z) ?_
  refine è ?_;intro _ _ _ _ _ _ _ _ _ _ _ _ _ _ _ l _ U _ _ _ _ _ _ _ _ T j hr _;refine oA hr λH hr=>jN (r:=c') 1008 z z Q' kX z (by decide) z z (S.mono (mx U T)) z (by rw[Y];rfl) O j H λp4 h I u v N x=>Þ z<|t'<|Θ<|E'<|b'<|w'<|ν z<|iM z<|Þ z<|t'<|N' ⟨u,(y++[(Za.mk l B.1)]),p4,h,I,i64.wrap (a+1)⟩ hr ⟨(mx (mx (mx m U) T) v),N,x⟩ (Æ z) (w3 z z z)
 exact Ζ
instance if'{m r}:a ((F0 m)) r (∀ {g f e c},Cr 281 #[.agg ((Υ m g f e c)).toArray] (λG=>su G g f m.num.χ/\su G e c m.den.χ) (er r)):=.mk λhr {g f e c}=>Ζ
instance gT'{Z r}:ab ((EY Z)) r (∀ {R aa},Cr 214 #[ε R Z aa] (λG=>sl c' G R aa Z) (fS c' r)):=.mk λhr {R aa}=>by
 refine Ξ ?_;intro w0 G0 x _ _ c9 _ _ A bH bx bz bT bW y aq au bE b1 b2 hr _;refine WC.mD hr [0,3,4] [4] [0,3,4] [4] (λ(⟨aR,a5,am,ai⟩:Int×Zg×ŀ Addr×Nat)=>⟨(aR,a5),[(5,i' aR)],λa0=>su a0 am ai a5.χ,[(3,ú b1 (η a5 am ai) 118)]⟩) (λ(⟨aL,O,P⟩:Zg×ŀ Addr×Nat)=>⟨aL,[],λaD=>su aD O P aL.χ,[(3,ú b1 (η aL O P) 118)]⟩) ⟨0,c9,bH,bx⟩ ?_ ?_
 .rintro _ a0 ⟨aR,a5,am,ai⟩ S ar hr;refine o' ?_;refine è ?_;intro hr;refine I' hr z (λcZ hr=>?_) (λcZ hr=>?_)
  .refine q'<|b'<|o'<|Y'<|o'<|fA [ff,ff,ff,ff,ff,ff,ff,ff,ff,ff,ff,ff,ff,ff,ff,ff,ff,tt,tt,ff,ff] eL (by kernel_rfl) λhb=>fM z<|fM z ?_
   refine è ?_;intro _ _ cj _ _ _ _ _ _ _ _ _ _ _ hr _;obtain⟨db,cK,cX,b8⟩:=GJ (T' (qH (nE (rZ (nE (iK x cj))))) (mx (mx A y) S));refine cn (λ_ g=>ny _ mH z z (λj v N=>g _ _ _ (cX j v N))) ?_;refine è ?_;intro _ _ cl _ _ _ _ _ _ _ _ _ _ _ hr _;obtain⟨c4,cO,cV,bM⟩:=GJ (T' (qH (nE (rZ (nE (iK x cl))))) (mx (mx A y) S));refine cn (λ_ g=>ny _ mH z z (λj v N=>g _ _ _ (cV j v N))) ?_;refine è ?_;intro bS hr _;refine oE hr λi cg hr=>mg (f:=278) (φ:=λG v=>∃ l n o m,v=.tuple #[.agg ((η i.1 l n)).toArray,.agg ((η i.2.1 o m)).toArray,i' i.2.2]/\su G l n i.1.χ/\su G o m i.2.1.χ) (λ_=>z) (λv d e g h=>?_) (λu M g a=>?_) ?_
   .obtain⟨l,n,o,m,rfl,F,H⟩:=h;exact⟨_,_,_,_,z,F.mono g,H.mono g⟩
   .obtain⟨⟨ax,aB,bP,Y⟩,_⟩:=(show(Ï bS) M.m (u 43)/\True from a);exact⟨_,_,_,λ_=>x' zY z,Wc.h cg,(by simp only[bP] <;> rfl),⟨(b8.mono g),Y⟩⟩
   refine jr (φ:=λG v=>∃ p6 B p7 E,v=.tuple #[.agg ((η i.1 p6 B)).toArray,.agg ((η i.2.1 p7 E)).toArray,i' i.2.2]/\su G p6 B i.1.χ/\su G p7 E i.2.1.χ) (λ_=>z) (λv d e g h=>?_) (λu M g a=>?_) ?_
   .obtain⟨p6,B,p7,E,rfl,X,aH⟩:=h;exact⟨_,_,_,_,z,X.mono g,aH.mono g⟩
   .obtain⟨⟨l,n,o,m,bU,F,H⟩,_,_⟩:=(show(λG v=>∃ l n o m,v=.tuple #[.agg ((η i.1 l n)).toArray,.agg ((η i.2.1 o m)).toArray,i' i.2.2]/\su G l n i.1.χ/\su G o m i.2.1.χ) M.m (u 44)/\True/\True from a);simp only[ς,bU];exact⟨_,k' z,l,n,o,m,z,F,H⟩
   refine jr (φ:=Ï i.1) (λ_=>z) (λv d e g h=>?_) (λu M g a=>?_) ?_
   .obtain⟨p8,dg,rfl,bL⟩:=h;exact⟨_,_,z,bL.mono g⟩
   .obtain⟨⟨p6,B,p7,E,Q,X,aH⟩,_,_,_⟩:=(show(λG v=>∃ p6 B p7 E,v=.tuple #[.agg ((η i.1 p6 B)).toArray,.agg ((η i.2.1 p7 E)).toArray,i' i.2.2]/\su G p6 B i.1.χ/\su G p7 E i.2.1.χ) M.m (u 29)/\True/\True/\True from a);simp only[ς,Q];exact⟨_,O' z z,p6,B,z,X⟩
   refine γ.nj (kk:=29) (φ:=Ï i.2.1) (by kernel_rfl) (λ_=>z) (λv d e g h=>?_) (λu M g a=>?_) ?_
   .obtain⟨p9,cY,rfl,ck⟩:=h;exact⟨_,_,z,ck.mono g⟩
   .obtain⟨_,⟨p6,B,p7,E,Q,X,aH⟩,_,_,_⟩:=(show True/\(λG v=>∃ p6 B p7 E,v=.tuple #[.agg ((η i.1 p6 B)).toArray,.agg ((η i.2.1 p7 E)).toArray,i' i.2.2]/\su G p6 B i.1.χ/\su G p7 E i.2.1.χ) M.m (u 29)/\True/\True/\True from a);exact⟨_,_,Q,(by simp only[ς,Q] <;> rfl),z,p7,E,z,aH⟩
   refine mi (c:=i' i.2.2) (λ_=>z) (λu M g a=>?_) ?_
   .obtain⟨_,_,⟨p6,B,p7,E,Q,X,aH⟩,_,_,_⟩:=(show True/\True/\(λG v=>∃ p6 B p7 E,v=.tuple #[.agg ((η i.1 p6 B)).toArray,.agg ((η i.2.1 p7 E)).toArray,i' i.2.2]/\su G p6 B i.1.χ/\su G p7 E i.2.1.χ) M.m (u 29)/\True/\True/\True from a);simp only[ς,Q];exact O' z z
   refine kI (λ_=>z) vK<|kI (λ_=>z) vK<|γ.yj (λdO dL ds dr dp dl dq X2 bY bR ay bb bk bo bn bl=>?_)
   obtain⟨p9,cY,rfl,ck⟩:=bb;obtain⟨p8,dg,rfl,bL⟩:=bk;obtain⟨p6,B,p7,E,rfl,X,aH⟩:=bo;obtain⟨l,n,o,m,rfl,F,H⟩:=bn;obtain⟨ax,aB,rfl,Y⟩:=bl;refine vQ bR (λb7 cL cW=>?_);subst cL;replace ay:=GI ay (by decide) cW;refine vQ ay (λb6 c5 dP=>?_);subst c5;refine lG (show WL _ _ _ _ _ _ (St w0 G0 X2.m _)from ?_);refine gp 6 vG z<|gp 7 vG z<|Þ z<|t'<|Θ<|b'<|w'<|Δ (y' 3 mH z z z)<|Δ (y' 6 mH z z z)<|oE hr λcD cc hr=>gR z z (x' wH z) (MY.h cc) z (⟨(ar.mono bY),bL⟩) (λdj cy bO be=>?_)
   obtain⟨bj,bh,rfl,bg⟩:=be;exact gp 3 vG z<|Ζ
  exact Ζ
 rintro aD ⟨aL,O,P⟩ hr I aI;refine b'<|o'<|sr<|Ρ z<|WC.mD hr [0,3,4] [3] [0,3,4] [3] (λ(⟨aO,a6,aj,al⟩:Int×Zg×ŀ Addr×Nat)=>⟨(aO,a6),[(9,i' aO)],λa3=>su a3 aj al a6.χ,[(4,ú b2 (η a6 aj al) 118)]⟩) (λ(⟨bv,ap,ao⟩:Zg×ŀ Addr×Nat)=>⟨bv,[],λbw=>su bw ap ao bv.χ,[(4,ú b2 (η bv ap ao) 118)]⟩) ⟨0,bT,aq,au⟩ ?_ ?_
 .rintro _ a3 ⟨aO,a6,aj,al⟩ L aG hr;refine o' ?_;refine è ?_;intro hr;refine I' hr z (λc6 hr=>?_) (λc6 hr=>?_)
  .refine q'<|b'<|o'<|Y'<|o'<|fA [ff,ff,ff,ff,ff,ff,ff,ff,ff,ff,tt,tt,ff,ff] eL (by kernel_rfl) λhb=>cn (λ_ g=>y' 3 mH z z z)<|fM z ?_
   refine è ?_;intro _ _ ci _ _ _ _ _ _ _ _ _ _ _ hr _;obtain⟨c0,de,cH,bX⟩:=GJ (T' (qH (nE (rZ (nE (iK x ci))))) (mx (mx (mx A y) I) L));refine cn (λ_ g=>ny _ mH z z (λj v N=>g _ _ _ (cH j v N)))<|oE hr λk cF hr=>qB (post:=λG v=>∃ p s t q,v=.tuple #[.agg ((η k.1 p s)).toArray,.agg ((η k.2.1 t q)).toArray,i' k.2.2]/\su G p s k.1.χ/\su G t q k.2.1.χ) (λ_=>z) (λ_ _=>x' zY z) (Wc.h cF) z (λM g=>⟨((aI.mono L).mono g),(bX.mono g)⟩) (λv d e g h=>?_) ?_
   .obtain⟨p,s,t,q,rfl,K,J⟩:=h;exact⟨_,_,_,_,z,K.mono g,J.mono g⟩
   refine jr (φ:=λG v=>∃ p2 D p3 C,v=.tuple #[.agg ((η k.1 p2 D)).toArray,.agg ((η k.2.1 p3 C)).toArray,i' k.2.2]/\su G p2 D k.1.χ/\su G p3 C k.2.1.χ) (λ_=>z) (λv d e g h=>?_) (λu M g a=>?_) ?_
   .obtain⟨p2,D,p3,C,rfl,aK,aJ⟩:=h;exact⟨_,_,_,_,z,aK.mono g,aJ.mono g⟩
   .obtain⟨⟨p,s,t,q,b9,K,J⟩,_⟩:=(show(λG v=>∃ p s t q,v=.tuple #[.agg ((η k.1 p s)).toArray,.agg ((η k.2.1 t q)).toArray,i' k.2.2]/\su G p s k.1.χ/\su G t q k.2.1.χ) M.m (u 65)/\True from a);simp only[ς,b9];exact⟨_,k' z,p,s,t,q,z,K,J⟩
   refine jr (φ:=Ï k.1) (λ_=>z) (λv d e g h=>?_) (λu M g a=>?_) ?_
   .obtain⟨p4,cS,rfl,bQ⟩:=h;exact⟨_,_,z,bQ.mono g⟩
   .obtain⟨⟨p2,D,p3,C,ak,aK,aJ⟩,_,_⟩:=(show(λG v=>∃ p2 D p3 C,v=.tuple #[.agg ((η k.1 p2 D)).toArray,.agg ((η k.2.1 p3 C)).toArray,i' k.2.2]/\su G p2 D k.1.χ/\su G p3 C k.2.1.χ) M.m (u 57)/\True/\True from a);simp only[ς,ak];exact⟨_,O' z z,p2,D,z,aK⟩
   refine γ.nj (kk:=57) (φ:=Ï k.2.1) (by kernel_rfl) (λ_=>z) (λv d e g h=>?_) (λu M g a=>?_) ?_
   .obtain⟨p5,cM,rfl,cu⟩:=h;exact⟨_,_,z,cu.mono g⟩
   .obtain⟨_,⟨p2,D,p3,C,ak,aK,aJ⟩,_,_⟩:=(show True/\(λG v=>∃ p2 D p3 C,v=.tuple #[.agg ((η k.1 p2 D)).toArray,.agg ((η k.2.1 p3 C)).toArray,i' k.2.2]/\su G p2 D k.1.χ/\su G p3 C k.2.1.χ) M.m (u 57)/\True/\True from a);exact⟨_,_,ak,(by simp only[ς,ak] <;> rfl),z,p3,C,z,aJ⟩
   refine mi (c:=i' k.2.2) (λ_=>z) (λu M g a=>?_) ?_
   .obtain⟨_,_,⟨p2,D,p3,C,ak,aK,aJ⟩,_,_⟩:=(show True/\True/\(λG v=>∃ p2 D p3 C,v=.tuple #[.agg ((η k.1 p2 D)).toArray,.agg ((η k.2.1 p3 C)).toArray,i' k.2.2]/\su G p2 D k.1.χ/\su G p3 C k.2.1.χ) M.m (u 57)/\True/\True from a);simp only[ς,ak];exact O' z z
   refine kI (λ_=>z) vK<|kI (λ_=>z) vK<|γ.nt (λdS dT dm dG dv dC X1 aU b0 aA ba bF bD bK=>?_)
   obtain⟨p5,cM,rfl,cu⟩:=ba;obtain⟨p4,cS,rfl,bQ⟩:=bF;obtain⟨p2,D,p3,C,rfl,aK,aJ⟩:=bD;obtain⟨p,s,t,q,rfl,K,J⟩:=bK;refine vQ b0 (λb5 cU dc=>?_);subst cU;replace aA:=GI aA (by decide) dc;refine vQ aA (λb4 dh dJ=>?_);subst dh;refine lG (show WL _ _ _ _ _ _ (St w0 G0 X1.m _)from ?_);refine gp 10 vG z<|gp 11 vG z<|Þ z<|t'<|Θ<|b'<|fA [ff,ff,ff,ff,ff,ff,ff,ff,ff] eL (by kernel_rfl) λhb=>?_
   refine è ?_;intro _ _ co _ _ _ _ _ _ _ _ _ _ _ hr _;obtain⟨c8,dd,cT,bV⟩:=GJ (T' (rZ (nE (rZ (nE (iK x co))))) (mx (mx (mx (mx A y) I) L) aU));refine cn (λ_ g=>ny _ mH z z (λj v N=>g _ _ _ (cT j v N)))<|cn (λ_ g=>y' 10 mH z z z)<|oE hr λbZ ce hr=>qB (post:=Ï bZ) (λ_=>z) (λ_ _=>x' wH z) (MY.h ce) z (λM g=>⟨(bV.mono g),(bQ.mono g)⟩) (λv d e g h=>?_) ?_
   .obtain⟨bq,bt,rfl,an⟩:=h;exact⟨_,_,z,an.mono g⟩
   exact Ζ
  exact Ζ
 rintro bw ⟨bv,ap,ao⟩ hr av bG;refine b'<|sr<|Δ (y' 3 mH z z z)<|Δ (y' 4 mH z z z)<|oE hr λc2 cE hr=>gR z z (x' IG z) (ie'.h cE) z (⟨(aI.mono av),bG⟩) (λdx cm aX bI=>?_)
 obtain⟨aE,az,aw,aC,rfl,ad,ah⟩:=bI;refine ν z<|lM z<|lM z<|W' 13 z rl z λb3=>gp 13 jW z<|Ρ z<|WC.nA hr [0,13] [] (λ(⟨a8,W,T,U,V⟩:Zf×ŀ Addr×Nat×ŀ Addr×Nat)=>⟨[],Jt Z a8,λa2=>su a2 W T a8.num.χ/\su a2 U V a8.den.χ,[(13,ú b3 (Υ a8 W T U V) 120)]⟩)
instance iE'{i r}:a ((Kp i)) r (Cr 230 #[.agg (Ö i).toArray] (λG=>True) (λG v=>v=i' r)):=.mk λhr=>by refine Ξ ?_;intro m h _ l hr _;refine WC.mA hr [1] [1] [] [] (λ(⟨f,e⟩:Int×Int)=>⟨(f,e),[(3,i' f),(4,i' e)],tr,[]⟩) (λ(k:Int)=>⟨k,[(3,i' k)],tr,[]⟩) ⟨0,0⟩
instance eP'{k r}:a ((wW k)) r (∀ {h g},Cr 153 #[ε h k g] (λG=>sl c' G h g k) (λG v=>v=i' r)):=.mk λhr {h g}=>by refine Ξ ?_;intro s f _ hr _;refine WC.mA hr [0] [] [] [] (λ(⟨e,l⟩:Int×Int)=>⟨(e,l),[(3,i' e),(4,i' l)],tr,[]⟩) (λ(o:Int)=>⟨o,[(3,i' o)],tr,[]⟩) ⟨(-1),0⟩
instance hB'{p n r}:a ((Lu p n)) r (∀ {j g h f},Cr 218 #[.agg ((η p j g)).toArray,.agg ((η n h f)).toArray] (λG=>su G j g p.χ/\su G h f n.χ) (λG v=>v=.bool r)):=.mk λhr {j g h f}=>by refine Ξ ?_;intro y l _ _ _ A u _ _ hr _;refine WC.mA hr [2,3] [2,3] [] [] (λ(o:Int)=>⟨o,[(5,i' o)],tr,[]⟩) (λ(_:Unit)=>⟨(.inr ()),[],tr,[]⟩) 0
instance hC'{l k r}:a ((A4 l k)) r (∀ {j f h g i d c e},Cr 140 #[.agg ((Υ l j f h g)).toArray,.agg ((Υ k i d c e)).toArray] (λG=>su G j f l.num.χ/\su G h g l.den.χ/\su G i d k.num.χ/\su G c e k.den.χ) (λG v=>v=.bool r)):=.mk λhr {j f h g i d c e}=>Ζ
instance hU'{l k r}:a ((Eo l k)) r (∀ {j h g f i d c e},Cr 79 #[.agg (((Υ l.c j h g f):Ŀ Value)++(Ö l.m)).toArray,.agg (((Υ k.c i d c e):Ŀ Value)++(Ö k.m)).toArray] (λG=>su G j h l.c.num.χ/\su G g f l.c.den.χ/\su G i d k.c.num.χ/\su G c e k.c.den.χ) (λG v=>v=.bool r)):=.mk λhr {j h g f i d c e}=>Ζ
instance eU'{C x r}:a ((tT C x)) r (∀ {p o s m},Cr 33 #[ε p C o,ε s x m] (λG=>sl c' G p o C/\sl c' G s m x) (λG v=>v=.bool r)):=.mk λhr {p o s m}=>by refine Ξ ?_;intro R l _ _ _ _ hr _;refine WC.mA hr [0,1] [] [] [] (λ(H:Int)=>⟨H,[(5,i' H)],tr,[]⟩) (λ(_:Unit)=>⟨(.inr ()),[],tr,[]⟩) 0
instance fQ'{o m r}:a ((xA o m)) r (Cr 204 #[.agg (Ö o).toArray,.agg (Ö m).toArray] (λG=>True) (λG v=>v=i' r)):=.mk λhr=>by refine Ξ ?_;intro s f _ t p hr _;refine WC.mA hr [2,3] [2,3] [] [] (λ(h:Int)=>⟨h,[(5,i' h)],tr,[]⟩) (λ(_:Unit)=>⟨(.inr ()),[],tr,[]⟩) 0
instance ig'{q k r}:a ((Mb q k)) r (∀ {h f g e},Cr 289 #[.agg ((η q h f)).toArray,.agg ((η k g e)).toArray] (λG=>su G h f q.χ/\su G g e k.χ) (λG v=>v=i' r)):=.mk λhr {h f g e}=>by
 refine è ?_;intro _ _ _ _ _ _ _ hr _;refine o'<|sr<|Δ (Bv z)<|dE hr z (l5 (n' 2 sO z z z) (đ Value.bool (mS _))) z (λE hr=>?_) (λE hr=>?_)
 .refine ν z<|gy z z (Bv z) z<|gy z z (n' 3 sO z z z) z<|gy z z (kU z) z<|Ι z<|nx<|kc hr z (λx hr=>?_) (λx hr=>?_)
  .exact Ζ
  refine q'<|b'<|o'<|sr<|Δ (Bv z)<|dE hr z (l5 (n' 2 sO z z z) (đ Value.bool (mS _))) z (λC hr=>?_) (λC hr=>?_)
  .exact Ζ
  exact Ζ
 refine ν z<|fK z<|ο z<|nx<|tG z<|q'<|b'<|o'<|sr<|Δ (Bv z)<|dE hr z (l5 (n' 2 sO z z z) (đ Value.bool (mS _))) z (λF hr=>?_) (λF hr=>?_)
 .exact Ζ
 exact Ζ
instance gU'{p o r}:a ((vz p o)) r (∀ {l g j i k e c f},Cr 282 #[.agg ((Υ p l g j i)).toArray,.agg ((Υ o k e c f)).toArray] (λG=>su G l g p.num.χ/\su G j i p.den.χ/\su G k e o.num.χ/\su G c f o.den.χ) (λG v=>v=i' r)):=.mk λhr {l g j i k e c f}=>Ζ
instance ih'{i h r}:a ((F3 i h)) r (∀ {k n l m},Cr 215 #[ε k i n,ε l h m] (λG=>sl c' G k n i/\sl c' G l m h) (λG v=>v=i' r)):=.mk λhr {k n l m}=>by refine Ξ ?_;intro w0 H _ _ _ hr _;refine WC.mA hr [0,1] [] [0,1] [] (λ(o:Int)=>⟨o,[(5,i' o)],tr,[]⟩) (λ(_:Unit)=>⟨(.inr ()),[],tr,[]⟩) 0
instance gV'{p u r}:a ((E1 p u)) r (∀ {n o},Cr 134 #[ε n p o,.bool u] (λG=>sq G n o p) (fS (Rp.sl c') r)):=.mk λhr {n o}=>by
 refine Ξ ?_;intro T S K p1 R _ ax hr _;refine WC.mC hr [0,1] [] [] [] (λ(⟨g,i,h,j⟩:(Ŀ (Ŀ Za))×ŀ Addr×Nat×Int)=>⟨(g,j),[(5,ε i g h),(6,i' j)],λJ=>sq J i h g,[]⟩) (λ(⟨C,H,E⟩:(Ŀ (Ŀ Za))×ŀ Addr×Nat)=>⟨C,[(5,ε H C E)],λM=>sq M H E C,[]⟩) ⟨[],p1,0,0⟩ ?_;rintro _ J ⟨g,i,h,j⟩ k f hr;refine Ξ ?_;intro _ _ _ _ _ _ _ _ _ _ s P d x t v hr _;refine WC.mB hr [0,1,5,6,7] [] [0,1,5,6,7] [] (λ(y:Int)=>⟨y,[(8,i' y)],tr,[]⟩) (λ(q:Int)=>⟨q,[(8,i' q)],tr,[]⟩) 0 ?_;intro m q hr c _;refine b'<|WC.nD hr [0,1,5,6,7,8] [] (λ(_:Unit)=>⟨[],tQ g j s q,tr,[]⟩) ?_ ?_
 .refine sr<|ν z<|Δ (P' Q' (v.mono c) z)<|dE hr z (eB z z) z (λB hr=>?_) (λB hr=>?_)
  .exact ν z<|yc z<|Å (M' z z) z<|Å (M' z z) z<|Å (M' z z) z<|sf z z z<|Ι z<|ν z<|ia z<|Å (M' z z) z<|Å (M' z z) z<|Å (M' z z) z<|Å (M' z z) z<|Å (M' z z) z<|Å (M' z z) z<|sf z z z<|Ι z<|nx<|nR z<|Ζ
  refine Ξ ?_;intro _ _ hr _;exact Å (M' z z) z<|Å (M' z z) z<|Å (M' z z) z<|Å (M' z z) z<|Å (M' z z) z<|Å (M' z z) z<|sf z z z<|Ι z<|nx<|nR z<|Ζ
 intro Q _ hr A _;refine Ξ ?_;intro _ _ F W hr;refine oA hr λe hr=>WL.uW (r:=(Rp.sl c')) z z jL pD z (f.mono (mx (mx (mx d c) A) F)) z z e (λp4 a1 V=>?_);exact oA hr λD hr=>jN (r:=(Rp.sl c')) 2067 z z jL js z (by decide) z z W z (by rw[K];rfl) kV V D λp5 aX aW a0 L l aU=>Ρ z<|w'<|ν z<|ν z<|ν z<|oA hr λO hr=>WL.slice3 (r:=(Rp.sl c')) z z jL pD z (f.mono (mx (mx (mx (mx d c) A) F) L)) z z z O λp6 N=>ν z<|oA hr λI hr=>jN (r:=(Rp.sl c')) 2073 z z jL js z (by decide) z z N z (by rw[K];rfl) kV l I λp7 Y Z X U ar aR=>Ζ
instance GD{q r}:a ((ZX q)) r (Cr 90 #[i' q] (λG=>True) (er r)):=.mk λhr=>Ζ
instance gC'{h r}:a ((Em h)) r (∀ {g c d f},Cr 133 #[.agg ((Υ h g c d f)).toArray] (λG=>su G g c h.num.χ/\su G d f h.den.χ) (fS c' r)):=.mk λhr {g c d f}=>Ζ
instance ot{g r}:a ((K3 g)) r (∀ {e d},Cr 288 #[.agg ((η g e d)).toArray] (λG=>su G e d g.χ) (λG v=>v=.bool r)):=.mk λhr {e d}=>Ζ
instance gx'{g r}:a ((ub g)) r (∀ {f e d c},Cr 231 #[.agg ((Υ g f e d c)).toArray] (λG=>su G f e g.num.χ/\su G d c g.den.χ) (λG v=>v=.bool r)):=.mk λhr {f e d c}=>Ζ
instance gy'{q r}:a ((AM q)) r (∀ {o n},Cr 154 #[ε o q n] (λG=>sl c' G o n q) (λG v=>v=.bool r)):=.mk λhr {o n}=>by refine Ξ ?_;intro O p _ hr _;refine WC.mA hr [0] [] [] [] (λ(m:Int)=>⟨m,[(3,i' m)],tr,[]⟩) (λ(_:Unit)=>⟨(.inr ()),[],tr,[]⟩) 0
instance jf'{i r}:a ((Md i)) r (Cr 290 #[i' i] (λG=>True) (λG v=>v=.int .u8 r)):=.mk λhr=>by refine Ξ ?_;intro k g _ hr _;refine WC.mA hr [0] [] [] [] (λ(⟨e,h⟩:Int×Int)=>⟨(e,h),[(3,i' e),(4,i' h)],tr,[]⟩) (λ(j:Int)=>⟨j,[(3,i' j)],tr,[]⟩) ⟨1,0⟩
instance ir'{j r}:a ((Kf j)) r (Cr 233 #[.agg (Ö j).toArray] (λG=>True) (λG v=>v=.int .u8 r)):=.mk λhr=>by refine Ξ ?_;intro p f _ m hr _;refine WC.mA hr [1] [1] [] [] (λ(⟨e,h⟩:Int×Int)=>⟨(e,h),[(3,.int .u8 e),(4,i' h)],tr,[]⟩) (λ(k:Int)=>⟨k,[(3,.int .u8 k)],tr,[]⟩) ⟨0,0⟩
instance gE'{l r}:a ((A6 l)) r (∀ {i h},Cr 155 #[ε i l h] (λG=>sl c' G i h l) (λG v=>v=.int .u8 r)):=.mk λhr {i h}=>by refine Ξ ?_;intro s g _ hr _;refine WC.mA hr [0] [] [] [] (λ(⟨d,m⟩:Int×Int)=>⟨(d,m),[(3,.int .u8 d),(4,i' m)],tr,[]⟩) (λ(f:Int)=>⟨f,[(3,.int .u8 f)],tr,[]⟩) ⟨0,0⟩
instance gk'{h m r}:a ((yF h m)) r (∀ {e d},Cr 213 #[ε e h d,i' m] (λG=>sl c' G e d h) (λG v=>v=.bool r)):=.mk λhr {e d}=>Ζ
instance ii'{k n r}:a ((F7 k n)) r (∀ {i h},Cr 132 #[ε i k h,i' n] (λG=>sq G i h k) (λG v=>v=.bool r)):=.mk λhr {i h}=>by refine Ξ ?_;intro s f _ hr _;refine WC.mA hr [0,1] [] [] [] (λ(j:Int)=>⟨j,[(5,i' j)],tr,[]⟩) (λ(_:Unit)=>⟨(.inr ()),[],tr,[]⟩) 0
instance gW'{l y p r}:N ((E3 l y p)) r (∀ {L M s t},Cr 74 #[i' l,ε L y M,ε s p t] (λG=>sq G L M y/\sq G s t p) (lZ r)):=.mk λhr {L M s t}=>by
 refine è ?_;intro w0 G0 _ R V a hr _;refine aL' hr (λ(⟨J,g,f,d,c,S⟩:Zb×ŀ Addr×Nat×ŀ Addr×Nat×Mem)=>⟨[(0,i' l),(1,ε L y M),(2,ε s p t),(6,iG a)],P0 l y p,Mem.le G0 S/\sq S g f J.eqs/\sq S d c J.δ,St w0 G0 S [(6,ú a (Ã J g f d c) 48)]⟩) ?_ ?_
 .refine Ξ ?_;intro _ _ _ _ hr _;refine pA ⟨(Zb.mk 0 [] []),none,0,none,0,G0⟩ ⟨hr,mr,(X' _ _),(X' _ _)⟩ (Æ z) (w1 z)
 rintro⟨J,g,f,d,c,S⟩ ⟨hr,u,aT,aH⟩;refine Ξ ?_;intro _ _ x a2 hr;refine oA hr λP hr=>jN (r:=(Rp.sl c')) 2032 z z jL js z (by decide) z z a2 z (by rw[R];rfl) kV (V.mono (mx u x)) P λp2 a7 aP q C a4 T=>Ρ z<|o'<|sr<|Ρ z<|nv (X:=(Ŀ (Ŀ Za))×ŀ Addr×Nat×ŀ Ow×Int×Mem) hr (λ⟨h,m,o,k,F,I⟩=>⟨(h,F),[(0,i' l),(2,ε s p t),(6,iG a),(8,ε m h o),(9,i' F)],Mem.le q I/\sq I m o h/\Tok 1 50 (ε m h o) h.length k,St w0 G0 I [(6,ú a (Ã J g f d c) 48),(1008,k)]⟩) (λ(⟨A,B,D,E,e⟩:(Ŀ (Ŀ Za))×ŀ Addr×Nat×ŀ Ow×Mem)=>⟨A,[(0,i' l),(2,ε s p t),(6,iG a),(8,ε B A D)],Mem.le q e/\sq e B D A/\Tok 1 50 (ε B A D) A.length E,St w0 G0 e [(6,ú a (Ã J g f d c) 48),(1008,E)]⟩) ⟨([]++y),p2,a7,aP,0,q⟩ z (Æ z) ⟨mr,a4,T⟩ ?_ ?_ ?_
 .intro w v;have v:=v.Ý (i:=2032) (j:=1008) z (by rw[R];rfl);exact v.weaken (lc z (lc z ln))
 .rintro _ ⟨h,m,o,k,F,I⟩ ⟨n,K,H⟩ hr;refine Ξ ?_;intro _ _ _ _ _ _ _ _ _ _ _ _ _ _ Y _ _ _ _ _ _ Q _ W _ _ _ _ _ O aX hr _;refine oA hr λU hr=>jN (r:=(Rp.sl c')) 1008 z z jL js z (by decide) z z (K.mono (mx (mx Y W) O)) z (by rw[R];rfl) H aX U λp5 aU aS aY ap a8 Z=>Þ z<|t'<|E'<|b'<|w'<|ν z<|iM z<|Þ z<|t'<|N' ⟨(h++[Q]),p5,aU,aS,i64.wrap (F+1),aY⟩ hr ⟨(mx (mx (mx (mx n Y) W) O) ap),a8,Z⟩ (Æ z) (w2 z z)
 rintro⟨A,B,D,E,e⟩ ⟨hr,ar,av,aW⟩;exact Ζ
instance gO'{c r}:a ((Jb c)) r (Cr 131 #[.agg (Ö c).toArray] (λG=>True) (λG v=>v=.bool r)):=.mk λhr=>by
 refine Ξ ?_;intro s g _ o y hr _;refine A' 3 z wx z z z (U' _ _ _) (U' _ _ _) (λu t=>Rp.one (Rp.DF 8) (G:=g) (x:=(λ_=>false)) (cs:=õ Value.bool 8 (λ_=>false)) z u (by first|simpa using t|simpa[Value.cells]using t))<|nx<|o'<|sr<|Ρ z<|WC.mA hr [1,3] [1] [] [] (λ(⟨h,d⟩:Int×(Fin 8->Bool))=>⟨(h,d),[(4,i' h)],tr,[(3,ú y (õ Value.bool 8 d) 143)]⟩) (λ(_:Unit)=>⟨(.inr ()),[],tr,[]⟩) ⟨0,(λ_=>false)⟩
instance iM'{d c r}:a ((SQ d c)) r (∀ {y B v A},Cr 306 #[ε y d B,ε v c A] (λG=>su G y B d/\su G v A c) (fS (Rp.int .u32) r)):=.mk λhr {y B v A}=>by
 refine Ξ ?_;intro T x _ U _ _ D M V hr _;refine WC.mB hr [0,1,5,6] [] [6] [] (λ(⟨j,g,f,u⟩:(Ŀ Int)×ŀ Ow×Int×Int)=>⟨(j,f,u),[(7,.int .u64 f),(8,i' u)],λl=>Γ (Rp.int .u32) 248 l (.slice D (i64.wrap ((if(d.length:Int)<(c.length:Int)then(c.length:Int)else(d.length:Int))+1)).toNat ((i64.wrap ((if(d.length:Int)<(c.length:Int)then(c.length:Int)else(d.length:Int))+1)).toNat)) j g,[(4017,g)]⟩) (λ(⟨o,k⟩:(Ŀ Int)×ŀ Ow)=>⟨o,[],λq=>Γ (Rp.int .u32) 248 q (.slice D (i64.wrap ((if(d.length:Int)<(c.length:Int)then(c.length:Int)else(d.length:Int))+1)).toNat ((i64.wrap ((if(d.length:Int)<(c.length:Int)then(c.length:Int)else(d.length:Int))+1)).toNat)) o k,[(4017,k)]⟩) ⟨(List.replicate (i64.wrap ((if(d.length:Int)<(c.length:Int)then(c.length:Int)else(d.length:Int))+1)).toNat 0),M,0,0⟩ ?_;rintro q ⟨o,k⟩ hr Y E;refine b'<|sr<|ν z<|pL (r:=(Rp.int .u32)) (e:=248) 4017 E z (by rw[U];rfl) (λs af i C Z=>?_)
 refine oE hr λF P hr=>gR z z (x' rC z) (BN.h P) (by rw[qJ C]) ((rm C)) (λm H h t=>?_);obtain⟨p,n,rfl,L⟩:=t;refine Ρ z<|m' ?_
 obtain rfl:_=r:=hr;exact j' z z ⟨_,_,z,L⟩
instance ht'{h D r}:a ((K4 h D)) r (∀ {y B v A},Cr 308 #[ε y h B,ε v D A] (λG=>su G y B h/\su G v A D) (fS (Rp.int .u32) r)):=.mk λhr {y B v A}=>by
 refine Ξ ?_;intro T x _ U _ _ E M V hr _;refine WC.mB hr [0,1,5] [] [5] [] (λ(⟨j,g,c,u⟩:(Ŀ Int)×ŀ Ow×Int×Int)=>⟨(j,c,u),[(6,.int .u64 c),(7,i' u)],λl=>Γ (Rp.int .u32) 248 l (.slice E (h.length:Int).toNat ((h.length:Int).toNat)) j g,[(4011,g)]⟩) (λ(⟨o,k⟩:(Ŀ Int)×ŀ Ow)=>⟨o,[],λs=>Γ (Rp.int .u32) 248 s (.slice E (h.length:Int).toNat ((h.length:Int).toNat)) o k,[(4011,k)]⟩) ⟨(List.replicate (h.length:Int).toNat 0),M,0,0⟩ ?_;rintro s ⟨o,k⟩ hr Z F;refine b'<|sr<|ν z<|pL (r:=(Rp.int .u32)) (e:=248) 4011 F z (by rw[U];rfl) (λq p i C d=>?_)
 refine oE hr λH P hr=>gR z z (x' rC z) (BN.h P) (by rw[qJ C]) ((rm C)) (λm I f t=>?_);obtain⟨n,af,rfl,L⟩:=t;refine Ρ z<|m' ?_
 obtain rfl:_=r:=hr;exact j' z z ⟨_,_,z,L⟩
instance jg'{L K r}:a ((Um L K)) r (∀ {j g l k},Cr 262 #[.agg ((η L j g)).toArray,.agg ((η K l k)).toArray] (λG=>su G j g L.χ/\su G l k K.χ) (Ï r)):=.mk λhr {j g l k}=>Ζ
instance gX'{t s r}:a ((vy t s)) r (∀ {m o e k l n g j},Cr 205 #[.agg ((Υ t m o e k)).toArray,.agg ((Υ s l n g j)).toArray] (λG=>su G m o t.num.χ/\su G e k t.den.χ/\su G l n s.num.χ/\su G g j s.den.χ) (er r)):=.mk λhr {m o e k l n g j}=>by
 refine J' (args:=[_,_]) (N:=22) func205 z z z (λw0 G0 aA ak=>?_);obtain⟨I,A,J,y⟩:=ak;refine sr<|jM 2 z z z λb2=>jM 3 z z z λb3=>W' 4 z rl z λb4=>nx<|o'<|fA [ff,ff,ff,ff,ff,ff,ff,ff,ff,ff,ff,ff,ff,ff,ff] eL (by kernel_rfl) λhb=>cn (λ_ c=>xH z)<|cn (λ_ c=>R' ((η t.num m o)).toArray 2 mH z z z (mK ([]) ((η t.num m o)) ((η t.den e k))))<|cn (λ_ c=>Bw z) ?_
 refine è ?_;intro V _ U hr _;refine oE hr λae aj hr=>mg (f:=262) (φ:=Ï ae) (λ_=>z) (λv G1 G2 c h=>?_) (λu W c hu=>?_) ?_
 .obtain⟨T,Q,rfl,x⟩:=h;exact⟨_,_,z,x.mono c⟩
 .obtain⟨⟨C,E,Z,q⟩,⟨D,B,ac,p⟩,_⟩:=(show(Ï U) W.m (u 14)/\(Ï V) W.m (u 9)/\True from hu);exact⟨_,_,_,λ_=>x' ID z,jg'.h aj,(by simp only[Z,ac] <;> rfl),⟨p,q⟩⟩
 refine Ξ ?_;intro hr;refine zC (d:=15) (post:=Ï ae) (d':=14) (post':=Ï U) (d'':=9) (post'':=Ï V) (λar av aw aC K R S M=>?_);obtain⟨T,Q,rfl,x⟩:=R;obtain⟨C,E,rfl,q⟩:=S;obtain⟨D,B,rfl,p⟩:=M;refine oE hr λay af hr=>gR z z (x' wH z) (MY.h af) z (⟨(A.mono K),(y.mono K)⟩) (λau az ab O=>?_);obtain⟨al,am,rfl,L⟩:=O;refine oE hr λaD ai hr=>gR z z (x' IC z) (fp'.h ai) z (⟨(x.mono ab),L⟩) (λaq aB ap P=>?_);obtain⟨ad,X,Y,aa,rfl,F,H⟩:=P;refine gp 4 jW z<|t'<|Θ<|b'<|m' ?_
 obtain rfl:_=r:=hr;exact j' z (kD (i:=4) mf z z z) ⟨_,_,_,_,z,F,H⟩
instance Wz{D B r}:u ((Bg D B)) r (∀ {M S P Q},Cr 119 #[ε M D S,ε P B Q] (λG=>sl c' G M S D/\sl c' G P Q B) (fS c' r)):=.mk λhr {M S P Q}=>by
 refine Ξ ?_;intro w0 G0 _ q _ p1 aW _ bQ hr _;refine WC.mC (hH:=by exact⟨bQ,kV⟩) hr [0,1] [] [] [] (λ(⟨E,R,L,K,V,C⟩:(Ŀ Za)×ŀ Addr×Nat×ŀ Ow×Int×Int)=>⟨(E,V,C),[(5,ε R E L),(6,i' V),(7,i' C)],λam=>sl c' am R L E/\Tok 12 147 (ε R E L) E.length K,[(1005,K)]⟩) (λ(⟨a,p,j,ap⟩:(Ŀ Za)×ŀ Addr×Nat×ŀ Ow)=>⟨a,[(5,ε p a j)],λaT=>sl c' aT p j a/\Tok 12 147 (ε p a j) a.length ap,[(1005,ap)]⟩) ⟨[],p1,0,none,0,0⟩ ?_;rintro _ am ⟨E,R,L,K,V,C⟩ d ⟨aA,ar⟩ hr;refine WC.nB hr [0,1,5,6,7] [1005] (λ(_:Unit)=>⟨[],wV D B E V C,tr,[]⟩) ?_;intro ak _ hr f _;refine Y'<|WC.nD hr [0,1,7] [] (λ(⟨U,Z,c,Y,T⟩:(Ŀ Za)×ŀ Addr×Nat×ŀ Ow×Int)=>⟨[(5,ε Z U c),(6,i' T)],AA D B C U T,λal=>sl c' al Z c U/\Tok 12 147 (ε Z U c) U.length Y,[(1005,Y)]⟩) ?_ ?_
 .refine WC.nD hr [0,1,5,6,7] [1005] (λ(t:Bool)=>⟨[(43,.bool t)],vp D B E V C t,tr,[]⟩) ?_ ?_
  .refine Ξ ?_;intro _ _ hr;refine Å (M' z z) z<|Å (M' z z) z<|sf z z z<|Ι z<|t'<|Θ<|pA ⟨ak,true⟩ ⟨hr,mr,trivial⟩ (Æ z) (w1 z)
  intro aR t hr N _;refine Ξ ?_;intro _ x7 _ _ _ _ _ _ _ _ _ _ _ _ _ _ _ v bC hr _;refine oA hr λbp hr=>jN (r:=c') 1005 z z Q' kX z (by decide) z z (aA.mono (mx (mx f N) v)) z (by rw[q];rfl) ar bC bp λp7 bZ bl bV a1 bI bs=>Þ z<|nr<|ν z<|iM z<|Ρ z<|nw<|p'<|K'<|N' ⟨bV,(E++[x7]),p7,bZ,bl,i64.wrap (V+1),C⟩ hr ⟨(mx (mx (mx (mx d f) N) v) a1),bI,bs⟩ (Æ z) (w1 z)
 rintro al ⟨U,Z,c,Y,T⟩ hr n ⟨aO,aD⟩;refine WC.nD hr [0,1,6] [] (λ(⟨W,g,e,af,h⟩:(Ŀ Za)×ŀ Addr×Nat×ŀ Ow×Int)=>⟨[(5,ε g W e),(7,i' h)],Kq D B T W h,λx=>sl c' x g e W/\Tok 12 147 (ε g W e) W.length af,[(1005,af)]⟩) ?_ ?_
 .refine WC.nB hr [0,1,5,6,7] [1005] (λ(s:Bool)=>⟨[(70,.bool s)],Az D B C U T s,tr,[]⟩) ?_;intro aU s hr F _;refine Ξ ?_;intro _ x4 _ _ _ _ _ _ _ _ _ _ _ _ _ _ _ y bH hr _;refine oA hr λbt hr=>jN (r:=c') 1005 z z Q' kX z (by decide) z z (aO.mono (mx F y)) z (by rw[q];rfl) aD bH bt λp5 bB bz bY aY bX bu=>Þ z<|nr<|ν z<|iM z<|Ρ z<|nw<|p'<|K'<|N' ⟨bY,(U++[x4]),p5,bB,bz,T,i64.wrap (C+1)⟩ hr ⟨(mx (mx (mx (mx (mx d f) n) F) y) aY),bX,bu⟩ (Æ z) (w1 z)
 rintro x ⟨W,g,e,af,h⟩ hr O ⟨aQ,aF⟩;refine o'<|fA [ff,ff,ff,ff,ff,ff,ff,ff,ff,ff,ff,ff] eL (by kernel_rfl) λhb=>fM z<|fM z ?_
 refine è ?_;intro _ _ _ _ _ _ _ _ _ _ _ _ _ _ _ _ _ _ _ _ _ _ _ _ _ _ _ _ _ _ J hr _;refine kI (λ_=>z) rl<|γ.ns (λcg b9 X1 X aX aV=>?_)
 obtain⟨b1,rfl,bn⟩:=aX;obtain⟨m,l,i,k,rfl,I,H⟩:=aV;refine om bn (lG (show WL _ _ _ _ _ _ (St w0 G0 X1.m _)from ?_));refine gp 8 jW z<|t'<|Θ<|b'<|o' ?_
 refine è ?_;intro _ hr _;refine I' hr z (λb3 hr=>?_) (λb3 hr=>?_)
 .refine fA [tt,ff,ff,ff,ff,ff,ff] eL (by kernel_rfl) λhb=>?_;refine è ?_;intro x3 _ _ _ _ _ _ _ _ _ _ _ _ _ _ _ A bR hr _;refine oA hr λbm hr=>jN (r:=c') 1005 z z Q' kX z (by decide) z z (aQ.mono (mx X A)) z (by rw[q];rfl) aF bR bm λp3 bJ bk bE aZ bS bo=>Þ z<|t'<|Θ<|b'<|sr<|ν z<|iM z<|Ρ z<|w'<|ν z<|iM z<|Þ z<|t'<|E'<|N' ⟨bE,(W++[(Za.mk J x3.m)]),p3,bJ,bk,i64.wrap (T+1),i64.wrap (h+1)⟩ hr ⟨(mx (mx (mx (mx (mx (mx d f) n) O) X) A) aZ),bS,bo⟩ (Æ z) (w1 z)
 exact Ζ
instance fW'{S i r}:u ((Aq S i)) r (∀ {J I},Cr 73 #[ε J S I,.agg (Ö i).toArray] (λG=>sl c' G J I S) (iy c' r)):=.mk λhr {J I}=>by
 refine Ξ ?_;intro Z Y K ag R _ _ p2 V q ay hr _;refine WC.mC hr [0,3] [3] [] [] (λ(⟨o,m,l,Q⟩:(Ŀ Za)×ŀ Addr×Nat×Int)=>⟨(o,Q),[(6,ε m o l),(7,i' Q)],λp=>sl c' p m l o,[]⟩) (λ(⟨C,D,B⟩:(Ŀ Za)×ŀ Addr×Nat)=>⟨C,[(6,ε D C B)],λO=>sl c' O D B C,[]⟩) ⟨[],p2,0,0⟩ ?_;rintro _ p ⟨o,m,l,Q⟩ k P hr;refine Ξ ?_;intro _ x hr;refine WC.mD hr [0,3,6,7,8] [3] [0,3,6,7,8] [3] (λ(⟨L,A⟩:Int×(Fin 8->Int))=>⟨(L,A),[(9,i' L)],tr,[(8,ú x (Ö A) 145)]⟩) (λ(n:(Fin 8->Int))=>⟨n,[],tr,[(8,ú x (Ö n) 145)]⟩) ⟨0,(λ_=>0)⟩ ?_ ?_
 .rintro _ F ⟨L,A⟩ y _ hr;refine o'<|sr<|ν z<|kv z<|nx<|I' hr z (λaz hr=>?_) (λaz hr=>?_)
  .refine q'<|b'<|o'<|Y'<|fA [ff,ff,ff,ff,ff,ff,ff,ff,ff,ff] eL (by kernel_rfl) λa=>fM z<|oA hr λN hr=>cn (λ_ h=>VL Gr jS z z N) ?_
   refine è ?_;intro x2 _ X _ _ _ _ _ _ _ _ _ _ _ _ hr ae;exact cn (λ_ h=>mX eN z (GF (T' (T' (qH (nE (iK K X))) (mx (mx q k) y)) h) ae))<|pz a<|oA hr λaw hr=>Δ (VL aM' jS z z aw)<|ra 8 (Ö (ζ A ((Ε i L).toNat) (Ε x2.m L))).toArray z jS z z z (by first|(rw[U'];omega)|(show _<(õ _ _ _).toArray.size;rw[U'];omega)) z (cY' _ _ _ _ _)<|Ζ
  exact Ζ
 intro U n hr t _;refine b'<|fA [tt,ff,ff,ff,ff,ff,ff] eL (by kernel_rfl) λa=>uw z (k' z)<|fM z<|fM z<|oE hr λs af hr=>cn (λ_ h=>kd Q' bB' ((K.mono (mx (mx q k) t)).mono h) z z af)<|cn (λ_ h=>oi z) ?_
 obtain⟨g,d,f,c,au,E,H⟩:=pB (T' (rZ (nE (iK K af))) (mx (mx q k) t));refine cn (λ_ h=>ny _ mf z z (λj v hv=>h _ _ _ (au j v hv)))<|cn (λ_ h=>y' 8 Gw z z (U' _ _ _))<|pz a<|Δ (l4 (vs:=#[(0,.agg ((Υ s.c g d f c)).toArray),(1,.agg (Ö n).toArray)]) (v:=.agg (((Υ s.c g d f c):Ŀ Value)++(Ö n)).toArray) z z (λ_=>by kernel_rfl))<|mY (e:=147) (r:=c') (vs:=#[(0,.agg (((Υ s.c g d f c):Ŀ Value)++(Ö n)).toArray)]) (cs:=(((Υ s.c g d f c):Ŀ Value)++(Ö n))++([])) ([(Za.mk s.c n)]:Ŀ Za) z z z z z (by decide) (λ_=>by kernel_rfl) ⟨((Υ s.c g d f c):Ŀ Value)++(Ö n),[],z,⟨(Υ s.c g d f c),Ö n,z,⟨(η s.c.num g d),(η s.c.den f c),z,⟨[.bool s.c.num.neg],[ε g s.c.num.χ d],z,z,⟨_,z,E⟩⟩,⟨[.bool s.c.den.neg],[ε f s.c.den.χ c],z,z,⟨_,z,H⟩⟩⟩,z⟩,z⟩ (key:=999) z (by rw[ag];rfl) (λp3 aG M ax=>?_)
 refine oE hr λao ah hr=>gR z z (x' zK z) (Wz.h ah) z (⟨(P.mono (mx t M)),ax⟩) (λaE ap W T=>?_);obtain⟨aj,ak,rfl,am⟩:=T;exact Ζ
instance fE'{y Y r}:ab ((Et y Y)) r (∀ {k l j g},Cr 30 #[.agg ((Ã y k l j g)).toArray,.agg (Ö Y).toArray] (λG=>sq G k l y.eqs/\sq G j g y.δ) (u3 r)):=.mk λhr {k l j g}=>by
 refine Ξ ?_;intro w0 G0 _ af _ b1 b2 b3 p1 _ _ bv p2 aQ o bx hr _;refine WC.mD (hH:=by exact⟨(bv.mono o),kV⟩) hr [2,3,4,6] [2,3,4] [2,3,4,6] [2,3,4] (λ(⟨t,L,F,M,ah⟩:(Ŀ (Ŀ Za))×ŀ Addr×Nat×ŀ Ow×Int)=>⟨(t,ah),[(5,ε L t F),(7,i' ah)],λar=>sq ar L F t/\Tok 1 50 (ε L t F) t.length M,[(1005,M)]⟩) (λ(⟨x,B,A,q⟩:(Ŀ (Ŀ Za))×ŀ Addr×Nat×ŀ Ow)=>⟨x,[(5,ε B x A)],λae=>sq ae B A x/\Tok 1 50 (ε B x A) x.length q,[(1005,q)]⟩) ⟨[],p1,0,none,0⟩ ?_ ?_
 .rintro _ ar ⟨t,L,F,M,ah⟩ P ⟨aF,au⟩ hr;refine o' ?_;refine è ?_;intro hr;refine I' hr z (λbu hr=>?_) (λbu hr=>?_)
  .refine q'<|b'<|o'<|Y'<|o'<|fA [ff,ff,ff,ff,ff,ff,ff,ff,ff,tt] eL (by kernel_rfl) λhb=>cn (λ_ f=>M7 z)<|cn (λ_ f=>n' 2 jR z z z) ?_
   refine è ?_;intro _ _ _ _ _ _ _ _ _ n hr _;refine jr (φ:=iy c' n) (λ_=>z) (λv G1 G2 f h=>?_) (λu Q f a=>?_) ?_
   .obtain⟨p9,N,rfl,i⟩:=h;exact⟨_,_,z,i.mono f⟩
   .obtain⟨⟨aa,ac,a5,E⟩,_⟩:=(show(iy c' n) Q.m (u 31)/\True from a);simp only[ς,a5];exact⟨_,k' z,aa,ac,z,E⟩
   refine jr (φ:=fS c' n.1) (λ_=>z) (λv G1 G2 f h=>?_) (λu Q f a=>?_) ?_
   .obtain⟨C,X,rfl,aw⟩:=h;exact⟨_,_,z,aw.mono f⟩
   .obtain⟨⟨p9,N,aj,i⟩,_,_⟩:=(show(iy c' n) Q.m (u 24)/\True/\True from a);simp only[ς,aj];exact⟨_,O' z z,p9,N,z,i⟩
   refine mi (c:=i' n.2) (λ_=>z) (λu Q f a=>?_) ?_
   .obtain⟨_,⟨p9,N,aj,i⟩,_,_⟩:=(show True/\(iy c' n) Q.m (u 24)/\True/\True from a);simp only[ς,aj];exact O' z z
   refine zC (d:=32) (post:=fS c' n.1) (d':=24) (post':=iy c' n) (d'':=31) (post'':=iy c' n) (λbM bJ bK bT az aO aI aL=>?_);obtain⟨C,X,rfl,aw⟩:=aO;obtain⟨p9,N,rfl,i⟩:=aI;obtain⟨aa,ac,rfl,E⟩:=aL;refine Þ z<|Þ z<|t'<|Θ<|b'<|w'<|ν z<|ν z<|mY (e:=50) (r:=(Rp.sl c')) (vs:=#[(0,ε C n.1 X)]) (cs:=[ε C n.1 X]++([])) ([n.1]:Ŀ (Ŀ Za)) z z z z z (by decide) (λ_=>by kernel_rfl) ⟨[ε C n.1 X],[],z,⟨_,z,aw⟩,z⟩ (key:=999) z (by rw[af];rfl) (λb0 bV ax bo=>?_)
   refine oA hr λbl hr=>jN (r:=(Rp.sl c')) 1005 z z jL js z (by decide) z z (aF.mono (mx az ax)) z (by rw[af];rfl) au bo bl λbC bp a1 bz a8 bh aW=>Þ z<|t'<|E'<|b'<|w'<|ν z<|iM z<|Þ z<|t'<|N' ⟨bz,(t++[n.1]),bC,bp,a1,i64.wrap (ah+1)⟩ hr ⟨(mx (mx (mx P az) ax) a8),bh,aW⟩ (Æ z) (w4 z z z z)
  exact Ζ
 rintro ae ⟨x,B,A,q⟩ hr S ⟨a7,bA⟩;refine b'<|o'<|sr<|Ρ z<|WC.mC (hH:=by exact⟨(bx.mono S),kV⟩) hr [2,3,4,5] [2,3,4,1005] [2,4,5] [2,4,1005] (λ(⟨s,O,K,I,T⟩:(Ŀ (Ŀ Za))×ŀ Addr×Nat×ŀ Ow×Int)=>⟨(s,T),[(6,ε O s K),(10,i' T)],λaq=>sq aq O K s/\Tok 1 50 (ε O s K) s.length I,[(1006,I)]⟩) (λ(⟨R,U,V,Z⟩:(Ŀ (Ŀ Za))×ŀ Addr×Nat×ŀ Ow)=>⟨R,[(6,ε U R V)],λaH=>sq aH U V R/\Tok 1 50 (ε U R V) R.length Z,[(1006,Z)]⟩) ⟨[],p2,0,none,0⟩ ?_
 rintro _ aq ⟨s,O,K,I,T⟩ H ⟨aE,an⟩ hr;refine o' ?_;refine è ?_;intro hr;refine I' hr z (λbG hr=>?_) (λbG hr=>?_)
 .refine q'<|b'<|o'<|Y'<|o'<|fA [ff,ff,ff,ff,ff,ff,ff,ff,ff,tt] eL (by kernel_rfl) λhb=>cn (λ_ f=>VR z)<|cn (λ_ f=>n' 2 jR z z z) ?_
  refine è ?_;intro _ _ _ _ _ _ _ _ _ m hr _;refine jr (φ:=iy c' m) (λ_=>z) (λv G1 G2 f h=>?_) (λu Q f a=>?_) ?_
  .obtain⟨p4,D,rfl,p⟩:=h;exact⟨_,_,z,p.mono f⟩
  .obtain⟨⟨ad,W,aZ,J⟩,_⟩:=(show(iy c' m) Q.m (u 52)/\True from a);simp only[ς,aZ];exact⟨_,k' z,ad,W,z,J⟩
  refine jr (φ:=fS c' m.1) (λ_=>z) (λv G1 G2 f h=>?_) (λu Q f a=>?_) ?_
  .obtain⟨p5,ay,rfl,aS⟩:=h;exact⟨_,_,z,aS.mono f⟩
  .obtain⟨⟨p4,D,ai,p⟩,_,_⟩:=(show(iy c' m) Q.m (u 45)/\True/\True from a);simp only[ς,ai];exact⟨_,O' z z,p4,D,z,p⟩
  refine mi (c:=i' m.2) (λ_=>z) (λu Q f a=>?_) ?_
  .obtain⟨_,⟨p4,D,ai,p⟩,_,_⟩:=(show True/\(iy c' m) Q.m (u 45)/\True/\True from a);simp only[ς,ai];exact O' z z
  refine zC (d:=53) (post:=fS c' m.1) (d':=45) (post':=iy c' m) (d'':=52) (post'':=iy c' m) (λbN bL bO bS aG aK aM aP=>?_);obtain⟨p5,ay,rfl,aS⟩:=aK;obtain⟨p4,D,rfl,p⟩:=aM;obtain⟨ad,W,rfl,J⟩:=aP;refine Þ z<|Þ z<|t'<|Θ<|b'<|w'<|ν z<|ν z<|mY (e:=50) (r:=(Rp.sl c')) (vs:=#[(0,ε p5 m.1 ay)]) (cs:=[ε p5 m.1 ay]++([])) ([m.1]:Ŀ (Ŀ Za)) z z z z z (by decide) (λ_=>by kernel_rfl) ⟨[ε p5 m.1 ay],[],z,⟨_,z,aS⟩,z⟩ (key:=999) z (by rw[af];rfl) (λp6 bZ aD br=>?_)
  refine oA hr λbg hr=>jN (r:=(Rp.sl c')) 1006 z z jL js z (by decide) z z (aE.mono (mx aG aD)) z (by rw[af];rfl) an br bg λp7 bE bf bD a2 bt bk=>Þ z<|t'<|E'<|b'<|w'<|ν z<|iM z<|Þ z<|t'<|N' ⟨bD,(s++[m.1]),p7,bE,bf,i64.wrap (T+1)⟩ hr ⟨(mx (mx (mx H aG) aD) a2),bt,bk⟩ (Æ z) (w5 z z z z z)
 exact Ζ
instance Wd{i n c r}:a ((wX i n c)) r (∀ {f e},Cr 161 #[ε f i e,i' n,i' c] (λG=>sl c' G f e i) (λG v=>v=.bool r)):=.mk λhr {f e}=>Ζ
instance gY'{D P r}:m ((E2 D P)) r (∀ {s y},Cr 152 #[ε s D y,i' P] (λG=>sq G s y D) (λG v=>v=.bool r)):=.mk λhr {s y}=>by
 refine Ξ ?_;intro w0 x _ _ hr i;refine WC.mC hr [0,1] [] [] [] (λ(q:Int)=>⟨q,[(5,i' q)],tr,[]⟩) (λ(_:Unit)=>⟨(.inr ()),[],tr,[]⟩) 0 ?_;intro _ p q g _ hr;refine o' ?_;refine è ?_;intro hr;refine I' hr z (λN hr=>?_) (λN hr=>?_)
 .refine q'<|b'<|o'<|Y'<|o'<|fA [ff,ff,ff,ff,ff,ff,ff,ff,ff,ff,ff,ff,ff,ff,ff,ff,ff,ff,ff,ff,ff,ff,ff,ff,ff,ff,ff,ff,ff,ff,ff,ff,ff,ff,ff,ff,ff,ff,ff,ff,ff] eL (by kernel_rfl) λU=>fM z<|fM z<|oE hr λx1 L hr=>cn (λ_ e=>kd jL pD ((i.mono g).mono e) z z L) ?_
  obtain⟨p1,aE,A,O⟩:=xN (T' (iK i L) g);refine cn (λ_ e=>mX rf z (e _ _ _ A))<|fM z<|oE hr λai Q hr=>uu z (λ_=>x' zP z) (Wd.h Q) z (λM e=>(O.mono e)) ?_
  cases ai
  .refine Ξ ?_;intro hr;refine Å (M' z z) z<|Å (M' z z) z<|sf z z z<|Ι z<|t'<|Θ<|b'<|nR z<|sr<|Ρ z<|m'<|g'<|a'<|a'<|g'<|mM<|a' (Õ hr z z)
  refine cn (λ_ e=>kU z)<|fM z<|cy z z (λ_ e=>k' z)<|cy z z (λ_ e=>k' z)<|oE hr λx2 E hr=>cy z z (λ_ e=>kd jL pD ((i.mono g).mono e) z z E) ?_
  obtain⟨p2,aD,aj,X⟩:=xN (T' (iK i E) g);refine cy z z (λ_ e=>mX rf z (e _ _ _ aj))<|cy z z (λ_ e=>P' Q' (X.mono e) z)<|zw hr (C' z z) (λ_ e=>eB z z) (λan hr=>?_) (λan hr=>?_)
  .refine Ξ ?_;intro hr;refine Å (M' z z) z<|Å (M' z z) z<|sf z z z<|Ι z<|t'<|Θ<|b'<|nR z<|sr<|Ρ z<|m'<|g'<|a'<|a'<|g'<|mM<|a' (Õ hr z z)
  refine cn (λ_ e=>f' z z)<|fM z<|cy z z (λ_ e=>k' z)<|cy z z (λ_ e=>k' z)<|oE hr λx3 I hr=>cy z z (λ_ e=>kd jL pD ((i.mono g).mono e) z z I) ?_
  obtain⟨p3,aA,ao,T⟩:=xN (T' (iK i I) g);refine cy z z (λ_ e=>mX rf z (e _ _ _ ao))<|oE hr λo R hr=>qB (post:=fS c' o) (λ_=>(C' z z)) (λ_ _=>x' Ip z) (gT'.h R) z (λM e=>(T.mono e)) (λv G1 G2 e h=>?_) ?_
  .obtain⟨n,l,rfl,k⟩:=h;exact⟨_,_,z,k.mono e⟩
  refine mT (λ_=>(C' z z)) (λ_ _ e=>k' z)<|mT (λ_=>(C' z z)) (λ_ _ e=>k' z)<|oE hr λx4 F hr=>mT (λ_=>(C' z z)) (λ_ _ e=>kd jL pD ((i.mono g).mono e) z z F) ?_
  obtain⟨p4,aB,Y,Z⟩:=xN (T' (iK i F) g);refine mT (λ_=>(C' z z)) (λ_ _ e=>mX rf z (e _ _ _ Y))<|oE hr λJ S hr=>γ.vL (f:=33) (c:=.bool J) (λ_=>(C' z z)) (λu M e hu=>?_) ?_
  .obtain⟨⟨n,l,B,k⟩,_⟩:=(show(fS c' o) M.m (u 35)/\True from hu);exact⟨_,_,_,λ_=>x' XM z,eU'.h S,(by simp only[B] <;> rfl),⟨k,(Z.mono e)⟩⟩
  cases J
  .refine mT (λ_=>(C' z z)) (λ_ _ e=>kU z)<|cu (λ_ _ e=>f' z z)<|cu (λ_ _ e=>k' z)<|mh (λ_=>(AU z z))<|mh (λ_=>(AU z z))<|mh (λ_=>(AU z z))<|mh (λ_=>(M' z z))<|mh (λ_=>(M' z z))<|mh (λ_=>(M' z z))<|mh (λ_=>(M' z z))<|mh (λ_=>(M' z z))<|mh (λ_=>(M' z z))<|mh (λ_=>(M' z z))<|mh (λ_=>(M' z z))<|mh (λ_=>(M' z z))<|Bx (d:=35) (post:=fS c' o) (λt aC ar j=>?_)
   obtain⟨n,l,rfl,k⟩:=j;refine Å (M' z z) z<|Å (M' z z) z<|sf z z z<|Ι z<|t'<|Θ<|b'<|nR z<|sr<|Ρ z<|m'<|g'<|a'<|a'<|g'<|mM<|a' (Õ hr z z)
  refine mT (λ_=>(C' z z)) (λ_ _ e=>kU z)<|cu (λ_ _ e=>f' z z)<|cu (λ_ _ e=>k' z)<|mT (λ_=>(C' z z)) (λ_ _ e=>k' z) ?_
  by_cases a:0<q
  .replace hr:=hr.pos a;refine mT (λ_=>(C' z z)) (λ_ _ e=>l5 (uo z z) (đ Value.bool (ă a)))<|mT (λ_=>(C' z z)) (λ_ _ e=>k' z)<|mT (λ_=>(C' z z)) (λ_ _ e=>k' z)<|mT (λ_=>(C' z z)) (λ_ _ e=>k' z)<|mT (λ_=>(C' z z)) (λ_ _ e=>Gz z z)<|oE hr λx5 H hr=>mT (λ_=>(C' z z)) (λ_ _ e=>kd jL pD ((i.mono g).mono e) z z H) ?_
   obtain⟨p5,aw,al,ak⟩:=xN (T' (iK i H) g);refine mT (λ_=>(C' z z)) (λ_ _ e=>mX rf z (e _ _ _ al))<|mT (λ_=>(C' z z)) (λ_ _ e=>k' z)<|mT (λ_=>(C' z z)) (λ_ _ e=>k' z)<|oE hr λx6 K hr=>mT (λ_=>(C' z z)) (λ_ _ e=>kd jL pD ((i.mono g).mono e) z z K) ?_
   obtain⟨p6,ay,ah,V⟩:=xN (T' (iK i K) g);refine mT (λ_=>(C' z z)) (λ_ _ e=>mX rf z (e _ _ _ ah)) ?_;exact Ζ
  replace hr:=hr.neg a;refine mT (λ_=>(C' z z)) (λ_ _ e=>l5 (uo z z) (đ Value.bool (Ċ a)))<|mT (λ_=>(C' z z)) (λ_ _ e=>k' z)<|mh (λ_=>(uA z z))<|mh (λ_=>(uA z z))<|mh (λ_=>(uA z z))<|mh (λ_=>(uA z z))<|mh (λ_=>(uA z z))<|mh (λ_=>(uA z z))<|mh (λ_=>(uA z z))<|mh (λ_=>(uA z z))<|mh (λ_=>(uA z z))<|Bx (d:=35) (post:=fS c' o) (λt W C j=>?_)
  obtain⟨n,l,rfl,k⟩:=j;exact yc z<|gy z z (f' z z) z<|ο z<|t'<|Θ<|b'<|tG z<|Ζ
 exact Ζ
instance gz'{l r}:a ((AN l)) r (∀ {f g c d},Cr 86 #[.agg ((Ã l f g c d)).toArray] (λG=>sq G f g l.eqs/\sq G c d l.δ) (λG v=>v=.bool r)):=.mk λhr {f g c d}=>by
 refine è ?_;intro x n _ _ _ p hr _;refine WC.nB hr [1] [1] (λ(_:Unit)=>⟨[],Qm l,tr,[]⟩) ?_;intro i _ hr j _;refine o'<|sr<|Ρ z<|WC.mA hr [1] [1] [] [] (λ(q:Int)=>⟨q,[(3,i' q)],tr,[]⟩) (λ(_:Unit)=>⟨(.inr ()),[],tr,[]⟩) 0
instance ik'{n r}:a ((F6 n)) r (∀ {h k c d},Cr 157 #[.agg ((Ã n h k c d)).toArray] (λG=>sq G h k n.eqs/\sq G c d n.δ) (λG v=>v=.string r)):=.mk λhr {h k c d}=>by
 refine è ?_;intro K _ _ l g _ hr f;have p:=tM (w0:=K);refine o' ?_;refine è ?_;intro _ hr _;refine kc hr z (λA hr=>?_) (λA hr=>?_)
 .exact Ζ
 refine q'<|b'<|sr<|WL.sx (e:=5) (r:=(Rp.int .u8)) (vs:=#[]) (cs:=[]) ([]:Ŀ Int) 4006 z z z z z (by decide) (λ_=>by kernel_rfl) (z) λV J y=>Δ (y' 1 mZ z z z)<|oE hr λP o hr=>mm (λw s=>s.Ý (i:=4006) (j:=5000) z (by rw[l];rfl))<|mP z z (x' IZ z) (EV _ _ _ _ _ _ _ _ _ _ o) z (⟨y,g,f⟩) (lc z ln) p (λM R L E m=>?_)
 obtain⟨F,H,B,rfl,rfl,t⟩:=m;refine mm (λw s=>s.Ý (i:=5000) (j:=4008) z (by rw[l];rfl))<|pL (r:=(Rp.int .u8)) (e:=5) 4008 t z (by rw[l];rfl) λO S D u C=>Δ (Y0.kK VV Gt xG u z)<|Ρ z<|m' (Õ hr z z)
instance iN'{k1 r}:ah ((K9 k1)) r (∀ {Q L A B},Cr 88 #[.agg ((Ã k1 Q L A B)).toArray] (λG=>sq G Q L k1.eqs/\sq G A B k1.δ) (λG v=>∃ ab ae J P,v=.tuple #[.agg ((Ã r.1 ab ae J P)).toArray,.agg (Ö r.2).toArray]/\sq G ab ae r.1.eqs/\sq G J P r.1.δ)):=.mk λhr {Q L A B}=>by
 refine J' (args:=[_]) (N:=44) func88 z z z (λw0 G0 a9 aS=>?_);obtain⟨af,U⟩:=aS;refine sr<|jM 1 z z z λb1=>W' 2 z rB z λb2=>W' 3 z u5 z λb3=>nr<|Δ (rj z)<|Δ (n' 1 eN z z z)<|oE hr λaX aM hr=>gR z z (x' XL z) (nI.h aM) z (trivial) (λa5 bb H ak=>?_)
 obtain⟨aR,aJ,rfl,l⟩:=ak;refine Ρ z<|o'<|BY [] ln [ff,ff,ff,ff,ff,tt,tt,tt,ff,ff] eL (by kernel_rfl) λT=>cn (λ_ c=>y' 1 mZ z z z) ?_
 refine è ?_;intro _ _ _ aF hr _;refine oE hr λx2 aC hr=>γ.pN (λ_=>z) (λ_=>kd MO xJ l z z aC)<|γ.pN (λ_=>z) (λ_=>ny _ zt z (U' _ _ _) (VO (iK l aC)))<|kI (λ_=>z) rB<|kI (λ_=>z) u5<|γ.yk (λbc bd a4 X1 g av R an=>?_)
 obtain⟨Y,V,O,K,rfl,E,q⟩:=an;refine fz.nb av (λb5 aV aY=>?_);subst aV;replace R:=GI R (by decide) aY;refine fz.nb R (λb4 aZ a7=>?_);subst aZ;refine fz.DA (show fz _ _ _ _ _ _ _ (St w0 G0 X1.m _)from ?_);refine nV (λw n=>(n.eU T g).weaken ln)<|gp 5 tH z<|nT<|nV (λw n=>(n.eU T g).weaken ln)<|A' 6 z xJ z z z (U' _ _ _) (U' _ _ _) (λu a=>Rp.one (gf .i64 8) (G:=X1.m) (x:=x2) (cs:=Ö x2) z u (by first|simpa using a|simpa[Value.cells]using a))<|nT<|vV (λw n=>(n.eU T g).weaken ln)<|Θ<|b'<|o'<|sr<|Ρ z<|WC.mD hr [1,2,3,4,5,6] [1,2,3] [2,3,5,6] [2,3] (λ(⟨i1,S,k,j,f,e,ai⟩:Int×Zb×ŀ Addr×Nat×ŀ Addr×Nat×(Fin 8->Int))=>⟨(i1,S,ai),[(7,i' i1)],λaa=>sq aa k j S.eqs/\sq aa f e S.δ,[(5,ú b4 (Ã S k j f e) 48),(6,ú b5 (Ö ai) 71)]⟩) (λ(⟨h,F,D,y,t,Z⟩:Zb×ŀ Addr×Nat×ŀ Addr×Nat×(Fin 8->Int))=>⟨(h,Z),[],λX=>sq X F D h.eqs/\sq X y t h.δ,[(5,ú b4 (Ã h F D y t) 48),(6,ú b5 (Ö Z) 71)]⟩) ⟨1,aF,Y,V,O,K,x2⟩ ?_ ?_
 .rintro _ aa ⟨i1,S,k,j,f,e,ai⟩ d ⟨C,s⟩ hr;refine o' ?_;refine è ?_;intro hr;refine I' hr z (λa0 hr=>?_) (λa0 hr=>?_)
  .refine q'<|b'<|o'<|Y'<|o'<|fA [ff,ff,ff,ff,ff,ff,ff] eL (by kernel_rfl) λT=>cn (λ_ c=>y' 1 mZ z z z)<|fM z ?_
   refine è ?_;intro _ _ _ aG hr _;refine kI (λ_=>z) rB<|γ.ns (λba a2 X2 o aq am=>?_)
   obtain⟨b6,rfl,aQ⟩:=aq;obtain⟨ad,W,I,M,rfl,p,m⟩:=am;refine om aQ (lG (show WL _ _ _ _ _ _ (St w0 G0 X2.m _)from ?_));refine gp 8 tH z<|t'<|Θ ?_
   refine è ?_;intro T _ _ _ hr _;refine Δ (Y0.CJ z z)<|t'<|Θ<|b'<|kc hr z (λaW hr=>?_) (λaW hr=>?_)
   .refine BY [] ln [ff,tt,tt,tt,tt] eL (by kernel_rfl) λT=>?_;refine è ?_;intro hr;exact oE hr λx4 aD hr=>nz z (kd MO xJ (l.mono (mx (mx g d) o)) z z aD)<|nz z (ny _ zt z (U' _ _ _) (VO (T' (iK l aD) (mx (mx g d) o))))<|xO T<|nV (λw n=>n.weaken ln)<|gp 5 tH z<|nT<|nV (λw n=>n.weaken ln)<|A' 6 z xJ z z z (U' _ _ _) (U' _ _ _) (λu a=>Rp.one (gf .i64 8) (G:=X2.m) (x:=x4) (cs:=Ö x4) z u (by first|simpa using a|simpa[Value.cells]using a))<|nT<|vV (λw n=>n.weaken ln)<|Ζ
   exact Ζ
  exact Ζ
 rintro X ⟨h,F,D,y,t,Z⟩ hr a1 ⟨al,aj⟩;refine b'<|o'<|BY [(6,ú b5 (Ö Z) 71)] (lc z ln) [ff,tt] eL (by kernel_rfl) λT=>cn (λ_ c=>y' 5 mZ z z z)<|nz z (y' 6 zt z z (U' _ _ _))<|xO T<|nV (λw n=>n.weaken (lc z ln))<|gp 2 tH z<|nT<|nV (λw n=>n.weaken (lc z ln))<|A' 3 z xJ z z z (U' _ _ _) (U' _ _ _) (λu a=>Rp.one (gf .i64 8) (G:=X) (x:=Z) (cs:=Ö Z) z u (by first|simpa using a|simpa[Value.cells]using a))<|nT<|vV (λw n=>n.weaken (lc z ln))<|Θ<|b'<|m' ?_
 obtain rfl:_=r:=hr;exact um z (kD (i:=2) mZ z z z) (kD (i:=3) zt z z (U' _ _ _)) ⟨_,_,_,_,z,al,aj⟩
instance fK'{o r}:a ((yK o)) r (∀ {j k},Cr 156 #[ε j o k] (λG=>sv G j k o) (λG v=>v=.bool r)):=.mk λhr {j k}=>by refine Ξ ?_;intro s m _ _ hr _;refine WC.mC hr [0] [] [] [] (λ(l:Int)=>⟨l,[(3,i' l)],tr,[]⟩) (λ(_:Unit)=>⟨(.inr ()),[],tr,[]⟩) 0 ?_;intro _ h l d _ hr;refine Ξ ?_;intro _ hr;refine WC.mA hr [0,3] [] [0,3] [] (λ(⟨e,q⟩:Int×Int)=>⟨(e,q),[(4,i' e),(5,i' q)],tr,[]⟩) (λ(g:Int)=>⟨(.inr g),[(4,i' g)],tr,[]⟩) ⟨0,0⟩
instance kf{c r}:a ((Ji c)) r (Cr 158 #[.agg (Ö c).toArray] (λG=>True) (λG v=>v=.bool r)):=.mk λhr=>by
 refine Ξ ?_;intro s g _ o y hr _;refine A' 3 z wx z z z (U' _ _ _) (U' _ _ _) (λu t=>Rp.one (Rp.DF 8) (G:=g) (x:=(λ_=>false)) (cs:=õ Value.bool 8 (λ_=>false)) z u (by first|simpa using t|simpa[Value.cells]using t))<|nx<|o'<|sr<|Ρ z<|WC.mA hr [1,3] [1] [] [] (λ(⟨h,d⟩:Int×(Fin 8->Bool))=>⟨(h,d),[(4,i' h)],tr,[(3,ú y (õ Value.bool 8 d) 143)]⟩) (λ(_:Unit)=>⟨(.inr ()),[],tr,[]⟩) ⟨0,(λ_=>false)⟩
instance jh'{j r}:a ((Gi j)) r (∀ {e c f d},Cr 292 #[.agg ((Υ j e c f d)).toArray] (λG=>su G e c j.num.χ/\su G f d j.den.χ) (ix r)):=.mk λhr {e c f d}=>Ζ
instance ji'{M I r}:a ((F2 M I)) r (∀ {o k m l n g f j},Cr 323 #[.agg ((Υ M o k m l)).toArray,.agg ((Υ I n g f j)).toArray] (λG=>su G o k M.num.χ/\su G m l M.den.χ/\su G n g I.num.χ/\su G f j I.den.χ) (er r)):=.mk λhr {o k m l n g f j}=>Ζ
instance is'{Y ae k1 r}:ah ((J5 Y ae k1)) r (∀ {B ab E al},Cr 291 #[.agg (B).toArray,.agg (E).toArray,i' k1] (λG=>È ik 8 G B ab Y/\È ik 8 G E al ae) (λG v=>∃ zk zu,v=.agg (zk).toArray/\È ik 8 G zk zu r)):=.mk λhr {B ab E al}=>by
 refine Ξ ?_;intro w0 G0 _ _ A N b2 b3 hr aa;refine oE hr λx1 aA hr=>Δ (rk oh jW z z (rn A aA)) ?_;obtain⟨O,R,S,M,aF,V,Q⟩:=pB (vU A aA);refine Δ (R' _ 3 mf z z z aF)<|W' 7 z rl z λb4=>gp 7 jW z<|nx<|o'<|sr<|Ρ z<|nv (X:=Int×(Ŀ Zf)×Ŀ Value×Unit×Mem) hr (λ⟨a,U,D,H,W⟩=>⟨(a,U),[(3,iG N),(4,iG b2),(6,iG b3),(7,iG b4),(8,i' a)],Mem.le G0 W/\È ik 8 W D H U,St w0 G0 W [(3,ú N (D) 325),(4,ú b2 (E) 325),(6,ú b3 ([.bool false,.slice none 0 0,.bool false,.slice none 0 0,.bool false,.slice none 0 0,.bool false,.slice none 0 0,.bool false,.slice none 0 0,.bool false,.slice none 0 0,.bool false,.slice none 0 0,.bool false,.slice none 0 0,.bool false,.slice none 0 0,.bool false,.slice none 0 0,.bool false,.slice none 0 0,.bool false,.slice none 0 0,.bool false,.slice none 0 0,.bool false,.slice none 0 0,.bool false,.slice none 0 0,.bool false,.slice none 0 0]:Ŀ Value) 325),(7,ú b4 (Υ x1 O R S M) 120)]⟩) (λ(⟨ag,Z,ai,t⟩:(Ŀ Zf)×Ŀ Value×Unit×Mem)=>⟨ag,[(3,iG N),(6,iG b3)],Mem.le G0 t/\È ik 8 t Z ai ag,St w0 G0 t [(3,ú N (Z) 325),(6,ú b3 ([.bool false,.slice none 0 0,.bool false,.slice none 0 0,.bool false,.slice none 0 0,.bool false,.slice none 0 0,.bool false,.slice none 0 0,.bool false,.slice none 0 0,.bool false,.slice none 0 0,.bool false,.slice none 0 0,.bool false,.slice none 0 0,.bool false,.slice none 0 0,.bool false,.slice none 0 0,.bool false,.slice none 0 0,.bool false,.slice none 0 0,.bool false,.slice none 0 0,.bool false,.slice none 0 0,.bool false,.slice none 0 0]:Ŀ Value) 325)]⟩) ⟨0,Y,B,ab,G0⟩ z (Æ z) ⟨mr,A⟩ (w4 z z z z) ?_ ?_
 .rintro _ ⟨a,U,D,H,W⟩ ⟨m,s⟩ hr;refine o'<|sr<|ν z<|kv z<|nx<|I' hr z (λaO hr=>?_) (λaO hr=>?_)
  .refine q'<|b'<|o'<|Y'<|fA [tt,ff,ff,ff,ff,ff,ff,ff,ff] eL (by kernel_rfl) λhb=>uw z (k' z)<|fM z<|oE hr λx2 am hr=>cn (λ_ c=>rk oh jW z z (rn s am)) ?_
   obtain⟨ap,ar,av,aw,aE,L,T⟩:=pB (vU s am);refine cn (λ_ c=>R' _ 3 mf z z z aE)<|cn (λ_ c=>y' 7 mf z z z)<|fM z<|oE hr λx3 ao hr=>cn (λ_ c=>rk oh jW z z (rn (aa.mono m) ao)) ?_
   obtain⟨ay,az,au,aq,aH,P,K⟩:=pB (vU (aa.mono m) ao);refine cn (λ_ c=>R' _ 4 mf z z z aH)<|oE hr λax aB hr=>qB (post:=er ax) (λ_=>z) (λ_ _=>x' zW z) (V9.h aB) z (λG' c=>⟨((V.mono m).mono c),((Q.mono m).mono c),(P.mono c),(K.mono c)⟩) (λv G1 G2 c h=>?_) ?_
   .obtain⟨F,y,u,x,rfl,l,j⟩:=h;exact⟨_,_,_,_,z,l.mono c,j.mono c⟩
   refine Bx (d:=24) (post:=er ax) (λaS aW p ac=>?_);obtain⟨F,y,u,x,rfl,l,j⟩:=ac;refine oE hr λo aC hr=>gR z z (x' IV z) (ji'.h aC) z (⟨(L.mono p),(T.mono p),l,j⟩) (λaR aG C ad=>?_);obtain⟨e,g,f,k,rfl,J,I⟩:=ad;refine oE hr λx4 an hr=>Δ (rk oh jW z z (rn (s.mono (mx p C)) an))<|B0 (cs':=(Υ o e g f k)) (z':=o) 3 z jW z (by decide) (s.mono (mx p C)) z z z z ⟨(η o.num e g),(η o.den f k),z,⟨[.bool o.num.neg],[ε e o.num.χ g],z,z,⟨_,z,J⟩⟩,⟨[.bool o.den.neg],[ε f o.den.χ k],z,z,⟨_,z,I⟩⟩⟩ an λd1 aI=>t' ?_
   refine è ?_;intro hr;refine N' ⟨i64.wrap (a+1),U.set a.toNat o,d1,H,aG⟩ hr ⟨(mx (mx m p) C),aI⟩ (Æ z) (w4 z z z z)
  refine nw<|p'<|p'<|K'<|og ⟨U,D,H,W⟩ ⟨hr,m,s⟩ (Æ z) (w2 z z)
 rintro⟨ag,Z,ai,t⟩ ⟨hr,aP,q⟩;refine b'<|sr<|Δ (y' 3 kn z z (lE q))<|A' 6 z oK z z z (lE (show È ik 8 t ([.bool false,.slice none 0 0,.bool false,.slice none 0 0,.bool false,.slice none 0 0,.bool false,.slice none 0 0,.bool false,.slice none 0 0,.bool false,.slice none 0 0,.bool false,.slice none 0 0,.bool false,.slice none 0 0,.bool false,.slice none 0 0,.bool false,.slice none 0 0,.bool false,.slice none 0 0,.bool false,.slice none 0 0,.bool false,.slice none 0 0,.bool false,.slice none 0 0,.bool false,.slice none 0 0,.bool false,.slice none 0 0]:Ŀ Value) () _ from zA (G:=t) (r:=ik) (n:=8) (zc:=[.bool false,.slice none 0 0,.bool false,.slice none 0 0]) (z:=(Zf.mk (Zg.mk false []) (Zg.mk false []))) ⟨[.bool false,.slice none 0 0],[.bool false,.slice none 0 0],z,⟨[.bool false],[.slice none 0 0],z,z,⟨_,z,(X' _ _)⟩⟩,⟨[.bool false],[.slice none 0 0],z,z,⟨_,z,(X' _ _)⟩⟩⟩)) (lE q) (È.one q)<|nx<|m' ?_
 obtain rfl:_=r:=hr;exact j' z (kD (i:=6) kn z z (lE q)) ⟨_,_,z,q⟩
instance iW'{t r}:aw ((FH t)) r (∀ {o p},Cr 234 #[ε o t p] (λG=>sv G o p t) (λG v=>v=i' r)):=.mk λhr {o p}=>by
 refine Ξ ?_;intro w0 Y ba hr aH;refine nv (X:=(Ŀ (Ŀ Zf))×ŀ Addr×Nat×ŀ Ow×(Ŀ Int)×ŀ Addr×Nat×ŀ Ow×Int×Mem) hr (λ⟨h,f,g,c,l,i,k,d,q,s⟩=>⟨(h,l,q),[(0,ε o t p),(3,ε f h g),(4,ε i l k),(5,i' q)],Mem.le Y s/\sl (Rp.arr ik 8) s f g h/\Tok 32 325 (ε f h g) h.length c/\sl (Rp.int .i64) s i k l/\Tok 1 3 (ε i l k) l.length d,St w0 Y s [(1003,c),(1004,d)]⟩) (λ(⟨Z,ad,ab,av,bg⟩:(Ŀ (Ŀ Zf))×ŀ Addr×Nat×ŀ Ow×Mem)=>⟨Z,[(3,ε ad Z ab)],Mem.le Y bg/\sl (Rp.arr ik 8) bg ad ab Z/\Tok 32 325 (ε ad Z ab) Z.length av,St w0 Y bg [(1003,av)]⟩) ⟨[],none,0,none,[],none,0,none,0,Y⟩ z (Æ z) ⟨mr,(X' _ _),kV,(X' _ _),kV⟩ (wk (lw (lw ln))) ?_ ?_
 .rintro _ ⟨h,f,g,c,l,i,k,d,q,s⟩ ⟨M,L,ak,ac,aQ⟩ hr;refine Ξ ?_;intro _ P hr;refine nv (X:=Int×(Ŀ Zf)×Ŀ Value×Unit×Mem) hr (λ⟨am,aX,aE,az,au⟩=>⟨(am,aX),[(0,ε o t p),(3,ε f h g),(4,ε i l k),(5,i' q),(6,iG P),(7,i' am)],Mem.le s au/\È ik 8 au aE az aX,St w0 Y au [(6,ú P (aE) 325),(1003,c),(1004,d)]⟩) (λ(⟨bc,aP,a7,a⟩:(Ŀ Zf)×Ŀ Value×Unit×Mem)=>⟨bc,[(0,ε o t p),(3,ε f h g),(4,ε i l k),(5,i' q),(6,iG P)],Mem.le s a/\È ik 8 a aP a7 bc,St w0 Y a [(6,ú P (aP) 325),(1003,c),(1004,d)]⟩) ⟨0,(List.replicate 8 (Zf.mk (Zg.mk false []) (Zg.mk false []))),([.bool false,.slice none 0 0,.bool false,.slice none 0 0,.bool false,.slice none 0 0,.bool false,.slice none 0 0,.bool false,.slice none 0 0,.bool false,.slice none 0 0,.bool false,.slice none 0 0,.bool false,.slice none 0 0,.bool false,.slice none 0 0,.bool false,.slice none 0 0,.bool false,.slice none 0 0,.bool false,.slice none 0 0,.bool false,.slice none 0 0,.bool false,.slice none 0 0,.bool false,.slice none 0 0,.bool false,.slice none 0 0]:Ŀ Value),(),s⟩ z (Æ z) ⟨mr,(show È ik 8 s ([.bool false,.slice none 0 0,.bool false,.slice none 0 0,.bool false,.slice none 0 0,.bool false,.slice none 0 0,.bool false,.slice none 0 0,.bool false,.slice none 0 0,.bool false,.slice none 0 0,.bool false,.slice none 0 0,.bool false,.slice none 0 0,.bool false,.slice none 0 0,.bool false,.slice none 0 0,.bool false,.slice none 0 0,.bool false,.slice none 0 0,.bool false,.slice none 0 0,.bool false,.slice none 0 0,.bool false,.slice none 0 0]:Ŀ Value) () _ from zA (G:=s) (r:=ik) (n:=8) (zc:=[.bool false,.slice none 0 0,.bool false,.slice none 0 0]) (z:=(Zf.mk (Zg.mk false []) (Zg.mk false []))) ⟨[.bool false,.slice none 0 0],[.bool false,.slice none 0 0],z,⟨[.bool false],[.slice none 0 0],z,z,⟨_,z,(X' _ _)⟩⟩,⟨[.bool false],[.slice none 0 0],z,z,⟨_,z,(X' _ _)⟩⟩⟩)⟩ (w3 z z z) ?_ ?_
  .rintro _ ⟨am,aX,aE,az,au⟩ ⟨S,a2⟩ hr;refine o'<|sr<|ν z<|kv z<|nx<|I' hr z (λch hr=>?_) (λch hr=>?_)
   .refine q'<|b'<|o'<|Y'<|w'<|ν z<|ν z<|ν z<|ν z<|oE hr λx7 bI hr=>Δ (kd tA xJ (aH.mono (mx M S)) z z bI)<|oA hr λbt hr=>Δ (VT Gr jS z z bt)<|Δ (mX eN z (GF (T' (iK aH bI) (mx M S)) bt))<|oE hr λU bW hr=>gR z z (x' DP z) (GD.h bW) z (trivial) (λcA cl aM bk=>?_)
    obtain⟨K,B,D,H,rfl,ay,aD⟩:=bk;refine oE hr λx8 bJ hr=>Δ (rk oh jW z z (rn (a2.mono aM) bJ))<|B0 (cs':=(Υ U K B D H)) (z':=U) 6 z jW z (by decide) (a2.mono aM) z z z z ⟨(η U.num K B),(η U.den D H),z,⟨[.bool U.num.neg],[ε K U.num.χ B],z,z,⟨_,z,ay⟩⟩,⟨[.bool U.den.neg],[ε D U.den.χ H],z,z,⟨_,z,aD⟩⟩⟩ bJ λd2 cq=>t' ?_
    refine è ?_;intro hr;refine N' ⟨i64.wrap (am+1),aX.set am.toNat U,d2,az,cl⟩ hr ⟨(mx S aM),cq⟩ (Æ z) (w3 z z z)
   refine nw<|p'<|p'<|K'<|og ⟨aX,aE,az,au⟩ ⟨hr,S,a2⟩ (Æ z) (w3 z z z)
  rintro⟨bc,aP,a7,a⟩ ⟨hr,m,bO⟩;refine b'<|o'<|sr<|Ρ z<|nv (X:=Int×(Ŀ Zf)×Ŀ Value×Unit×Mem) hr (λ⟨aO,bd,aN,a5,a1⟩=>⟨(aO,bd),[(0,ε o t p),(3,ε f h g),(4,ε i l k),(5,i' q),(6,iG P),(8,i' aO)],Mem.le a a1/\È ik 8 a1 aN a5 bd,St w0 Y a1 [(6,ú P (aN) 325),(1003,c),(1004,d)]⟩) (λ(⟨be,W,a6,N⟩:(Ŀ Zf)×Ŀ Value×Unit×Mem)=>⟨be,[(0,ε o t p),(3,ε f h g),(4,ε i l k),(5,i' q),(6,iG P)],Mem.le a N/\È ik 8 N W a6 be,St w0 Y N [(6,ú P (W) 325),(1003,c),(1004,d)]⟩) ⟨0,bc,aP,a7,a⟩ z (Æ z) ⟨mr,bO⟩ (w3 z z z) ?_ ?_
  .rintro _ ⟨aO,bd,aN,a5,a1⟩ ⟨I,aC⟩ hr;refine o' ?_;refine è ?_;intro hr;refine I' hr z (λcr hr=>?_) (λcr hr=>?_)
   .refine q'<|b'<|o'<|Y'<|fA [ff,ff,ff,ff,ff,ff,ff,ff,ff] eL (by kernel_rfl) λhb=>cn (λ_ x=>y' 6 kn z z (lE aC))<|fM z<|fM z<|oE hr λx5 bs hr=>cn (λ_ x=>kd oH oK ((L.mono (mx m I)).mono x) z z bs) ?_
    obtain⟨cJ,bn,b4⟩:=(T' (iK L bs) (mx m I));refine cn (λ_ x=>ny _ kn z (lE (u:=()) bn) (λj v hv=>x _ _ _ (b4 j v (by simpa using hv)))) ?_;refine è ?_;intro _ _ hr _;refine oE hr λb6 bM hr=>gR z z (x' IJ z) (is'.h bM) z (⟨aC,(show È _ _ _ _ () _ from bn)⟩) (λcD cc a8 bj=>?_);obtain⟨bX,bQ,rfl,a4⟩:=bj;refine A' 6 z oK z z z (lE (aC.mono a8)) (lE a4) (È.one a4)<|t' ?_
    refine è ?_;intro hr;refine N' ⟨i64.wrap (aO+1),b6,bX,bQ,cc⟩ hr ⟨(mx I a8),a4⟩ (Æ z) (w3 z z z)
   refine nw<|p'<|p'<|K'<|og ⟨bd,aN,a5,a1⟩ ⟨hr,I,aC⟩ (Æ z) (w3 z z z)
  rintro⟨be,W,a6,N⟩ ⟨hr,O,aq⟩;refine b'<|sr<|Ρ z<|o'<|nv (X:=Int×Mem) hr (λ⟨aa,ax⟩=>⟨aa,[(0,ε o t p),(3,ε f h g),(4,ε i l k),(5,i' q),(6,iG P),(9,i' aa)],Mem.le N ax,St w0 Y ax [(6,ú P (W) 325),(1003,c),(1004,d)]⟩) (λ(⟨A,a9⟩:Int×Mem)=>⟨A,[(0,ε o t p),(3,ε f h g),(4,ε i l k),(5,i' q),(6,iG P),(9,i' A)],Mem.le N a9,St w0 Y a9 [(6,ú P (W) 325),(1003,c),(1004,d)]⟩) ⟨0,N⟩ z (Æ z) mr (w3 z z z) ?_ ?_
  .rintro _ ⟨aa,ax⟩ R hr;refine Ξ ?_;intro _ hr;refine oE hr λx4 br hr=>gy z z (rk oh jW z z (rn (aq.mono R) br)) z ?_;obtain⟨bH,bK,bB,bx,ca,aT,aR⟩:=pB (vU (aq.mono R) br);refine gy z z (R' _ 6 mf z z z ca) z<|oE hr λcK bY hr=>H' (C' z z) z (x' Im z) (eT'.h bY) z (⟨aT,aR⟩)<|gy z z (eB z z) z<|Ι z<|nx<|I' hr z (λce hr=>?_) (λce hr=>?_)
   .exact Ζ
   exact Ζ
  rintro⟨A,a9⟩ ⟨hr,y⟩;refine Ξ ?_;intro _ hr;refine oE hr λx1 bL hr=>Δ (rk oh jW z z (rn (aq.mono y) bL)) ?_;obtain⟨bz,bF,bG,bv,b7,aZ,aU⟩:=pB (vU (aq.mono y) bL);refine Δ (R' _ 6 mf z z z b7)<|oE hr λcm bS hr=>gR z z (x' IK z) (jh'.h bS) z (⟨aZ,aU⟩) (λcF bm af bi=>?_)
  obtain⟨ar,ap,ag,ai,rfl,aj,ah⟩:=bi;refine ν z<|lM z ?_
  refine è ?_;intro b2 hr;refine nv (X:=Int×(Ŀ Zf)×Ŀ Value×Unit×Mem) hr (λ⟨Q,aW,aI,aG,aY⟩=>⟨(Q,aW),[(0,ε o t p),(3,ε f h g),(4,ε i l k),(5,i' q),(6,iG P),(9,i' A),(10,iG b2),(12,i' Q)],Mem.le bm aY/\È ik 8 aY aI aG aW,St w0 Y aY [(6,ú P (aI) 325),(10,ú b2 (Υ cm.1 ar ap ag ai) 120),(1003,c),(1004,d)]⟩) (λ(⟨a0,V,bo,bh⟩:(Ŀ Zf)×Ŀ Value×Unit×Mem)=>⟨a0,[(0,ε o t p),(3,ε f h g),(4,ε i l k),(5,i' q),(6,iG P),(9,i' A)],Mem.le bm bh/\È ik 8 bh V bo a0,St w0 Y bh [(6,ú P (V) 325),(1003,c),(1004,d)]⟩) ⟨0,be,W,a6,bm⟩ z (Æ z) ⟨mr,(aq.mono (mx y af))⟩ (w4 z z z z) ?_ ?_
  .rintro _ ⟨Q,aW,aI,aG,aY⟩ ⟨ae,ao⟩ hr;refine o'<|sr<|ν z<|kv z<|nx<|I' hr z (λck hr=>?_) (λck hr=>?_)
   .refine q'<|b'<|o'<|Y'<|fA [tt,ff,ff,ff,ff] eL (by kernel_rfl) λhb=>uw z (k' z)<|fM z<|oE hr λx2 bq hr=>cn (λ_ x=>rk oh jW z z (rn ao bq)) ?_
    obtain⟨bw,bA,bC,bD,b5,aS,aV⟩:=pB (vU ao bq);refine cn (λ_ x=>R' _ 6 mf z z z b5)<|cn (λ_ x=>y' 10 mf z z z)<|pz hb<|oE hr λT bT hr=>gR z z (x' zW z) (V9.h bT) z (⟨aS,aV,(aj.mono ae),(ah.mono ae)⟩) (λcE ct aA bl=>?_)
    obtain⟨C,F,E,J,rfl,aL,aK⟩:=bl;refine oE hr λx3 bu hr=>Δ (rk oh jW z z (rn (ao.mono aA) bu))<|B0 (cs':=(Υ T C F E J)) (z':=T) 6 z jW z (by decide) (ao.mono aA) z z z z ⟨(η T.num C F),(η T.den E J),z,⟨[.bool T.num.neg],[ε C T.num.χ F],z,z,⟨_,z,aL⟩⟩,⟨[.bool T.den.neg],[ε E T.den.χ J],z,z,⟨_,z,aK⟩⟩⟩ bu λd1 cb=>t' ?_
    refine è ?_;intro hr;refine N' ⟨i64.wrap (Q+1),aW.set Q.toNat T,d1,aG,ct⟩ hr ⟨(mx ae aA),cb⟩ (Æ z) (w4 z z z z)
   refine nw<|p'<|p'<|K'<|og ⟨aW,aI,aG,aY⟩ ⟨hr,ae,ao⟩ (Æ z) (w3 z z z)
  rintro⟨a0,V,bo,bh⟩ ⟨hr,aF,a3⟩;refine b'<|w'<|ν z<|Δ (y' 6 kn z z (lE a3))<|mY (e:=325) (r:=(Rp.arr ik 8)) (vs:=#[(0,.agg (V).toArray)]) (cs:=V++([])) ([a0]:Ŀ (Ŀ Zf)) z z z z z (by decide) (wb (n:=32) (lE a3) (λ_=>(λ_=>by kernel_rfl))) ⟨V,[],z,a3,z⟩ (key:=999) z (by rw[ba];rfl) (λp1 cI aB cg=>?_)
  refine oA hr λbR hr=>jN (r:=(Rp.arr ik 8)) 1003 z z oH vT z (by decide) z z (L.mono (mx (mx (mx (mx (mx m O) y) af) aF) aB)) z (by rw[ba];rfl) ak cg bR λp2 co bZ cL bf ci bU=>ν z ?_;refine è ?_;intro _ _ aJ cj hr;obtain⟨bV,hr⟩:=hr;have N1:=mx (mx (mx (mx (mx (mx (mx (mx M m) O) y) af) aF) aB) bf) aJ;have N2:=mx (mx (mx (mx (mx (mx (mx m O) y) af) aF) aB) bf) aJ;refine jN (r:=(Rp.int .i64)) 1004 z z zf M0 z (by decide) z z (ac.mono N2) z (by rw[ba];rfl) aQ cj bV λp4 b9 b3 cp bb b8 bP=>Þ z<|Þ z<|t'<|E'<|b'<|w'<|ν z<|iM z<|Þ z<|t'<|N' ⟨(h++[a0]),p2,co,bZ,(l++[A]),p4,b9,b3,i64.wrap (q+1),cp⟩ hr ⟨(mx N1 bb),(ci.mono (mx aJ bb)),bU,b8,bP⟩ (Æ z) (w2 z z)
 rintro⟨Z,ad,ab,av,bg⟩ ⟨hr,cx,bp,cd⟩;exact Ζ
instance GR{d c r}:a ((FI d c)) r (Cr 208 #[i' d,i' c] (λG=>True) (λG v=>v=.agg (Ö r).toArray)):=.mk λhr=>Ζ
instance iX'{D r}:a ((Lv D)) r (∀ {H I},Cr 159 #[ε H D I] (λG=>sv G H I D) (iy (gf .i64 8) r)):=.mk λhr {H I}=>by
 refine è ?_;intro w0 Z q hr t;refine o' ?_;refine è ?_;intro _ hr _;refine kc hr z (λai hr=>?_) (λai hr=>?_)
 .exact Ζ
 refine q'<|b'<|sr<|mY (e:=71) (r:=(gf .i64 8)) (vs:=#[]) (cs:=[]) ([]:Ŀ (Fin 8->Int)) z z z z z (by decide) (λ_=>by kernel_rfl) (z) (key:=999) z (by rw[q];rfl) λp1 aq n af=>ν z<|oA hr λT hr=>jN (r:=(gf .i64 8)) 2011 z z tA nW z (by decide) z z af z (by rw[q];rfl) kV (t.mono n) T λp2 N Q B u J L=>Ρ z<|o'<|sr<|ν z<|oE hr λan K hr=>H' z z (x' It z) (iW'.h K) z ((t.mono (mx n u)))<|Δ (eB z z)<|nx<|I' hr z (λV hr=>?_) (λV hr=>?_)
 .exact Ζ
 refine Ξ ?_;intro _ hr;refine nv (X:=(Ŀ (Fin 8->Int))×ŀ Addr×Nat×ŀ Ow×Int×Mem) hr (λ⟨c,g,d,f,C,o⟩=>⟨(c,C),[(4,ε g c d),(5,i' C)],Mem.le B o/\sv o g d c/\Tok 8 71 (ε g c d) c.length f,St w0 Z o [(1004,f)]⟩) (λ(⟨h,l,k,m,x⟩:(Ŀ (Fin 8->Int))×ŀ Addr×Nat×ŀ Ow×Mem)=>⟨h,[(4,ε l h k)],Mem.le B x/\sv x l k h/\Tok 8 71 (ε l h k) h.length m,St w0 Z x [(1004,m)]⟩) ⟨([]++D),p2,N,Q,0,B⟩ z (Æ z) ⟨mr,J,L⟩ ?_ ?_ ?_
 .intro w S;have S:=S.Ý (i:=2011) (j:=1004) z (by rw[q];rfl);exact S.weaken (lc z ln)
 .rintro _ ⟨c,g,d,f,C,o⟩ ⟨y,A,s⟩ hr;refine Ξ ?_;intro _ p _ _ v W hr _;refine oA hr λP hr=>jN (r:=(gf .i64 8)) 1004 z z tA nW z (by decide) z z (A.mono v) z (by rw[q];rfl) s W P λp4 Y U R F aj O=>Þ z<|t'<|E'<|b'<|w'<|ν z<|iM z<|Þ z<|t'<|N' ⟨(c++[p]),p4,Y,U,i64.wrap (C+1),R⟩ hr ⟨(mx (mx y v) F),aj,O⟩ (Æ z) (w1 z)
 rintro⟨h,l,k,m,x⟩ ⟨hr,ak,E,ag⟩;exact Ζ
instance it'{o1 f r}:i ((Kg o1 f)) r (∀ {e a},Cr 89 #[ε e o1 a,.agg (Ö f).toArray] (λG=>sv G e a o1) (iy (gf .i64 8) r)):=.mk λhr {e a}=>by
 refine Ξ ?_;intro U T _ P K _ _ _ _ _ _ R _ _ y s _ _ p1 O _ v hr _;refine WC.mC (hH:=by exact⟨v,kV⟩) hr [3,6] [3] [] [] (λ(⟨c,h,g,d,L⟩:(Ŀ (Fin 8->Int))×ŀ Addr×Nat×ŀ Ow×Int)=>⟨(c,L),[(8,ε h c g),(9,i' L)],λk=>sv k h g c/\Tok 8 71 (ε h c g) c.length d,[(1008,d)]⟩) (λ(⟨l,o,n,t⟩:(Ŀ (Fin 8->Int))×ŀ Addr×Nat×ŀ Ow)=>⟨l,[(8,ε o l n)],λJ=>sv J o n l/\Tok 8 71 (ε o l n) l.length t,[(1008,t)]⟩) ⟨[],p1,0,none,0⟩ ?_;rintro _ k ⟨c,h,g,d,L⟩ j ⟨I,C⟩ hr;refine Ξ ?_;intro _ V hr;refine WC.mB hr [3,6,8,9,10] [3,1008] [3,6,8,9,10] [3,1008] (λ(⟨E,A⟩:Int×(Fin 8->Int))=>⟨(E,A),[(11,i' E)],tr,[(10,ú V (Ö A) 71)]⟩) (λ(m:(Fin 8->Int))=>⟨m,[],tr,[(10,ú V (Ö m) 71)]⟩) ⟨0,(λ_=>0)⟩ ?_;intro Q m hr F _;refine Ξ ?_;intro _ _ H B hr;refine oA hr λaf hr=>jN (r:=(gf .i64 8)) 1008 z z tA nW z (by decide) z z (I.mono (mx F H)) z (by rw[P];rfl) C B af λp3 u p D S x q=>Þ z<|t'<|E'<|b'<|w'<|ν z<|iM z<|Þ z<|t'<|N' ⟨D,(c++[m]),p3,u,p,i64.wrap (L+1)⟩ hr ⟨(mx (mx (mx j F) H) S),x,q⟩ (Æ z) (w2 z z)
instance gm'{c r}:a ((Eg c)) r (Cr 64 #[i' c] (λG=>True) (λG v=>v=.bool r)):=.mk λhr=>Ζ
end Go.Proofs.YtepbagkffgddlaaGreat

namespace Go.Proofs.YtepbagkffgddlaaGreat
open Go.IntKind (i8 i16 i32 i64 u8 u16 u32 u64)
open Go.Proofs.Tryz
open Go Go.EL Go.RowKit Go.Proofs
set_option maxHeartbeats 4000000
set_option maxRecDepth 20000
instance iO'{s d r}:a ((KT s d)) r (∀ {i j e f k n l o},Cr 87 #[.agg ((Ã s i j e f)).toArray,.agg ([i' d.kind,ε k d.p n,ε l d.o o]).toArray] (λG=>sq G i j s.eqs/\sq G e f s.δ/\sl c' G k n d.p/\sv G l o d.o) (λG v=>v=.bool r)):=.mk λhr {i j e f k n l o}=>by
 refine J' (args:=[_,_]) (N:=62) func87 z z z (λU A Z B=>?_);obtain⟨F,D,h,m⟩:=B;refine sr<|jM 2 z z z λu=>jM 3 z z z λM=>Ρ z<|WC.nD hr [3] [3] (λ(_:Unit)=>⟨[],JL d,tr,[]⟩) ?_ ?_
 .refine o'<|fA [ff,ff,ff,ff,ff,ff,ff,ff,ff,ff,ff,ff,ff,ff,ff,ff,ff,ff,ff,ff,ff,ff,ff,ff,ff,ff,ff,ff,ff] eL (by kernel_rfl) λp=>cn (λ_ c=>Bz z)<|cn (λ_ c=>n' 3 eN z z z)<|zw hr z (λ_ c=>Z' z z) (λQ hr=>?_) (λQ hr=>?_)
  .exact Ζ
  refine fM z<|cy z z (λ_ c=>Bz z)<|cy z z (λ_ c=>n' 3 eN z z z)<|zw hr (C' z z) (λ_ c=>uo z z) (λK hr=>?_) (λK hr=>?_)
  .exact Ζ
  refine cn (λ_ c=>f' z z)<|fM z<|cy z z (λ_ c=>GB z)<|cy z z (λ_ c=>n' 3 rf z z z)<|oE hr λH t hr=>uu (C' z z) (λ_=>x' H9 z) (gy'.h t) z (λE c=>(h.mono c)) ?_
  cases H
  .exact Ζ
  exact Ζ
 intro q _ hr g _;refine sr<|Δ (GB z)<|Δ (n' 3 rf z z z)<|Δ (P' Q' (h.mono g) z)<|dE hr z (eB z z) z (λR hr=>?_) (λR hr=>?_)
 .exact Ζ
 refine Ξ ?_;intro hr _;refine Å (M' z z) z<|Å (M' z z) z<|Å (M' z z) z<|sk z z z<|ο z<|Ρ z<|m' (Õ hr z z)
instance fL'{a m r}:f ((yL a m)) r (∀ {Y Q F H af d c e},Cr 40 #[.agg ((Ã a Y Q F H)).toArray,.agg ([i' m.kind,ε af m.p d,ε c m.o e]).toArray] (λG=>sq G Y Q a.eqs/\sq G F H a.δ/\sl c' G af d m.p/\sv G c e m.o) (yl r)):=.mk λhr {Y Q F H af d c e}=>Ζ
instance Nc{c r}:a ((Fy c)) r (∀ {i n j m},Cr 91 #[.agg ([i' c.kind,ε i c.p n,ε j c.o m]).toArray] (λG=>sl c' G i n c.p/\sv G j m c.o) (fS tD r)):=.mk λhr {i n j m}=>by
 refine è ?_;intro t k _ _ _ _ hr _;refine WC.nD hr [4] [] (λ(g:Bool)=>⟨[(5,.bool g)],JV c g,tr,[]⟩) ?_ ?_
 .refine sr<|Δ (eB z z)<|Ρ z<|I' hr z (λp hr=>?_) (λp hr=>?_)
  .exact Ζ
  exact Ζ
 intro d g hr D _;refine kc hr z (λB hr=>?_) (λB hr=>?_)
 .exact Ζ
 refine WC.nC hr [4] [] (λ(f:Bool)=>⟨[(10,.bool f)],JU c f,tr,[]⟩) ?_;refine sr<|Δ (eB z z)<|Ρ z<|I' hr z (λq hr=>?_) (λq hr=>?_)
 .exact Ζ
 exact Ζ
instance iP'{V F r}:e ((K7 V F)) r (∀ {a af M n m},Cl 141 #[ε a V af,ε n F m] [(5000,M)] (λG=>ru G (ε a V af) V M/\sv G n m F) (λG L v=>∃ zp zc j,L=[(5000,j)]/\v=ε zp r zc/\ru G (ε zp r zc) r j)):=.mk λhr {a af M n m}=>by refine Ξ ?_;intro I P _ _ _ _ p O _ C x T K hr _;refine WC.mC hr [1] [] [] [] (λ(⟨t,o,q,f,H⟩:(Ŀ Int)×ŀ Addr×Nat×ŀ Ow×Int)=>⟨(t,H),[(0,ε o t q),(5,i' H)],λd=>ru d (ε o t q) t f,[(5000,f)]⟩) (λ(⟨S,Q,R,i⟩:(Ŀ Int)×ŀ Addr×Nat×ŀ Ow)=>⟨S,[(0,ε Q S R)],λs=>ru s (ε Q S R) S i,[(5000,i)]⟩) ⟨p,C,x,T,0⟩ ?_;rintro _ d ⟨t,o,q,f,H⟩ c E hr;refine Ξ ?_;intro _ hr;refine WC.mA hr [1,5] [] [1,5] [] (λ(⟨D,u,B,h,Z⟩:(Ŀ Int)×ŀ Addr×Nat×ŀ Ow×Int)=>⟨(D,Z),[(0,ε u D B),(6,i' Z)],λl=>ru l (ε u D B) D h,[(5000,h)]⟩) (λ(⟨J,y,A,g⟩:(Ŀ Int)×ŀ Addr×Nat×ŀ Ow)=>⟨J,[(0,ε y J A)],λk=>ru k (ε y J A) J g,[(5000,g)]⟩) ⟨t,o,q,f,0⟩
instance il'{k r}:ab ((F5 k)) r (∀ {n s o q},Cr 80 #[.agg ([i' k.kind,ε n k.p s,ε o k.o q]).toArray] (λG=>sl c' G n s k.p/\sv G o q k.o) (λG v=>v=.string r)):=.mk λhr {n s o q}=>by
 refine J' (args:=[_]) (N:=14) func80 z z z (λw0 G0 g F=>?_);obtain⟨H,E⟩:=F;have hz:w0.L.zero:=by rw[g];intro p hp;simp at hp
 refine sr<|jM 1 z z z λR=>Ρ z<|o'<|WC.ng (l:=ir [1,2,4,5,7,8,0,3,6,9,10,11] _) (Fm (by kernel_rfl)) [(1,ú R ([i' k.kind,ε n k.p s,ε o k.o q]) 54)] (lc z ln) [tt,tt,tt,tt,tt,tt] eL (by kernel_rfl) λt=>nz z (Bz z)<|nz z (n' 1 eN z z z)<|nz z (GB z)<|nz z (n' 1 rf z z z)<|nz z (VW z)<|nz z (n' 1 sQ z z z)<|xO t<|nV (λw c=>c.weaken (lc z ln))<|WL.sx (e:=5) (r:=(Rp.int .u8)) (vs:=#[]) (cs:=[]) ([]:Ŀ Int) 4003 z z z z z (by decide) (λ_=>by kernel_rfl) (z) λp1 ac L=>nT<|nV (λw c=>c.weaken (lc z ln))<|oE hr λak K hr=>mm (λw c=>c.Ý (i:=4003) (j:=5000) z (by rw[g];rfl))<|mP z z (x' zN z) (Wb.h K) z (L) (lc z ln) hz (λT ah S d x=>?_)
 obtain⟨aa,X,P,rfl,rfl,D⟩:=x;refine mm (λw c=>c.Ý (i:=5000) (j:=4006) z (by rw[g];rfl))<|nT<|nV (λw c=>(c.eU t d).weaken (lc z ln))<|oE hr λaj A hr=>mm (λw c=>c.Ý (i:=4006) (j:=5000) z (by rw[g];rfl))<|mP z z (x' H6 z) (hA'.h A) z (⟨D,(H.mono d)⟩) (lc z ln) hz (λag an af f y=>?_)
 obtain⟨U,V,M,rfl,rfl,I⟩:=y;refine mm (λw c=>c.Ý (i:=5000) (j:=4009) z (by rw[g];rfl))<|nT<|nV (λw c=>(c.eU t (mx d f)).weaken (lc z ln))<|oE hr λam C hr=>mm (λw c=>c.Ý (i:=4009) (j:=5000) z (by rw[g];rfl))<|mP z z (x' H5 z) (iP'.h C) z (⟨I,(E.mono (mx d f))⟩) (lc z ln) hz (λae ao Y m u=>?_)
 obtain⟨W,Z,Q,rfl,rfl,B⟩:=u;have a:=mx (mx d f) m;refine mm (λw c=>c.Ý (i:=5000) (j:=4012) z (by rw[g];rfl))<|pL (r:=(Rp.int .u8)) (e:=5) 4012 B z (by rw[g];rfl) λai al h J O=>nT<|fz.y0 (λw c=>(c.eU t (mx a h)).weaken (lc z ln)) z (Y0.kK VV Gt xG J z) z<|fz.y0 (λw c=>(c.eU t (mx a h)).weaken (lc z ln)) z (ri z) z<|vV (λw c=>(c.eU t (mx a h)).weaken (lc z ln))<|Θ<|b'<|m' (Õ hr z z)
instance da'{e d r}:a ((DW e d)) r (∀ {l f g k j m i h},Cr 34 #[.agg ([i' e.kind,ε l e.p f,ε g e.o k]).toArray,.agg ([i' d.kind,ε j d.p m,ε i d.o h]).toArray] (λG=>sl c' G l f e.p/\sv G g k e.o/\sl c' G j m d.p/\sv G i h d.o) (λG v=>v=.bool r)):=.mk λhr {l f g k j m i h}=>Ζ
instance gn'{E x l r}:a ((Gk E x l)) r (∀ {p o h i e f m q n s},Cr 39 #[.agg ((fX E p o)).toArray,.agg ((Ã x h i e f)).toArray,.agg ([i' l.kind,ε m l.p q,ε n l.o s]).toArray] (λG=>sl gg G p o E.t/\sq G h i x.eqs/\sq G e f x.δ/\sl c' G m q l.p/\sv G n s l.o) (λG v=>v=i' r)):=.mk λhr {p o h i e f m q n s}=>by
 refine Ξ ?_;intro w0 A _ _ _ g _ y _ u _ F V I hr _;refine WC.mC hr [3,4,5] [3,4,5] [] [] (λ(D:Int)=>⟨D,[(7,i' D)],tr,[]⟩) (λ(_:Unit)=>⟨(.inr ()),[],tr,[]⟩) 0 ?_;intro _ k D d _ hr;refine o' ?_;refine è ?_;intro hr;refine I' hr z (λaf hr=>?_) (λaf hr=>?_)
 .refine q'<|b'<|o'<|Y'<|o'<|fA [ff,ff,ff,ff,ff,ff,ff,ff,ff,ff,ff,ff,ff,ff,ff,ff] eL (by kernel_rfl) λU=>cn (λ_ c=>Gs z)<|cn (λ_ c=>n' 3 MQ z z z)<|fM z<|oE hr λJ H hr=>cn (λ_ c=>kd tC rb ((g.mono d).mono c) z z H)<|cn (λ_ c=>zm z) ?_
  obtain⟨C,Y,S,R,T,B,t⟩:=Q5 (T' (rZ (qH (nE (iK g H)))) d);refine cn (λ_ c=>ny _ mZ z z (λj v P=>c _ _ _ (T j v P)))<|cn (λ_ c=>y' 4 mZ z z z)<|oE hr λZ Q hr=>uu z (λ_=>x' IS z) (Jh _ _ _ _ _ _ _ _ _ _ _ Q) z (λG' c=>⟨(B.mono c),(t.mono c),((y.mono d).mono c),((u.mono d).mono c)⟩) ?_
  cases Z
  .exact Ζ
  exact Ζ
 exact Ζ
abbrev Ev(s:Zd->Zb->Zc->Cq Zv):Prop:=∀ (h:Zd) (a:Zb) (c:Zc) (j:ŀ Addr) (i:Nat) (g:ŀ Addr) (f:Nat) (e:ŀ Addr) (d:Nat) (n:ŀ Addr) (m:Nat) (l:ŀ Addr) (k:Nat) (r:Zv),(s h a c).Α r->Cr 43 #[.agg ([.slice j h.t.length i,.int .i64 h.next]).toArray,.agg ([.int .i64 a.n,.slice g a.eqs.length f,.slice e a.δ.length d]).toArray,.agg ([.int .i64 c.kind,.slice n c.p.length m,.slice l c.o.length k]).toArray] (λG=>Η ZF G (.slice j h.t.length i) h.t/\Η (Rp.sl Zk) G (.slice g a.eqs.length f) a.eqs/\Η (Rp.sl Zk) G (.slice e a.δ.length d) a.δ/\Η Zk G (.slice n c.p.length m) c.p/\Η (Rp.vec .i64 8) G (.slice l c.o.length k) c.o) (λG v=>∃ q p,v=.agg ([.slice q r.b.t.length p,.int .i64 r.b.next,.int .i64 r.id,.int .i64 r.e]).toArray/\Η ZF G (.slice q r.b.t.length p) r.b.t)
theorem Zqa:Ev (λ_ _ _=>Cq.fail):=λl m n g f e d c a k j i h r hr=>False.elim hr
theorem Qj(SF:Zd->Zb->Zc->Cq Zv)(bg:Ev SF)(X:Zd)(N:Zb)(J:Zc)(T:ŀ Addr)(Y:Nat)(Q:ŀ Addr)(S:Nat)(L:ŀ Addr)(K:Nat)(aj:ŀ Addr)(ai:Nat)(an:ŀ Addr)(am:Nat)(r:Zv)(hr:(Kt SF X N J).Α r):Cr 43 #[.agg ((fX X T Y)).toArray,.agg ((Ã N Q S L K)).toArray,.agg ([i' J.kind,ε aj J.p ai,ε an J.o am]).toArray] (λG=>sl gg G T Y X.t/\sq G Q S N.eqs/\sq G L K N.δ/\sl c' G aj ai J.p/\sv G an am J.o) (qs r):=by
 refine Ξ ?_;intro w0 G0 _ bj _ aC _ _ _ _ _ _ b1 _ _ b4 c _ _ aT k g f d o n p l F y W U b5 _ bl aE s a6 aY _ hr _;refine WC.mD hr [3,6,7,8] [7] [3,6,7] [7] (λ(⟨ae,ao,M,O,j,B,A⟩:Int×Zd×ŀ Addr×Nat×Zv×ŀ Addr×Nat)=>⟨(ae,ao,j),[(9,i' ae)],λab=>sl gg ab M O ao.t/\sl gg ab B A j.b.t,[(3,ú b1 (fX ao M O) 26),(6,ú b4 (od j B A) 100)]⟩) (λ(⟨q,D,E,aw,V,R⟩:Zd×ŀ Addr×Nat×Zv×ŀ Addr×Nat)=>⟨(.inr (q,aw)),[],λap=>sl gg ap D E q.t/\sl gg ap V R aw.b.t,[(3,ú b1 (fX q D E) 26),(6,ú b4 (od aw V R) 100)]⟩) ⟨0,X,T,Y,(Zv.mk (Zd.mk [] 0) 0 0),none,0⟩ ?_ ?_
 .rintro _ ab ⟨ae,ao,M,O,j,B,A⟩ x ⟨av,ak⟩ hr;refine o' ?_;refine è ?_;intro hr;refine I' hr z (λbm hr=>?_) (λbm hr=>?_)
  .refine q'<|b'<|o'<|Y'<|o'<|fA [ff,ff,ff,ff,ff,ff,ff,ff,ff] eL (by kernel_rfl) λhb=>cn (λ_ m=>y' 3 l6 z z z)<|cn (λ_ m=>Y0.Vk z) ?_
   refine è ?_;intro _ _ _ _ _ _ _ _ _ _ _ _ _ bb hr a2;refine oE hr λZ a3 hr=>qB (post:=qs Z) (λ_=>z) (λ_ _=>x' OO z) (bg _ _ _ _ _ _ _ _ _ _ _ _ _ _ a3) z (λG' m=>⟨(av.mono m),((F.mono (mx s x)).mono m),((y.mono (mx s x)).mono m),(bb.mono m),(a2.mono m)⟩) (λv G1 G2 m h=>?_) ?_
   .obtain⟨H,I,rfl,P⟩:=h;exact⟨_,_,z,P.mono m⟩
   refine kI (λ_=>z) yn<|γ.ns (λbV bJ X2 aG aH aA=>?_)
   obtain⟨b7,rfl,a1⟩:=aH;obtain⟨H,I,rfl,P⟩:=aA;refine om a1 (lG (show WL _ _ _ _ _ _ (St w0 G0 X2.m _)from ?_));refine gp 10 sZ z<|t'<|Θ<|b'<|o' ?_
   exact Ζ
  exact Ζ
 rintro ap ⟨q,D,E,aw,V,R⟩ hr t ⟨C,bi⟩;refine Ξ ?_;intro _ _ _ _ hr _;refine Δ (l4 (vs:=#[(0,i' q.next),(1,.agg ((Ã c.k k g f d)).toArray),(2,.agg ([i' c.q.kind,ε o c.q.p n,ε p c.q.o l]).toArray),(5,i' (-1))]) (v:=.agg ([i' q.next,i' c.k.n,ε k c.k.eqs g,ε f c.k.δ d,i' c.q.kind,ε o c.q.p n,ε p c.q.o l,i' 0,i' 0,i' (-1),.bool false]).toArray) z z (λ_=>by kernel_rfl))<|W' 12 z yo z λb6=>gp 12 rb z<|nx<|o'<|fA [ff,ff,ff,ff,ff,ff,ff,ff,ff,ff,ff,ff,ff] eL (by kernel_rfl) λhb=>γ.nl (r:=gg) (e:=56) ([]:Ŀ Ze) (λ_=>z) z (by decide) (λu G' m a=>?_) ?_
 .exact⟨#[],[],z,z,λ_=>by kernel_rfl,z⟩
 refine Ξ ?_;intro hr;refine oA hr λa0 hr=>γ.mN (r:=gg) (e:=56) (kk:=78) (xs:=([]:Ŀ Ze)) q.t (λ_=>z) z (by kernel_rfl) (by kernel_rfl) tC qK z (by decide) a0 (λu G' m a=>?_) ?_
 .obtain⟨aL,_⟩:=(show(gu gg 56 78 ([]:Ŀ Ze)) (u 78) G'/\True from a);exact⟨u 78,ε D q.t E,aL,z,z,(C.mono m)⟩
 refine Ξ ?_;intro hr;refine tI (r:=gg) (e:=56) ([(Ze.mk q.next c.k c.q 0 0 (-1) false)]:Ŀ Ze) (λ_=>z) z (by decide) (λu G' m a=>?_) ?_
 .exact⟨#[(0,.agg ([i' q.next,i' c.k.n,ε k c.k.eqs g,ε f c.k.δ d,i' c.q.kind,ε o c.q.p n,ε p c.q.o l,i' 0,i' 0,i' (-1),.bool false]).toArray)],[i' q.next,i' c.k.n,ε k c.k.eqs g,ε f c.k.δ d,i' c.q.kind,ε o c.q.p n,ε p c.q.o l,i' 0,i' 0,i' (-1),.bool false]++([]),z,z,λ_=>by kernel_rfl,⟨[i' q.next,i' c.k.n,ε k c.k.eqs g,ε f c.k.δ d,i' c.q.kind,ε o c.q.p n,ε p c.q.o l,i' 0,i' 0,i' (-1),.bool false],[],z,⟨[i' q.next],[i' c.k.n,ε k c.k.eqs g,ε f c.k.δ d,i' c.q.kind,ε o c.q.p n,ε p c.q.o l,i' 0,i' 0,i' (-1),.bool false],z,z,⟨(Ã c.k k g f d),[i' c.q.kind,ε o c.q.p n,ε p c.q.o l,i' 0,i' 0,i' (-1),.bool false],z,⟨[i' c.k.n],[ε k c.k.eqs g,ε f c.k.δ d],z,z,⟨[ε k c.k.eqs g],[ε f c.k.δ d],z,⟨_,z,((F.mono (mx s t)).mono m)⟩,⟨_,z,((y.mono (mx s t)).mono m)⟩⟩⟩,⟨[i' c.q.kind,ε o c.q.p n,ε p c.q.o l],[i' 0,i' 0,i' (-1),.bool false],z,⟨[i' c.q.kind],[ε o c.q.p n,ε p c.q.o l],z,z,⟨[ε o c.q.p n],[ε p c.q.o l],z,⟨_,z,((W.mono (mx s t)).mono m)⟩,⟨_,z,((U.mono (mx s t)).mono m)⟩⟩⟩,⟨[i' 0],[i' 0,i' (-1),.bool false],z,z,⟨[i' 0],[i' (-1),.bool false],z,z,⟨[i' (-1)],[.bool false],z,z,z⟩⟩⟩⟩⟩⟩,z⟩⟩
 refine oA hr λa7 hr=>γ.mN (r:=gg) (e:=56) (kk:=81) (xs:=(([]:Ŀ Ze)++q.t)) [(Ze.mk q.next c.k c.q 0 0 (-1) false)] (λ_=>z) z (by kernel_rfl) (by kernel_rfl) tC qK z (by decide) a7 (λu G' m a=>?_) ?_
 .obtain⟨⟨p1,aJ,aQ,aV⟩,aP,_,_⟩:=(show(λG v=>∃ p1 aJ,v=.slice p1 1 1/\jo gg G (.slice p1 1 1) aJ [(Ze.mk q.next c.k c.q 0 0 (-1) false)]) G'.m (u 83)/\(gu gg 56 81 (([]:Ŀ Ze)++q.t)) (u 81) G'/\True/\True from a);exact⟨u 81,.slice p1 1 1,aP,z,(by simp only[ς,iC,Ġ,ő,aQ] <;> rfl),aV⟩
 refine Ξ ?_;intro hr;refine γ.lF (r:=gg) (e:=56) (kk:=84) (xs:=((([]:Ŀ Ze)++q.t)++[(Ze.mk q.next c.k c.q 0 0 (-1) false)])) (λah af=>.agg ([.slice ah ((([]:Ŀ Ze)++q.t)++[(Ze.mk q.next c.k c.q 0 0 (-1) false)]).length af,i' (i64.wrap (q.next+1))]).toArray) (λ_=>z) z (by kernel_rfl) (by kernel_rfl) (λu G' m a=>?_) ?_
 .obtain⟨aK,_,_,_,_⟩:=(show(gu gg 56 84 ((([]:Ŀ Ze)++q.t)++[(Ze.mk q.next c.k c.q 0 0 (-1) false)])) (u 84) G'/\True/\True/\True/\True from a);exact⟨u 84,aK,λcp cc bo _=>l4 (vs:=#[(0,.slice cp ((([]:Ŀ Ze)++q.t)++[(Ze.mk q.next c.k c.q 0 0 (-1) false)]).length cc),(1,i' (i64.wrap (q.next+1)))]) (by simp only[ς,iC,Ġ,ő,bo] <;> rfl) z (λ_=>by kernel_rfl)⟩
 refine Ξ ?_;intro hr;refine xQ (λbz bE bA bB bF X1 bP az bf ax be bd=>?_);obtain⟨p1,aJ,rfl,aV⟩:=ax;refine WL.oD az (λah af bv aZ bc bM=>?_);subst aZ;refine lG (show WL _ _ _ _ _ _ (St w0 G0 X1.m _)from ?_);refine è ?_;intro hr;obtain rfl:_=r:=hr;refine ux (r:=gg) (e:=56) 88 bc z (by rw[bj];rfl) λbR bS bw a8 bx=>j' z (kD (i:=6) vF z z z) ⟨_,_,z,a8⟩
instance {i:Zd->Zb->Zc->Cq Zv}{h:Zd}{c:Zb}{J:Zc}{r:Zv}:j ((Kt i h c J)) r (∀ {k:Ev i}{T:ŀ Addr}{Y:Nat}{Q:ŀ Addr}{S:Nat}{L:ŀ Addr}{K:Nat}{e:ŀ Addr}{d:Nat}{g:ŀ Addr}{f:Nat},Cr 43 #[.agg ((fX h T Y)).toArray,.agg ((Ã c Q S L K)).toArray,.agg ([i' J.kind,ε e J.p d,ε g J.o f]).toArray] (λG=>sl gg G T Y h.t/\sq G Q S c.eqs/\sq G L K c.δ/\sl c' G e d J.p/\sv G g f J.o) (qs r)):=⟨λa {k T Y Q S L K e d g f}=>Qj _ k _ _ _ T Y Q S L K e d g f _ a⟩
theorem QE:∀ n,Ev (AP n)
 | 0=>λl m p g f e d c a k j i h r hr=>Zqa l m p g f e d c a k j i h r hr
 | n+1=>λl m p g f e d c a k j i h r hr=>Qj _ (QE n) l m p g f e d c a k j i h r hr
instance jj'{m r}:a ((Mf m)) r (Cr 41 #[i' m] (λG=>True) (iy c' r)):=.mk λhr=>Ζ
instance M9{r}:a ((FZ)) r (Cr 10 #[] (λG=>True) (kC r)):=.mk λhr=>Ζ
instance fM'{c r}:a ((AX c)) r (Cr 42 #[i' c] (λG=>True) (λG v=>∃ d f g e,v=.agg ([i' r.kind,ε d r.p f,ε g r.o e]).toArray/\sl c' G d f r.p/\sv G g e r.o)):=.mk λhr=>Ζ
instance iu'{R L r}:a ((Rj R L)) r (∀ {E H B F},Cr 190 #[ε E R H,ε B L F] (λG=>su G E H R/\su G B F L) (fS (Rp.int .u32) r)):=.mk λhr {E H B F}=>by
 refine è ?_;intro U x _ C _ hr _;refine WC.nB hr [] [] (λ(⟨d,o,m,J,v,t⟩:(Ŀ Int)×ŀ Addr×Nat×(Ŀ Int)×ŀ Addr×Nat)=>⟨[(0,ε o d m),(1,ε v J t)],JG d J,λl=>su l o m d/\su l v t J,[]⟩) ?_;rintro l ⟨d,o,m,J,v,t⟩ hr Y ⟨u,M⟩;refine Ξ ?_;intro Q y X hr _;refine WC.mB hr [0,1,5,21] [] [0,5] [] (λ(⟨p,j,f,c⟩:(Ŀ Int)×ŀ Ow×Int×Int)=>⟨(p,f,c),[(6,.int .u64 f),(22,i' c)],λk=>Γ (Rp.int .u32) 248 k (.slice Q (i64.wrap ((d.length:Int)+1)).toNat ((i64.wrap ((d.length:Int)+1)).toNat)) p j,[(4019,j)]⟩) (λ(⟨P,q,h⟩:(Ŀ Int)×ŀ Ow×Int)=>⟨(P,h),[(6,.int .u64 h)],λD=>Γ (Rp.int .u32) 248 D (.slice Q (i64.wrap ((d.length:Int)+1)).toNat ((i64.wrap ((d.length:Int)+1)).toNat)) P q,[(4019,q)]⟩) ⟨(List.replicate (i64.wrap ((d.length:Int)+1)).toNat 0),y,0,0⟩ ?_;rintro D ⟨P,q,h⟩ hr V O;refine b'<|sr<|ν z<|ν z<|Δ (P' F' (u.mono V) z)<|ν z<|Δ (pw tB uk z)<|oE hr λx1 g hr=>Δ (pC F' tF O z z g)<|zz (r:=(Rp.int .u32)) (e:=248) (cs':=[.int .u32 (u32.wrap h)]) (i:=(d.length:Int)) (z':=u32.wrap h) 4019 z tF z O z z z z z g λK n=>nr<|ν z<|pL (r:=(Rp.int .u32)) (e:=248) 4019 n z (by rw[C];rfl) (λN az au T ar=>?_)
 refine oE hr λS A hr=>gR z z (x' qv z) (zr.h A) (by rw[qJ T]) ((rm T)) (λaw W Z I=>?_);obtain⟨ay,ax,rfl,s⟩:=I;refine Ρ z<|m' ?_
 obtain rfl:_=r:=hr;exact j' z z ⟨_,_,z,s⟩
instance fq'{g C r}:a ((Je g C)) r (∀ {u y t x},Cr 191 #[ε u g y,ε t C x] (λG=>su G u y g/\su G t x C) (fS (Rp.int .u32) r)):=.mk λhr {u y t x}=>by
 refine Ξ ?_;intro P B _ W _ _ E O Y hr _;refine WC.mB hr [0,1,5,13] [] [5] [] (λ(⟨k,h,d,c⟩:(Ŀ Int)×ŀ Ow×Int×Int)=>⟨(k,d,c),[(6,.int .u64 d),(14,i' c)],λj=>Γ (Rp.int .u32) 248 j (.slice E (g.length:Int).toNat ((g.length:Int).toNat)) k h,[(4011,h)]⟩) (λ(⟨D,l⟩:(Ŀ Int)×ŀ Ow)=>⟨D,[],λv=>Γ (Rp.int .u32) 248 v (.slice E (g.length:Int).toNat ((g.length:Int).toNat)) D l,[(4011,l)]⟩) ⟨(List.replicate (g.length:Int).toNat 0),O,0,0⟩ ?_;rintro v ⟨D,l⟩ hr f M;refine b'<|sr<|ν z<|pL (r:=(Rp.int .u32)) (e:=248) 4011 M z (by rw[W];rfl) (λI F n H i=>?_)
 refine oE hr λJ R hr=>gR z z (x' qv z) (zr.h R) (by rw[qJ H]) ((rm H)) (λp K m A=>?_);obtain⟨s,q,rfl,L⟩:=A;refine Ρ z<|m' ?_
 obtain rfl:_=r:=hr;exact j' z z ⟨_,_,z,L⟩
instance fh'{i r}:a ((yw i)) r (∀ {j k},Cr 126 #[ε j i k] (λG=>sv G j k i) (λG v=>v=.bool r)):=.mk λhr {j k}=>by
 refine Ξ ?_;intro B n _ _ m hr _;refine WC.mC hr [3,11,12] [] [] [] (λ(⟨d,t⟩:Int×(Fin 8->Bool))=>⟨(d,t),[(13,i' d)],tr,[(3,ú m (õ Value.bool 8 t) 143)]⟩) (λ(_:Unit)=>⟨(.inr ()),[],tr,[]⟩) ⟨0,(λ_=>false)⟩ ?_;rintro _ f ⟨d,t⟩ g _ hr;refine Ξ ?_;intro _ p _ _ hr _;refine WC.mC hr [3,11,12,13,17] [] [3,11,12,13] [] (λ(⟨c,e⟩:Int×(Fin 8->Bool))=>⟨(c,e),[(18,i' c)],tr,[(3,ú m (õ Value.bool 8 e) 143)]⟩) (λ(q:(Fin 8->Bool))=>⟨(.inr q),[],tr,[(3,ú m (õ Value.bool 8 q) 143)]⟩) ⟨0,t⟩ ?_;rintro _ h ⟨c,e⟩ l _ hr;refine sr<|kv z<|nx<|o'<|I' hr z (λV hr=>?_) (λV hr=>?_)
 .refine è ?_;intro hr _;refine WC.nC hr [3,6,7,11,12,13,17,18] [3] (λ(_:Unit)=>⟨[],D5 p c e,tr,[]⟩) ?_;refine sr<|ν z<|dE hr z (Z' z z) z (λQ hr=>?_) (λQ hr=>?_)
  .refine Ξ ?_;intro hr;refine Å (M' z z) z<|Å (M' z z) z<|Å (M' z z) z<|Å (M' z z) z<|sf z z z<|Ι z<|nx<|nR z<|sr<|Ρ z<|m'<|a'<|g'<|a'<|a'<|g'<|mM<|g'<|a'<|a'<|g'<|mM<|a' (Õ hr z z)
  refine Ξ ?_;intro _ hr;refine Å (M' z z) z<|Å (M' z z) z<|Å (M' z z) z<|Å (M' z z) z<|sf z z z<|Ι z<|nx<|nR z<|sr<|Ρ z<|m'<|a'<|g'<|a'<|a'<|g'<|mM<|g'<|a'<|a'<|g'<|mM<|a' (Õ hr z z)
 exact Ζ
instance gZ'{t e r}:a ((EU t e)) r (∀ {l m g h j n k o},Cr 68 #[.agg ((Ã t l m g h)).toArray,.agg ([i' e.kind,ε j e.p n,ε k e.o o]).toArray] (λG=>sq G l m t.eqs/\sq G g h t.δ/\sl c' G j n e.p/\sv G k o e.o) (λG v=>v=.bool r)):=.mk λhr {l m g h j n k o}=>by
 refine è ?_;intro H y _ _ _ _ _ _ _ L u hr _;refine WC.nB hr [2,3] [2,3] (λ(_:Unit)=>⟨[],PM t e,tr,[]⟩) ?_;intro s _ hr d _;refine WC.nB hr [3] [3] (λ(_:Unit)=>⟨[],J4 e,tr,[]⟩) ?_;intro p _ hr f _;refine WC.nD hr [3] [3] (λ(_:Unit)=>⟨[],D3 e,tr,[]⟩) ?_ ?_
 .refine Ξ ?_;intro hr _;refine Å (M' z z) z<|Å (M' z z) z<|Å (M' z z) z<|sf z z z<|Ι z<|nx<|nR z<|sr<|Ρ z<|m'<|a' (Õ hr z z)
 intro x _ hr q _;refine è ?_;intro hr;refine o'<|sr<|Δ (eB z z)<|Ρ z<|I' hr z (λi hr=>?_) (λi hr=>?_)
 .exact Ζ
 refine sr<|Δ (eB z z)<|Ρ z<|I' hr z (λc hr=>?_) (λc hr=>?_)
 .exact Ζ
 exact Ζ
instance rp{m r}:a ((O3 m)) r (∀ {c h},Cl 267 #[ε c m h] [] (λG=>sv G c h m) (λG L v=>∃ u x f,L=[(7000,f)]/\v=ε u r x/\Γ (gf .i64 8) 71 G (ε u r x) r f)):=.mk λhr {c h}=>by
 refine Ξ ?_;intro s d A hr g;refine Δ (Y0.sc tA z z)<|nx<|WC.eC (p:=c=none) z (λk=>?_) (λk=>?_)
 .replace hr:=hr.1 (Η.Vd g k);refine sr<|Ρ z<|m'<|a' ?_
  obtain rfl:_=r:=hr;refine mO (S':=St s d d [(7000,none)]) (wk (lw ln))<|j' z z ⟨_,_,_,z,z,(Γ.nil (r:=(gf .i64 8)) (e:=71))⟩
 replace hr:=hr.2;refine q'<|b'<|sr<|WL.sx (e:=71) (r:=(gf .i64 8)) (vs:=#[]) (cs:=[]) ([]:Ŀ (Fin 8->Int)) 4005 z z z z z (by decide) (λ_=>by kernel_rfl) (z) λE B t=>ν z<|oA hr λq hr=>GG (r:=(gf .i64 8)) (e:=71) 4005 z z tA nW z (by decide) z z t z g q λD C l y=>Ρ z<|m' ?_
 obtain rfl:_=r:=hr;refine mO (S':=St s d d [(7000,l)]) ?_ ?_
 .intro w o;have o:=o.Ý (i:=4005) (j:=7000) z (by rw[A];rfl);exact o.weaken (lc z ln)
 exact j' z z ⟨_,_,_,z,z,y⟩
instance hE'{h c r}:a ((JZ h c)) r (∀ {g j i},Cl 311 #[.agg (g).toArray,iG i] [(153609,ú i ([i' c]) 3)] (λG=>È ik 8 G g j h) (λG L v=>L=[(153609,ú i ([i' c]) 3)]/\v=.bool r)):=.mk λhr {g j i}=>by
 refine Ξ ?_;intro u s _ _ hr f;refine oE hr λB n hr=>Δ (rk oh jW z z (rn f n)) ?_;obtain⟨o,l,m,k,t,d,e⟩:=pB (vU f n);refine Δ (R' _ 2 mf z z z t)<|oE hr λx q hr=>H' z z (x' HR z) (cT'.h q) z (⟨d,e⟩)<|Δ (qD z z)<|Ρ z<|m' ?_
 obtain rfl:_=r:=hr;refine mO (S':=St u s s [(153609,ú i ([i' c]) 3)]) (w1 z)<|j' z z ⟨z,z⟩
instance hV'{j r}:a ((QI j)) r (∀ {e c g f},Cr 329 #[.agg ((Υ j e c g f)).toArray] (λG=>su G e c j.num.χ/\su G g f j.den.χ) (ix r)):=.mk λhr {e c g f}=>Ζ
instance Na{I D r}:a ((Ex I D)) r (∀ {k f h g j d c e},Cr 312 #[.agg ((Υ I k f h g)).toArray,.agg ((Υ D j d c e)).toArray] (λG=>su G k f I.num.χ/\su G h g I.den.χ/\su G j d D.num.χ/\su G c e D.den.χ) (ix r)):=.mk λhr {k f h g j d c e}=>Ζ
instance hX'{m r}:a ((QJ m)) r (∀ {g f e c},Cr 331 #[.agg ((Υ m g f e c)).toArray] (λG=>su G g f m.num.χ/\su G e c m.den.χ) (er r)):=.mk λhr {g f e c}=>Ζ
instance iv'{L K r}:a ((Rh L K)) r (∀ {j g l k},Cr 340 #[.agg ((η L j g)).toArray,.agg ((η K l k)).toArray] (λG=>su G j g L.χ/\su G l k K.χ) (Ï r)):=.mk λhr {j g l k}=>Ζ
instance hY'{s q r}:ah ((QH s q)) r (∀ {n p j k m o c g},Cr 330 #[.agg ((Υ s n p j k)).toArray,.agg ((Υ q m o c g)).toArray] (λG=>su G n p s.num.χ/\su G j k s.den.χ/\su G m o q.num.χ/\su G c g q.den.χ) (er r)):=.mk λhr {n p j k m o c g}=>by
 refine J' (args:=[_,_]) (N:=27) func330 z z z (λw0 G0 a0 aI=>?_);obtain⟨O,C,P,B⟩:=aI;refine sr<|jM 2 z z z λb2=>jM 3 z z z λb3=>W' 4 z rl z λb4=>nx<|o'<|fA [ff,ff,ff,ff,ff,ff,ff,ff,ff,ff,ff,ff,ff,ff] eL (by kernel_rfl) λhb=>cn (λ_ l=>xH z)<|cn (λ_ l=>R' ((η s.num n p)).toArray 2 mH z z z (mK ([]) ((η s.num n p)) ((η s.den j k))))<|cn (λ_ l=>Bw z) ?_
 refine è ?_;intro hr;refine tI (r:=nF) (e:=118) ([s.num,q.den]:Ŀ Zg) (λ_=>z) z (by decide) (λu D l E=>?_) ?_
 .exact⟨#[(0,.agg ((η s.num n p)).toArray),(1,.agg ((η q.den c g)).toArray)],(η s.num n p)++((η q.den c g)++([])),z,z,λ_=>by kernel_rfl,⟨(η s.num n p),(η q.den c g)++([]),z,⟨[.bool s.num.neg],[ε n s.num.χ p],z,z,⟨_,z,(O.mono l)⟩⟩,⟨(η q.den c g),[],z,⟨[.bool q.den.neg],[ε c q.den.χ g],z,z,⟨_,z,(B.mono l)⟩⟩,z⟩⟩⟩
 refine oE hr λaw aE hr=>mg (f:=229) (φ:=Ï aw) (λ_=>z) (λv a G2 l h=>?_) (λu D l E=>?_) ?_
 .obtain⟨F,I,rfl,x⟩:=h;exact⟨_,_,z,x.mono l⟩
 .obtain⟨⟨p1,ag,al,ax⟩,_⟩:=(show(λG v=>∃ p1 ag,v=.slice p1 2 2/\jo nF G (.slice p1 2 2) ag [s.num,q.den]) D.m (u 10)/\True from E);exact⟨_,_,_,λ_=>x' ov z,xK.h aE,(by simp only[al] <;> rfl),ax⟩
 refine Ξ ?_;intro hr;refine tI (r:=nF) (e:=118) ([q.num,s.den]:Ŀ Zg) (λ_=>z) z (by decide) (λu D l E=>?_) ?_
 .exact⟨#[(0,.agg ((η q.num m o)).toArray),(1,.agg ((η s.den j k)).toArray)],(η q.num m o)++((η s.den j k)++([])),z,z,λ_=>by kernel_rfl,⟨(η q.num m o),(η s.den j k)++([]),z,⟨[.bool q.num.neg],[ε m q.num.χ o],z,z,⟨_,z,(P.mono l)⟩⟩,⟨(η s.den j k),[],z,⟨[.bool s.den.neg],[ε j s.den.χ k],z,z,⟨_,z,(C.mono l)⟩⟩,z⟩⟩⟩
 refine oE hr λav aB hr=>mg (f:=229) (φ:=Ï av) (λ_=>z) (λv a G2 l h=>?_) (λu D l E=>?_) ?_
 .obtain⟨H,J,rfl,t⟩:=h;exact⟨_,_,z,t.mono l⟩
 .obtain⟨⟨p2,ad,ak,az⟩,_,_,_⟩:=(show(λG v=>∃ p2 ad,v=.slice p2 2 2/\jo nF G (.slice p2 2 2) ad [q.num,s.den]) D.m (u 16)/\True/\True/\True from E);exact⟨_,_,_,λ_=>x' ov z,xK.h aB,(by simp only[ak] <;> rfl),az⟩
 refine oE hr λaK aF hr=>mg (f:=340) (φ:=Ï aK) (λ_=>z) (λv a G2 l h=>?_) (λu D l E=>?_) ?_
 .obtain⟨aa,Y,rfl,A⟩:=h;exact⟨_,_,z,A.mono l⟩
 .obtain⟨⟨H,J,ai,t⟩,_,⟨F,I,aj,x⟩,_,_⟩:=(show(Ï av) D.m (u 17)/\True/\(Ï aw) D.m (u 11)/\True/\True from E);exact⟨_,_,_,λ_=>x' IW z,iv'.h aF,(by simp only[ai,aj] <;> rfl),⟨x,t⟩⟩
 refine kI (λ_=>z) vK<|γ.nt (λa3 aP aT aQ aU aV X1 ae af W U Z ab T=>?_)
 obtain⟨b5,rfl,aD⟩:=af;obtain⟨aa,Y,rfl,A⟩:=W;obtain⟨H,J,rfl,t⟩:=U;obtain⟨p2,ad,rfl,az⟩:=Z;obtain⟨F,I,rfl,x⟩:=ab;obtain⟨p1,ag,rfl,ax⟩:=T;refine om aD (lG (show WL _ _ _ _ _ _ (St w0 G0 X1.m _)from ?_));refine gp 5 vG z<|t'<|Θ<|b'<|o'<|fA [ff,ff,ff,ff,ff,ff,ff] eL (by kernel_rfl) λhb=>cn (λ_ l=>y' 5 mH z z z) ?_
 refine è ?_;intro hr;refine tI (r:=nF) (e:=118) ([s.den,q.den]:Ŀ Zg) (λ_=>z) z (by decide) (λu D l E=>?_) ?_
 .exact⟨#[(0,.agg ((η s.den j k)).toArray),(1,.agg ((η q.den c g)).toArray)],(η s.den j k)++((η q.den c g)++([])),z,z,λ_=>by kernel_rfl,⟨(η s.den j k),(η q.den c g)++([]),z,⟨[.bool s.den.neg],[ε j s.den.χ k],z,z,⟨_,z,((C.mono ae).mono l)⟩⟩,⟨(η q.den c g),[],z,⟨[.bool q.den.neg],[ε c q.den.χ g],z,z,⟨_,z,((B.mono ae).mono l)⟩⟩,z⟩⟩⟩
 refine oE hr λaA aG hr=>mg (f:=229) (φ:=Ï aA) (λ_=>z) (λv a G2 l h=>?_) (λu D l E=>?_) ?_
 .obtain⟨X,S,rfl,y⟩:=h;exact⟨_,_,z,y.mono l⟩
 .obtain⟨⟨Q,M,an,ay⟩,_⟩:=(show(λG v=>∃ Q M,v=.slice Q 2 2/\jo nF G (.slice Q 2 2) M [s.den,q.den]) D.m (u 24)/\True from E);exact⟨_,_,_,λ_=>x' ov z,xK.h aG,(by simp only[an] <;> rfl),ay⟩
 refine BH (d:=25) (post:=Ï aA) (d':=24) (post':=λG v=>∃ Q M,v=.slice Q 2 2/\jo nF G (.slice Q 2 2) M [s.den,q.den]) (λaS aO a2 au ac R=>?_);obtain⟨X,S,rfl,y⟩:=ac;obtain⟨Q,M,rfl,ay⟩:=R;refine oE hr λaY aJ hr=>gR z z (x' wG z) (MZ.h aJ) z (⟨(A.mono au),y⟩) (λaN aZ aL V=>?_);obtain⟨aq,ao,ar,am,rfl,L,K⟩:=V;refine gp 4 jW z<|t'<|Θ<|b'<|m' ?_
 obtain rfl:_=r:=hr;exact j' z (kD (i:=4) mf z z z) ⟨_,_,_,_,z,L,K⟩
instance hZ'{M I r}:a ((Ej M I)) r (∀ {o k m l n g f j},Cr 313 #[.agg ((Υ M o k m l)).toArray,.agg ((Υ I n g f j)).toArray] (λG=>su G o k M.num.χ/\su G m l M.den.χ/\su G n g I.num.χ/\su G f j I.den.χ) (er r)):=.mk λhr {o k m l n g f j}=>Ζ
instance dK'{o c r}:a ((ZN o c)) r (∀ {m s f},Cl 310 #[ε m o s,.func (.func 311) #[] #[iG f]] [(153609,ú f ([i' c]) 3)] (λG=>sl (Rp.arr ik 8) G m s o) (λG L v=>L=[(153609,ú f ([i' c]) 3)]/\v=i' r)):=.mk λhr {m s f}=>by
 refine rh (args:=[_,_]) (N:=19) func310 z z z (λn g J C=>?_);have q:=C;have K:n.L.zero:=by rw[J];intro p F x Q;simp only[Ď,ĝ,ţ]at F;subst F;cases Q;rfl
 refine sr<|Ρ z<|o'<|sr<|ν z<|Δ (P' oH q z)<|ν z<|nx<|WC.mD hr [0,1,7] [153609] [] [153609] (λ(e:Int)=>⟨e,[(8,i' e)],tr,[]⟩) (λ(_:Unit)=>⟨(.inr ()),[],tr,[]⟩) 0 ?_ ?_
 .intro _ h e d _ hr;refine Ξ ?_;intro _ hr;refine oE hr λU B hr=>Δ (kd oH oK (q.mono d) z z B) ?_;obtain⟨T,t,E⟩:=(T' (iK q B) d);refine Δ (ny _ kn z (lE (u:=()) t) (λj v R=>E j v (by simpa using R)))<|oE hr λS D hr=>WL.lH z z (YC.xW IN z z) (hE'.h D) z ((show È _ _ _ _ () _ from t)) (lc z ln) (λi I=>by simp only[Ġ,ő,Ď,ĝ,ţ]at I;subst I;exact z) K (λO A y l=>?_)
  subst l;refine nx<|kc hr z (λH hr=>?_) (λH hr=>?_)
  .refine Ξ ?_;intro hr;obtain rfl:_=r:=hr;refine mO (S':=St n g A [(153609,ú f ([i' c]) 3)]) (w1 z)<|j' z z ⟨z,z⟩
  exact Ζ
 intro k _ hr M _;refine b'<|sr<|Ρ z<|m' ?_
 obtain rfl:_=r:=hr;refine mO (S':=St n g k [(153609,ú f ([i' c]) 3)]) (w1 z)<|j' z z ⟨z,z⟩
instance iG'{k r}:ay ((ER k)) r (∀ {ai aw},Cr 268 #[ε ai k aw] (λG=>sv G ai aw k) (λG v=>v=i' r)):=.mk λhr {ai aw}=>by
 refine Ξ ?_;intro w0 G0 _ hr _;have hz:=tM (w0:=w0);refine oA hr λcI hr=>V0 (r:=(Rp.arr ik 8)) (e:=325) (n:=(k.length:Int)) (zx:=(List.replicate 8 (Zf.mk (Zg.mk false []) (Zg.mk false [])))) 4017 z z oH vT z (by decide) (by decide) (show È ik 8 G0 ([.bool false,.slice none 0 0,.bool false,.slice none 0 0,.bool false,.slice none 0 0,.bool false,.slice none 0 0,.bool false,.slice none 0 0,.bool false,.slice none 0 0,.bool false,.slice none 0 0,.bool false,.slice none 0 0,.bool false,.slice none 0 0,.bool false,.slice none 0 0,.bool false,.slice none 0 0,.bool false,.slice none 0 0,.bool false,.slice none 0 0,.bool false,.slice none 0 0,.bool false,.slice none 0 0,.bool false,.slice none 0 0]:Ŀ Value) () _ from zA (G:=G0) (r:=ik) (n:=8) (zc:=[.bool false,.slice none 0 0,.bool false,.slice none 0 0]) (z:=(Zf.mk (Zg.mk false []) (Zg.mk false []))) ⟨[.bool false,.slice none 0 0],[.bool false,.slice none 0 0],z,⟨[.bool false],[.slice none 0 0],z,z,⟨_,z,(X' _ _)⟩⟩,⟨[.bool false],[.slice none 0 0],z,z,⟨_,z,(X' _ _)⟩⟩⟩) z z cI λY ct cV=>?_;refine è ?_;intro hr;refine WC.mD hr [3,18,19] [] [3] [] (λ(⟨aE,ab,L⟩:(Ŀ (Ŀ Zf))×ŀ Ow×Int)=>⟨(aE,L),[(20,i' L)],λan=>Γ (Rp.arr ik 8) 325 an (.slice Y (k.length:Int).toNat ((k.length:Int).toNat)) aE ab,[(4017,ab)]⟩) (λ(⟨aO,au⟩:(Ŀ (Ŀ Zf))×ŀ Ow)=>⟨aO,[],λaJ=>Γ (Rp.arr ik 8) 325 aJ (.slice Y (k.length:Int).toNat ((k.length:Int).toNat)) aO au,[(4017,au)]⟩) ⟨(List.replicate (k.length:Int).toNat (List.replicate 8 (Zf.mk (Zg.mk false []) (Zg.mk false [])))),ct,0⟩ ?_ ?_
 .rintro _ an ⟨aE,ab,L⟩ az bg hr;refine Ξ ?_;intro _ bu _ _ hr _;refine WC.mC hr [3,4,18,19,20,25] [] [3,18,19,20] [] (λ(⟨aI,av,ae⟩:(Ŀ (Ŀ Zf))×ŀ Ow×Int)=>⟨(aI,ae),[(26,i' ae)],λaK=>Γ (Rp.arr ik 8) 325 aK (.slice Y (k.length:Int).toNat ((k.length:Int).toNat)) aI av,[(4017,av)]⟩) (λ(⟨aR,ak⟩:(Ŀ (Ŀ Zf))×ŀ Ow)=>⟨aR,[],λa6=>Γ (Rp.arr ik 8) 325 a6 (.slice Y (k.length:Int).toNat ((k.length:Int).toNat)) aR ak,[(4017,ak)]⟩) ⟨aE,ab,0⟩ ?_;rintro _ aK ⟨aI,av,ae⟩ aS aA hr;refine sr<|kv z<|nx<|o'<|I' hr z (λcX hr=>?_) (λcX hr=>?_)
  .refine q'<|b'<|o'<|Y'<|sr<|ν z<|oA hr λb4 hr=>Δ (VZ Gr eN jS z z b4 (VM _ _ _ b4))<|Þ z<|Ρ z<|fA [ff,ff,ff,ff,ff,ff] eL (by kernel_rfl) λhb=>fM z ?_
   refine è ?_;intro a hr _;refine oE hr λcW a8 hr=>cu (λ_ _ g=>pC oH oK (aA.mono g) z z a8)<|Bx (d:=34) (post:=er a) (λdg cM be bn=>?_)
   obtain⟨E,M,F,I,rfl,T,V⟩:=bn;exact oE hr λdl bp hr=>Δ (uB oh jW z z (uC (oj aA a8) bp))<|WL.ql (r:=ik) (e:=325) (m:=8) (cs':=(Υ a E M F I)) (i:=L) (j:=ae) (u':=a) 4017 z jW z z (aA.mono be) z z z z ⟨(η a.num E M),(η a.den F I),z,⟨[.bool a.num.neg],[ε E a.num.χ M],z,z,⟨_,z,T⟩⟩,⟨[.bool a.den.neg],[ε F a.den.χ I],z,z,⟨_,z,V⟩⟩⟩ a8 bp λcJ cw=>Ζ
  exact Ζ
 rintro aJ ⟨aO,au⟩ hr dc bR;refine Ξ ?_;intro hr;refine WC.mC hr [3] [] [] [] (λ(⟨aF,ag,q,l⟩:(Ŀ (Ŀ Zf))×ŀ Ow×Int×Int)=>⟨(aF,q,l),[(8,i' q),(39,i' l)],λal=>Γ (Rp.arr ik 8) 325 al (.slice Y (k.length:Int).toNat ((k.length:Int).toNat)) aF ag,[(4017,ag)]⟩) (λ(bb:Int)=>⟨bb,[(8,i' bb)],tr,[]⟩) ⟨aO,au,0,0⟩ ?_;rintro _ al ⟨aF,ag,q,l⟩ aM s hr;refine sr<|kv z<|nx<|o'<|I' hr z (λda hr=>?_) (λda hr=>?_)
 .refine q'<|b'<|o'<|Y'<|sr<|ν z<|W' 153609 z z3 z λb1=>ra 153609 ([i' l]).toArray z jS z z z (by first|decide|simp) z z<|nr<|ν z<|ν z<|oA hr λc0 hr=>Δ (Y0.uy oH oK s z z c0)<|Δ (V4 z z)<|oE hr λch cy hr=>WL.uQ (r:=(Rp.arr ik 8)) (e:=325) 4017 s z hz z z (λ_=>x' IM z) (dK'.h cy) z (λG' g c8=>(Η.BL (sz:=32) z c8 (by omega))) (lc z ln) (λi hi=>by simp only[Ġ,ő,Ď,ĝ,ţ]at hi;subst hi;exact⟨z,by decide⟩) hz<|Ρ z<|o'<|sr<|ν z<|kv z<|nx<|I' hr z (λcT hr=>?_) (λcT hr=>?_)
  .exact Ζ
  refine q'<|b'<|o'<|fA [ff,ff,tt,tt,tt,tt,ff,ff,ff,ff,ff,ff,ff,ff,ff,ff] eL (by kernel_rfl) λhb=>?_
  refine è ?_;intro hr;refine oE hr λx1 co hr=>cn (λ_ g=>pC oH oK (s.mono g) z z co) ?_;obtain⟨cU,bB,cG⟩:=(oj s co);refine cn (λ_ g=>vP _ kn (s.mono g) (key:=4017) z z (lE (u:=()) bB) (by decide) (λj v hv=>cG j v (by simpa using hv)))<|fM z<|fM z<|oE hr λx2 bX hr=>cn (λ_ g=>pC oH oK (s.mono g) z z bX) ?_
  obtain⟨c5,bF,cx⟩:=(oj s bX);refine cn (λ_ g=>vP _ kn (s.mono g) (key:=4017) z z (lE (u:=()) bF) (by decide) (λj v hv=>cx j v (by simpa using hv)))<|pz hb ?_
  refine è ?_;intro _ hr b5;refine zz (r:=(Rp.arr ik 8)) (e:=325) (cs':=cU) (i:=q) (z':=x1) 4017 z oK z s z z z z (show È _ _ _ _ () _ from bB) b5 (λdk bC=>?_);refine è ?_;intro _ hr b0;refine zz (r:=(Rp.arr ik 8)) (e:=325) (cs':=c5) (i:=i64.wrap (q+ch)) (z':=x2) 4017 z oK z bC z z z z (show È _ _ _ _ () _ from bF) b0 λc7 cz=>?_;refine è ?_;intro hr;refine WC.mC hr [3,8,9,39] [153609] [3,8,39] [] (λ(⟨aG,aa,S⟩:(Ŀ (Ŀ Zf))×ŀ Ow×Int)=>⟨(aG,S),[(11,i' S)],λaT=>Γ (Rp.arr ik 8) 325 aT (.slice Y (k.length:Int).toNat ((k.length:Int).toNat)) aG aa,[(4017,aa)]⟩) (λ(⟨aP,am⟩:(Ŀ (Ŀ Zf))×ŀ Ow)=>⟨aP,[],λaW=>Γ (Rp.arr ik 8) 325 aW (.slice Y (k.length:Int).toNat ((k.length:Int).toNat)) aP am,[(4017,am)]⟩) ⟨((aF.set q.toNat x1).set (i64.wrap (q+ch)).toNat x2),c7,i64.wrap (q+1)⟩ ?_;rintro _ aT ⟨aG,aa,S⟩ bd y hr;refine o'<|sr<|ν z<|ν z<|Δ (BT oH y z)<|kv z<|nx<|I' hr z (λcY hr=>?_) (λcY hr=>?_)
  .refine q'<|b'<|o'<|Y'<|o'<|fA [ff,ff,ff,ff,ff,ff,ff,ff,ff,ff,ff,ff,ff,ff,ff,tt,ff] eL (by kernel_rfl) λhb=>fM z<|fM z ?_
   refine è ?_;intro hr;refine oE hr λx5 bq hr=>cn (λ_ g=>pC oH oK (y.mono g) z z bq)<|oE hr λx6 cg hr=>cn (λ_ g=>uB oh jW z z (uC (oj y bq) cg)) ?_
   obtain⟨ca,ci,cj,b7,cK,a4,a0⟩:=pB (AtK.arr (oj y bq) cg);refine cn (λ_ g=>vP _ mf (y.mono g) (key:=4017) z z z (by decide) cK)<|fM z<|fM z<|cn (λ_ g=>n' 153609 eN z z z)<|oE hr λx7 bx hr=>cn (λ_ g=>pC oH oK (y.mono g) z z bx)<|oE hr λx8 cl hr=>cn (λ_ g=>uB oh jW z z (uC (oj y bx) cl)) ?_
   obtain⟨b8,cc,ce,cf,cH,aV,a2⟩:=pB (AtK.arr (oj y bx) cl);refine cn (λ_ g=>vP _ mf (y.mono g) (key:=4017) z z z (by decide) cH)<|oE hr λp cA hr=>qB (post:=ix p) (λ_=>z) (λ_ _=>x' IP z) (Na.h cA) z (λG' g=>⟨(a4.mono g),(a0.mono g),(aV.mono g),(a2.mono g)⟩) (λv G1 G2 g h=>?_) ?_
   .obtain⟨P,R,Q,O,rfl,t,A⟩:=h;exact⟨_,_,_,_,z,t.mono g,A.mono g⟩
   refine jr (φ:=ix p) (λ_=>z) (λv G1 G2 g h=>?_) (λu G' g x=>?_) ?_
   .obtain⟨p2,bf,p3,bc,rfl,X,N⟩:=h;exact⟨_,_,_,_,z,X.mono g,N.mono g⟩
   .obtain⟨⟨P,R,Q,O,bP,t,A⟩,_⟩:=(show(ix p) G'.m (u 88)/\True from x);simp only[ς,bP];exact⟨_,k' z,P,R,Q,O,z,t,A⟩
   refine jr (φ:=er p.1) (λ_=>z) (λv G1 G2 g h=>?_) (λu G' g x=>?_) ?_
   .obtain⟨p4,b6,p5,bY,rfl,bs,bA⟩:=h;exact⟨_,_,_,_,z,bs.mono g,bA.mono g⟩
   .obtain⟨⟨p2,bf,p3,bc,aN,X,N⟩,_,_⟩:=(show(ix p) G'.m (u 75)/\True/\True from x);simp only[ς,aN];exact⟨_,O' z z,p2,bf,p3,bc,z,X,N⟩
   refine mi (c:=i' p.2) (λ_=>z) (λu G' g x=>?_) ?_
   .obtain⟨_,⟨p2,bf,p3,bc,aN,X,N⟩,_,_⟩:=(show True/\(ix p) G'.m (u 75)/\True/\True from x);simp only[ς,aN];exact O' z z
   refine kI (λ_=>z) rl<|GL (λdp dh df di X1 bD bE bk bm bo=>?_)
   obtain⟨b2,rfl,cv⟩:=bE;obtain⟨p4,b6,p5,bY,rfl,bs,bA⟩:=bk;obtain⟨p2,bf,p3,bc,rfl,X,N⟩:=bm;obtain⟨P,R,Q,O,rfl,t,A⟩:=bo;refine om cv (lG (show WL _ _ _ _ _ _ (St w0 G0 X1.m _)from ?_));refine gp 12 jW z ?_;refine è ?_;intro hr;refine WC.mC hr [3,8,9,11,12,39] [153609,12] [3,8,9,11,39] [153609] (λ(⟨aH,ap,ad⟩:(Ŀ (Ŀ Zf))×ŀ Ow×Int)=>⟨(aH,ad),[(14,i' ad)],λa3=>Γ (Rp.arr ik 8) 325 a3 (.slice Y (k.length:Int).toNat ((k.length:Int).toNat)) aH ap,[(4017,ap)]⟩) (λ(⟨aQ,ar⟩:(Ŀ (Ŀ Zf))×ŀ Ow)=>⟨aQ,[],λa7=>Γ (Rp.arr ik 8) 325 a7 (.slice Y (k.length:Int).toNat ((k.length:Int).toNat)) aQ ar,[(4017,ar)]⟩) ⟨aG,aa,l⟩ ?_;rintro _ a3 ⟨aH,ap,ad⟩ aC o hr;refine o'<|sr<|ν z<|kv z<|nx<|I' hr z (λcS hr=>?_) (λcS hr=>?_)
   .refine q'<|b'<|o'<|Y'<|fA [ff,ff,ff,ff,ff,ff,ff,ff,ff,ff,ff,ff,ff,ff,ff,ff,ff,ff,ff] eL (by kernel_rfl) λhb=>fM z<|fM z<|fM z<|fM z<|fM z<|fM z<|oE hr λx9 bz hr=>cn (λ_ g=>pC oH oK (o.mono g) z z bz)<|oE hr λdn bv hr=>cn (λ_ g=>uB oh jW z z (uC (oj o bz) bv)) ?_
    obtain⟨ck,cm,cd,b9,cQ,aX,aU⟩:=pB (AtK.arr (oj o bz) bv);refine cn (λ_ g=>vP _ mf (o.mono g) (key:=4017) z z z (by decide) cQ)<|cn (λ_ g=>y' 12 mf z z z)<|fM z<|fM z<|fM z<|oE hr λdq ba hr=>cn (λ_ g=>pC oH oK (o.mono g) z z ba)<|oE hr λdm bG hr=>cn (λ_ g=>uB oh jW z z (uC (oj o ba) bG)) ?_
    obtain⟨cp,cb,bZ,cq,cR,a1,a5⟩:=pB (AtK.arr (oj o ba) bG);refine cn (λ_ g=>vP _ mf (o.mono g) (key:=4017) z z z (by decide) cR)<|oE hr λbH cC hr=>qB (post:=er bH) (λ_=>z) (λ_ _=>x' Ig z) (fD'.h cC) z (λG' g=>⟨((bs.mono aC).mono g),((bA.mono aC).mono g),(a1.mono g),(a5.mono g)⟩) (λv G1 G2 g h=>?_) ?_
    .obtain⟨aq,ah,aj,ao,rfl,B,D⟩:=h;exact⟨_,_,_,_,z,B.mono g,D.mono g⟩
    refine oE hr λZ cr hr=>mg (f:=313) (φ:=er Z) (λ_=>z) (λv G1 G2 g h=>?_) (λu G' g x=>?_) ?_
    .obtain⟨C,H,K,J,rfl,U,W⟩:=h;exact⟨_,_,_,_,z,U.mono g,W.mono g⟩
    .obtain⟨⟨aq,ah,aj,ao,bT,B,D⟩,_⟩:=(show(er bH) G'.m (u 112)/\True from x);exact⟨_,_,_,λ_=>x' IQ z,hZ'.h cr,(by simp only[bT] <;> rfl),⟨(aX.mono g),(aU.mono g),B,D⟩⟩
    refine oE hr λc1 a9 hr=>cu (λ_ _ g=>pC oH oK (o.mono g) z z a9)<|BH (d:=113) (post:=er Z) (d':=112) (post':=er bH) (λdd de cZ bh bi bl=>?_)
    obtain⟨C,H,K,J,rfl,U,W⟩:=bi;obtain⟨aq,ah,aj,ao,rfl,B,D⟩:=bl;exact oE hr λdr bt hr=>Δ (uB oh jW z z (uC (oj o a9) bt))<|WL.ql (r:=ik) (e:=325) (m:=8) (cs':=(Υ Z C H K J)) (i:=S) (j:=ad) (u':=Z) 4017 z jW z z (o.mono bh) z z z z ⟨(η Z.num C H),(η Z.den K J),z,⟨[.bool Z.num.neg],[ε C Z.num.χ H],z,z,⟨_,z,U⟩⟩,⟨[.bool Z.den.neg],[ε K Z.den.χ J],z,z,⟨_,z,W⟩⟩⟩ a9 bt λc3 cF=>Ζ
   exact Ζ
  exact Ζ
 exact Ζ
instance iH'{d r}:a ((KM d)) r (Cr 269 #[.int .u8 d] (λG=>True) (λG v=>v=.agg (Ö r).toArray)):=.mk λhr=>by refine Ξ ?_;intro p k _ l m hr _;refine WC.mA hr [0,2,3] [2] [2,3] [2] (λ(⟨c,e⟩:Int×(Fin 8->Int))=>⟨(c,e),[(5,i' c)],tr,[(3,ú m (Ö e) 71)]⟩) (λ(f:(Fin 8->Int))=>⟨f,[],tr,[(3,ú m (Ö f) 71)]⟩) ⟨0,(λ_=>0)⟩
instance iI'{R r}:a ((KL R)) r (∀ {H I},Cr 211 #[ε H R I] (λG=>sv G H I R) (iy (gf .i64 8) r)):=.mk λhr {H I}=>by
 refine Ξ ?_;intro T G0 t g _ _ hr _;have y:=tM (w0:=T);refine oE hr λm J hr=>mP z z (x' IE z) (rp.h J) z (t) ln y (λau D Z v A=>?_);obtain⟨M,P,F,rfl,rfl,E⟩:=A;refine mm (λw C=>C.Ý (i:=7000) (j:=4010) z (by rw[g];rfl))<|Ρ z<|o'<|sr<|ν z<|oE hr λaz O hr=>H' z z (x' IF z) (iG'.h O) z ((t.mono v))<|Δ (eB z z)<|nx<|I' hr z (λp hr=>?_) (λp hr=>?_)
 .refine Ξ ?_;intro hr;obtain rfl:_=r:=hr;refine ux (r:=(gf .i64 8)) (e:=71) 4010 E z (by rw[g];rfl) λav ay S L U=>um z z z ⟨_,_,z,L⟩
 refine Ξ ?_;intro _ hr;refine nv (X:=(Ŀ (Fin 8->Int))×ŀ Addr×Nat×ŀ Ow×Int×Mem) hr (λ⟨f,l,h,c,d,o⟩=>⟨(f,d),[(4,ε l f h),(19,i' d)],Mem.le D o/\Γ (gf .i64 8) 71 o (ε l f h) f c,St T G0 o [(4004,c)]⟩) (λ(⟨n,s,q,k,u⟩:(Ŀ (Fin 8->Int))×ŀ Addr×Nat×ŀ Ow×Mem)=>⟨n,[(4,ε s n q)],Mem.le D u/\Γ (gf .i64 8) 71 u (ε s n q) n k,St T G0 u [(4004,k)]⟩) ⟨m,M,P,F,0,D⟩ z (Æ z) ⟨mr,E⟩ ?_ ?_ ?_
 .intro w C;have C:=C.Ý (i:=4010) (j:=4004) z (by rw[g];rfl);exact C.weaken (lc z ln)
 .rintro _ ⟨f,l,h,c,d,o⟩ ⟨x,B⟩ hr;exact Ζ
 rintro⟨n,s,q,k,u⟩ ⟨hr,N,Q⟩;refine Ξ ?_;intro hr;obtain rfl:_=r:=hr;refine ux (r:=(gf .i64 8)) (e:=71) 4004 Q z (by rw[g];rfl) λaw K V Y W=>um z z z ⟨_,_,z,Y⟩
instance hF'{H d r}:a ((JY H d)) r (∀ {y B},Cr 127 #[ε y H B,.agg (Ö d).toArray] (λG=>sv G y B H) (iy (gf .i64 8) r)):=.mk λhr {y B}=>by
 refine Ξ ?_;intro W K _ T I _ _ b2 hr _;refine WC.mB hr [0,3,6,19] [3] [0,3] [3] (λ(⟨m,P⟩:Int×(Fin 8->Bool))=>⟨(m,P),[(20,i' m)],tr,[(6,ú b2 (õ Value.bool 8 P) 143)]⟩) (λ(_:Unit)=>⟨(.inr ()),[],tr,[]⟩) ⟨0,(λ_=>false)⟩ ?_;intro af _ hr ag _;refine Ξ ?_;intro c Z _ F C _ _ hr _;refine oA hr λay hr=>V0 (r:=(gf .i64 8)) (e:=71) (n:=(c.1.length:Int)) (zx:=(λ_=>0)) 4047 z z tA nW z (by decide) (by decide) z z z ay λQ Y aD=>?_;refine è ?_;intro hr;refine WC.mD hr [3,11,48,49] [3] [11] [] (λ(⟨q,h,f⟩:(Ŀ (Fin 8->Int))×ŀ Ow×Int)=>⟨(q,f),[(50,i' f)],λo=>Γ (gf .i64 8) 71 o (.slice Q (c.1.length:Int).toNat ((c.1.length:Int).toNat)) q h,[(4047,h)]⟩) (λ(⟨L,t⟩:(Ŀ (Fin 8->Int))×ŀ Ow)=>⟨L,[],λV=>Γ (gf .i64 8) 71 V (.slice Q (c.1.length:Int).toNat ((c.1.length:Int).toNat)) L t,[(4047,t)]⟩) ⟨(List.replicate (c.1.length:Int).toNat (λ_=>0)),Y,0⟩ ?_ ?_
 .rintro _ o ⟨q,h,f⟩ v M hr;refine Ξ ?_;intro _ x1 _ _ hr _;refine WC.mC hr [3,11,12,48,49,50,55] [3] [3,11,48,49,50] [3] (λ(⟨s,k,g⟩:(Ŀ (Fin 8->Int))×ŀ Ow×Int)=>⟨(s,g),[(56,i' g)],λJ=>Γ (gf .i64 8) 71 J (.slice Q (c.1.length:Int).toNat ((c.1.length:Int).toNat)) s k,[(4047,k)]⟩) (λ(⟨A,l⟩:(Ŀ (Fin 8->Int))×ŀ Ow)=>⟨A,[],λO=>Γ (gf .i64 8) 71 O (.slice Q (c.1.length:Int).toNat ((c.1.length:Int).toNat)) A l,[(4047,l)]⟩) ⟨q,h,0⟩ ?_;rintro _ J ⟨s,k,g⟩ S D hr;refine sr<|kv z<|nx<|o'<|I' hr z (λR hr=>?_) (λR hr=>?_)
  .refine q'<|b'<|o'<|Y'<|sr<|ν z<|oA hr λN hr=>Δ (VZ Gr eN jS z z N (VM _ _ _ N))<|Þ z<|Ρ z<|fA [ff,ff,ff,ff,ff,ff,ff] eL (by kernel_rfl) λhb=>fM z ?_
   refine è ?_;intro hr _;refine oE hr λx2 x hr=>cn (λ_ E=>pC tA xJ (D.mono E) z z x) ?_;refine è ?_;intro hr X;exact WL.uZ (e:=71) (i:=f) (j:=Ε d g) (u:=Ε x1 g) 4047 z jS z D z z z x X λaI au=>Ζ
  exact Ζ
 rintro V ⟨L,t⟩ hr aM U;refine Ξ ?_;intro hr;obtain rfl:_=r:=hr;refine ux (r:=(gf .i64 8)) (e:=71) 4047 U z (by rw[T];rfl) λaY a1 aS p aR=>um z z z ⟨_,_,(by rw[qJ p]),(rm p)⟩
instance go'{e l r}:a ((D7 e l)) r (∀ {o x p u},Cr 69 #[.agg ([i' e.kind,ε o e.p x,ε p e.o u]).toArray,.agg (Ö l).toArray] (λG=>sl c' G o x e.p/\sv G p u e.o) (λG v=>∃ k g h j,v=.tuple #[.agg ([i' r.1.kind,ε k r.1.p g,ε h r.1.o j]).toArray,i' r.2]/\sl c' G k g r.1.p/\sv G h j r.1.o)):=.mk λhr {o x p u}=>Ζ
instance VS{m r}:a ((Z3 m)) r (∀ {c h},Cl 70 #[ε c m h] [] (λG=>sl gg G c h m) (λG L v=>∃ u x f,L=[(7000,f)]/\v=ε u r x/\Γ gg 56 G (ε u r x) r f)):=.mk λhr {c h}=>by
 refine Ξ ?_;intro s d A hr g;refine Δ (Y0.sc tC z z)<|nx<|WC.eC (p:=c=none) z (λk=>?_) (λk=>?_)
 .replace hr:=hr.1 (Η.Vd g k);refine sr<|Ρ z<|m'<|a' ?_
  obtain rfl:_=r:=hr;refine mO (S':=St s d d [(7000,none)]) (wk (lw ln))<|j' z z ⟨_,_,_,z,z,(Γ.nil (r:=gg) (e:=56))⟩
 replace hr:=hr.2;refine q'<|b'<|sr<|WL.sx (e:=56) (r:=gg) (vs:=#[]) (cs:=[]) ([]:Ŀ Ze) 4005 z z z z z (by decide) (λ_=>by kernel_rfl) (z) λE B t=>ν z<|oA hr λq hr=>GG (r:=gg) (e:=56) 4005 z z tC qK z (by decide) z z t z g q λD C l y=>Ρ z<|m' ?_
 obtain rfl:_=r:=hr;refine mO (S':=St s d d [(7000,l)]) ?_ ?_
 .intro w o;have o:=o.Ý (i:=4005) (j:=7000) z (by rw[A];rfl);exact o.weaken (lc z ln)
 exact j' z z ⟨_,_,_,z,z,y⟩
instance BX{g P m r}:ak ((xx g P m)) r (∀ {n o C D s p X Z ae ad},Cr 27 #[.agg ((fX g n o)).toArray,.agg ((Ã P C D s p)).toArray,.agg ([i' m.kind,ε X m.p Z,ε ae m.o ad]).toArray] (λG=>sl gg G n o g.t/\sq G C D P.eqs/\sq G s p P.δ/\sl c' G X Z m.p/\sv G ae ad m.o) (Ç r)):=.mk λhr {n o C D s p X Z ae ad}=>by
 refine è ?_;intro w0 G0 _ v _ H _ E _ t _ b1 b2 b3 b4 hr _;refine WC.nD hr [3,4,5,6] [3,4,5] (λ(⟨ax,L,M⟩:Zd×ŀ Addr×Nat)=>⟨[],QS g P m,λaF=>sl gg aF L M ax.t,[(6,ú b4 (fX ax L M) 26)]⟩) ?_ ?_
 .refine Ξ ?_;intro _ _ hr _;refine pA ⟨G0,(Zd.mk [] 0),none,0⟩ ⟨hr,mr,(X' _ _)⟩ (Æ z) (w4 z z z z)
 rintro aF ⟨ax,L,M⟩ hr l bH;refine sr<|Δ (y' 4 mZ z z z)<|oE hr λaD ba hr=>gR z z (x' ON z) (PA _ _ _ _ _ _ ba) z (⟨(E.mono l),(t.mono l)⟩) (λbU bv A aI=>?_)
 obtain⟨S,T,K,I,rfl,aw,ao⟩:=aI;refine ν z<|lM z<|lM z<|W' 105409 z rB z λb5=>W' 10 z u5 z λb6=>gp 105409 tH z ?_
 refine è ?_;intro af aC y ai aj ag ah aG aK b7 hr _;refine o'<|sr<|ν z<|Δ (qD z z)<|nx<|I' hr z (λbD hr=>?_) (λbD hr=>?_)
 .exact Ζ
 refine q'<|b'<|sr<|WL.makeMap (ky:=rz) (Rv:=mF (Rp.int .i64) aC) 4044 z z λay a1 a7=>W' 105413 z z138 z λb8=>?_
 refine è ?_;intro hr;refine WC.mD (hH:=by exact a7) hr [3,6,9,11,13,46,47] [3,6,105409,11,105413] [3,6,9,11,13] [3,6,105409,11,105413] (λ(⟨U,N,Y⟩:Int×(Ŀ (Ĳ×Int))×ŀ Ow)=>⟨(U,N),[(48,i' U)],λF=>Ø rz (mF (Rp.int .i64) F) (.map (some ay)) N Y,[(4044,Y)]⟩) (λ(⟨R,W⟩:(Ŀ (Ĳ×Int))×ŀ Ow)=>⟨R,[],λaE=>Ø rz (mF (Rp.int .i64) aE) (.map (some ay)) R W,[(4044,W)]⟩) ⟨0,[],a1⟩ ?_ ?_
 .rintro _ F ⟨U,N,Y⟩ V aP hr;refine Ξ ?_;intro _ d _ _ _ _ _ _ _ _ _ _ _ _ _ _ _ _ _ _ _ _ _ _ _ _ _ _ _ _ a3 hr _;obtain⟨⟨bA,bl⟩,hr⟩:=hr;refine WL.lO (Rv':=mF (Rp.int .i64) F) (k:=a3) (z:=d.id) 4044 z underlying138 aP z z z z bA z (λ_ _ _ _ h=>h) bl λbB bb=>t'<|Θ<|E'<|b'<|w'<|iM z<|ν z<|t'<|N' ⟨F,i64.wrap (U+1),(eV N a3 d.id),bB⟩ hr ⟨V,bb⟩ (Æ z) (w6 z z z z z z)
 rintro aE ⟨R,W⟩ hr J bd;refine b'<|o'<|fA [ff,ff,ff,ff,ff,ff,ff] eL (by kernel_rfl) λhb=>cn (λ_ c=>Gs z)<|cn (λ_ c=>n' 3 MQ z z z)<|oE hr λx bh hr=>γ.pE (f:=70) (r:=gg) (e:=56) (xs:=x) (λ_=>z) (λu G' c hu=>?_) ?_
 .exact⟨_,_,_,λ_=>x' OR z,VS.h bh,z,((H.mono (mx (mx (mx l A) y) J)).mono c)⟩
 refine Ξ ?_;intro hr;refine γ.lF (r:=gg) (e:=56) (kk:=63) (xs:=x) (λO az=>.agg ([ε O x az,i' g.next]).toArray) (λ_=>z) z (by kernel_rfl) (by kernel_rfl) (λu G' c hu=>?_) ?_
 .obtain⟨aY,_⟩:=(show(gu gg 56 63 x) (u 63) G'/\True from hu);exact⟨u 63,aY,λcp cc bt _=>l4 (vs:=#[(0,ε cp x cc),(1,i' g.next)]) (by simp only[ς,iC,Ġ,ő,bt] <;> rfl) z (λ_=>by kernel_rfl)⟩
 refine kI (λ_=>z) z26<|GM λce bR bO X1 a aT Q bm=>vQ aT (λb9 bq bx=>?_)
 subst bq;replace Q:=la.drop Q (by decide) bx;refine WL.oD Q (λO az aX a8 be bX=>?_);subst a8;refine lG (show WL _ _ _ _ _ _ (St w0 G0 X1.m _)from ?_);refine mm (λw B=>B.Ý (i:=16) (j:=105416) z (by rw[v];rfl))<|gp 105416 tE z<|t'<|Θ<|b'<|sr<|W' 105417 z OH z λbw=>nr ?_
 refine è ?_;intro hr;refine oE hr λcf bg hr=>mm (λw B=>B.Ý (i:=66) (j:=5000) z (by rw[v];rfl))<|mm (λw B=>B.Ý (i:=4044) (j:=5590) z (by rw[v];rfl))<|mP z z (YC.xW OS z z) (PS 5 _ _ _ _ _ _ _ _ _ _ _ _ _ _ _ _ _ (O,az,aX,W) _ bg) z ⟨⟨be,(Ø.mono bd a)⟩,⟨(aw.mono (mx (mx y J) a)),(ao.mono (mx (mx y J) a))⟩,(aG.mono (mx J a)),(aK.mono (mx J a))⟩ (lc z (lc z (lc z (lc z (lc z (lc z ln)))))) (by rw[v];intro q hq;cases hq) (λbN cd bL bK aL=>?_)
 obtain⟨⟨bS,bY,bG,bE⟩,rfl,rfl,⟨a9,bF⟩⟩:=aL;refine è ?_;intro hr;refine o'<|sr<|ν z<|Δ (qD z z)<|nx<|I' hr z (λbs hr=>?_) (λbs hr=>?_)
 .exact Ζ
 refine q'<|b'<|sr<|pL (r:=gg) (e:=56) 5000 a9 z (by rw[v];rfl) λbZ ca bI bf bJ=>Δ (y' 105416 l6 z z z)<|ν z<|gp 6 tE z<|Þ z<|Ρ z<|m' ?_
 obtain rfl:_=r:=hr;exact MR z (kD (i:=6) l6 z z z) z z ⟨_,_,z,bf⟩
instance dm'{W Z r}:a ((xt W Z)) r (∀ {S R},Cr 19 #[.agg ((fX W S R)).toArray,i' Z] (λG=>sl gg G S R W.t) (λG v=>∃ J E u t P O K L,v=.tuple #[.agg ((eR r.1 J E u t P O K L)).toArray,.bool r.2]/\sq G J E r.1.k.eqs/\sq G u t r.1.k.δ/\sl c' G P O r.1.q.p/\sv G K L r.1.q.o)):=.mk λhr {S R}=>by refine Ξ ?_;intro w0 Y _ _ i hr _;refine WC.mA hr [1,4,9,10] [] [4] [] (λ(⟨x,p,e,f,c,d,l,h,m,j⟩:Int×Ze×ŀ Addr×Nat×ŀ Addr×Nat×ŀ Addr×Nat×ŀ Addr×Nat)=>⟨(x,p),[(11,i' x)],λq=>sq q e f p.k.eqs/\sq q c d p.k.δ/\sl c' q l h p.q.p/\sv q m j p.q.o,[(4,ú i (eR p e f c d l h m j) 56)]⟩) (λ(⟨C,o,n,k,g,D,B,A,F⟩:Ze×ŀ Addr×Nat×ŀ Addr×Nat×ŀ Addr×Nat×ŀ Addr×Nat)=>⟨(.inr C),[],λI=>sq I o n C.k.eqs/\sq I k g C.k.δ/\sl c' I D B C.q.p/\sv I A F C.q.o,[(4,ú i (eR C o n k g D B A F) 56)]⟩) ⟨0,(Ze.mk 0 (Zb.mk 0 [] []) (Zc.mk 0 [] []) 0 0 0 false),none,0,none,0,none,0,none,0⟩
instance fG'{i l r}:a ((fu i l)) r (∀ {f e c d k j},Cr 320 #[.agg ((Ã i.k f e c d)).toArray,ε k l j] (λG=>sq G f e i.k.eqs/\sq G c d i.k.δ/\sl c' G k j l) (λG v=>v=.bool r)):=.mk λhr {f e c d k j}=>Ζ
instance dT'{s h r}:a ((OZ s h)) r (∀ {q p e f c d},Cr 319 #[ε q s p,.func (.func 320) #[.agg ((Ã h.k e f c d)).toArray] #[]] (λG=>sq G q p s/\sq G e f h.k.eqs/\sq G c d h.k.δ) (λG v=>v=.bool r)):=.mk λhr {q p e f c d}=>by
 refine Ξ ?_;intro B n _ _ _ _ k hr i;refine WC.mC hr [1,7,8] [] [] [] (λ(j:Int)=>⟨j,[(9,i' j)],tr,[]⟩) (λ(_:Unit)=>⟨(.inr ()),[],tr,[]⟩) 0 ?_;intro _ l j g _ hr;refine Ξ ?_;intro _ _ _ _ _ _ _ _ _ hr C;exact oE hr λH x hr=>H' z z (YC.CP IT z z) (fG'.h x) z (⟨(k.mono g),(i.mono g),C⟩)<|Δ (kU z)<|Ζ
instance fy'{i n r}:a ((fj i n)) r (∀ {f e c d k j},Cr 285 #[.agg ((Ã i.k f e c d)).toArray,ε k n j] (λG=>sq G f e i.k.eqs/\sq G c d i.k.δ/\sq G k j n) (λG v=>v=.bool r)):=.mk λhr {f e c d k j}=>Ζ
instance ej'{i n r}:a ((Ä i n)) r (∀ {f e c d l k},Cr 222 #[.agg ((Ã i.k f e c d)).toArray,ε l n k] (λG=>sq G f e i.k.eqs/\sq G c d i.k.δ/\sq G l k n) (λG v=>v=.bool r)):=.mk λhr {f e c d l k}=>Ζ
instance fu'{c r}:a ((Ea c)) r (Cr 223 #[i' c] (λG=>True) (λG v=>v=.bool r)):=.mk λhr=>Ζ
instance ha'{k r}:a ((I7 k)) r (∀ {d e c g i j h f},Cr 321 #[.agg ((wB k d e c g i j h f)).toArray] (λG=>su G d e k.lo.num.χ/\su G c g k.lo.den.χ/\su G i j k.hi.num.χ/\su G h f k.hi.den.χ) (λG v=>v=.bool r)):=.mk λhr {d e c g i j h f}=>Ζ
instance eX'{i r}:a ((tu i)) r (∀ {g d h f},Cr 322 #[.agg ((Υ i g d h f)).toArray] (λG=>su G g d i.num.χ/\su G h f i.den.χ) (λG v=>v=.bool r)):=.mk λhr {g d h f}=>Ζ
instance fH'{A Q r}:a ((dQ A Q)) r (∀ {t s p q D S},Cr 287 #[.agg ((Ã A.k t s p q)).toArray,.agg (D).toArray] (λG=>sq G t s A.k.eqs/\sq G p q A.k.δ/\È iB 8 G D S Q) (λG v=>v=.bool r)):=.mk λhr {t s p q D S}=>by
 refine Ξ ?_;intro W B _ _ _ _ _ Y _ hr E;refine Δ (y' 3 mJ z z (lE E))<|ν z<|nx<|WC.mC hr [2,7] [2] [] [] (λ(u:Int)=>⟨u,[(8,i' u)],tr,[]⟩) (λ(_:Unit)=>⟨(.inr ()),[],tr,[]⟩) 0 ?_
 intro _ x u o _ hr;refine Ξ ?_;intro _ hr;obtain⟨y,F,hr⟩:=hr;obtain⟨h,c,g,e,d,j,f,i,Z,l,n,m,k⟩:=Pd (vU (E.mono o) F);refine Δ (Y0.uE zB rT jY z z (E.mono o) F Z z)<|W' 6 z OJ z λJ=>Þ z<|gp 6 jY z<|nr<|ν z<|Δ (MX z)<|Δ (rj z)<|Δ (n' 2 eN z z z)<|dE hr z (Z' z z) z (λH hr=>?_) (λH hr=>?_)
 .refine ν z<|gy z z (y' 6 rT z z z) z<|oE hr λU P hr=>H' (C' z z) z (x' IU z) (ha'.h P) z (⟨l,n,m,k⟩) ?_
  cases U
  .refine Ξ ?_;intro hr;refine Å (M' z z) z<|Å (M' z z) z<|Å (M' z z) z<|Å (M' z z) z<|Å (M' z z) z<|Å (M' z z) z<|Å (M' z z) z<|Å (M' z z) z<|Å (M' z z) z<|sf z z z<|Ι z<|nx<|nR z<|sr<|Ρ z<|m'<|g'<|a'<|a'<|g'<|mM<|a' (Õ hr z z)
  refine gy z z (kU z) z<|Ι z<|ν z<|kq z<|gy z z (MX z) z<|gy z z (rj z) z<|gy z z (n' 2 eN z z z) z<|dE hr (C' z z) (vJ z z) z (λC hr=>?_) (λC hr=>?_)
  .exact Ζ
  exact kq z<|nK z<|Å (M' z z) z<|Å (M' z z) z<|Å (M' z z) z<|yc z<|gy z z (f' z z) z<|ο z<|nx<|tG z<|Ζ
 refine ν z<|fK z<|ο z<|ν z<|kq z<|gy z z (MX z) z<|gy z z (rj z) z<|gy z z (n' 2 eN z z z) z<|dE hr (C' z z) (vJ z z) z (λI hr=>?_) (λI hr=>?_)
 .exact Ζ
 exact kq z<|nK z<|Å (M' z z) z<|Å (M' z z) z<|Å (M' z z) z<|yc z<|gy z z (f' z z) z<|ο z<|nx<|tG z<|Ζ
instance dV'{y h r}:a ((O1 y h)) r (∀ {x t e f c d},Cr 286 #[ε x y t,.func (.func 287) #[.agg ((Ã h.k e f c d)).toArray] #[]] (λG=>sl (Rp.arr iB 8) G x t y/\sq G e f h.k.eqs/\sq G c d h.k.δ) (λG v=>v=.bool r)):=.mk λhr {x t e f c d}=>by
 refine Ξ ?_;intro F q _ _ _ p o hr l;refine WC.mC hr [1,7,8] [] [] [] (λ(m:Int)=>⟨m,[(9,i' m)],tr,[]⟩) (λ(_:Unit)=>⟨(.inr ()),[],tr,[]⟩) 0 ?_;intro _ i m g _ hr;refine Ξ ?_;intro _ hr;refine oE hr λQ A hr=>Δ (kd ur lW (p.mono g) z z A) ?_;obtain⟨M,k,D⟩:=(T' (iK p A) g);exact Δ (ny _ mJ z (lE (u:=()) k) (λj v K=>D j v (by simpa using K)))<|W' 6 z DN z λP=>A' 6 z lW z z z (lE (show È iB 8 i jq () _ from zA (G:=i) (r:=iB) (n:=8) (zc:=[.bool false,.slice none 0 0,.bool false,.slice none 0 0,.bool false,.slice none 0 0,.bool false,.slice none 0 0]) (z:=(Zl.mk (Zf.mk (Zg.mk false []) (Zg.mk false [])) (Zf.mk (Zg.mk false []) (Zg.mk false [])))) ⟨[.bool false,.slice none 0 0,.bool false,.slice none 0 0],[.bool false,.slice none 0 0,.bool false,.slice none 0 0],z,⟨[.bool false,.slice none 0 0],[.bool false,.slice none 0 0],z,⟨[.bool false],[.slice none 0 0],z,z,⟨_,z,(X' _ _)⟩⟩,⟨[.bool false],[.slice none 0 0],z,z,⟨_,z,(X' _ _)⟩⟩⟩,⟨[.bool false,.slice none 0 0],[.bool false,.slice none 0 0],z,⟨[.bool false],[.slice none 0 0],z,z,⟨_,z,(X' _ _)⟩⟩,⟨[.bool false],[.slice none 0 0],z,z,⟨_,z,(X' _ _)⟩⟩⟩⟩)) (lE (show È _ _ _ _ () _ from k)) (È.one (show È _ _ _ _ () _ from k))<|nr<|ν z<|Δ (y' 6 mJ z z (lE (show È _ _ _ _ () _ from k)))<|oE hr λL C hr=>H' z z (YC.CP II z z) (fH'.h C) z (⟨(o.mono g),(l.mono g),(show È _ _ _ _ () _ from k)⟩)<|Δ (kU z)<|Ζ
instance eg'{i m r}:a ((Á i m)) r (∀ {f e c d j k},Cr 224 #[.agg ((Ã i.k f e c d)).toArray,ε j m k] (λG=>sq G f e i.k.eqs/\sq G c d i.k.δ/\sl (Rp.arr iB 8) G j k m) (λG v=>v=.bool r)):=.mk λhr {f e c d j k}=>Ζ
instance ia'{d r}:a ((JP d)) r (Cr 226 #[i' d] (λG=>True) (λG v=>v=.bool r)):=.mk λhr=>Ζ
instance cB'{c r}:a ((ZO c)) r (∀ {j l d e i g k m f h},Cr 227 #[.agg ((jT c j l d e i g k m f h)).toArray] (λG=>sl c' G j l c.p/\sv G d e c.o/\sq G i g c.l/\sl (Rp.int .i64) G k m c.s/\sl (Rp.arr iB 8) G f h c.b) (λG v=>v=.bool r)):=.mk λhr {j l d e i g k m f h}=>by
 refine J' (args:=[_]) (N:=51) func227 z z z (λJ I F s=>?_);obtain⟨o,t,p,n,q⟩:=s;refine sr<|jM 1 z z z λH=>Þ z<|nr<|Δ (zj z)<|Δ (n' 1 eN z z z)<|dE hr z (eB z z) z (λD hr=>?_) (λD hr=>?_)
 .refine ν z<|gy z z (zn z) z<|gy z z (n' 1 eN z z z) z<|dE hr (C' z z) (eB z z) z (λy hr=>?_) (λy hr=>?_)
  .refine Ι z<|ν z<|gy z z (xI z) z<|gy z z (n' 1 eN z z z) z<|dE hr (C' z z) (eB z z) z (λE hr=>?_) (λE hr=>?_)
   .refine Ι z<|ν z<|gy z z (zv z) z<|gy z z (n' 1 eN z z z) z ?_
    exact Ζ
   exact Ζ
  exact Ζ
 exact Ζ
instance fI'{k r}:a ((I2 k)) r (∀ {j i},Cr 225 #[ε j k i,.func (.func 226) #[] #[]] (λG=>sl (Rp.int .i64) G j i k) (λG v=>v=.bool r)):=.mk λhr {j i}=>by refine Ξ ?_;intro p g _ hr _;refine WC.mA hr [1,7,8] [] [] [] (λ(d:Int)=>⟨d,[(9,i' d)],tr,[]⟩) (λ(_:Unit)=>⟨(.inr ()),[],tr,[]⟩) 0
set_option maxHeartbeats 2000000 in
instance fn'{c r}:a ((eY c)) r (∀ {s q n o m l h i e d f g j k},Cr 147 #[.agg ((DC c s q n o m l h i e d f g j k)).toArray] (λG=>sq G s q c.rules.k.eqs/\sq G n o c.rules.k.δ/\sl c' G m l c.c.p/\sv G h i c.c.o/\sq G e d c.c.l/\sl (Rp.int .i64) G f g c.c.s/\sl (Rp.arr iB 8) G j k c.c.b) (λG v=>v=.bool r)):=.mk λhr {s q n o m l h i e d f g j k}=>by
 refine J' (args:=[_]) (N:=150) func147 z z z (λw0 L a8 ay=>?_);obtain⟨x,u,D,B,C,A,y⟩:=ay;refine sr<|jM 1 z z z λS=>Ρ z<|o'<|sr<|Δ (VX z)<|Δ (R' ((Ã c.rules.k s q n o)).toArray 1 rS z z z (mK ([]) ((Ã c.rules.k s q n o)) ((jT c.c m l h i e d f g j k))))<|oE hr λbb Z hr=>H' z z (x' HX z) (ec'.h Z) z (⟨x,u⟩)<|Δ (kU z)<|nx<|kc hr z (λX hr=>?_) (λX hr=>?_)
 .exact Ζ
 refine q' ?_;refine è ?_;intro O M hr;refine WC.nD hr [1,3,4,5,15] [1,3,4] (λ(K:Bool)=>⟨[(16,.bool K)],í c K,tr,[]⟩) ?_ ?_
 .refine sr<|Δ (eB z z)<|Ρ z<|I' hr z (λao hr=>?_) (λao hr=>?_)
  .exact Ζ
  refine sr<|Δ (eB z z)<|Ρ z<|I' hr z (λan hr=>?_) (λan hr=>?_)
  .exact Ζ
  exact Ζ
 intro I K hr p _;refine kc hr z (λR hr=>?_) (λR hr=>?_)
 .exact Ζ
 refine WC.nD hr [1,3,4,5,15] [1,3,4] (λ(J:Bool)=>⟨[(26,.bool J)],ù c J,tr,[]⟩) ?_ ?_
 .refine sr<|Δ (eB z z)<|Ρ z<|I' hr z (λaz hr=>?_) (λaz hr=>?_)
  .exact Ζ
  exact Ζ
 intro H J hr t _;refine kc hr z (λV hr=>?_) (λV hr=>?_)
 .exact Ζ
 refine sr<|Δ (eB z z)<|Ρ z<|I' hr z (λP hr=>?_) (λP hr=>?_)
 .exact Ζ
 refine sr<|Δ (eB z z)<|Ρ z<|I' hr z (λW hr=>?_) (λW hr=>?_)
 .exact Ζ
 refine sr<|Δ (eB z z)<|Ρ z<|I' hr z (λU hr=>?_) (λU hr=>?_)
 .exact Ζ
 refine sr<|Δ (eB z z)<|Ρ z<|I' hr z (λE hr=>?_) (λE hr=>?_)
 .exact Ζ
 refine sr<|Δ (eB z z)<|Ρ z<|I' hr z (λT hr=>?_) (λT hr=>?_)
 .refine sr<|Δ (VX z)<|Δ (R' ((Ã c.rules.k s q n o)).toArray 1 rS z z z (mK ([]) ((Ã c.rules.k s q n o)) ((jT c.c m l h i e d f g j k))))<|Δ (GA z) ?_
  exact Ζ
 refine sr<|Δ (eB z z)<|Ρ z<|I' hr z (λQ hr=>?_) (λQ hr=>?_)
 .exact Ζ
 refine WC.nC hr [3,4] [3,4] (λ(F:Bool)=>⟨[(138,.bool F)],ø c F,tr,[]⟩) ?_;refine sr<|Δ (eB z z)<|Ρ z<|I' hr z (λY hr=>?_) (λY hr=>?_)
 .exact Ζ
 exact Ζ
instance iw'{h g r}:a ((Ez h g)) r (∀ {e f c d o q i j n l p s k m},Cr 82 #[.agg ((Ã h e f c d)).toArray,.agg ((jT g o q i j n l p s k m)).toArray] (λG=>sq G e f h.eqs/\sq G c d h.δ/\sl c' G o q g.p/\sv G i j g.o/\sq G n l g.l/\sl (Rp.int .i64) G p s g.s/\sl (Rp.arr iB 8) G k m g.b) (λG v=>v=.bool r)):=.mk λhr {e f c d o q i j n l p s k m}=>by
 refine Ξ ?_;intro _ _ _ _ _ _ _ _ _ _ _ _ _ _ _ _ _ _ _;refine Δ (l4 (vs:=#[(0,.agg ((Ã h e f c d)).toArray)]) (v:=.agg ((Ã h e f c d)).toArray) z z (λ_=>by kernel_rfl))<|Δ (y' 3 nS z z z)<|Δ (l4 (vs:=#[(0,.agg ((Ã h e f c d)).toArray),(1,.agg ((jT g o q i j n l p s k m)).toArray)]) (v:=.agg ([i' h.n,ε e h.eqs f,ε c h.δ d,i' g.kind,ε o g.p q,i' g.n,i' g.d,i' g.r,ε i g.o j,ε n g.l l,ε p g.s s,ε k g.b m]).toArray) z z (λ_=>by kernel_rfl)) ?_
 exact Ζ
instance tK{m p r}:a ((Eh m p)) r (∀ {j n h l},Cr 85 #[ε j m n,ε h p l] (λG=>sv G j n m/\sv G h l p) (λG v=>v=.bool r)):=.mk λhr {j n h l}=>by refine Ξ ?_;intro x i _ _ _ _ hr _;refine WC.mA hr [0,1,12] [] [] [] (λ(e:Int)=>⟨e,[(13,i' e)],tr,[]⟩) (λ(_:Unit)=>⟨(.inr ()),[],tr,[]⟩) 0
instance gv'{l f d r}:a ((Jz l f d)) r (∀ {i j h g y x s B A p E C q o t D u F},Cr 37 #[.agg ((Ã l i j h g)).toArray,.agg ([i' f.kind,ε y f.p x,ε s f.o B]).toArray,.agg ((jT d A p E C q o t D u F)).toArray] (λG=>sq G i j l.eqs/\sq G h g l.δ/\sl c' G y x f.p/\sv G s B f.o/\sl c' G A p d.p/\sv G E C d.o/\sq G q o d.l/\sl (Rp.int .i64) G t D d.s/\sl (Rp.arr iB 8) G u F d.b) (λG v=>v=.bool r)):=.mk λhr {i j h g y x s B A p E C q o t D u F}=>by
 refine è ?_;intro _ _ _ _ _ _ _ _ _ _ _ _ _ _ _ _ _ _ _ _ _ _ hr _;refine I' hr z (λc hr=>?_) (λc hr=>?_)
 .exact Ζ
 refine sr<|Δ (eB z z)<|Ρ z<|I' hr z (λn hr=>?_) (λn hr=>?_)
 .refine Ξ ?_;intro _ _ _ _ _ _ _ _ _ _ _ _ _ _ _ _ _ hr _;refine Å (M' z z) z<|Å (M' z z) z<|Å (M' z z) z<|Å (M' z z) z<|yc z<|Å (M' z z) z<|Å (M' z z) z<|Å (M' z z) z<|Å (M' z z) z<|sf z z z<|Ι z<|Ρ z<|m'<|g'<|a' (Õ hr z z)
 refine sr<|Δ (eB z z)<|Ρ z<|I' hr z (λJ hr=>?_) (λJ hr=>?_)
 .exact Ζ
 refine sr<|Δ (eB z z)<|Ρ z<|I' hr z (λm hr=>?_) (λm hr=>?_)
 .exact Ζ
 refine sr<|Δ (eB z z)<|Ρ z<|I' hr z (λK hr=>?_) (λK hr=>?_)
 .exact Ζ
 refine sr<|Δ (eB z z)<|Ρ z<|I' hr z (λI hr=>?_) (λI hr=>?_)
 .exact Ζ
 refine sr<|Δ (eB z z)<|Ρ z<|I' hr z (λe hr=>?_) (λe hr=>?_)
 .exact Ζ
 refine sr<|Δ (eB z z)<|Ρ z<|I' hr z (λH hr=>?_) (λH hr=>?_)
 .refine sr<|Δ (zj z)<|Δ (n' 5 eN z z z)<|dE hr z (eB z z) z (λk hr=>?_) (λk hr=>?_)
  .refine Ξ ?_;intro hr;refine Å (M' z z) z<|Å (M' z z) z<|Å (M' z z) z<|sf z z z<|Ι z<|Ρ z<|m'<|g'<|a' (Õ hr z z)
  refine Ξ ?_;intro _ hr;refine Å (M' z z) z<|Å (M' z z) z<|Å (M' z z) z<|sf z z z<|Ι z<|Ρ z<|m'<|g'<|a' (Õ hr z z)
 exact Ζ
instance ib'{t d r}:a ((JO t d)) r (∀ {y D A E n q g h m k p s j l},Cr 148 #[.agg ([i' t.kind,ε y t.p D,ε A t.o E]).toArray,.agg ((jT d n q g h m k p s j l)).toArray] (λG=>sl c' G y D t.p/\sv G A E t.o/\sl c' G n q d.p/\sv G g h d.o/\sq G m k d.l/\sl (Rp.int .i64) G p s d.s/\sl (Rp.arr iB 8) G j l d.b) (λG v=>v=.tuple #[i' r.1,i' r.2])):=.mk λhr {y D A E n q g h m k p s j l}=>by
 refine è ?_;intro R B _ _ _ _ _ _ _ _ _ _ _ _ _ _ H hr _;refine I' hr z (λV hr=>?_) (λV hr=>?_)
 .exact Ζ
 refine WC.nD hr [3] [3] (λ(o:Bool)=>⟨[(22,.bool o)],DU d o,tr,[]⟩) ?_ ?_
 .refine sr<|Δ (eB z z)<|Ρ z<|I' hr z (λI hr=>?_) (λI hr=>?_)
  .exact Ζ
  exact Ζ
 intro e o hr u _;refine kc hr z (λM hr=>?_) (λM hr=>?_)
 .refine è ?_;intro hr;refine I' hr z (λL hr=>?_) (λL hr=>?_)
  .exact Ζ
  refine WC.nC hr [3,26] [3] (λ(i:Bool)=>⟨[(33,.bool i)],DT d i,tr,[]⟩) ?_;refine sr<|Δ (eB z z)<|Ρ z<|I' hr z (λK hr=>?_) (λK hr=>?_)
  .exact Ζ
  exact Ζ
 exact Ζ
instance iJ'{d J r}:a ((KP d J)) r (∀ {m l g e t v x u S U L M R P T V O Q},Cr 83 #[.agg ((eR d m l g e t v x u)).toArray,.agg ((jT J S U L M R P T V O Q)).toArray] (λG=>sq G m l d.k.eqs/\sq G g e d.k.δ/\sl c' G t v d.q.p/\sv G x u d.q.o/\sl c' G S U J.p/\sv G L M J.o/\sq G R P J.l/\sl (Rp.int .i64) G T V J.s/\sl (Rp.arr iB 8) G O Q J.b) (u4 r)):=.mk λhr {m l g e t v x u S U L M R P T V O Q}=>by
 refine è ?_;intro w0 G0 _ _ _ _ _ _ _ _ _ _ _ X _ C _ Y W K N b3 hr Z;refine WC.nB hr [2,3,4] [3,4] (λ(⟨c,k,j,h,f,p,o,n,q⟩:Ze×ŀ Addr×Nat×ŀ Addr×Nat×ŀ Addr×Nat×ŀ Addr×Nat)=>⟨[],D2 J c,λH=>sq H k j c.k.eqs/\sq H h f c.k.δ/\sl c' H p o c.q.p/\sv H n q c.q.o,[(2,ú K (eR c k j h f p o n q) 56)]⟩) ?_;rintro H ⟨c,k,j,h,f,p,o,n,q⟩ hr D ⟨y,s,B,A⟩;refine sr<|Δ (Gv z)<|Δ (R' ([i' c.q.kind,ε p c.q.p o,ε n c.q.o q]).toArray 2 re z z z (mK ([i' c.id,i' c.k.n,ε k c.k.eqs j,ε h c.k.δ f]) ([i' c.q.kind,ε p c.q.p o,ε n c.q.o q]) ([i' c.υ,i' c.low,i' c.high,.bool c.done])))<|Δ (y' 3 nS z z z)<|oE hr λF E hr=>H' z z (x' H8 z) (ib'.h E) z (⟨B,A,(X.mono D),(C.mono D),(Y.mono D),(W.mono D),(Z.mono D)⟩)<|ν z<|lM z<|lM z<|Þ z<|Þ z<|nr<|Δ (BF z)<|Δ (n' 2 eN z z z)<|ν z<|Δ (V3 z z)<|Δ (BF z)<|ra 2 ([i' c.id,i' c.k.n,ε k c.k.eqs j,ε h c.k.δ f,i' c.q.kind,ε p c.q.p o,ε n c.q.o q,i' c.υ,i' (if c.low<F.1 then F.1 else c.low),i' c.high,.bool c.done]).toArray z jS z z z (show 8<11 by decide) z z<|nx<|o'<|sr<|ν z<|dE hr z (vJ z z) z (λI hr=>?_) (λI hr=>?_)
 .exact Ζ
 refine ν z<|nK z<|Å (M' z z) z<|Å (M' z z) z<|Å (M' z z) z<|Å (M' z z) z<|sk z z z<|ο z<|nx<|tG z<|q'<|b'<|sr<|Δ (y' 2 uv z z z)<|gp 4 rb z<|nx<|m' ?_
 obtain rfl:_=r:=hr;exact j' z (kD (i:=4) uv z z z) ⟨_,_,_,_,_,_,_,_,z,y,s,B,A⟩
instance MU{Y M C k r}:al ((wY Y M C k)) r (∀ {ah ai D E},Cr 36 #[.agg ((fX Y ah ai)).toArray,i' M,ε D C E,i' k] (λG=>sl gg G ah ai Y.t/\sl rV G D E C) (jh r)):=.mk λhr {ah ai D E}=>by
 refine è ?_;intro w0 G0 aj cF _ bd b1 b2 A b0 ag x t p q O L Q P aA au _ _ b3 hr _;refine o'<|sr<|ν z<|Δ (kU z)<|nx<|kc hr z (λcV hr=>?_) (λcV hr=>?_)
 .exact Ζ
 refine q'<|b'<|WC.nB hr [1,2,3,4,8,10] [4,10] (λ(⟨bi,aW,aX⟩:Zd×ŀ Addr×Nat)=>⟨[],Qb Y M C k A bi,λa1=>sl gg a1 aW aX bi.t,[(8,ú b2 (fX bi aW aX) 26)]⟩) ?_
 rintro a1 ⟨bi,aW,aX⟩ hr F bV;refine Ξ ?_;intro hr;refine WC.mB hr [1,2,3,4,8,10,36,37] [4,10] [1,2,3,4,8,10] [4,10] (λ(⟨aV,a5,aI,aF⟩:Int×Zd×ŀ Addr×Nat)=>⟨(aV,a5),[(38,i' aV)],λa3=>sl gg a3 aI aF a5.t,[(8,ú b2 (fX a5 aI aF) 26)]⟩) (λ(⟨aH,U,S⟩:Zd×ŀ Addr×Nat)=>⟨(.inr aH),[],λbz=>sl gg bz U S aH.t,[(8,ú b2 (fX aH U S) 26)]⟩) ⟨0,bi,aW,aX⟩ ?_;rintro bz ⟨aH,U,S⟩ hr X cW;refine Ξ ?_;intro hr;refine oE hr λbv ck hr=>H' z z (x' yp z) (yx _ _ _ _ _ _ ck) z (⟨(aA.mono (mx F X)),(au.mono (mx F X))⟩)<|Ρ z<|o'<|fA [ff,ff,ff,ff,ff,ff,ff] eL (by kernel_rfl) λhb=>?_
 refine è ?_;intro hr;refine oE hr λB ct hr=>γ.pE (f:=70) (r:=gg) (e:=56) (xs:=B) (λ_=>z) (λu G' a4 hu=>?_) ?_
 .exact⟨_,_,_,λ_=>x' OR z,VS.h ct,z,((bd.mono (mx (mx ag F) X)).mono a4)⟩
 refine Ξ ?_;intro hr;refine γ.lF (r:=gg) (e:=56) (kk:=54) (xs:=B) (λJ I=>.agg ([ε J B I,i' Y.next]).toArray) (λ_=>z) z (by kernel_rfl) (by kernel_rfl) (λu G' a4 hu=>?_) ?_
 .obtain⟨bS,_⟩:=(show(gu gg 56 54 B) (u 54) G'/\True from hu);exact⟨u 54,bS,λcp cc cL _=>l4 (vs:=#[(0,ε cp B cc),(1,i' Y.next)]) (by simp only[ς,iC,Ġ,ő,cL] <;> rfl) z (λ_=>by kernel_rfl)⟩
 refine kI (λ_=>z) z26<|GM λdu c7 c3 X1 bq bM aK cz=>vQ bM (λb4 cH cO=>?_)
 subst cH;replace aK:=la.drop aK (by decide) cO;refine WL.oD aK (λJ I bP cd bL dn=>?_);subst cd;refine lG (show WL _ _ _ _ _ _ (St w0 G0 X1.m _)from ?_);refine è ?_;intro hr;refine WC.mD hr [1,2,3,8,14,15,59,60] [8] [8,15] [8] (λ(⟨ab,H,s,y⟩:(Ŀ Ze)×ŀ Ow×Int×Int)=>⟨(ab,s,y),[(61,i' s)],λar=>Γ gg 56 ar (ε J B I) ab H,[(15,ú b4 ([ε J B I,i' y]) 26),(57,H)]⟩) (λ(⟨bs,aZ,aJ⟩:(Ŀ Ze)×ŀ Ow×Int)=>⟨(bs,aJ),[],λbw=>Γ gg 56 bw (ε J B I) bs aZ,[(15,ú b4 ([ε J B I,i' aJ]) 26),(57,aZ)]⟩) ⟨B,bP,0,Y.next⟩ ?_ ?_
 .rintro _ ar ⟨ab,H,s,y⟩ ao K hr;refine Ξ ?_;intro _ x1 hr b8;obtain⟨ak,ap,ae,aa,a6,a7,ba,a9,cE,aL,av,bt,bx⟩:=MM (oj K b8);refine Δ (vP _ uv K (key:=57) z z z (by decide) cE) ?_;refine è ?_;intro b5 hr;refine WC.nC hr [1,2,3,8,14,15,16,17,59,60,61] [8,15,57] (λ(⟨c,h,j,d,g,o,l,n,m⟩:Ze×ŀ Addr×Nat×ŀ Addr×Nat×ŀ Addr×Nat×ŀ Addr×Nat)=>⟨[],yv M k ab s y c,λaz=>sq az h j c.k.eqs/\sq az d g c.k.δ/\sl c' az o l c.q.p/\sv az n m c.q.o,[(17,ú b5 (eR c h j d g o l n m) 56)]⟩) ?_;refine Ξ ?_;intro hr;refine oE hr λdw cq hr=>H' z z (x' yp z) (yx _ _ _ _ _ _ cq) z (⟨aL,av⟩) ?_;refine è ?_;intro hr;refine I' hr z (λcI hr=>?_) (λcI hr=>?_)
  .refine Ξ ?_;intro hr;refine WC.mC hr [1,2,3,8,14,15,16,17,59,60,61,71,72] [8,15,57] [1,2,3,8,14,15,16,17,59,60,61] [8,15,57] (λ(⟨aT,a,af,Z,V,R,ay,aD,aC,aE⟩:Int×Ze×ŀ Addr×Nat×ŀ Addr×Nat×ŀ Addr×Nat×ŀ Addr×Nat)=>⟨(aT,a),[(73,i' aT)],λN=>sq N af Z a.k.eqs/\sq N V R a.k.δ/\sl c' N ay aD a.q.p/\sv N aC aE a.q.o,[(17,ú b5 (eR a af Z V R ay aD aC aE) 56)]⟩) (λ(⟨v,ac,ad,W,T,aB,ax,aG,aw⟩:Ze×ŀ Addr×Nat×ŀ Addr×Nat×ŀ Addr×Nat×ŀ Addr×Nat)=>⟨v,[],λaR=>sq aR ac ad v.k.eqs/\sq aR W T v.k.δ/\sl c' aR aB ax v.q.p/\sv aR aG aw v.q.o,[(17,ú b5 (eR v ac ad W T aB ax aG aw) 56)]⟩) ⟨0,x1,ak,ap,ae,aa,a6,a7,ba,a9⟩ ?_;rintro _ N ⟨aT,a,af,Z,V,R,ay,aD,aC,aE⟩ aU ⟨aY,aQ,bk,bf⟩ hr;refine sr<|kv z<|nx<|o'<|I' hr z (λcS hr=>?_) (λcS hr=>?_)
   .refine q'<|b'<|o'<|Y'<|sr<|oE hr λx4 bX hr=>Δ (kd ML s8 (aj.mono (mx (mx (mx (mx (mx ag F) X) bq) ao) aU)) z z bX) ?_
    obtain⟨da,c5,c9,dk,c2,c1,dp,dj,dd,dm,cA,cf,cg,cr,cb,ch⟩:=V7 (T' (iK aj bX) (mx (mx (mx (mx (mx ag F) X) bq) ao) aU));refine Δ (ny _ nS z z cA)<|W' 19 z HO z λb6=>gp 19 s8 z<|nx<|w'<|Δ (y' 17 uv z z z)<|Δ (y' 19 nS z z z)<|oE hr λcC b9 hr=>gR z z (x' Yb z) (iJ'.h b9) z (⟨aY,aQ,bk,bf,cf,cg,cr,cb,ch⟩) (λc0 cQ bR bB=>?_)
    obtain⟨bn,br,bj,bc,bN,bI,bJ,bH,rfl,bo,be,bO,bF⟩:=bB;exact gp 17 rb z<|Ζ
   exact Ζ
  exact Ζ
 rintro bw ⟨bs,aZ,aJ⟩ hr cX bT;refine b'<|sr<|pL (r:=gg) (e:=56) 57 bT z (by rw[cF];rfl) λds dt cZ bp cY=>Δ (y' 15 l6 z z z)<|gp 8 tE z<|Ρ z<|m' ?_
 obtain rfl:_=r:=hr;exact um z (kD (i:=8) l6 z z z) z ⟨_,_,(by first|rw[qJ bp]|(unfold ε;rw[qJ bp])),(rm bp)⟩
instance eY'{d c r}:a ((JM d c)) r (∀ {k j e g u q m t l i f h o s n p},Cr 21 #[.agg ((eR d k j e g u q m t)).toArray,.agg ((eR c l i f h o s n p)).toArray] (λG=>sq G k j d.k.eqs/\sq G e g d.k.δ/\sl c' G u q d.q.p/\sv G m t d.q.o/\sq G l i c.k.eqs/\sq G f h c.k.δ/\sl c' G o s c.q.p/\sv G n p c.q.o) (λG v=>v=.bool r)):=.mk λhr {k j e g u q m t l i f h o s n p}=>by
 refine Ξ ?_;intro _ _ _ _ _ B _ y _ _ _ _ _ A _ x _ _ _ _ _ _ _ _ hr _;refine oE hr λK J hr=>H' (C' z z) z (x' IS z) (Jh _ _ _ _ _ _ _ _ _ _ _ J) z (⟨B,y,A,x⟩) ?_;cases K
 .exact Ζ
 exact Ζ
instance eZ'{B u r}:a ((FN B u)) r (∀ {i n k h},Cr 14 #[.agg ((fX B i n)).toArray,.agg ((fX u k h)).toArray] (λG=>sl gg G i n B.t/\sl gg G k h u.t) (λG v=>v=.bool r)):=.mk λhr {i n k h}=>by refine Ξ ?_;intro V q _ _ _ W T _ _ hr _;refine WC.mA hr [2,3] [2,3] [] [] (λ(A:Int)=>⟨A,[(5,i' A)],tr,[]⟩) (λ(_:Unit)=>⟨(.inr ()),[],tr,[]⟩) 0
instance ix'{c r}:u ((Kz c)) r (∀ {g f e d k i j h},Cr 45 #[.agg ((eR c g f e d k i j h)).toArray] (λG=>sq G g f c.k.eqs/\sq G e d c.k.δ/\sl c' G k i c.q.p/\sv G j h c.q.o) (λG v=>v=.bool r)):=.mk λhr {g f e d k i j h}=>by
 refine è ?_;intro w0 O _ _ _ p _ m s J hr t;refine WC.nB hr [1] [1] (λ(_:Unit)=>⟨[],JJ c,tr,[]⟩) ?_;intro B _ hr l _;refine WC.nB hr [1] [1] (λ(_:Unit)=>⟨[],Py c,tr,[]⟩) ?_;intro I _ hr o _;refine Ξ ?_;intro hr;refine oE hr λP x hr=>gR z z (x' ON z) (PA _ _ _ _ _ _ x) z (⟨(p.mono (mx l o)),(m.mono (mx l o))⟩) (λau ag q E=>?_);obtain⟨Q,R,K,M,rfl,A,y⟩:=E;refine ν z<|lM z ?_
 refine è ?_;intro _ _ hr;refine o'<|o'<|fA [ff,ff,ff,ff] eL (by kernel_rfl) λL=>cn (λ_ n=>y' 3 mZ z z z)<|oE hr λaw S hr=>uu z (λ_=>x' yp z) (yx _ _ _ _ _ _ S) z (λG' n=>⟨(A.mono n),(y.mono n)⟩)<|cn (λ_ n=>zm z)<|cn (λ_ n=>R' ((Ã c.k g f e d)).toArray 1 mZ z z z (mK ([i' c.id]) ((Ã c.k g f e d)) ([i' c.q.kind,ε k c.q.p i,ε j c.q.o h,i' c.υ,i' c.low,i' c.high,.bool c.done])))<|pz L<|oE hr λZ W hr=>H' z z (x' yp z) (yx _ _ _ _ _ _ W) z (⟨(p.mono (mx (mx l o) q)),(m.mono (mx (mx l o) q))⟩)<|Δ (Y0.Oa xG z z)<|t'<|Θ<|b'<|I' hr z (λN hr=>?_) (λN hr=>?_)
 .exact Ζ
 refine q'<|b'<|sr<|Δ (Gv z)<|Δ (R' ([i' c.q.kind,ε k c.q.p i,ε j c.q.o h]).toArray 1 re z z z (mK ([i' c.id,i' c.k.n,ε g c.k.eqs f,ε e c.k.δ d]) ([i' c.q.kind,ε k c.q.p i,ε j c.q.o h]) ([i' c.υ,i' c.low,i' c.high,.bool c.done])))<|Δ (y' 4 zt z z (U' _ _ _))<|oE hr λay U hr=>gR z z (x' X6 z) (go'.h U) z (⟨(s.mono (mx (mx l o) q)),(t.mono (mx (mx l o) q))⟩) (λav aD C F=>?_)
 obtain⟨ad,ac,af,ae,rfl,H,D⟩:=F;refine ν z<|lM z<|lM z<|W' 5 z z54 z λb4=>gp 5 oa z<|Ρ z<|o'<|fA [ff,ff,ff,ff,ff,ff,ff] eL (by kernel_rfl) λL=>fM z<|zw hr z (λ_ n=>eB z z) (λX hr=>?_) (λX hr=>?_)
 .refine Ξ ?_;intro hr;refine oE hr λaz T hr=>uu (C' z z) (λ_=>x' I0 z) (Kd _ _ _ _ _ _ T) z (λG' n=>⟨(H.mono n),(D.mono n)⟩) ?_;refine è ?_;intro hr;obtain⟨Y,V,hr⟩:=hr;have a:=mx (mx (mx l o) q) C;refine H' (C' z z) z (x' I0 z) (Kd _ _ _ _ _ _ V) z (⟨(s.mono a),(t.mono a)⟩)<|gy z z (Y0.uz xG z z) z<|Ι z<|Þ z<|t'<|Θ<|b'<|m' (Õ hr z z)
 exact Ζ
instance pR{l r}:C ((ET l)) r (∀ {i j},Cr 15 #[.agg ((fX l i j)).toArray] (λG=>sl gg G i j l.t) (λG v=>v=.bool r)):=.mk λhr {i j}=>by
 refine è ?_;intro Y O _ K hr _;refine WC.nB hr [1] [1] (λ(_:Unit)=>⟨[],PL l,tr,[]⟩) ?_;intro J _ hr L _;refine sr<|WL.makeMap (ky:=rz) (Rv:=mF Rp.bool J) 4023 z z λP ad aj=>?_
 refine Ξ ?_;intro hr;refine WC.mC hr [1,25,26,3] [1] [] [] (λ(⟨V,t,R,A⟩:Int×Int×(Ŀ (Ĳ×Bool))×ŀ Ow)=>⟨(V,t,R),[(4,i' V),(27,i' t)],λI=>Ø rz (mF Rp.bool I) (.map (some P)) R A,[(4023,A)]⟩) (λ(_:Unit)=>⟨(.inr ()),[],tr,[]⟩) ⟨0,0,[],ad⟩ ?_;rintro _ I ⟨V,t,R,A⟩ F T hr;refine sr<|kv z<|nx<|o'<|I' hr z (λaO hr=>?_) (λaO hr=>?_)
 .refine è ?_;intro c _ _ f _ g _ e _ d _ m _ n _ p _ o _ _ _ _ B _ x D Z hr H;refine WC.nD hr [1,6,25,26,27,3] [1,6,4023] (λ(_:Unit)=>⟨[],PK t R c,tr,[]⟩) ?_ ?_
  .refine Ξ ?_;intro _ _ X hr _;exact oA hr λU hr=>gy z z (Y0.lu (mk:=Value.bool) (k:=X) 4023 false (λh=>LX h) BP OL T z z z U) z<|Ζ
  intro aa _ hr q _;refine Ξ ?_;intro ag ab s au ak _ hr _;refine WC.mD hr [1,6,25,26,27,58,59,3] [1,6,4023] [1,6,25,26,27,3] [1,6,4023] (λ(E:Int)=>⟨E,[(60,i' E)],tr,[]⟩) (λ(_:Unit)=>⟨(.inr ()),[],tr,[]⟩) 0 ?_ ?_
  .intro _ Q E u _ hr;refine Ξ ?_;intro _ _ _ _ _ _ _ _ _ _ _ _ _ _ _ _ _ S hr _;exact oA hr λN hr=>Δ (Y0.lu (mk:=Value.bool) (k:=S) 4023 false (λh=>LX h) BP OL (Ø.mono T (mx (mx q s) u)) z z z N)<|Δ (kU z)<|Ζ
  intro M _ hr y _;refine b'<|sr<|ν z<|Δ (zm z)<|Δ (R' ((Ã c.k f g e d)).toArray 6 mZ z z z (mK ([i' c.id]) ((Ã c.k f g e d)) ([i' c.q.kind,ε m c.q.p n,ε p c.q.o o,i' c.υ,i' c.low,i' c.high,.bool c.done])))<|Δ (Gv z)<|Δ (R' ([i' c.q.kind,ε m c.q.p n,ε p c.q.o o]).toArray 6 re z z z (mK ([i' c.id,i' c.k.n,ε f c.k.eqs g,ε e c.k.δ d]) ([i' c.q.kind,ε m c.q.p n,ε p c.q.o o]) ([i' c.υ,i' c.low,i' c.high,.bool c.done]))) ?_
  obtain⟨af,ao,hr⟩:=hr;have a:=mx (mx q s) y;refine H' z z (x' IY z) (EW _ _ _ _ _ _ _ _ _ _ _ ao) z (⟨(B.mono a),(x.mono a),(D.mono a),(H.mono a)⟩) ?_;obtain⟨⟨W,aw⟩,hr⟩:=hr;exact WL.lO (Rv':=mF Rp.bool M) (k:=af) (z:=true) 4023 z BP (Ø.mono T a) z z z z W z (λ_ _ _ _ h=>h) aw λay ap=>nx<|w'<|Δ (GC z)<|Ζ
 exact Ζ
instance hG'{t u c r}:a ((J0 t u c)) r (∀ {B y x A p n D f g d e m l j i E},Cl 47 #[.agg ([i' t.kind,ε B t.p y,ε x t.o A]).toArray,iG D,iG E] [(5590,n),(103403,ú D ([.map (some p)]) 102),(103408,ú E (eR c f g d e m l j i) 56)] (λG=>sl c' G B y t.p/\sv G x A t.o/\Ø rz (mF Rp.bool G) (.map (some p)) u n/\sq G f g c.k.eqs/\sq G d e c.k.δ/\sl c' G m l c.q.p/\sv G j i c.q.o) (λG L v=>L=[(5590,n),(103403,ú D ([.map (some p)]) 102),(103408,ú E (eR c f g d e m l j i) 56)]/\v=.bool r)):=.mk λhr {B y x A p n D f g d e m l j i E}=>by
 refine rh (args:=[_,_,_]) (N:=12) func47 z z z (λS Q T H=>?_);obtain⟨F,I,C,s,q,K,M⟩:=H;refine sr<|jM 3 z z z λV=>Ρ z<|o'<|fA [ff,ff,ff,ff,ff] eL (by kernel_rfl) λR=>cn (λ_ o=>n' 103403 wj z z z)<|cn (λ_ o=>zm z)<|cn (λ_ o=>R' ((Ã c.k f g d e)).toArray 103408 mZ z z z (mK ([i' c.id]) ((Ã c.k f g d e)) ([i' c.q.kind,ε m c.q.p l,ε j c.q.o i,i' c.υ,i' c.low,i' c.high,.bool c.done])))<|cn (λ_ o=>y' 3 re z z z)<|oE hr λP J hr=>uu z (λ_=>x' IY z) (EW _ _ _ _ _ _ _ _ _ _ _ J) z (λU o=>⟨(s.mono o),(q.mono o),(F.mono o),(I.mono o)⟩)<|pz R<|oA hr λO hr=>Δ (Y0.lu (mk:=Value.bool) (k:=P) 5590 false (λh=>LX h) BP OL C z z z O) ?_
 refine è ?_;intro hr;obtain rfl:_=r:=hr;refine mO (S':=St S Q Q [(5590,n),(103403,ú D ([.map (some p)]) 102),(103408,ú E (eR c f g d e m l j i) 56)]) (w3 z z z)<|j' z z ⟨z,z⟩
instance dN'{t r}:a ((ZR t)) r (∀ {f e j h},Cl 49 #[.slice f j e,.func (.func 50) #[] #[]] [(5000,h)] (λG=>Γ gg 56 G (.slice f j e) t h) (λG L v=>∃ k,L=[(5000,k)]/\v=.tuple #[]/\Γ gg 56 G (.slice f j e) r k)):=.mk λhr {f e j h}=>by
 refine rh (args:=[_,_]) (N:=14) func49 z z z (λq A u m=>?_);have d:=m;have n:q.L.zero:=by rw[u];intro p o x B;simp only[Ď,ĝ,ţ]at o;subst o;exact BO d B
 refine sr<|ν z<|Δ (BT tC d z)<|Ρ z<|w' ?_
 refine è ?_;intro _ hr _;refine oE hr λE l hr=>mP z z (x' Yf z) (Za4 _ _ _ _ _ _ _ _ _ l) z (d) (lc z ln) n (λD s C y c=>?_);obtain⟨i,rfl,rfl,g⟩:=c;refine t'<|WE.iX ?_
 obtain rfl:_=r:=hr;refine mO (S':=St q A s [(5000,i)]) (w1 z)<|WE.iH z  ⟨_,z,z,g⟩
instance dt'{M J m r}:a ((ZW M J m)) r (∀ {I P o n u e f c d k j h g y},Cl 95 #[ε I M P,.func (.func 47) #[] #[iG u,iG y]] [(5590,n),(103403,ú u ([.map (some o)]) 102),(103408,ú y (eR m e f c d k j h g) 56)] (λG=>sl tD G I P M/\Ø rz (mF Rp.bool G) (.map (some o)) J n/\sq G e f m.k.eqs/\sq G c d m.k.δ/\sl c' G k j m.q.p/\sv G h g m.q.o) (λG L v=>L=[(5590,n),(103403,ú u ([.map (some o)]) 102),(103408,ú y (eR m e f c d k j h g) 56)]/\v=i' r)):=.mk λhr {I P o n u e f c d k j h g y}=>by
 refine rh (args:=[_,_]) (N:=19) func95 z z z (λK A X U=>?_);obtain⟨O,B,t,q,E,F⟩:=U;have hz:K.L.zero:=by
  rw[X];intro p Z x W;simp only[Ď,ĝ,ţ]at Z;rcases Z with rfl|rfl|rfl
  .exact Ø.zero B W
  .cases W;rfl
  cases W;rfl
 refine sr<|Ρ z<|o'<|sr<|ν z<|Δ (P' MJ O z)<|ν z<|nx<|WC.mD hr [0,1,7] [103403,103408,5590] [] [103403,103408,5590] (λ(s:Int)=>⟨s,[(8,i' s)],tr,[]⟩) (λ(_:Unit)=>⟨(.inr ()),[],tr,[]⟩) 0 ?_ ?_
 .intro _ C s l _ hr;refine Ξ ?_;intro _ _ _ _ _ _ _ _ _ _ _ _ _ _ V hr T;refine oE hr λam Y hr=>WL.lH z z (YC.xW XS z z) (hG'.h Y) z (⟨V,T,(Ø.mono B l),(t.mono l),(q.mono l),(E.mono l),(F.mono l)⟩) (lc z (lc z (lc z ln))) (λi hi=>by simp only[Ġ,ő,Ď,ĝ,ţ]at hi;rcases hi with rfl|rfl|rfl <;> exact z) hz (λai R Q H=>?_);subst H;refine nx<|kc hr z (λS hr=>?_) (λS hr=>?_)
  .refine Ξ ?_;intro hr;obtain rfl:_=r:=hr;refine mO (S':=St K A R [(5590,n),(103403,ú u ([.map (some o)]) 102),(103408,ú y (eR m e f c d k j h g) 56)]) (w3 z z z)<|j' z z ⟨z,z⟩
  exact Ζ
 intro D _ hr af _;refine b'<|sr<|Ρ z<|m' ?_
 obtain rfl:_=r:=hr;refine mO (S':=St K A D [(5590,n),(103403,ú u ([.map (some o)]) 102),(103408,ú y (eR m e f c d k j h g) 56)]) (w3 z z z)<|j' z z ⟨z,z⟩
instance dl'{F A g r}:a ((ZG F A g)) r (∀ {D E n m B e f c d l k j h C},Cl 48 #[ε D F E,.func (.func 47) #[] #[iG B,iG C]] [(5590,m),(103403,ú B ([.map (some n)]) 102),(103408,ú C (eR g e f c d l k j h) 56)] (λG=>sl tD G D E F/\Ø rz (mF Rp.bool G) (.map (some n)) A m/\sq G e f g.k.eqs/\sq G c d g.k.δ/\sl c' G l k g.q.p/\sv G j h g.q.o) (λG L v=>L=[(5590,m),(103403,ú B ([.map (some n)]) 102),(103408,ú C (eR g e f c d l k j h) 56)]/\v=.bool r)):=.mk λhr {D E n m B e f c d l k j h C}=>by
 refine rh (args:=[_,_]) (N:=9) func48 z z z (λO U R H=>?_);obtain⟨P,s,q,o,t,u⟩:=H;have W:O.L.zero:=by
  rw[R];intro p M x I;simp only[Ď,ĝ,ţ]at M;rcases M with rfl|rfl|rfl
  .exact Ø.zero s I
  .cases I;rfl
  cases I;rfl
 refine sr<|Þ z<|nr<|ν z<|ν z<|oE hr λV J hr=>WL.lH z z (x' Ye z) (dt'.h J) z (⟨P,s,q,o,t,u⟩) (lc z (lc z (lc z ln))) (λi Q=>by simp only[Ġ,ő,Ď,ĝ,ţ]at Q;rcases Q with rfl|rfl|rfl <;> exact z) W (λT K S y=>?_)
 subst y;refine Δ (vJ z z)<|Ρ z<|m' ?_
 obtain rfl:_=r:=hr;refine mO (S':=St O U K [(5590,m),(103403,ú B ([.map (some n)]) 102),(103408,ú C (eR g e f c d l k j h) 56)]) (w3 z z z)<|j' z z ⟨z,z⟩
instance gp'{J r}:ab ((ES J)) r (∀ {C D},Cr 17 #[.agg ((fX J C D)).toArray] (λG=>sl gg G C D J.t) (fS (Rp.int .i64) r)):=.mk λhr {C D}=>by
 refine Ξ ?_;intro w0 G0 ao b1 hr B;have hz:=tM (w0:=w0);refine WL.makeMap (ky:=rz) (Rv:=mF Rp.bool G0) 5590 z z λt a0 a6=>W' 103403 z OF z λp=>?_;refine è ?_;intro hr;refine nv (X:=Int×(Ŀ (Ĳ×Bool))×ŀ Ow×Mem) hr (λ⟨W,aq,aa,af⟩=>⟨(W,aq),[(1,iG b1),(3,iG p),(15,ε C J.t D),(16,i' (J.t.length:Int)),(17,i' W)],Mem.le G0 af/\Ø rz (mF Rp.bool af) (.map (some t)) aq aa,St w0 G0 af [(1,ú b1 (fX J C D) 26),(103403,ú p ([.map (some t)]) 102),(5590,aa)]⟩) (λ(⟨aU,E,a⟩:(Ŀ (Ĳ×Bool))×ŀ Ow×Mem)=>⟨aU,[(1,iG b1),(3,iG p)],Mem.le G0 a/\Ø rz (mF Rp.bool a) (.map (some t)) aU E,St w0 G0 a [(1,ú b1 (fX J C D) 26),(103403,ú p ([.map (some t)]) 102),(5590,E)]⟩) ⟨0,[],a0,G0⟩ z (Æ z) ⟨mr,a6⟩ (w3 z z z) ?_ ?_
 .rintro _ ⟨W,aq,aa,af⟩ ⟨V,aE⟩ hr;refine Ξ ?_;intro _ _ _ _ _ _ _ _ _ _ _ _ _ _ _ _ _ _ _ _ _ _ _ _ _ _ _ _ _ _ V a2 hr _;obtain⟨⟨bL,bm⟩,hr⟩:=hr;refine WL.lO (Rv':=mF Rp.bool af) (k:=a2) (z:=true) 5590 z BP aE z z z z bL z (λ_ _ _ _ h=>h) bm λbt bg=>t'<|Θ<|E'<|b'<|w'<|iM z<|ν z<|t'<|N' ⟨i64.wrap (W+1),(eV aq a2 true),bt,af⟩ hr ⟨V,bg⟩ (Æ z) (w3 z z z)
 rintro⟨aU,E,a⟩ ⟨hr,ay,bc⟩;refine Ξ ?_;intro hr;refine nv (X:=(Ŀ Ze)×ŀ Addr×Nat×ŀ Ow×Int×Mem) hr (λ⟨A,I,F,u,H,aj⟩=>⟨(A,H),[(3,iG p),(6,ε I A F),(31,ε C J.t D),(32,i' (J.t.length:Int)),(33,i' H)],Mem.le a aj/\Γ gg 56 aj (ε I A F) A u,St w0 G0 aj [(103403,ú p ([.map (some t)]) 102),(4006,u),(5590,E)]⟩) (λ(⟨e,ah,ai,ak,Q⟩:(Ŀ Ze)×ŀ Addr×Nat×ŀ Ow×Mem)=>⟨e,[(6,ε ah e ai)],Mem.le a Q/\Γ gg 56 Q (ε ah e ai) e ak,St w0 G0 Q [(4006,ak),(5590,E)]⟩) ⟨[],none,0,none,0,a⟩ z (Æ z) ⟨mr,Γ.nil⟩ (wk (lc z (lw (lc z ln)))) ?_ ?_
 .rintro _ ⟨A,I,F,u,H,aj⟩ ⟨y,U⟩ hr;refine sr<|kv z<|nx<|o'<|I' hr z (λbA hr=>?_) (λbA hr=>?_)
  .refine q'<|b'<|o'<|Y'<|sr<|oE hr λc a1 hr=>Δ (kd tC rb (B.mono (mx ay y)) z z a1) ?_
   obtain⟨m,l,d,f,s,o,q,n,bs,ar,al,aB,az⟩:=MM (T' (iK B a1) (mx ay y));refine Δ (ny _ uv z z bs)<|W' 103408 z yo z λb4=>gp 103408 rb z<|nr<|Δ (V4 z z)<|Þ z<|nr<|Δ (By z)<|dE hr z (l5 (n' 103408 sO z z z) (đ Value.bool (mS _))) z (λbO hr=>?_) (λbO hr=>?_)
   .exact Ζ
   refine Ξ ?_;intro _ _ _ g _ _ bl hr _;refine oE hr λch bh hr=>WL.lH (C' z z) z (x' XT z) (dl'.h bh) z (⟨bl,(Ø.mono bc (mx y g)),(ar.mono g),(al.mono g),(aB.mono g),(az.mono g)⟩) (lc z (lc z (lc z ln))) (λi hi=>by simp only[Ġ,ő,Ď,ĝ,ţ]at hi;rcases hi with rfl|rfl|rfl <;> exact z) hz (λb7 bK x aM=>?_);subst aM;refine gy z z (kU z) z<|Ι z<|nx<|kc hr z (λbG hr=>?_) (λbG hr=>?_)
   .exact Ζ
   exact Ζ
  exact Ζ
 rintro⟨e,ah,ai,ak,Q⟩ ⟨hr,bS,aW⟩;refine b'<|sr<|ν z<|oE hr λbH ba hr=>mm (λw hs=>hs.Ý (i:=4006) (j:=5000) z (by rw[ao];rfl))<|mP z z (x' XU z) (dN'.h ba) z (aW) (lc z ln) hz (λcc aR b9 bY aL=>?_)
 obtain⟨aQ,rfl,rfl,S⟩:=aL;refine mm (λw hs=>hs.Ý (i:=5000) (j:=4006) z (by rw[ao];rfl))<|nr<|Ρ z<|o'<|sr<|ν z<|Δ (BT tC S z)<|ν z<|nx<|nv (X:=(Ŀ Int)×ŀ Addr×Nat×ŀ Ow×Int×Mem) hr (λ⟨v,L,K,M,T,N⟩=>⟨(v,T),[(10,ε L v K),(61,ε ah e ai),(62,i' (bH.length:Int)),(63,i' T)],Mem.le aR N/\sl (Rp.int .i64) N L K v/\Tok 1 3 (ε L v K) v.length M,St w0 G0 N [(4006,aQ),(1010,M),(5590,E)]⟩) (λ(⟨O,Y,R,ad,P⟩:(Ŀ Int)×ŀ Addr×Nat×ŀ Ow×Mem)=>⟨O,[(10,ε Y O R)],Mem.le aR P/\sl (Rp.int .i64) P Y R O/\Tok 1 3 (ε Y O R) O.length ad,St w0 G0 P [(1010,ad),(5590,E)]⟩) ⟨[],none,0,none,0,aR⟩ z (Æ z) ⟨mr,(X' _ _),kV⟩ (wk (lc z (lw (lc z ln)))) ?_ ?_
 .rintro _ ⟨v,L,K,M,T,N⟩ ⟨Z,aC,ap⟩ hr;refine Ξ ?_;intro _ x1 hr a4;obtain⟨bo,br,be,a7,bT,bU,bX,bV,bu,bp,bj,bQ,bW⟩:=MM (AtK.mono (oj S a4) Z);refine Δ (vP _ uv (S.mono Z) (key:=4006) z z z (by decide) bu) ?_;refine è ?_;intro _ _ _ aJ bC hr;refine oA hr λa8 hr=>jN (r:=(Rp.int .i64)) 1010 z z zf M0 z (by decide) z z (aC.mono aJ) z (by rw[ao];rfl) ap bC a8 λp2 bI bi bD aY bF bd=>Þ z<|t'<|E'<|b'<|w'<|iM z<|ν z<|t'<|N' ⟨(v++[x1.id]),p2,bI,bi,i64.wrap (T+1),bD⟩ hr ⟨(mx (mx Z aJ) aY),bF,bd⟩ (Æ z) (w3 z z z)
 rintro⟨O,Y,R,ad,P⟩ ⟨hr,bR,aS,bq⟩;exact Ζ
set_option maxHeartbeats 2000000 in
instance dR'{r}:aR ((JH)) r (Cr 9 #[] (λG=>True) (λG v=>v=.bool r)):=.mk λhr=>by
 refine Ξ ?_;intro w0 G0 bl aI _ _ aA az bH hr _;refine mY (e:=50) (r:=(Rp.sl c')) (vs:=#[(0,ε aA aI.1 az)]) (cs:=[ε aA aI.1 az]++([])) ([aI.1]:Ŀ (Ŀ Za)) z z z z z (by decide) (λ_=>by kernel_rfl) ⟨[ε aA aI.1 az],[],z,⟨_,z,bH⟩,z⟩ (key:=999) z (by rw[bl];rfl) λp1 eD dD a6=>Δ (l4 (vs:=#[(0,i' 1),(1,.slice p1 1 1)]) (v:=.agg ([i' 1,.slice p1 1 1,.slice none 0 0]).toArray) z z (λ_=>by kernel_rfl))<|W' 3 z rB z λb1=>gp 3 tH z<|nx<|o'<|fA [ff,ff,ff,ff,ff,ff,tt,tt,ff] eL (by kernel_rfl) (λhb=>?_)
 refine oE hr λcw cV hr=>qB (post:=kC cw) (λ_=>z) (λ_ _=>x' HQ z) (M9.h cV) z (λg d=>trivial) (λv W V d h=>?_) ?_
 .obtain⟨a8,a7,rfl,ay⟩:=h;exact⟨_,_,z,ay.mono d⟩
 refine Ξ ?_;intro X hr _;refine oE hr λO cG hr=>mg (f:=27) (φ:=Ç O) (λ_=>z) (λv W V d h=>?_) (λu g d i=>?_) ?_
 .obtain⟨an,aq,rfl,S⟩:=h;exact⟨_,_,z,S.mono d⟩
 .obtain⟨⟨A,F,E,D,ce,av,aw⟩,⟨a8,a7,cd,ay⟩,_⟩:=(show(λG v=>∃ A F E D,v=.agg ([i' X.kind,ε A X.p F,ε E X.o D]).toArray/\sl c' G A F X.p/\sv G E D X.o) g.m (u 38)/\(kC cw) g.m (u 36)/\True from i);exact⟨_,_,_,λ_=>x' zX z,BX.h cG,(by simp only[ce,cd] <;> rfl),⟨ay,(a6.mono d),(X' (Rp.sl c') _),av,aw⟩⟩
 refine jr (φ:=Ç O) (λ_=>z) (λv W V d h=>?_) (λu g d i=>?_) ?_
 .obtain⟨p2,aJ,rfl,aE⟩:=h;exact⟨_,_,z,aE.mono d⟩
 .obtain⟨⟨an,aq,cc,S⟩,_,_,_⟩:=(show(Ç O) g.m (u 39)/\True/\True/\True from i);simp only[ς,cc];exact⟨_,k' z,an,aq,z,S⟩
 refine jr (φ:=kC O.1) (λ_=>z) (λv W V d h=>?_) (λu g d i=>?_) ?_
 .obtain⟨p3,cp,rfl,a⟩:=h;exact⟨_,_,z,a.mono d⟩
 .obtain⟨⟨p2,aJ,am,aE⟩,_,_,_,_⟩:=(show(Ç O) g.m (u 35)/\True/\True/\True/\True from i);simp only[ς,am];exact⟨_,O' z z,p2,aJ,z,aE⟩
 refine mi (c:=i' O.2.1) (λ_=>z) (λu g d i=>?_) ?_
 .obtain⟨_,⟨p2,aJ,am,aE⟩,_,_,_,_⟩:=(show True/\(Ç O) g.m (u 35)/\True/\True/\True/\True from i);simp only[ς,am];exact O' z z
 refine mi (c:=i' O.2.2) (λ_=>z) (λu g d i=>?_) ?_
 .obtain⟨_,⟨p2,aJ,am,aE⟩,_,_,_,_⟩:=(show True/\(Ç O) g.m (u 35)/\True/\True/\True/\True from i);simp only[ς,am];exact O' z z
 refine kI (λ_=>z) z26<|γ.nt (λew d2 dY dZ ee d7 X1 a1 bw bd bg bf bb bi=>?_)
 obtain⟨b2,rfl,cI⟩:=bw;obtain⟨p3,cp,rfl,a⟩:=bd;obtain⟨p2,aJ,rfl,aE⟩:=bg;obtain⟨an,aq,rfl,S⟩:=bf;obtain⟨A,F,E,D,rfl,av,aw⟩:=bb;obtain⟨a8,a7,rfl,ay⟩:=bi;refine om cI (lG (show WL _ _ _ _ _ _ (St w0 G0 X1.m _)from ?_));refine gp 4 tE z<|Þ z<|Þ z<|t'<|Θ<|b'<|o'<|fA [ff,ff,ff,ff,ff,ff,tt,tt,ff] eL (by kernel_rfl) λhb=>cn (λ_ d=>y' 4 l6 z z z)<|cn (λ_ d=>y' 3 mZ z z z)<|oE hr λY c8 hr=>qB (post:=λG v=>∃ C y B t,v=.agg ([i' Y.kind,ε C Y.p y,ε B Y.o t]).toArray/\sl c' G C y Y.p/\sv G B t Y.o) (λ_=>z) (λ_ _=>x' XQ z) (fM'.h c8) z (λg d=>trivial) (λv W V d h=>?_) ?_
 .obtain⟨C,y,B,t,rfl,ar,au⟩:=h;exact⟨_,_,_,_,z,ar.mono d,au.mono d⟩
 refine oE hr λaf cT hr=>mg (f:=27) (φ:=Ç af) (λ_=>z) (λv W V d h=>?_) (λu g d i=>?_) ?_
 .obtain⟨ao,ap,rfl,T⟩:=h;exact⟨_,_,z,T.mono d⟩
 .obtain⟨⟨C,y,B,t,ch,ar,au⟩,_⟩:=(show(λG v=>∃ C y B t,v=.agg ([i' Y.kind,ε C Y.p y,ε B Y.o t]).toArray/\sl c' G C y Y.p/\sv G B t Y.o) g.m (u 46)/\True from i);exact⟨_,_,_,λ_=>x' zX z,BX.h cT,(by simp only[ch] <;> rfl),⟨(a.mono d),((a6.mono a1).mono d),(X' (Rp.sl c') _),ar,au⟩⟩
 refine jr (φ:=Ç af) (λ_=>z) (λv W V d h=>?_) (λu g d i=>?_) ?_
 .obtain⟨p4,aG,rfl,aD⟩:=h;exact⟨_,_,z,aD.mono d⟩
 .obtain⟨⟨ao,ap,bZ,T⟩,_,_⟩:=(show(Ç af) g.m (u 47)/\True/\True from i);simp only[ς,bZ];exact⟨_,k' z,ao,ap,z,T⟩
 refine jr (φ:=kC af.1) (λ_=>z) (λv W V d h=>?_) (λu g d i=>?_) ?_
 .obtain⟨p5,da,rfl,bu⟩:=h;exact⟨_,_,z,bu.mono d⟩
 .obtain⟨⟨p4,aG,ag,aD⟩,_,_,_⟩:=(show(Ç af) g.m (u 43)/\True/\True/\True from i);simp only[ς,ag];exact⟨_,O' z z,p4,aG,z,aD⟩
 refine mi (c:=i' af.2.1) (λ_=>z) (λu g d i=>?_) ?_
 .obtain⟨_,⟨p4,aG,ag,aD⟩,_,_,_⟩:=(show True/\(Ç af) g.m (u 43)/\True/\True/\True from i);simp only[ς,ag];exact O' z z
 refine mi (c:=i' af.2.2) (λ_=>z) (λu g d i=>?_) ?_
 .obtain⟨_,⟨p4,aG,ag,aD⟩,_,_,_⟩:=(show True/\(Ç af) g.m (u 43)/\True/\True/\True from i);simp only[ς,ag];exact O' z z
 refine kI (λ_=>z) z26<|xQ (λeG dT d8 ed eh X2 R bI aV bh be bc=>?_)
 obtain⟨b3,rfl,c2⟩:=bI;obtain⟨p5,da,rfl,bu⟩:=aV;obtain⟨p4,aG,rfl,aD⟩:=bh;obtain⟨ao,ap,rfl,T⟩:=be;obtain⟨C,y,B,t,rfl,ar,au⟩:=bc;refine om c2 (lG (show WL _ _ _ _ _ _ (St w0 G0 X2.m _)from ?_));refine gp 7 tE z<|Þ z<|Þ z<|t'<|Θ<|b'<|sr<|Δ (y' 4 l6 z z z)<|ν z<|Δ (l4 (vs:=#[(0,i' 5),(2,i' 1)]) (v:=.agg ([i' 5,.slice none 0 0,i' 1,i' 0,i' 0,.slice none 0 0,.slice none 0 0,.slice none 0 0,.slice none 0 0]).toArray) z z (λ_=>by kernel_rfl))<|mY (e:=89) (r:=rV) (vs:=#[(0,.agg ([i' 5,.slice none 0 0,i' 1,i' 0,i' 0,.slice none 0 0,.slice none 0 0,.slice none 0 0,.slice none 0 0]).toArray)]) (cs:=[i' 5,.slice none 0 0,i' 1,i' 0,i' 0,.slice none 0 0,.slice none 0 0,.slice none 0 0,.slice none 0 0]++([])) ([(Zj.mk 5 [] 1 0 0 [] [] [] [])]:Ŀ Zj) z z z z z (by decide) (λ_=>by kernel_rfl) ⟨[i' 5,.slice none 0 0,i' 1,i' 0,i' 0,.slice none 0 0,.slice none 0 0,.slice none 0 0,.slice none 0 0],[],z,⟨[i' 5],[.slice none 0 0,i' 1,i' 0,i' 0,.slice none 0 0,.slice none 0 0,.slice none 0 0,.slice none 0 0],z,z,⟨[.slice none 0 0],[i' 1,i' 0,i' 0,.slice none 0 0,.slice none 0 0,.slice none 0 0,.slice none 0 0],z,⟨_,z,(X' _ _)⟩,⟨[i' 1],[i' 0,i' 0,.slice none 0 0,.slice none 0 0,.slice none 0 0,.slice none 0 0],z,z,⟨[i' 0],[i' 0,.slice none 0 0,.slice none 0 0,.slice none 0 0,.slice none 0 0],z,z,⟨[i' 0],[.slice none 0 0,.slice none 0 0,.slice none 0 0,.slice none 0 0],z,z,⟨[.slice none 0 0],[.slice none 0 0,.slice none 0 0,.slice none 0 0],z,⟨_,z,(X' _ _)⟩,⟨[.slice none 0 0],[.slice none 0 0,.slice none 0 0],z,⟨_,z,(X' _ _)⟩,⟨[.slice none 0 0],[.slice none 0 0],z,⟨_,z,(X' _ _)⟩,⟨_,z,(X' _ _)⟩⟩⟩⟩⟩⟩⟩⟩⟩,z⟩ (key:=999) z (by rw[bl];rfl) (λp6 eE s dl=>?_)
 refine oE hr λeo cf hr=>gR z z (x' IX z) (MU.h cf) z (⟨(a.mono (mx R s)),dl⟩) (λdG ex x aQ=>?_);obtain⟨cZ,cK,rfl,aZ⟩:=aQ;refine ν z<|lM z<|lM z<|W' 10 z z26 z λb4=>gp 10 tE z<|Ρ z<|o'<|fA [ff,ff,ff,ff,ff,ff,tt,tt,ff] eL (by kernel_rfl) λhb=>cn (λ_ d=>y' 4 l6 z z z)<|cn (λ_ d=>y' 3 mZ z z z) ?_
 refine è ?_;intro I hr _;refine oE hr λM ck hr=>mg (f:=27) (φ:=Ç M) (λ_=>z) (λv W V d h=>?_) (λu g d i=>?_) ?_
 .obtain⟨ab,ac,rfl,J⟩:=h;exact⟨_,_,z,J.mono d⟩
 .obtain⟨⟨j,l,k,q,bj,aj,ak⟩,_⟩:=(show(λG v=>∃ j l k q,v=.agg ([i' I.kind,ε j I.p l,ε k I.o q]).toArray/\sl c' G j l I.p/\sv G k q I.o) g.m (u 62)/\True from i);exact⟨_,_,_,λ_=>x' zX z,BX.h ck,(by simp only[bj] <;> rfl),⟨((a.mono (mx (mx R s) x)).mono d),((a6.mono (mx (mx (mx a1 R) s) x)).mono d),(X' (Rp.sl c') _),aj,ak⟩⟩
 refine jr (φ:=Ç M) (λ_=>z) (λv W V d h=>?_) (λu g d i=>?_) ?_
 .obtain⟨p7,aF,rfl,N⟩:=h;exact⟨_,_,z,N.mono d⟩
 .obtain⟨⟨ab,ac,bk,J⟩,_,_⟩:=(show(Ç M) g.m (u 63)/\True/\True from i);simp only[ς,bk];exact⟨_,k' z,ab,ac,z,J⟩
 refine jr (φ:=kC M.1) (λ_=>z) (λv W V d h=>?_) (λu g d i=>?_) ?_
 .obtain⟨p8,dx,rfl,ct⟩:=h;exact⟨_,_,z,ct.mono d⟩
 .obtain⟨⟨p7,aF,P,N⟩,_,_,_⟩:=(show(Ç M) g.m (u 59)/\True/\True/\True from i);simp only[ς,P];exact⟨_,O' z z,p7,aF,z,N⟩
 refine mi (c:=i' M.2.1) (λ_=>z) (λu g d i=>?_) ?_
 .obtain⟨_,⟨p7,aF,P,N⟩,_,_,_⟩:=(show True/\(Ç M) g.m (u 59)/\True/\True/\True from i);simp only[ς,P];exact O' z z
 refine mi (c:=i' M.2.2) (λ_=>z) (λu g d i=>?_) ?_
 .obtain⟨_,⟨p7,aF,P,N⟩,_,_,_⟩:=(show True/\(Ç M) g.m (u 59)/\True/\True/\True from i);simp only[ς,P];exact O' z z
 refine kI (λ_=>z) z26<|xQ (λeu dJ dS dK dB X3 ad bz aM a5 aT aX=>?_)
 obtain⟨b5,rfl,cW⟩:=bz;obtain⟨p8,dx,rfl,ct⟩:=aM;obtain⟨p7,aF,rfl,N⟩:=a5;obtain⟨ab,ac,rfl,J⟩:=aT;obtain⟨j,l,k,q,rfl,aj,ak⟩:=aX;refine om cW (lG (show WL _ _ _ _ _ _ (St w0 G0 X3.m _)from ?_));refine è ?_;intro _ _ _ U _ _ _ _ _ _ _ ai _ _ _ _ _ cA ax _ _ _ _ _ _ _ _ _ _ _ _ _ hr _;refine WC.nD hr [3,4] [3,4] (λ(_:Unit)=>⟨[],Jc aI O,tr,[]⟩) ?_ ?_
 .refine sr<|ν z<|dE hr z (qD z z) z (λdi hr=>?_) (λdi hr=>?_)
  .exact Ζ
  refine ν z<|kq z<|dE hr (C' z z) (qD z z) z (λdz hr=>?_) (λdz hr=>?_)
  .exact Ζ
  refine ο z<|ν z<|kq z<|dE hr (C' z z) (qD z z) z (λdt hr=>?_) (λdt hr=>?_)
  .exact Ζ
  refine ο z<|ν z<|kq z<|dE hr (C' z z) (qD z z) z (λdn hr=>?_) (λdn hr=>?_)
  .exact Ζ
  refine ο z<|ν z<|kq z<|dE hr (C' z z) (qD z z) z (λcQ hr=>?_) (λcQ hr=>?_)
  .exact Ζ
  refine ο z<|ν z<|kq z<|dE hr (C' z z) (qD z z) z (λc1 hr=>?_) (λc1 hr=>?_)
  .exact Ζ
  refine ο z<|ν z<|kq z<|kq z<|dE hr (C' z z) (qD z z) z (λcP hr=>?_) (λcP hr=>?_)
  .exact Ζ
  refine ο z<|ν z<|gy z z (y' 4 l6 z z z) z<|gy z z (y' 7 l6 z z z) z ?_
  obtain⟨cL,bT,hr⟩:=hr;have N1:=mx (mx (mx (mx (mx (mx R s) x) ad) U) ai) ax;refine H' (C' z z) z (x' XG z) (eZ'.h bT) z (⟨(a.mono N1),(bu.mono (mx (mx (mx (mx (mx s x) ad) U) ai) ax))⟩) ?_;cases cL
  .exact Ζ
  refine gy z z (kU z) z<|ο z<|ν z<|dE hr (C' z z) (l5 (k' z) (đ Value.bool (mS _))) z (λc9 hr=>?_) (λc9 hr=>?_)
  .refine gy z z (kU z) z<|ο z<|ν z<|gy z z (By z) z<|dE hr (C' z z) (l5 (n' 19 sO z z z) (đ Value.bool (mS _))) z (λc4 hr=>?_) (λc4 hr=>?_)
   .exact Ζ
   exact Ζ
  exact Ζ
 intro bJ _ hr a9 _;refine o'<|fA [ff,ff,ff,ff,ff,ff,tt,tt,ff] eL (by kernel_rfl) λhb=>cn (λ_ d=>y' 4 l6 z z z)<|cn (λ_ d=>y' 3 mZ z z z) ?_
 refine è ?_;intro H hr _;refine oE hr λK bW hr=>mg (f:=27) (φ:=Ç K) (λ_=>z) (λv W V d h=>?_) (λu g d i=>?_) ?_
 .obtain⟨Z,aa,rfl,L⟩:=h;exact⟨_,_,z,L.mono d⟩
 .obtain⟨⟨p,o,n,m,bm,ah,ae⟩,_⟩:=(show(λG v=>∃ p o n m,v=.agg ([i' H.kind,ε p H.p o,ε n H.o m]).toArray/\sl c' G p o H.p/\sv G n m H.o) g.m (u 141)/\True from i);have N2:=mx (mx (mx (mx (mx (mx (mx (mx a1 R) s) x) ad) U) ai) ax) a9;have N3:=mx (mx (mx (mx (mx (mx (mx R s) x) ad) U) ai) ax) a9;exact⟨_,_,_,λ_=>x' zX z,BX.h bW,(by simp only[bm] <;> rfl),⟨((a.mono N3).mono d),((a6.mono N2).mono d),(X' (Rp.sl c') _),ah,ae⟩⟩
 refine jr (φ:=Ç K) (λ_=>z) (λv W V d h=>?_) (λu g d i=>?_) ?_
 .obtain⟨p9,aH,rfl,aC⟩:=h;exact⟨_,_,z,aC.mono d⟩
 .obtain⟨⟨Z,aa,bs,L⟩,_,_⟩:=(show(Ç K) g.m (u 142)/\True/\True from i);simp only[ς,bs];exact⟨_,k' z,Z,aa,z,L⟩
 refine jr (φ:=kC K.1) (λ_=>z) (λv W V d h=>?_) (λu g d i=>?_) ?_
 .obtain⟨db,cE,rfl,aS⟩:=h;exact⟨_,_,z,aS.mono d⟩
 .obtain⟨⟨p9,aH,Q,aC⟩,_,_,_⟩:=(show(Ç K) g.m (u 138)/\True/\True/\True from i);simp only[ς,Q];exact⟨_,O' z z,p9,aH,z,aC⟩
 refine mi (c:=i' K.2.1) (λ_=>z) (λu g d i=>?_) ?_
 .obtain⟨_,⟨p9,aH,Q,aC⟩,_,_,_⟩:=(show True/\(Ç K) g.m (u 138)/\True/\True/\True from i);simp only[ς,Q];exact O' z z
 refine mi (c:=i' K.2.2) (λ_=>z) (λu g d i=>?_) ?_
 .obtain⟨_,⟨p9,aH,Q,aC⟩,_,_,_⟩:=(show True/\(Ç K) g.m (u 138)/\True/\True/\True from i);simp only[ς,Q];exact O' z z
 refine kI (λ_=>z) z26<|xQ (λet dP dW dF dL X4 ea bB aY a2 aL a0=>?_)
 obtain⟨b9,rfl,cN⟩:=bB;obtain⟨db,cE,rfl,aS⟩:=aY;obtain⟨p9,aH,rfl,aC⟩:=a2;obtain⟨Z,aa,rfl,L⟩:=aL;obtain⟨p,o,n,m,rfl,ah,ae⟩:=a0;refine om cN (lG (show WL _ _ _ _ _ _ (St w0 G0 X4.m _)from ?_));refine è ?_;intro hr;refine o'<|sr<|ν z<|Δ (qD z z)<|nx<|I' hr z (λdh hr=>?_) (λdh hr=>?_)
 .exact Ζ
 refine q'<|b'<|sr<|Δ (y' 21 l6 z z z)<|ν z<|Δ (l4 (vs:=#[(0,i' 12),(2,i' 5)]) (v:=.agg ([i' 12,.slice none 0 0,i' 5,i' 0,i' 0,.slice none 0 0,.slice none 0 0,.slice none 0 0,.slice none 0 0]).toArray) z z (λ_=>by kernel_rfl))<|Δ (l4 (vs:=#[(0,i' 12),(2,i' 7)]) (v:=.agg ([i' 12,.slice none 0 0,i' 7,i' 0,i' 0,.slice none 0 0,.slice none 0 0,.slice none 0 0,.slice none 0 0]).toArray) z z (λ_=>by kernel_rfl))<|mY (e:=89) (r:=rV) (vs:=#[(0,.agg ([i' 12,.slice none 0 0,i' 5,i' 0,i' 0,.slice none 0 0,.slice none 0 0,.slice none 0 0,.slice none 0 0]).toArray),(1,.agg ([i' 12,.slice none 0 0,i' 7,i' 0,i' 0,.slice none 0 0,.slice none 0 0,.slice none 0 0,.slice none 0 0]).toArray)]) (cs:=[i' 12,.slice none 0 0,i' 5,i' 0,i' 0,.slice none 0 0,.slice none 0 0,.slice none 0 0,.slice none 0 0]++([i' 12,.slice none 0 0,i' 7,i' 0,i' 0,.slice none 0 0,.slice none 0 0,.slice none 0 0,.slice none 0 0]++([]))) ([(Zj.mk 12 [] 5 0 0 [] [] [] []),(Zj.mk 12 [] 7 0 0 [] [] [] [])]:Ŀ Zj) z z z z z (by decide) (λ_=>by kernel_rfl) ⟨[i' 12,.slice none 0 0,i' 5,i' 0,i' 0,.slice none 0 0,.slice none 0 0,.slice none 0 0,.slice none 0 0],[i' 12,.slice none 0 0,i' 7,i' 0,i' 0,.slice none 0 0,.slice none 0 0,.slice none 0 0,.slice none 0 0]++([]),z,⟨[i' 12],[.slice none 0 0,i' 5,i' 0,i' 0,.slice none 0 0,.slice none 0 0,.slice none 0 0,.slice none 0 0],z,z,⟨[.slice none 0 0],[i' 5,i' 0,i' 0,.slice none 0 0,.slice none 0 0,.slice none 0 0,.slice none 0 0],z,⟨_,z,(X' _ _)⟩,⟨[i' 5],[i' 0,i' 0,.slice none 0 0,.slice none 0 0,.slice none 0 0,.slice none 0 0],z,z,⟨[i' 0],[i' 0,.slice none 0 0,.slice none 0 0,.slice none 0 0,.slice none 0 0],z,z,⟨[i' 0],[.slice none 0 0,.slice none 0 0,.slice none 0 0,.slice none 0 0],z,z,⟨[.slice none 0 0],[.slice none 0 0,.slice none 0 0,.slice none 0 0],z,⟨_,z,(X' _ _)⟩,⟨[.slice none 0 0],[.slice none 0 0,.slice none 0 0],z,⟨_,z,(X' _ _)⟩,⟨[.slice none 0 0],[.slice none 0 0],z,⟨_,z,(X' _ _)⟩,⟨_,z,(X' _ _)⟩⟩⟩⟩⟩⟩⟩⟩⟩,⟨[i' 12,.slice none 0 0,i' 7,i' 0,i' 0,.slice none 0 0,.slice none 0 0,.slice none 0 0,.slice none 0 0],[],z,⟨[i' 12],[.slice none 0 0,i' 7,i' 0,i' 0,.slice none 0 0,.slice none 0 0,.slice none 0 0,.slice none 0 0],z,z,⟨[.slice none 0 0],[i' 7,i' 0,i' 0,.slice none 0 0,.slice none 0 0,.slice none 0 0,.slice none 0 0],z,⟨_,z,(X' _ _)⟩,⟨[i' 7],[i' 0,i' 0,.slice none 0 0,.slice none 0 0,.slice none 0 0,.slice none 0 0],z,z,⟨[i' 0],[i' 0,.slice none 0 0,.slice none 0 0,.slice none 0 0,.slice none 0 0],z,z,⟨[i' 0],[.slice none 0 0,.slice none 0 0,.slice none 0 0,.slice none 0 0],z,z,⟨[.slice none 0 0],[.slice none 0 0,.slice none 0 0,.slice none 0 0],z,⟨_,z,(X' _ _)⟩,⟨[.slice none 0 0],[.slice none 0 0,.slice none 0 0],z,⟨_,z,(X' _ _)⟩,⟨[.slice none 0 0],[.slice none 0 0],z,⟨_,z,(X' _ _)⟩,⟨_,z,(X' _ _)⟩⟩⟩⟩⟩⟩⟩⟩⟩,z⟩⟩ (key:=999) z (by rw[bl];rfl) (λeH ez ci cY=>?_)
 refine oE hr λek cg hr=>gR z z (x' IX z) (MU.h cg) z (⟨(aS.mono ci),cY⟩) (λdU ev dX aK=>?_);obtain⟨cM,cO,rfl,aN⟩:=aK;refine ν z<|lM z<|lM z<|W' 24 z z26 z λeF=>gp 24 tE z<|Þ z<|nr<|Δ (y' 24 l6 z z z)<|ν z<|oE hr λd9 b0 hr=>gR z z (x' XJ z) (dm'.h b0) z (aN) (λdV el ds aP=>?_)
 obtain⟨bM,bL,bC,bt,cD,cr,cq,co,rfl,bP,bv,cv,cm⟩:=aP;refine ν z<|lM z<|lM z<|W' 26 z yo z λey=>gp 26 rb z<|Þ z<|nr<|ν z<|dE hr z (eB z z) z (λdA hr=>?_) (λdA hr=>?_)
 .refine ν z<|dE hr (C' z z) (l5 (k' z) (đ Value.bool (mS _))) z (λdp hr=>?_) (λdp hr=>?_)
  .refine Ι z<|ν z<|gy z z (cJ' z) z<|gy z z (n' 26 eN z z z) z<|dE hr (C' z z) (eB z z) z (λdd hr=>?_) (λdd hr=>?_)
   .refine Ι z<|ν z<|gy z z (BF z) z<|gy z z (n' 26 eN z z z) z<|dE hr (C' z z) (eB z z) z (λdq hr=>?_) (λdq hr=>?_)
    .refine Ι z<|ν z<|gy z z (By z) z<|dE hr (C' z z) (l5 (n' 26 sO z z z) (đ Value.bool (mS _))) z (λde hr=>?_) (λde hr=>?_)
     .exact Ζ
     refine gy z z (kU z) z<|Ι z<|ν z<|oE hr λej bS hr=>gR (C' z z) z (x' HQ z) (M9.h bS) z (trivial) (λdO eq dg aO=>?_)
     obtain⟨dj,df,rfl,bq⟩:=aO;refine oE hr λcU bX hr=>H' (C' z z) z (x' XH z) (pR.h bX) z (bq) ?_;cases cU
     .exact Ζ
     refine Ι z<|ν z<|oE hr λec bU hr=>gR (C' z z) z (x' HQ z) (M9.h bU) z (trivial) (λdC en dv a4=>?_)
     obtain⟨dm,dy,rfl,bo⟩:=a4;refine oE hr λei bY hr=>gR (C' z z) z (x' XI z) (gp'.h bY) z (bo) (λdI d5 dk aU=>?_);obtain⟨dM,dH,rfl,bR⟩:=aU;refine gy z z (P' zf bR z) z<|gy z z (eB z z) z<|Ι z<|Ρ z<|m' (Õ hr z z)
    exact Ζ
   exact Ζ
  exact Ζ
 exact Ζ
instance im'{r}:a ((Uo)) r (Cr 11 #[] (λG=>True) (kC r)):=.mk λhr=>Ζ
instance jk'{c r}:a ((F4 c)) r (Cr 118 #[.int .i8 c] (λG=>True) (λG v=>v=i' r)):=.mk λhr=>Ζ
end Go.Proofs.YtepbagkffgddlaaGreat

