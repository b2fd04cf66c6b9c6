/- The law SystemSolutions holds for every input: a part of its proof (what the code does, plain models, and what they return). No condition. -/
import Derived.Test.YtgllmhmhldlemaaGreatXS15e
set_option linter.unusedVariables false
set_option linter.unusedSimpArgs false
namespace Go.Proofs.YtgllmhmhldlemaaGreat
open Go.IntKind (i8 i16 i32 i64 u8 u16 u32 u64)
open Go.Proofs.Tryz
open Go Go.EL Go.RowKit Go.Proofs
theorem eD'{B I J O A y u r}(hr:(ZgF B I).Ret r):CtrL prog 82 #[sv0 J B O,sv0 y I u] [(5000,A)] (fun G=>RowR (Rp.int .u8) 5 G (sv0 J B O) B A/\sl (Rp.sl g') G y u I) (fun G L v=>∃ zp zc K,L=[(5000,K)]/\v=sv0 zp r zc/\RowR (Rp.int .u8) 5 G (sv0 zp r zc) r K):=by
 refine bl' (args:=[_,_]) (N:=24) func82 z z z (fun E U al Z=>?_)
 obtain⟨Q,i⟩:=Z
 have hz:E.L.zero:=by
  rw[al]; intro p hp x hx
  simp only[List.mem_cons,List.not_mem_nil,or_false] at hp
  subst hp; exact cC' Q hx
 refine sr<|sw0 z<|nr<|mw0 z<|mw0 z<|yw0 (D' al' i z)<|yw0 (K' aC' h' z)<|oE hr fun ad ab hr=>bo' z z (k' E120 z) (cT' ab) z (Q) (lc z ln) hz (fun ap o ao f m=>?_)
 obtain⟨Y,W,D,rfl,rfl,V⟩:=m
 refine sx1 z<|c'<|sr<|sx1 z<|aa' (X:=(List Int)×Option Addr×Nat×Option Ow×Int×Mem) hr (fun ⟨l,j,k,d,H,g⟩=>⟨(l,H),[(0,sv0 j l k),(1,sv0 y I u),(5,i' H)],Mem.le o g/\RowR (Rp.int .u8) 5 g (sv0 j l k) l d,St E U g [(5000,d)]⟩) (fun (⟨s,t,q,e,h⟩:(List Int)×Option Addr×Nat×Option Ow×Mem)=>⟨s,[(0,sv0 t s q)],Mem.le o h/\RowR (Rp.int .u8) 5 h (sv0 t s q) s e,St E U h [(5000,e)]⟩) ⟨ad,Y,W,D,0,o⟩ z (fz0 z) ⟨mr,V⟩ (w1 z) ?_ ?_
 .rintro _ ⟨l,j,k,d,H,g⟩ ⟨c,P⟩ hr
  refine c'<|sr<|mw0 z<|mw0 z<|yw0 (D' al' (i.mono (mx f c)) z)<|ls0 z<|nx<|I' hr z (fun am hr=>?_) (fun am hr=>?_)
  .refine t'<|b'<|c'<|U'<|w'<|mw0 z<|mw0 z<|mw0 z<|oE hr fun x1 M hr=>yw0 (Q' al' sz54 (i.mono (mx f c)) z z M) ?_
   obtain⟨p1,av,ag,ai⟩:=cw' (M' (ad' i M) (mx f c))
   refine yw0 (ac' sc54 z (ag))<|oE hr fun ac R hr=>bo' z z (k' E121 z) (fy' R) z (⟨P,ai⟩) (lc z ln) hz (fun au ah ar F n=>?_)
   obtain⟨S,T,C,rfl,rfl,aa⟩:=n
   refine sw0 z<|p'<|E'<|b'<|w'<|mw0 z<|ad0 z<|sw0 z<|p'<|O' ⟨ac,S,T,C,i64.wrap (H+1),ah⟩ hr ⟨(mx c F),aa⟩ (fz0 z) (w1 z)
  refine Z'<|f'<|f'<|F'<|ab' ⟨l,j,k,d,g⟩ ⟨hr,c,P⟩ (f1 z) (w1 z)
 rintro⟨s,t,q,e,h⟩ ⟨hr,an,ae⟩
 refine b'<|sr<|mw0 z<|sx1 z<|q' ?_
 obtain rfl:_=r:=hr
 refine bh' (S':=St E U h [(5000,e)]) (w1 z)<|o' z z ⟨_,_,_,z,z,ae⟩
theorem Ziw(y:(List Int))(q:Zg)(B:Option Addr)(D:Nat)(u:Option Ow)(g:Option Addr)(h:Nat)(d:Option Addr)(e:Nat)(r:(List Int))(hr:(Zic y q).Ret r):CtrL prog 41 #[sv0 B y D,.agg ((v46' q g h d e)).toArray] [(5000,u)] (fun G=>RowR (Rp.int .u8) 5 G (sv0 B y D) y u/\sl (Rp.sl g') G g h q.eqs/\sl (Rp.sl g') G d e q.neqs) (fun G L v=>∃ S U C,L=[(5000,C)]/\v=sv0 S r U/\RowR (Rp.int .u8) 5 G (sv0 S r U) r C):=by
 refine bl' (args:=[_,_]) (N:=15) func41 z z z (fun R G0 V M=>?_)
 obtain⟨F,s,n⟩:=M
 have hz:R.L.zero:=by
  rw[V]; intro p Q x hx
  simp only[List.mem_cons,List.not_mem_nil,or_false] at Q
  subst Q; exact cC' F hx
 refine sr<|ah' 3 z z z fun b2=>sx1 z<|c'<|WC.drawnBP (l:=permOps [0,1,2,4,5,7,8,3,6,9,10] _) (Zj3 (by kernel_rfl)) [(3,bk0 b2 (v46' q g h d e) 46)] (lc z ln) [ff,ff,ff,tt,tt,tt,tt] mix (by kernel_rfl) fun t=>cm0 z<|cn (fun _ E=>Y0.Zeo z)<|cn (fun _ E=>A' 3 sc3 z z z)<|cF' z (Y0.Zfq z)<|cF' z (A' 3 sc44 z z z)<|cF' z (Y0.Zfr z)<|cF' z (A' 3 sc44 z z z)<|Chain.tailB t<|WLT.one (fun w i=>i.weaken (lc z ln))<|oE hr fun ap P hr=>bo' z z (k' E83 z) (fn' P) z (F) (lc z ln) hz (fun Z an Y c m=>?_)
 obtain⟨ah,ae,X,rfl,rfl,K⟩:=m
 refine WLT.back<|WLT.one (fun w i=>(i.memLe t c).weaken (lc z ln))<|oE hr fun ao H hr=>bo' z z (k' E82 z) (eD' H) z (⟨K,(s.mono c)⟩) (lc z ln) hz (fun am ar al f o=>?_)
 obtain⟨aa,ab,W,rfl,rfl,O⟩:=o
 refine WLT.back<|WLT.one (fun w i=>(i.memLe t (mx c f)).weaken (lc z ln))<|oE hr fun aq J hr=>bo' z z (k' E82 z) (eD' J) z (⟨O,(n.mono (mx c f))⟩) (lc z ln) hz (fun ai T af j k=>?_)
 obtain⟨ac,ag,A,rfl,rfl,I⟩:=k
 refine WLT.back<|WLT.y0 (fun w i=>(i.memLe t (mx (mx c f) j)).weaken (lc z ln)) z (Y0.assign z) z<|WLT.nil (fun w i=>(i.memLe t (mx (mx c f) j)).weaken (lc z ln))<|ar'<|b'<|q' ?_
 obtain rfl:_=r:=hr
 refine bh' (S':=St R G0 T [(5000,A)]) (w1 z)<|o' z z ⟨_,_,_,z,z,I⟩
theorem Zdf(a1 b1:Zg)(a1eqsp:Option Addr)(a1eqsc:Nat)(a1neqsp:Option Addr)(a1neqsc:Nat)(b1eqsp:Option Addr)(b1eqsc:Nat)(b1neqsp:Option Addr)(b1neqsc:Nat)(r:Bool)(hr:(ZcV a1 b1).Ret r):Ctr prog 16 #[.agg ([.int .i64 a1.n,.slice a1eqsp a1.eqs.length a1eqsc,.slice a1neqsp a1.neqs.length a1neqsc]).toArray,.agg ([.int .i64 b1.n,.slice b1eqsp b1.eqs.length b1eqsc,.slice b1neqsp b1.neqs.length b1neqsc]).toArray] (fun G=>SlR (Rp.sl Zk) G (.slice a1eqsp a1.eqs.length a1eqsc) a1.eqs/\SlR (Rp.sl Zk) G (.slice a1neqsp a1.neqs.length a1neqsc) a1.neqs/\SlR (Rp.sl Zk) G (.slice b1eqsp b1.eqs.length b1eqsc) b1.eqs/\SlR (Rp.sl Zk) G (.slice b1neqsp b1.neqs.length b1neqsc) b1.neqs) (fun G v=>v = .bool r):=by
 refine Ctr.enter (args:=[_,_]) (N:=14) func16 rfl rfl rfl (fun w0 G0 hL0 hpre=>?_)
 obtain⟨a1eqsh,a1neqsh,b1eqsh,b1neqsh⟩:=hpre
 refine sr ?_
 refine WL.box 2 Ze rfl rfl (fun b1'=>?_)
 refine WL.box 3 Ze rfl rfl (fun b2'=>?_)
 refine sg rfl rfl<|nx<|WC.seq ?_
 obtain⟨yv1,hyv1,yv2,hyv2,hr⟩:=hr
 replace hr:_=r:=hr
 subst hr
 refine WC.drawn [false,false,false,false,false,false,false,false,false] mix (by kernel_rfl) (fun hb=>?_)
 refine Chain.litOwn (r:=Rp.int .u8) (e:=5) ([]:List Int) (fun _=>Ze) rfl (by decide) (fun u G' hle hu=>?_) ?_
 .exact⟨#[],[],rfl,rfl,fun _=>by kernel_rfl,rfl⟩
 refine cu (fun _ _ hle=>Y0.loadLA 2 ag46 rfl rfl rfl) ?_
 refine Chain.callEatR (f:=41) (kk:=5) (r:=Rp.int .u8) (e:=5) (xs:=([]:List Int)) (r':=Rp.int .u8) (e':=5) yv1 (fun _=>Ze) rfl (by kernel_rfl) (by kernel_rfl) (fun u G' hle hu=>?_) ?_
 .obtain⟨yu,_⟩:=(show (RowX (Rp.int .u8) 5 5 ([]:List Int)) (u 5) G'/\True from hu)
  exact⟨u 5,yu,fun p c tk e1 h1=>⟨_,_,_,fun _=>YC.of E41 rfl,Ziw _ _ p c tk _ _ _ _ _ hyv1,by simp only[undFr,e1] <;> rfl,h1,a1eqsh.mono hle,a1neqsh.mono hle⟩⟩
 refine Chain.y0UD (c:=.string (bytesOf yv1)) (fun _=>Ze) (fun u G' hle hu=>?_) ?_
 .obtain⟨⟨p,c,e1,h1⟩,_⟩:=(show SlX (Rp.int .u8) yv1 G'.m (u 7)/\_ from hu)
  simp only[undFr,e1]
  exact Y0.convBS underlying23 underlying5 underlying9 h1 rfl
 refine Chain.litOwn (r:=Rp.int .u8) (e:=5) ([]:List Int) (fun _=>Ze) rfl (by decide) (fun u G' hle hu=>?_) ?_
 .exact⟨#[],[],rfl,rfl,fun _=>by kernel_rfl,rfl⟩
 refine cu (fun _ _ hle=>Y0.loadLA 3 ag46 rfl rfl rfl) ?_
 refine Chain.callEatR (f:=41) (kk:=9) (r:=Rp.int .u8) (e:=5) (xs:=([]:List Int)) (r':=Rp.int .u8) (e':=5) yv2 (fun _=>Ze) rfl (by kernel_rfl) (by kernel_rfl) (fun u G' hle hu=>?_) ?_
 .obtain⟨yu,_⟩:=(show (RowX (Rp.int .u8) 5 9 ([]:List Int)) (u 9) G'/\_ from hu)
  exact⟨u 9,yu,fun p c tk e1 h1=>⟨_,_,_,fun _=>YC.of E41 rfl,Ziw _ _ p c tk _ _ _ _ _ hyv2,by simp only[undFr,e1] <;> rfl,h1,b1eqsh.mono hle,b1neqsh.mono hle⟩⟩
 refine Chain.y0UD (c:=.string (bytesOf yv2)) (fun _=>Ze) (fun u G' hle hu=>?_) ?_
 .obtain⟨⟨p,c,e1,h1⟩,_⟩:=(show SlX (Rp.int .u8) yv2 G'.m (u 11)/\_ from hu)
  simp only[undFr,e1]
  exact Y0.convBS underlying23 underlying5 underlying9 h1 rfl
 refine Chain.y0U (c:=.bool (decide (bytesOf yv1=bytesOf yv2))) (fun _=>Ze) (fun u G' hle=>Y0.eqlS underlying9 rfl rfl) ?_
 refine Chain.tailX4 (fun v4 v3 v2 v1 X Xle h4 h3 h2 h1=>?_)
 refine WL.unX (show WL _ _ _ _ _ _ (St w0 G0 X.m _) from ?_)
 refine sg rfl rfl<|WL.nil<|WE.nx<|WE.then<|WC.ret ?_
 exact WE.ret1 rfl rfl rfl
theorem cJ'{h g f r}(hr:(Zcx h).Ret r):Ctr prog 85 #[sv0 g h f] (fun G=>sl (Rp.int .u32) G g f h) (wl' (Rp.int .u32) r):=by
 refine B' (args:=[_]) (N:=21) func85 z z z (fun q j x n=>?_)
 have e:=n
 refine sr<|sw0 z<|nr<|mw0 z<|yw0 (D' a' e z)<|sx1 z<|c'<|aa' (X:=Int×Mem) hr (fun ⟨i,d⟩=>⟨i,[(0,sv0 g h f),(3,i' i)],Mem.le j d,St q j d []⟩) (fun (⟨o,k⟩:Int×Mem)=>⟨o,[(0,sv0 g h f),(3,i' o)],Mem.le j k,St q j k []⟩) ⟨(h.length:Int),j⟩ z (fz0 z) mr (wk ln) ?_ ?_
 .rintro _ ⟨i,d⟩ c hr
  refine c'<|sr<|mw0 z<|aQ' hr z (aL' z z) z (fun t hr=>?_) (fun t hr=>?_)
  .refine mw0 z<|gm0 z<|gm0 z<|gy z z (ap' z z) z<|oE hr fun A m hr=>gy z z (Q' a' R' (e.mono c) z z m) z<|gy z z (ac' au' z (ak' (M' (ad' e m) c))) z<|gy z z (aK' z z) z<|pt00 z<|nx<|I' hr z (fun u hr=>?_) (fun u hr=>?_)
   .refine t'<|b'<|U'<|w'<|mw0 z<|yw0 (ap' z z)<|sw0 z<|p'<|E'<|O' ⟨i64.wrap (i-1),d⟩ hr c (fz0 z) (wk ln)
   refine Z'<|f'<|f'<|F'<|ab' ⟨i,d⟩ ⟨hr,c⟩ (fz0 z) (wk ln)
  refine mw0 z<|sn6 z<|pf00 z<|nx<|bJ' z<|Z'<|f'<|f'<|F'<|ab' ⟨i,d⟩ ⟨hr,c⟩ (fz0 z) (wk ln)
 rintro⟨o,k⟩ ⟨hr,l⟩
 refine b'<|sr<|mw0 z<|mw0 z<|oA hr fun p hr=>dE' (r:=(Rp.int .u32)) z z a' R' z (e.mono l) z z p fun y v s=>sx1 z<|q' ?_
 obtain rfl:_=r:=hr
 exact o' z z ⟨_,_,z,s⟩
theorem dq'{c r}(hr:(ZdL c).Ret r):Ctr prog 45 #[.int .u64 c] (fun G=>True) (wl' (Rp.int .u32) r):=by
 refine B' (args:=[_]) (N:=11) func45 z z z fun v t i o=>sr<|sw0 z<|nr<|mw0 z<|yw0 (aV' z z (by decide))<|yw0 (K' h' m' z)<|mw0 z<|yw0 (bv' z z (by decide))<|yw0 (K' h' m' z)<|aO' (e:=139) (r:=(Rp.int .u32)) (vs:=#[(0,.int .u32 (u32.wrap (Int.tmod c 4294967296))),(1,.int .u32 (u32.wrap (u64.wrap (Int.tdiv c 4294967296))))]) (cs:=[.int .u32 (u32.wrap (Int.tmod c 4294967296))]++([.int .u32 (u32.wrap (u64.wrap (Int.tdiv c 4294967296)))]++([]))) ([u32.wrap (Int.tmod c 4294967296),u32.wrap (u64.wrap (Int.tdiv c 4294967296))]:List Int) z z z z z (by decide) (fun _=>by kernel_rfl) ⟨[.int .u32 (u32.wrap (Int.tmod c 4294967296))],[.int .u32 (u32.wrap (u64.wrap (Int.tdiv c 4294967296)))]++([]),z,z,⟨[.int .u32 (u32.wrap (u64.wrap (Int.tdiv c 4294967296)))],[],z,z,z⟩⟩ (key:=999) z (by rw[i]; rfl) (fun u p k h=>?_)
 refine oE hr fun q g hr=>y' z z (k' E85 z) (cJ' g) z (h) (fun l s j d=>?_)
 obtain⟨n,m,rfl,f⟩:=d
 refine sx1 z<|q' ?_
 obtain rfl:_=r:=hr
 exact o' z z ⟨_,_,z,f⟩
theorem bS'{h m k j r}(hr:(ZaJ h m).Ret r):Ctr prog 44 #[.bool h,sv0 k m j] (fun G=>sl (Rp.int .u32) G k j m) (w38' r):=by
 refine B' (args:=[_,_]) (N:=16) func44 z z z (fun A y u l=>?_)
 have o:=l
 refine sr<|P' 4 z z38 z fun x=>nr<|mw0 z<|oE hr fun c n hr=>y' z z (k' E85 z) (cJ' n) z (o) (fun s t q g=>?_)
 obtain⟨e,d,rfl,f⟩:=g
 refine sw0 z<|nr<|aQ' hr z (Y0.eq (n' z) (congrArg Value.bool (bdec _))) z (fun p hr=>?_) (fun p hr=>?_)
 .refine mw0 z<|gm0 z<|gy z z (D' a' f z) z<|gy z z (aL' z z) z<|pt00 z<|mw0 z<|yw0 (ax' (vs:=#[(0,.bool (decide (0<(c.length:Int)))),(1,sv0 e c d)]) (v:=.agg ([.bool (decide (0<(c.length:Int))),sv0 e c d]).toArray) z z (fun _=>by kernel_rfl))<|stB 4 aA' z<|nx<|q' ?_
  obtain rfl:_=r:=hr
  exact o' z (af' (i:=4) W' z z z) ⟨_,_,z,f⟩
 refine mw0 z<|sn3 z<|pf00 z<|mw0 z<|yw0 (ax' (vs:=#[(0,.bool false),(1,sv0 e c d)]) (v:=.agg ([.bool false,sv0 e c d]).toArray) z z (fun _=>by kernel_rfl))<|stB 4 aA' z<|nx<|q' ?_
 obtain rfl:_=r:=hr
 exact o' z (af' (i:=4) W' z z z) ⟨_,_,z,f⟩
theorem dK'{u r}(hr:(Zkk u).Ret r):Ctr prog 19 #[i' u] (fun G=>True) (w38' r):=by
 refine B' (args:=[_]) (N:=16) func19 z z z fun Y X V K=>sr<|P' 2 z z38 z fun W=>nx<|c'<|sr<|mw0 z<|ls0 z<|nx<|I' hr z (fun v hr=>?_) (fun v hr=>?_)
 .refine sr<|mw0 z<|ad0 z<|yw0 (Y0.neg z)<|yw0 (K' aU' h' z)<|ad0 z<|oE hr fun Q o hr=>y' z z (k' E45 z) (dq' o) z (trivial) (fun C M B d=>?_)
  obtain⟨I,F,rfl,n⟩:=d
  refine oE hr fun O j hr=>y' z z (k' E44 z) (bS' j) z (n) (fun L T A g=>?_)
  obtain⟨s,q,rfl,e⟩:=g
  refine stB 2 aA' z<|nx<|q'<|j' ?_
  obtain rfl:_=r:=hr
  exact o' z (af' (i:=2) W' z z z) ⟨_,_,z,e⟩
 refine t'<|b'<|sr<|mw0 z<|yw0 (K' aU' h' z)<|oE hr fun S m hr=>y' z z (k' E45 z) (dq' m) z (trivial) (fun J U y c=>?_)
 obtain⟨D,H,rfl,l⟩:=c
 refine oE hr fun P k hr=>y' z z (k' E44 z) (bS' k) z (l) (fun E R x f=>?_)
 obtain⟨p,t,rfl,h⟩:=f
 refine stB 2 aA' z<|nx<|q' ?_
 obtain rfl:_=r:=hr
 exact o' z (af' (i:=2) W' z z z) ⟨_,_,z,h⟩
theorem cM'{q r}(hr:(Zbl q).Ret r):Ctr prog 6 #[i' q] (fun G=>True) (w40' r):=by
 refine B' (args:=[_]) (N:=7) func6 z z z fun E D B u=>sr<|P' 2 z z40 z fun C=>nr<|mw0 z<|oE hr fun m p hr=>y' z z (k' E19 z) (dK' p) z (trivial) (fun t y s g=>?_)
 obtain⟨c,d,rfl,j⟩:=g
 refine oE hr fun l o hr=>y' z z (k' E19 z) (dK' o) z (trivial) (fun x A n k=>?_)
 obtain⟨f,e,rfl,h⟩:=k
 refine yw0 (ax' (vs:=#[(0,.agg ((v38' m c d)).toArray),(1,.agg ((v38' l f e)).toArray)]) (v:=.agg ([.bool m.neg,sv0 c m.mag d,.bool l.neg,sv0 f l.mag e]).toArray) z z (fun _=>by kernel_rfl))<|stB 2 bk' z<|nx<|q' ?_
 obtain rfl:_=r:=hr
 exact o' z (af' (i:=2) aN' z z z) ⟨_,_,_,_,z,(j.mono n),h⟩
theorem eR'{f d c r}(hr:(Zia f).Ret r):Ctr prog 51 #[.agg ((v38' f d c)).toArray] (fun G=>sl (Rp.int .u32) G d c f.mag) (fun G v=>v=i' r):=by
 refine B' (args:=[_]) (N:=9) func51 z z z (fun k l i g=>?_)
 have e:=g
 refine sr<|ah' 1 z z z fun j=>sx1 z<|c'<|sr<|yw0 (aw' z)<|yw0 (A' 1 sc4 z z z)<|nx<|aX' hr z (fun h hr=>?_) (fun h hr=>?_)
 .refine sr<|sx1 z<|q'<|j' (k0' hr z z)
 refine t'<|b'<|sr<|yw0 (ai' z)<|yw0 (A' 1 aE' z z z)<|yw0 (D' a' e z)<|yw0 (Y0.min2 z z)<|sx1 z<|q' (k0' hr z z)
theorem ei'{h d c f e r}(hr:(ZbR h).Ret r):Ctr prog 24 #[.agg ((v40' h d c f e)).toArray] (fun G=>sl (Rp.int .u32) G d c h.num.mag/\sl (Rp.int .u32) G f e h.den.mag) (fun G v=>v=i' r):=by
 refine B' (args:=[_]) (N:=6) func24 z z z (fun o p m j=>?_)
 obtain⟨g,i⟩:=j
 refine sr<|ah' 1 z z z fun n=>sw0 z<|nr<|yw0 (aT' z)<|yw0 (ag' ((v38' h.num d c)).toArray 1 W' z z z (aq' ([]) ((v38' h.num d c)) ((v38' h.den f e))))<|oE hr fun l k hr=>T' z z (k' E51 z) (eR' k) z (g)<|sx1 z<|q' (k0' hr z z)
theorem fc'{h g c d f r}(hr:(ZgD h).Ret r):Ctr prog 28 #[.agg ((v40' h g c d f)).toArray] (fun G=>sl (Rp.int .u32) G g c h.num.mag/\sl (Rp.int .u32) G d f h.den.mag) (wl' g' r):=by
 refine B' (args:=[_]) (N:=9) func28 z z z (fun y u n k=>?_)
 obtain⟨j,i⟩:=k
 refine sr<|ah' 1 z z z fun t=>sx1 z<|c'<|sr<|yw0 (C' 1 aN' z z z)<|oE hr fun q l hr=>T' z z (k' E24 z) (ei' l) z (⟨j,i⟩)<|yw0 (aK' z z)<|nx<|I' hr z (fun o hr=>?_) (fun o hr=>?_)
 .refine sr<|sx1 z<|q'<|j' ?_
  obtain rfl:_=r:=hr
  exact o' z z ⟨_,_,z,(ay' g' _)⟩
 refine t'<|b'<|sr<|yw0 (C' 1 aN' z z z)<|yw0 (ax' (vs:=#[(0,.agg ((v40' h g c d f)).toArray)]) (v:=.agg (((v40' h g c d f):List Value)++(vi8 (fun _=>0))).toArray) z z (fun _=>by kernel_rfl))<|aO' (e:=91) (r:=g') (vs:=#[(0,.agg (((v40' h g c d f):List Value)++(vi8 (fun _=>0))).toArray)]) (cs:=(((v40' h g c d f):List Value)++(vi8 (fun _=>0)))++([])) ([(Za.mk h (fun _=>0))]:List Za) z z z z z (by decide) (fun _=>by kernel_rfl) ⟨((v40' h g c d f):List Value)++(vi8 (fun _=>0)),[],z,⟨(v40' h g c d f),vi8 (fun _=>0),z,⟨(v38' h.num g c),(v38' h.den d f),z,⟨[.bool h.num.neg],[sv0 g h.num.mag c],z,z,⟨_,z,j⟩⟩,⟨[.bool h.den.neg],[sv0 d h.den.mag f],z,z,⟨_,z,i⟩⟩⟩,z⟩,z⟩ (key:=999) z (by rw[n]; rfl) fun x s p m=>sx1 z<|q' ?_
 obtain rfl:_=r:=hr
 exact o' z z ⟨_,_,z,m⟩
theorem fv'{j r}(hr:(ZgC j).Ret r):Ctr prog 92 #[.agg (vi8 j).toArray] (fun G=>True) (fun G v=>v = .bool r):=by
 refine B' (args:=[_]) (N:=18) func92 z z z fun m e t q=>sr<|ah' 1 z z z fun k=>sx1 z<|c'<|sr<|sx1 z<|aa' (X:=Int×Mem) hr (fun ⟨g,c⟩=>⟨g,[(1,pt0 k),(3,i' g)],Mem.le e c,St m e c [(1,bk0 k (vi8 j) 77)]⟩) (fun (s:Mem)=>match s with|f=>⟨(.inr ()),[],Mem.le e f,St m e f []⟩) ⟨0,e⟩ z (fz0 z) mr (w1 z) ?_ ?_
 .rintro _ ⟨g,c⟩ d hr
  refine c'<|sr<|mw0 z<|ls0 z<|nx<|I' hr z (fun o hr=>?_) (fun o hr=>?_)
  .refine t'<|b'<|c'<|U'<|sr<|mw0 z<|oA hr fun h hr=>yw0 (bn' av' sz3 z z h)<|yw0 (A' 1 sc3 z z (br' _ _ _ h))<|aQ' hr z (ae' z z) z (fun n hr=>?_) (fun n hr=>?_)
   .refine mw0 z<|sn4 z<|pt00 z<|nx<|aR' z<|sr<|sx1 z<|q'<|H'<|j'<|j'<|H'<|az'<|j' (k0' hr z z)
   refine mw0 z<|gm0 z<|oA hr fun i hr=>gy z z (bn' av' sz3 z z i) z<|gy z z (A' 1 sc3 z z (br' _ _ _ i)) z<|gy z z (aL' z z) z<|pf00 z<|nx<|I' hr z (fun l hr=>?_) (fun l hr=>?_)
   .exact (show False from hr).elim
   refine t'<|E'<|b'<|w'<|mw0 z<|ad0 z<|sw0 z<|p'<|O' ⟨i64.wrap (g+1),c⟩ hr d (fz0 z) (w1 z)
  refine Z'<|f'<|f'<|F'<|ab' c ⟨hr,d⟩ fn (wk ln)
 rintro f ⟨hr,p⟩
 refine b'<|sr<|sx1 z<|q' (k0' hr z z)
theorem fB'{q k r}(hr:(Zjt q k).Ret r):Ctr prog 57 #[.agg (vi8 q).toArray,.agg (vi8 k).toArray] (fun G=>True) (fun G v=>v = .tuple #[.agg (vi8 r.1).toArray,i' r.2]):=by
 refine B' (args:=[_,_]) (N:=24) func57 z z z fun A l J H=>sr<|ah' 2 z z z fun m=>ah' 3 z z z fun t=>P' 4 z z77 z fun n=>sx1 z<|c'<|sr<|sx1 z<|aa' (X:=Int×(Fin 8->Int)×Mem) hr (fun ⟨d,c,f⟩=>⟨(d,c),[(2,pt0 m),(3,pt0 t),(4,pt0 n),(6,i' d)],Mem.le l f,St A l f [(2,bk0 m (vi8 c) 77),(3,bk0 t (vi8 k) 77),(4,bk0 n (vi8 (fun _=>0)) 77)]⟩) (fun (⟨e,h⟩:(Fin 8->Int)×Mem)=>⟨e,[(2,pt0 m),(4,pt0 n)],Mem.le l h,St A l h [(2,bk0 m (vi8 e) 77),(4,bk0 n (vi8 (fun _=>0)) 77)]⟩) ⟨0,q,l⟩ z (fz0 z) mr (w3 z z z) ?_ ?_
 .rintro _ ⟨d,c,f⟩ j hr
  refine c'<|sr<|mw0 z<|ls0 z<|nx<|I' hr z (fun y hr=>?_) (fun y hr=>?_)
  .refine t'<|b'<|c'<|U'<|aj' [ff,ff,ff,ff,ff,ff] mix (by kernel_rfl) fun F=>cm0 z<|oA hr fun o hr=>cn (fun _ g=>bn' av' sz3 z z o)<|cn (fun _ g=>A' 2 sc3 z z (br' _ _ _ o))<|cm0 z<|oA hr fun p hr=>cn (fun _ g=>bn' av' sz3 z z p)<|cn (fun _ g=>A' 3 sc3 z z (br' _ _ _ p))<|am' F<|ad0 z<|oA hr fun C hr=>yw0 (bn' av' sz3 z z C)<|cr' 2 (vi8 (setF c d.toNat (i64.wrap ((getF c d)+(getF k d))))).toArray z sz3 z z z (by first|(rw[an']; omega)|(show _<(vecG _ _ _).toArray.size; rw[an']; omega)) z (Za5 _ _ _ _ _)<|p'<|ar'<|E'<|b'<|w'<|mw0 z<|ad0 z<|sw0 z<|p'<|O' ⟨i64.wrap (d+1),setF c d.toNat (i64.wrap ((getF c d)+(getF k d))),f⟩ hr j (fz0 z) (w3 z z z)
  refine Z'<|f'<|f'<|F'<|ab' ⟨c,f⟩ ⟨hr,j⟩ (fz0 z) (w2 z z)
 rintro⟨e,h⟩ ⟨hr,E⟩
 refine b'<|c'<|sr<|yw0 (C' 2 bt' z z (an' _ _ _))<|oE hr fun I s hr=>T' z z (k' E92 z) (fv' s) z (trivial)<|yw0 (bf' z)<|nx<|aX' hr z (fun D hr=>?_) (fun D hr=>?_)
 .exact (show False from hr).elim
 refine t'<|b'<|sr<|yw0 (C' 2 bt' z z (an' _ _ _))<|x' 4 z sz77 z z z (an' _ _ _) (an' _ _ _) (fun u B=>Rp.one (Rp.vec .i64 8) (G:=h) (x:=e) (cs:=vi8 e) z u (by first|simpa using B|simpa [Value.cells] using B))<|sx1 z<|q' ?_
 obtain rfl:_=r:=hr
 exact aW' z (af' (i:=4) bt' z z (an' _ _ _)) z z
theorem fw'{d c t o s u r}(hr:(ZjK d c).Ret r):Ctr prog 49 #[sv0 t d o,sv0 s c u] (fun G=>sl (Rp.int .u32) G t o d/\sl (Rp.int .u32) G s u c) (wl' (Rp.int .u32) r):=by
 refine B' (args:=[_,_]) (N:=69) func49 z z z (fun W L ap ag=>?_)
 obtain⟨A,p⟩:=ag
 refine sr<|sw0 z<|nr<|mw0 z<|yw0 (D' a' A z)<|mw0 z<|yw0 (D' a' p z)<|ad0 z<|oA hr fun ak hr=>bj' (r:=(Rp.int .u32)) (e:=139) (n:=i64.wrap ((d.length:Int)+(c.length:Int))) (zx:=0) 4015 z z a' bO' z (by decide) (by decide) z z z ak fun J af an=>sx1 z<|c'<|sr<|sx1 z<|aa' (X:=(List Int)×Option Ow×Int×Mem) hr (fun ⟨E,k,h,y⟩=>⟨(E,h),[(0,sv0 t d o),(1,sv0 s c u),(5,.slice J (i64.wrap ((d.length:Int)+(c.length:Int))).toNat ((i64.wrap ((d.length:Int)+(c.length:Int))).toNat)),(6,i' h)],Mem.le L y/\RowR (Rp.int .u32) 139 y (.slice J (i64.wrap ((d.length:Int)+(c.length:Int))).toNat ((i64.wrap ((d.length:Int)+(c.length:Int))).toNat)) E k,St W L y [(4015,k)]⟩) (fun (⟨K,D,Q⟩:(List Int)×Option Ow×Mem)=>⟨K,[(5,.slice J (i64.wrap ((d.length:Int)+(c.length:Int))).toNat ((i64.wrap ((d.length:Int)+(c.length:Int))).toNat))],Mem.le L Q/\RowR (Rp.int .u32) 139 Q (.slice J (i64.wrap ((d.length:Int)+(c.length:Int))).toNat ((i64.wrap ((d.length:Int)+(c.length:Int))).toNat)) K D,St W L Q [(4015,D)]⟩) ⟨(List.replicate (i64.wrap ((d.length:Int)+(c.length:Int))).toNat 0),af,0,L⟩ z (fz0 z) ⟨mr,an⟩ (w1 z) ?_ ?_
 .rintro _ ⟨E,k,h,y⟩ ⟨g,O⟩ hr
  refine c'<|sr<|mw0 z<|mw0 z<|yw0 (D' a' (A.mono g) z)<|ls0 z<|nx<|I' hr z (fun aq hr=>?_) (fun aq hr=>?_)
  .refine t'<|b'<|c'<|U'<|sr<|sx1 z<|c'<|sr<|sx1 z<|aa' (X:=(List Int)×Option Ow×Int×Int×Mem) hr (fun ⟨B,q,l,x,F⟩=>⟨(B,l,x),[(0,sv0 t d o),(1,sv0 s c u),(5,.slice J (i64.wrap ((d.length:Int)+(c.length:Int))).toNat ((i64.wrap ((d.length:Int)+(c.length:Int))).toNat)),(6,i' h),(7,.int .u64 l),(8,i' x)],Mem.le y F/\RowR (Rp.int .u32) 139 F (.slice J (i64.wrap ((d.length:Int)+(c.length:Int))).toNat ((i64.wrap ((d.length:Int)+(c.length:Int))).toNat)) B q,St W L F [(4015,q)]⟩) (fun (⟨H,C,v,I⟩:(List Int)×Option Ow×Int×Mem)=>⟨(H,v),[(0,sv0 t d o),(1,sv0 s c u),(5,.slice J (i64.wrap ((d.length:Int)+(c.length:Int))).toNat ((i64.wrap ((d.length:Int)+(c.length:Int))).toNat)),(6,i' h),(7,.int .u64 v)],Mem.le y I/\RowR (Rp.int .u32) 139 I (.slice J (i64.wrap ((d.length:Int)+(c.length:Int))).toNat ((i64.wrap ((d.length:Int)+(c.length:Int))).toNat)) H C,St W L I [(4015,C)]⟩) ⟨E,k,0,0,y⟩ z (fz0 z) ⟨mr,O⟩ (w1 z) ?_ ?_
   .rintro _ ⟨B,q,l,x,F⟩ ⟨j,m⟩ hr
    refine c'<|sr<|mw0 z<|mw0 z<|yw0 (D' a' (p.mono (mx g j)) z)<|ls0 z<|nx<|I' hr z (fun am hr=>?_) (fun am hr=>?_)
    .refine t'<|b'<|c'<|U'<|c'<|aj' [ff,ff,ff,ff,ff,ff,ff,ff,ff,ff,ff,ff,ff,ff,ff,ff,ff,ff,ff,ff] mix (by kernel_rfl) fun hb=>cm0 z<|cm0 z<|oE hr fun Y aa hr=>cn (fun _ f=>Q' a' R' ((A.mono (mx g j)).mono f) z z aa)<|cn (fun _ f=>ac' au' z (ak' (M' (M' (ad' A aa) (mx g j)) f)))<|cn (fun _ f=>K' m' h' z)<|cm0 z<|cm0 z<|oE hr fun U Z hr=>cn (fun _ f=>Q' a' R' ((p.mono (mx g j)).mono f) z z Z)<|cn (fun _ f=>ac' au' z (ak' (M' (M' (ad' p Z) (mx g j)) f)))<|cn (fun _ f=>K' m' h' z)<|cn (fun _ f=>bE' z z)<|cm0 z<|cm0 z<|cm0 z<|cn (fun _ f=>J' z z)<|oE hr fun T ab hr=>cn (fun _ f=>aB' a' R' (m.mono f) z z ab)<|cn (fun _ f=>cP' au' (m.mono f) (key:=4015) z z (ak' (dl' m ab)))<|cn (fun _ f=>K' m' h' z)<|cn (fun _ f=>J' z z)<|cm0 z<|am' hb<|ad0 z<|sw0 z<|p'<|ar'<|b'<|sr<|mw0 z<|mw0 z<|mw0 z<|ad0 z<|mw0 z<|yw0 (aV' z z (by decide))<|yw0 (K' h' m' z)<|oE hr fun x5 ad hr=>yw0 (aB' a' R' m z z ad)<|aI' (r:=(Rp.int .u32)) (e:=139) (cs':=[.int .u32 (u32.wrap (Int.tmod (u64.wrap ((u64.wrap ((u64.wrap ((u64.wrap Y)*(u64.wrap U)))+(u64.wrap T)))+l)) 4294967296))]) (i:=i64.wrap (h+x)) (z':=u32.wrap (Int.tmod (u64.wrap ((u64.wrap ((u64.wrap ((u64.wrap Y)*(u64.wrap U)))+(u64.wrap T)))+l)) 4294967296)) 4015 z R' z m z z z z z ad fun ao ah=>nx<|w'<|mw0 z<|yw0 (bv' z z (by decide))<|sw0 z<|p'<|E'<|b'<|w'<|mw0 z<|ad0 z<|sw0 z<|p'<|O' ⟨(B.set (i64.wrap (h+x)).toNat (u32.wrap (Int.tmod (u64.wrap ((u64.wrap ((u64.wrap ((u64.wrap Y)*(u64.wrap U)))+(u64.wrap T)))+l)) 4294967296))),ao,u64.wrap (Int.tdiv (u64.wrap ((u64.wrap ((u64.wrap ((u64.wrap Y)*(u64.wrap U)))+(u64.wrap T)))+l)) 4294967296),i64.wrap (x+1),F⟩ hr ⟨j,ah⟩ (fz0 z) (w1 z)
    refine Z'<|f'<|f'<|F'<|ab' ⟨B,q,l,F⟩ ⟨hr,j,m⟩ (fz0 z) (w1 z)
   rintro⟨H,C,v,I⟩ ⟨hr,P,M⟩
   refine b'<|w'<|mw0 z<|mw0 z<|mw0 z<|yw0 (D' a' (p.mono (mx g P)) z)<|ad0 z<|mw0 z<|yw0 (K' h' m' z)<|oE hr fun x1 ac hr=>yw0 (aB' a' R' M z z ac)<|aI' (r:=(Rp.int .u32)) (e:=139) (cs':=[.int .u32 (u32.wrap v)]) (i:=i64.wrap (h+(c.length:Int))) (z':=u32.wrap v) 4015 z R' z M z z z z z ac fun al aj=>p'<|E'<|b'<|w'<|mw0 z<|ad0 z<|sw0 z<|p'<|O' ⟨(H.set (i64.wrap (h+(c.length:Int))).toNat (u32.wrap v)),al,i64.wrap (h+1),I⟩ hr ⟨(mx g P),aj⟩ (fz0 z) (w1 z)
  refine Z'<|f'<|f'<|F'<|ab' ⟨E,k,y⟩ ⟨hr,g,O⟩ (f1 z) (w1 z)
 rintro⟨K,D,Q⟩ ⟨hr,ar,V⟩
 refine b'<|sr<|mw0 z<|aY' (r:=(Rp.int .u32)) (e:=139) 4015 V z (by rw[ap]; rfl) (fun aC aB aw S au=>?_)
 refine oE hr fun aD ai hr=>y' z z (k' E85 z) (cJ' ai) (by rw[bs' S]) ((bq' S)) (fun ay aE av R=>?_)
 obtain⟨aA,az,rfl,ae⟩:=R
 refine sx1 z<|q' ?_
 obtain rfl:_=r:=hr
 exact o' z z ⟨_,_,z,ae⟩
theorem dt'{A t j f g e r}(hr:(Zeg A t).Ret r):Ctr prog 21 #[.agg ((v38' A j f)).toArray,.agg ((v38' t g e)).toArray] (fun G=>sl (Rp.int .u32) G j f A.mag/\sl (Rp.int .u32) G g e t.mag) (w38' r):=by
 refine B' (args:=[_,_]) (N:=16) func21 z z z (fun T R M y=>?_)
 obtain⟨o,p⟩:=y
 refine sr<|ah' 2 z z z fun U=>ah' 3 z z z fun Q=>P' 4 z z38 z fun V=>nx<|c'<|aj' [ff,ff,ff,ff,ff,ff,ff,ff,ff,ff] mix (by kernel_rfl) fun P=>cn (fun _ c=>aw' z)<|cn (fun _ c=>A' 2 sc4 z z z)<|cn (fun _ c=>aw' z)<|cn (fun _ c=>A' 3 sc4 z z z)<|cn (fun _ c=>dm' ba' z z)<|cn (fun _ c=>ai' z)<|cn (fun _ c=>A' 2 aE' z z z)<|cn (fun _ c=>ai' z)<|cn (fun _ c=>A' 3 aE' z z z)<|oE hr fun q B hr=>at' (post:=wl' (Rp.int .u32) q) (fun _=>z) (fun _ _=>k' E49 z) (fw' B) z (fun O c=>⟨(o.mono c),(p.mono c)⟩) (fun v W S c h=>?_) ?_
 .obtain⟨x,u,rfl,k⟩:=h
  exact⟨_,_,z,k.mono c⟩
 refine aF' (d:=14) (post:=wl' (Rp.int .u32) q) (fun H J F l=>?_)
 obtain⟨x,u,rfl,k⟩:=l
 refine oE hr fun K s hr=>y' z z (k' E44 z) (bS' s) z (k) (fun I L E n=>?_)
 obtain⟨D,C,rfl,m⟩:=n
 refine stB 4 aA' z<|p'<|ar'<|b'<|q' ?_
 obtain rfl:_=r:=hr
 exact o' z (af' (i:=4) W' z z z) ⟨_,_,z,m⟩
theorem cu'{g i e d r}(hr:(Zcy g i).Ret r):Ctr prog 86 #[sv0 e g d,i' i] (fun G=>sl (Rp.int .u32) G e d g) (fun G v=>v = .int .u64 r):=by
 refine B' (args:=[_,_]) (N:=14) func86 z z z (fun l n k h=>?_)
 have c:=h
 refine sr<|sx1 z<|c'<|sr<|mw0 z<|mw0 z<|yw0 (D' a' c z)<|ls0 z<|nx<|I' hr z (fun j hr=>?_) (fun j hr=>?_)
 .refine sr<|mw0 z<|mw0 z<|oE hr fun m f hr=>yw0 (Q' a' R' c z z f)<|yw0 (ac' au' z (ak' (ad' c f)))<|yw0 (K' m' h' z)<|sx1 z<|q'<|j' (k0' hr z z)
 refine t'<|b'<|sr<|sx1 z<|q' (k0' hr z z)
theorem ew'{g e d r}(hr:(ZfL g).Ret r):Ctr prog 123 #[sv0 e g d] (fun G=>sl (Rp.int .u32) G e d g) (fun G v=>v = .int .u64 r):=by
 refine B' (args:=[_]) (N:=9) func123 z z z (fun m n l h=>?_)
 have c:=h
 refine sr<|sw0 z<|nr<|mw0 z<|oE hr fun j i hr=>T' z z (k' E86 z) (cu' i) z (c)<|yw0 (bE' z z)<|mw0 z<|oE hr fun k f hr=>T' z z (k' E86 z) (cu' f) z (c)<|ad0 z<|sx1 z<|q' (k0' hr z z)
theorem fo'{j i r}(hr:(ZiC j i).Ret r):Ctr prog 122 #[.int .u64 j,.int .u64 i] (fun G=>True) (fun G v=>v = .int .u64 r):=by
 refine B' (args:=[_,_]) (N:=14) func122 z z z fun m h q p=>sr<|sx1 z<|c'<|aa' (X:=Int×Int×Mem) hr (fun ⟨g,e,c⟩=>⟨(g,e),[(0,.int .u64 g),(1,.int .u64 e)],Mem.le h c,St m h c []⟩) (fun (⟨k,f⟩:Int×Mem)=>⟨k,[(0,.int .u64 k)],Mem.le h f,St m h f []⟩) ⟨j,i,h⟩ z (fz0 z) mr (wk ln) ?_ ?_
 .rintro _ ⟨g,e,c⟩ d hr
  refine c'<|sr<|mw0 z<|yw0 (aL' z z)<|nx<|I' hr z (fun n hr=>?_) (fun n hr=>?_)
  .refine t'<|b'<|U'<|sr<|mw0 z<|mw0 z<|oA hr fun l hr=>yw0 (aV' z z l)<|sw0 z<|nr<|mw0 z<|sx1 z<|w'<|mw0 z<|sw0 z<|p'<|E'<|O' ⟨e,Int.tmod g e,c⟩ hr d (fz0 z) (wk ln)
  refine Z'<|f'<|f'<|F'<|ab' ⟨g,c⟩ ⟨hr,d⟩ (f1 z) (wk ln)
 rintro⟨k,f⟩ ⟨hr,o⟩
 refine b'<|sr<|mw0 z<|sx1 z<|q' (k0' hr z z)
theorem eb'{m o j n h l r}(hr:(Zel m o).Ret r):Ctr prog 47 #[sv0 j m n,sv0 h o l] (fun G=>sl (Rp.int .u32) G j n m/\sl (Rp.int .u32) G h l o) (fun G v=>v=i' r):=by
 refine B' (args:=[_,_]) (N:=41) func47 z z z (fun D i J y=>?_)
 obtain⟨e,f⟩:=y
 refine sr<|sx1 z<|c'<|sr<|mw0 z<|yw0 (D' a' e z)<|mw0 z<|yw0 (D' a' f z)<|ls0 z<|nx<|I' hr z (fun F hr=>?_) (fun F hr=>?_)
 .refine sr<|sx1 z<|q'<|j' (k0' hr z z)
 refine t'<|b'<|c'<|sr<|mw0 z<|yw0 (D' a' e z)<|mw0 z<|yw0 (D' a' f z)<|yw0 (aL' z z)<|nx<|I' hr z (fun C hr=>?_) (fun C hr=>?_)
 .refine sr<|sx1 z<|q'<|j' (k0' hr z z)
 refine t'<|b'<|c'<|sr<|mw0 z<|yw0 (D' a' e z)<|yw0 (ap' z z)<|sx1 z<|aa' (X:=Int×Mem) hr (fun ⟨p,g⟩=>⟨p,[(0,sv0 j m n),(1,sv0 h o l),(5,i' p)],Mem.le i g,St D i g []⟩) (fun (I:Mem)=>match I with|k=>⟨(.inr ()),[],Mem.le i k,St D i k []⟩) ⟨i64.wrap ((m.length:Int)-1),i⟩ z (fz0 z) mr (wk ln) ?_ ?_
 .rintro _ ⟨p,g⟩ d hr
  refine c'<|sr<|mw0 z<|yw0 (bc' z z)<|nx<|I' hr z (fun E hr=>?_) (fun E hr=>?_)
  .refine t'<|b'<|c'<|U'<|c'<|c'<|aj' [ff,ff,ff,ff,ff,ff,ff,ff] mix (by kernel_rfl) fun x=>cm0 z<|cm0 z<|oE hr fun O u hr=>cn (fun _ c=>Q' a' R' ((e.mono d).mono c) z z u)<|cn (fun _ c=>ac' au' z (ak' (M' (M' (ad' e u) d) c)))<|cm0 z<|cm0 z<|oE hr fun M s hr=>cn (fun _ c=>Q' a' R' ((f.mono d).mono c) z z s)<|cn (fun _ c=>ac' au' z (ak' (M' (M' (ad' f s) d) c)))<|am' x<|ls0 z<|p'<|ar'<|b'<|I' hr z (fun B hr=>?_) (fun B hr=>?_)
   .refine sr<|sx1 z<|q'<|j'<|H'<|j'<|j'<|H'<|az'<|j' (k0' hr z z)
   refine t'<|b'<|c'<|aj' [ff,ff,ff,ff,ff,ff,ff,ff] mix (by kernel_rfl) fun x=>cm0 z<|cm0 z<|oE hr fun L q hr=>cn (fun _ c=>Q' a' R' ((e.mono d).mono c) z z q)<|cn (fun _ c=>ac' au' z (ak' (M' (M' (ad' e q) d) c)))<|cm0 z<|cm0 z<|oE hr fun K t hr=>cn (fun _ c=>Q' a' R' ((f.mono d).mono c) z z t)<|cn (fun _ c=>ac' au' z (ak' (M' (M' (ad' f t) d) c)))<|am' x<|yw0 (aL' z z)<|p'<|ar'<|b'<|I' hr z (fun A hr=>?_) (fun A hr=>?_)
   .refine sr<|sx1 z<|q'<|H'<|j'<|j'<|H'<|az'<|j' (k0' hr z z)
   refine t'<|E'<|b'<|w'<|mw0 z<|yw0 (ap' z z)<|sw0 z<|p'<|O' ⟨i64.wrap (p-1),g⟩ hr d (fz0 z) (wk ln)
  refine Z'<|f'<|f'<|F'<|ab' g ⟨hr,d⟩ fn (wk ln)
 rintro k ⟨hr,H⟩
 refine b'<|sr<|sx1 z<|q' (k0' hr z z)
theorem fj'{c m B C r}(hr:(ZhO c m).Ret r):Ctr prog 144 #[sv0 B c C,.int .u64 m] (fun G=>sl (Rp.int .u32) G B C c) (fun G v=>∃ A x,v = .tuple #[sv0 A r.1 x,.int .u64 r.2]/\sl (Rp.int .u32) G A x r.1):=by
 refine B' (args:=[_,_]) (N:=41) func144 z z z (fun U u V M=>?_)
 have p:=M
 refine sr<|sw0 z<|sw0 z<|nr<|mw0 z<|yw0 (D' a' p z)<|oA hr fun R hr=>bj' (r:=(Rp.int .u32)) (e:=139) (n:=(c.length:Int)) (zx:=0) 4012 z z a' bO' z (by decide) (by decide) z z z R fun E L W=>sw0 z<|nr<|sx1 z<|c'<|sr<|mw0 z<|yw0 (D' a' p z)<|yw0 (ap' z z)<|sx1 z<|aa' (X:=(List Int)×Option Ow×Int×Int×Mem) hr (fun ⟨h,d,f,t,k⟩=>⟨(h,f,t),[(0,sv0 B c C),(1,.int .u64 m),(6,.slice E (c.length:Int).toNat ((c.length:Int).toNat)),(7,.int .u64 f),(8,i' t)],Mem.le u k/\RowR (Rp.int .u32) 139 k (.slice E (c.length:Int).toNat ((c.length:Int).toNat)) h d,St U u k [(4012,d)]⟩) (fun (⟨o,j,y,q⟩:(List Int)×Option Ow×Int×Mem)=>⟨(o,y),[(6,.slice E (c.length:Int).toNat ((c.length:Int).toNat)),(7,.int .u64 y)],Mem.le u q/\RowR (Rp.int .u32) 139 q (.slice E (c.length:Int).toNat ((c.length:Int).toNat)) o j,St U u q [(4012,j)]⟩) ⟨(List.replicate (c.length:Int).toNat 0),L,0,i64.wrap ((c.length:Int)-1),u⟩ z (fz0 z) ⟨mr,W⟩ (w1 z) ?_ ?_
 .rintro _ ⟨h,d,f,t,k⟩ ⟨g,l⟩ hr
  refine c'<|sr<|mw0 z<|yw0 (bc' z z)<|nx<|I' hr z (fun Y hr=>?_) (fun Y hr=>?_)
  .refine t'<|b'<|c'<|U'<|sr<|mw0 z<|yw0 (bE' z z)<|mw0 z<|mw0 z<|oE hr fun H J hr=>yw0 (Q' a' R' (p.mono g) z z J)<|yw0 (ac' au' z (ak' (M' (ad' p J) g)))<|yw0 (K' m' h' z)<|ad0 z<|sw0 z<|nr<|mw0 z<|mw0 z<|mw0 z<|mw0 z<|oA hr fun T hr=>yw0 (bv' z z T)<|yw0 (K' h' m' z)<|oE hr fun x2 I hr=>yw0 (aB' a' R' l z z I)<|aI' (r:=(Rp.int .u32)) (e:=139) (cs':=[.int .u32 (u32.wrap (u64.wrap (Int.tdiv (u64.wrap ((u64.wrap (f*4294967296))+(u64.wrap H))) m)))]) (i:=t) (z':=u32.wrap (u64.wrap (Int.tdiv (u64.wrap ((u64.wrap (f*4294967296))+(u64.wrap H))) m))) 4012 z R' z l z z z z z I fun S P=>nx<|w'<|mw0 z<|mw0 z<|oA hr fun Q hr=>yw0 (aV' z z Q)<|sw0 z<|p'<|E'<|b'<|w'<|mw0 z<|yw0 (ap' z z)<|sw0 z<|p'<|O' ⟨(h.set t.toNat (u32.wrap (u64.wrap (Int.tdiv (u64.wrap ((u64.wrap (f*4294967296))+(u64.wrap H))) m)))),S,Int.tmod (u64.wrap ((u64.wrap (f*4294967296))+(u64.wrap H))) m,i64.wrap (t-1),k⟩ hr ⟨g,P⟩ (fz0 z) (w1 z)
  refine Z'<|f'<|f'<|F'<|ab' ⟨h,d,f,k⟩ ⟨hr,g,l⟩ (fz0 z) (w1 z)
 rintro⟨o,j,y,q⟩ ⟨hr,Z,F⟩
 refine b'<|sr<|mw0 z<|aY' (r:=(Rp.int .u32)) (e:=139) 4012 F z (by rw[V]; rfl) (fun ah ag ac D aa=>?_)
 refine oE hr fun ai O hr=>y' z z (k' E85 z) (cJ' O) (by rw[bs' D]) ((bq' D)) (fun ad aj ab s=>?_)
 obtain⟨af,ae,rfl,K⟩:=s
 refine mw0 z<|sw0 z<|sx1 z<|q' ?_
 obtain rfl:_=r:=hr
 exact aW' z z z ⟨_,_,z,K⟩
theorem en'{e f i g h j r}(hr:(Ze9 e f).Ret r):Ctr prog 124 #[sv0 i e g,sv0 h f j] (fun G=>sl (Rp.int .u32) G i g e/\sl (Rp.int .u32) G h j f) (fun G v=>∃ o n m q,v = .tuple #[sv0 o r.1 n,sv0 m r.2 q]/\sl (Rp.int .u32) G o n r.1/\sl (Rp.int .u32) G m q r.2):=by
 refine B' (args:=[_,_]) (N:=110) func124 z z z (fun U T S A=>?_)
 obtain⟨d,c⟩:=A
 refine sr<|sw0 z<|sx1 z<|c'<|sr<|mw0 z<|mw0 z<|oE hr fun O B hr=>T' z z (k' E47 z) (eb' B) z (⟨d,c⟩)<|ls0 z<|nx<|I' hr z (fun F hr=>?_) (fun F hr=>?_)
 .refine sr<|mw0 z<|sw0 z<|sx1 z<|q'<|j' ?_
  obtain rfl:_=r:=hr
  exact aW' z z z ⟨_,_,_,_,z,(ay' (Rp.int .u32) _),d⟩
 refine t'<|b'<|c'<|sr<|mw0 z<|yw0 (D' a' c z)<|yw0 (aK' z z)<|nx<|I' hr z (fun E hr=>?_) (fun E hr=>?_)
 .refine sr<|mw0 z<|mw0 z<|oE hr fun V t hr=>yw0 (Q' a' R' c z z t)<|yw0 (ac' au' z (ak' (ad' c t)))<|yw0 (K' m' h' z)<|oE hr fun M u hr=>y' z z (k' E144 z) (fj' u) z (d) (fun L Q H l=>?_)
  obtain⟨D,C,rfl,p⟩:=l
  refine mw0 z<|ex0 z<|ex0 z<|sw0 z<|sw0 z<|nr<|mw0 z<|mw0 z<|oE hr fun P y hr=>y' z z (k' E45 z) (dq' y) z (trivial) (fun K R s k=>?_)
  obtain⟨I,J,rfl,x⟩:=k
  refine sw0 z<|sx1 z<|q'<|j' ?_
  obtain rfl:_=r:=hr
  exact aW' z z z ⟨_,_,_,_,z,(p.mono s),x⟩
 exact (show False from hr).elim
theorem fp'{I H C F x E r}(hr:(Ziz I H).Ret r):Ctr prog 87 #[sv0 C I F,sv0 x H E] (fun G=>sl (Rp.int .u32) G C F I/\sl (Rp.int .u32) G x E H) (wl' (Rp.int .u32) r):=by
 refine B' (args:=[_,_]) (N:=33) func87 z z z (fun Q s aq R=>?_)
 obtain⟨T,ad⟩:=R
 refine sr<|sx1 z<|c'<|aa' (X:=(List Int)×Option Addr×Nat×(List Int)×Option Addr×Nat×Mem) hr (fun ⟨l,g,i,j,k,f,d⟩=>⟨(l,j),[(0,sv0 g l i),(1,sv0 k j f)],Mem.le s d/\sl (Rp.int .u32) d g i l/\sl (Rp.int .u32) d k f j,St Q s d []⟩) (fun (⟨J,A,u,o⟩:(List Int)×Option Addr×Nat×Mem)=>⟨(.inr J),[(0,sv0 A J u)],Mem.le s o/\sl (Rp.int .u32) o A u J,St Q s o []⟩) ⟨I,C,F,H,x,E,s⟩ z (fz0 z) ⟨mr,T,ad⟩ (wk ln) ?_ ?_
 .rintro _ ⟨l,g,i,j,k,f,d⟩ ⟨p,m,h⟩ hr
  refine c'<|sr<|mw0 z<|yw0 (D' a' h z)<|yw0 (aL' z z)<|nx<|I' hr z (fun ae hr=>?_) (fun ae hr=>?_)
  .refine t'<|b'<|U'<|c'<|aD' hr (fun (⟨e,v⟩:Bool×Mem)=>⟨[(0,sv0 g l i),(1,sv0 k j f),(17,.bool e)],ZdX l j e,Mem.le d v,St Q s v []⟩) ?_ ?_
   .refine w'<|mw0 z<|yw0 (D' a' m z)<|aQ' hr z (bF' z z) z (fun ac hr=>?_) (fun ac hr=>?_)
    .refine mw0 z<|gm0 z<|gy z z (D' a' h z) z<|gy z z (bF' z z) z<|pt00 z<|p'<|ao' ⟨decide ((j.length:Int)<=2),d⟩ ⟨hr,mr⟩ (fz0 z) (wk ln)
    refine mw0 z<|sn3 z<|pf00 z<|p'<|ao' ⟨false,d⟩ ⟨hr,mr⟩ (fz0 z) (wk ln)
   rintro⟨e,v⟩ ⟨hr,c⟩
   refine aX' hr z (fun Z hr=>?_) (fun Z hr=>?_)
   .refine sr<|mw0 z<|oE hr fun an S hr=>T' z z (k' E123 z) (ew' S) z ((m.mono c))<|mw0 z<|oE hr fun al K hr=>T' z z (k' E123 z) (ew' K) z ((h.mono c))<|oE hr fun ap O hr=>T' z z (k' E122 z) (fo' O) z (trivial)<|oE hr fun am M hr=>y' z z (k' E45 z) (dq' M) z (trivial) (fun ah ao ag t=>?_)
    obtain⟨aj,ak,rfl,P⟩:=t
    refine sx1 z<|q'<|j'<|H'<|j'<|H'<|az'<|j' ?_
    obtain rfl:_=r:=hr
    exact o' z z ⟨_,_,z,P⟩
   refine t'<|b'<|sr<|mw0 z<|mw0 z<|oE hr fun W L hr=>y' z z (k' E124 z) (en' L) z (⟨(m.mono c),(h.mono c)⟩) (fun ai ab n q=>?_)
   obtain⟨V,aa,y,B,rfl,U,D⟩:=q
   refine mw0 z<|ex0 z<|ex0 z<|sw0 z<|sw0 z<|nr<|mw0 z<|sx1 z<|w'<|mw0 z<|sw0 z<|p'<|E'<|O' ⟨j,k,f,W.2,y,B,ab⟩ hr ⟨(mx (mx p c) n),(h.mono (mx c n)),D⟩ (fz0 z) (wk ln)
  refine Z'<|f'<|f'<|F'<|ab' ⟨l,g,i,d⟩ ⟨hr,p,m⟩ (f1 z) (wk ln)
 rintro⟨J,A,u,o⟩ ⟨hr,af,Y⟩
 refine b'<|sr<|mw0 z<|sx1 z<|q' ?_
 obtain rfl:_=r:=hr
 exact o' z z ⟨_,_,z,Y⟩
theorem fC'{q n f d e c r}(hr:(Zl1 q n).Ret r):Ctr prog 50 #[.agg ((v38' q f d)).toArray,.agg ((v38' n e c)).toArray] (fun G=>sl (Rp.int .u32) G f d q.mag/\sl (Rp.int .u32) G e c n.mag) (w38' r):=by
 refine B' (args:=[_,_]) (N:=11) func50 z z z (fun L K I p=>?_)
 obtain⟨k,l⟩:=p
 refine sr<|ah' 2 z z z fun M=>ah' 3 z z z fun J=>P' 4 z z38 z fun O=>nr<|yw0 (ai' z)<|yw0 (A' 2 aE' z z z)<|yw0 (ai' z)<|yw0 (A' 3 aE' z z z)<|oE hr fun F s hr=>y' z z (k' E87 z) (fp' s) z (⟨k,l⟩) (fun y D x g=>?_)
 obtain⟨B,A,rfl,o⟩:=g
 refine oE hr fun E m hr=>y' z z (k' E44 z) (bS' m) z (o) (fun C H v j=>?_)
 obtain⟨u,t,rfl,h⟩:=j
 refine stB 4 aA' z<|nx<|q' ?_
 obtain rfl:_=r:=hr
 exact o' z (af' (i:=4) W' z z z) ⟨_,_,z,h⟩
theorem fD'{j d c r}(hr:(Zl2 j).Ret r):Ctr prog 52 #[.agg ((v38' j d c)).toArray] (fun G=>sl (Rp.int .u32) G d c j.mag) (w38' r):=by
 refine B' (args:=[_]) (N:=9) func52 z z z (fun v u s h=>?_)
 have g:=h
 refine sr<|ah' 1 z z z fun t=>P' 2 z z38 z fun x=>nr<|yw0 (aw' z)<|yw0 (A' 1 sc4 z z z)<|yw0 (bf' z)<|yw0 (ai' z)<|yw0 (A' 1 aE' z z z)<|oE hr fun q k hr=>y' z z (k' E44 z) (bS' k) z (g) (fun o p n e=>?_)
 obtain⟨l,m,rfl,f⟩:=e
 refine stB 2 aA' z<|nx<|q' ?_
 obtain rfl:_=r:=hr
 exact o' z (af' (i:=2) W' z z z) ⟨_,_,z,f⟩
theorem fx'{d c y B v A r}(hr:(ZjJ d c).Ret r):Ctr prog 46 #[sv0 y d B,sv0 v c A] (fun G=>sl (Rp.int .u32) G y B d/\sl (Rp.int .u32) G v A c) (wl' (Rp.int .u32) r):=by
 refine B' (args:=[_,_]) (N:=42) func46 z z z (fun T x U O=>?_)
 obtain⟨F,I⟩:=O
 refine sr<|sw0 z<|nr<|mw0 z<|yw0 (D' a' F z)<|mw0 z<|yw0 (D' a' I z)<|yw0 (Y0.max2 z z)<|ad0 z<|sw0 z<|nr<|mw0 z<|oA hr fun R hr=>bj' (r:=(Rp.int .u32)) (e:=139) (n:=i64.wrap ((if (d.length:Int)<(c.length:Int) then (c.length:Int) else (d.length:Int))+1)) (zx:=0) 4017 z z a' bO' z (by decide) (by decide) z z z R fun D M V=>sw0 z<|nr<|sx1 z<|c'<|sr<|sx1 z<|aa' (X:=(List Int)×Option Ow×Int×Int×Mem) hr (fun ⟨j,g,f,u,l⟩=>⟨(j,f,u),[(0,sv0 y d B),(1,sv0 v c A),(5,i' (i64.wrap ((if (d.length:Int)<(c.length:Int) then (c.length:Int) else (d.length:Int))+1))),(6,.slice D (i64.wrap ((if (d.length:Int)<(c.length:Int) then (c.length:Int) else (d.length:Int))+1)).toNat ((i64.wrap ((if (d.length:Int)<(c.length:Int) then (c.length:Int) else (d.length:Int))+1)).toNat)),(7,.int .u64 f),(8,i' u)],Mem.le x l/\RowR (Rp.int .u32) 139 l (.slice D (i64.wrap ((if (d.length:Int)<(c.length:Int) then (c.length:Int) else (d.length:Int))+1)).toNat ((i64.wrap ((if (d.length:Int)<(c.length:Int) then (c.length:Int) else (d.length:Int))+1)).toNat)) j g,St T x l [(4017,g)]⟩) (fun (⟨o,k,q⟩:(List Int)×Option Ow×Mem)=>⟨o,[(6,.slice D (i64.wrap ((if (d.length:Int)<(c.length:Int) then (c.length:Int) else (d.length:Int))+1)).toNat ((i64.wrap ((if (d.length:Int)<(c.length:Int) then (c.length:Int) else (d.length:Int))+1)).toNat))],Mem.le x q/\RowR (Rp.int .u32) 139 q (.slice D (i64.wrap ((if (d.length:Int)<(c.length:Int) then (c.length:Int) else (d.length:Int))+1)).toNat ((i64.wrap ((if (d.length:Int)<(c.length:Int) then (c.length:Int) else (d.length:Int))+1)).toNat)) o k,St T x q [(4017,k)]⟩) ⟨(List.replicate (i64.wrap ((if (d.length:Int)<(c.length:Int) then (c.length:Int) else (d.length:Int))+1)).toNat 0),M,0,0,x⟩ z (fz0 z) ⟨mr,V⟩ (w1 z) ?_ ?_
 .rintro _ ⟨j,g,f,u,l⟩ ⟨h,m⟩ hr
  refine c'<|sr<|mw0 z<|mw0 z<|ls0 z<|nx<|I' hr z (fun W hr=>?_) (fun W hr=>?_)
  .refine t'<|b'<|c'<|U'<|sr<|mw0 z<|mw0 z<|oE hr fun p J hr=>T' z z (k' E86 z) (cu' J) z ((F.mono h))<|mw0 z<|mw0 z<|oE hr fun s K hr=>T' z z (k' E86 z) (cu' K) z ((I.mono h))<|ad0 z<|mw0 z<|ad0 z<|sw0 z<|nr<|mw0 z<|mw0 z<|mw0 z<|yw0 (aV' z z (by decide))<|yw0 (K' h' m' z)<|oE hr fun x1 H hr=>yw0 (aB' a' R' m z z H)<|aI' (r:=(Rp.int .u32)) (e:=139) (cs':=[.int .u32 (u32.wrap (Int.tmod (u64.wrap ((u64.wrap (p+s))+f)) 4294967296))]) (i:=u) (z':=u32.wrap (Int.tmod (u64.wrap ((u64.wrap (p+s))+f)) 4294967296)) 4017 z R' z m z z z z z H fun S Q=>nx<|w'<|mw0 z<|yw0 (bv' z z (by decide))<|sw0 z<|p'<|E'<|b'<|w'<|mw0 z<|ad0 z<|sw0 z<|p'<|O' ⟨(j.set u.toNat (u32.wrap (Int.tmod (u64.wrap ((u64.wrap (p+s))+f)) 4294967296))),S,u64.wrap (Int.tdiv (u64.wrap ((u64.wrap (p+s))+f)) 4294967296),i64.wrap (u+1),l⟩ hr ⟨h,Q⟩ (fz0 z) (w1 z)
  refine Z'<|f'<|f'<|F'<|ab' ⟨j,g,l⟩ ⟨hr,h,m⟩ (f1 z) (w1 z)
 rintro⟨o,k,q⟩ ⟨hr,Y,E⟩
 refine b'<|sr<|mw0 z<|aY' (r:=(Rp.int .u32)) (e:=139) 4017 E z (by rw[U]; rfl) (fun ag af ab C Z=>?_)
 refine oE hr fun ah P hr=>y' z z (k' E85 z) (cJ' P) (by rw[bs' C]) ((bq' C)) (fun ac ai aa t=>?_)
 obtain⟨ae,ad,rfl,L⟩:=t
 refine sx1 z<|q' ?_
 obtain rfl:_=r:=hr
 exact o' z z ⟨_,_,z,L⟩
theorem eE'{h D y B v A r}(hr:(ZgA h D).Ret r):Ctr prog 48 #[sv0 y h B,sv0 v D A] (fun G=>sl (Rp.int .u32) G y B h/\sl (Rp.int .u32) G v A D) (wl' (Rp.int .u32) r):=by
 refine B' (args:=[_,_]) (N:=41) func48 z z z (fun T x U O=>?_)
 obtain⟨p,W⟩:=O
 refine sr<|sw0 z<|nr<|mw0 z<|yw0 (D' a' p z)<|oA hr fun R hr=>bj' (r:=(Rp.int .u32)) (e:=139) (n:=(h.length:Int)) (zx:=0) 4011 z z a' bO' z (by decide) (by decide) z z z R fun E M V=>sw0 z<|nr<|sx1 z<|c'<|sr<|sx1 z<|aa' (X:=(List Int)×Option Ow×Int×Int×Mem) hr (fun ⟨j,g,c,u,l⟩=>⟨(j,c,u),[(0,sv0 y h B),(1,sv0 v D A),(5,.slice E (h.length:Int).toNat ((h.length:Int).toNat)),(6,.int .u64 c),(7,i' u)],Mem.le x l/\RowR (Rp.int .u32) 139 l (.slice E (h.length:Int).toNat ((h.length:Int).toNat)) j g,St T x l [(4011,g)]⟩) (fun (⟨o,k,s⟩:(List Int)×Option Ow×Mem)=>⟨o,[(5,.slice E (h.length:Int).toNat ((h.length:Int).toNat))],Mem.le x s/\RowR (Rp.int .u32) 139 s (.slice E (h.length:Int).toNat ((h.length:Int).toNat)) o k,St T x s [(4011,k)]⟩) ⟨(List.replicate (h.length:Int).toNat 0),M,0,0,x⟩ z (fz0 z) ⟨mr,V⟩ (w1 z) ?_ ?_
 .rintro _ ⟨j,g,c,u,l⟩ ⟨f,m⟩ hr
  refine c'<|sr<|mw0 z<|mw0 z<|yw0 (D' a' (p.mono f) z)<|ls0 z<|nx<|I' hr z (fun Y hr=>?_) (fun Y hr=>?_)
  .refine t'<|b'<|c'<|U'<|c'<|aj' [ff,ff,ff,ff,ff,ff,ff,ff,ff,ff,ff] mix (by kernel_rfl) fun hb=>cm0 z<|cm0 z<|oE hr fun H J hr=>cn (fun _ d=>Q' a' R' ((p.mono f).mono d) z z J)<|cn (fun _ d=>ac' au' z (ak' (M' (M' (ad' p J) f) d)))<|cn (fun _ d=>K' m' h' z)<|cn (fun _ d=>J' z z)<|cm0 z<|cm0 z<|oE hr fun q K hr=>bR' z (fun _=>k' E86 z) (cu' K) z (fun G' d=>((W.mono f).mono d))<|cn (fun _ d=>ap' z z)<|cm0 z<|am' hb<|yw0 (ap' z z)<|sw0 z<|p'<|ar'<|b'<|sr<|mw0 z<|mw0 z<|mw0 z<|yw0 (aV' z z (by decide))<|yw0 (K' h' m' z)<|oE hr fun x2 I hr=>yw0 (aB' a' R' m z z I)<|aI' (r:=(Rp.int .u32)) (e:=139) (cs':=[.int .u32 (u32.wrap (Int.tmod (u64.wrap ((u64.wrap ((u64.wrap (4294967296+(u64.wrap H)))-q))-c)) 4294967296))]) (i:=u) (z':=u32.wrap (Int.tmod (u64.wrap ((u64.wrap ((u64.wrap (4294967296+(u64.wrap H)))-q))-c)) 4294967296)) 4011 z R' z m z z z z z I fun S Q=>nx<|w'<|mw0 z<|yw0 (bv' z z (by decide))<|yw0 (ap' z z)<|sw0 z<|p'<|E'<|b'<|w'<|mw0 z<|ad0 z<|sw0 z<|p'<|O' ⟨(j.set u.toNat (u32.wrap (Int.tmod (u64.wrap ((u64.wrap ((u64.wrap (4294967296+(u64.wrap H)))-q))-c)) 4294967296))),S,u64.wrap (1-(u64.wrap (Int.tdiv (u64.wrap ((u64.wrap ((u64.wrap (4294967296+(u64.wrap H)))-q))-c)) 4294967296))),i64.wrap (u+1),l⟩ hr ⟨f,Q⟩ (fz0 z) (w1 z)
  refine Z'<|f'<|f'<|F'<|ab' ⟨j,g,l⟩ ⟨hr,f,m⟩ (f1 z) (w1 z)
 rintro⟨o,k,s⟩ ⟨hr,Z,F⟩
 refine b'<|sr<|mw0 z<|aY' (r:=(Rp.int .u32)) (e:=139) 4011 F z (by rw[U]; rfl) (fun ai ah ac C aa=>?_)
 refine oE hr fun aj P hr=>y' z z (k' E85 z) (cJ' P) (by rw[bs' C]) ((bq' C)) (fun ae ak ab t=>?_)
 obtain⟨ag,af,rfl,L⟩:=t
 refine sx1 z<|q' ?_
 obtain rfl:_=r:=hr
 exact o' z z ⟨_,_,z,L⟩
theorem fq'{C y e c d f r}(hr:(Ziy C y).Ret r):Ctr prog 88 #[.agg ((v38' C e c)).toArray,.agg ((v38' y d f)).toArray] (fun G=>sl (Rp.int .u32) G e c C.mag/\sl (Rp.int .u32) G d f y.mag) (fun G v=>∃ j k g l,v = .tuple #[.agg ((v38' r.1 j k)).toArray,.agg ((v38' r.2.1 g l)).toArray,i' r.2.2]/\sl (Rp.int .u32) G j k r.1.mag/\sl (Rp.int .u32) G g l r.2.1.mag):=by
 refine B' (args:=[_,_]) (N:=46) func88 z z z (fun w0 G0 aw ab=>?_)
 obtain⟨M,x⟩:=ab
 refine sr<|ah' 2 z z z fun V=>ah' 3 z z z fun S=>P' 4 z z38 z fun W=>P' 5 z z38 z fun R=>sx1 z<|c'<|sr<|yw0 (ai' z)<|yw0 (A' 3 aE' z z z)<|yw0 (D' a' x z)<|yw0 (aK' z z)<|nx<|I' hr z (fun ai hr=>?_) (fun ai hr=>?_)
 .exact (show False from hr).elim
 refine t'<|b'<|sr<|yw0 (ai' z)<|yw0 (A' 2 aE' z z z)<|yw0 (ai' z)<|yw0 (A' 3 aE' z z z)<|oE hr fun h ac hr=>y' z z (k' E124 z) (en' ac) z (⟨M,x⟩) (fun ap D ao I=>?_)
 obtain⟨q,o,p,t,rfl,O,s⟩:=I
 refine mw0 z<|ex0 z<|ex0 z<|sw0 z<|sx1 z<|aD' hr (fun (⟨T,Q,P,E,B,A,u⟩:(List Int)×Option Addr×Nat×(List Int)×Option Addr×Nat×Mem)=>⟨[(2,pt0 V),(3,pt0 S),(4,pt0 W),(5,pt0 R),(7,sv0 Q T P),(8,sv0 B E A)],Zgj C y T E,Mem.le D u/\sl (Rp.int .u32) u Q P T/\sl (Rp.int .u32) u B A E,St w0 G0 u [(2,bk0 V (v38' C e c) 38),(3,bk0 S (v38' y d f) 38),(4,bk0 W ([.bool false,.slice none 0 0]) 38),(5,bk0 R ([.bool false,.slice none 0 0]) 38)]⟩) ?_ ?_
 .refine aD' hr (fun (⟨m,F⟩:Bool×Mem)=>⟨[(2,pt0 V),(3,pt0 S),(4,pt0 W),(5,pt0 R),(7,sv0 q h.1 o),(8,sv0 p h.2 t),(29,.bool m)],ZdW C y h m,Mem.le D F,St w0 G0 F [(2,bk0 V (v38' C e c) 38),(3,bk0 S (v38' y d f) 38),(4,bk0 W ([.bool false,.slice none 0 0]) 38),(5,bk0 R ([.bool false,.slice none 0 0]) 38)]⟩) ?_ ?_
  .refine w'<|yw0 (aw' z)<|aQ' hr z (Y0.eq (A' 2 sc4 z z z) (congrArg Value.bool (bdec _))) z (fun am hr=>?_) (fun am hr=>?_)
   .refine mw0 z<|gm0 z<|gy z z (D' a' s z) z<|gy z z (aL' z z) z<|pt00 z<|p'<|ao' ⟨decide (0<(h.2.length:Int)),D⟩ ⟨hr,mr⟩ (fz0 z) (w4 z z z z)
   refine mw0 z<|sn3 z<|pf00 z<|p'<|ao' ⟨false,D⟩ ⟨hr,mr⟩ (fz0 z) (w4 z z z z)
  rintro⟨m,F⟩ ⟨hr,n⟩
  refine aX' hr z (fun ak hr=>?_) (fun ak hr=>?_)
  .exact (show False from hr).elim
  refine t'<|ao' ⟨h.1,q,o,h.2,p,t,F⟩ ⟨hr,n,(O.mono n),(s.mono n)⟩ (fz0 z) (w4 z z z z)
 rintro⟨T,Q,P,E,B,A,u⟩ ⟨hr,an,aj,aa⟩
 refine sr<|yw0 (aw' z)<|yw0 (A' 2 sc4 z z z)<|yw0 (aw' z)<|yw0 (A' 3 sc4 z z z)<|yw0 (dm' ba' z z)<|mw0 z<|oE hr fun au Y hr=>y' z z (k' E44 z) (bS' Y) z (aj) (fun ar ax X L=>?_)
 obtain⟨ae,ad,rfl,J⟩:=L
 refine mw0 z<|oE hr fun av Z hr=>y' z z (k' E44 z) (bS' Z) z ((aa.mono X)) (fun aq ay U H=>?_)
 obtain⟨ag,af,rfl,K⟩:=H
 refine stB 4 aA' z<|stB 5 aA' z<|sx1 z<|q' ?_
 obtain rfl:_=r:=hr
 exact WE.ret3 z (af' (i:=4) W' z z z) (af' (i:=5) W' z z z) z ⟨_,_,_,_,z,(J.mono U),K⟩
theorem eF'{t q d c g f r}(hr:(ZgB t q).Ret r):Ctr prog 53 #[.agg ((v38' t d c)).toArray,.agg ((v38' q g f)).toArray] (fun G=>sl (Rp.int .u32) G d c t.mag/\sl (Rp.int .u32) G g f q.mag) (w38' r):=by
 refine B' (args:=[_,_]) (N:=16) func53 z z z (fun H F B s=>?_)
 obtain⟨k,j⟩:=s
 refine sr<|ah' 2 z z z fun C=>ah' 3 z z z fun I=>P' 4 z z38 z fun E=>nr<|yw0 (C' 2 W' z z z)<|yw0 (C' 3 W' z z z)<|oE hr fun A u hr=>y' z z (k' E88 z) (fq' u) z (⟨k,j⟩) (fun x y v h=>?_)
 obtain⟨p,o,l,m,rfl,e,n⟩:=h
 refine mw0 z<|ex0 z<|ex0 z<|ex0 z<|P' 5 z z38 z fun J=>P' 6 z z38 z fun D=>stB 5 aA' z<|stB 6 aA' z<|sw0 z<|nr<|yw0 (C' 5 W' z z z)<|stB 4 aA' z<|nx<|q' ?_
 obtain rfl:_=r:=hr
 exact o' z (af' (i:=4) W' z z z) ⟨_,_,z,e⟩
theorem dL'{T R o l p n r}(hr:(ZfM T R).Ret r):Ctr prog 22 #[.agg ((v38' T o l)).toArray,.agg ((v38' R p n)).toArray] (fun G=>sl (Rp.int .u32) G o l T.mag/\sl (Rp.int .u32) G p n R.mag) (w40' r):=by
 refine B' (args:=[_,_]) (N:=21) func22 z z z (fun w0 G0 aw ab=>?_)
 obtain⟨A,m⟩:=ab
 refine sr<|ah' 2 z z z fun b1=>ah' 3 z z z fun b2=>P' 4 z z40 z fun b3=>nr<|yw0 (C' 2 W' z z z)<|yw0 (C' 3 W' z z z)<|oE hr fun af ac hr=>y' z z (k' E50 z) (fC' ac) z (⟨A,m⟩) (fun al W x L=>?_)
 obtain⟨H,I,rfl,t⟩:=L
 refine P' 5 z z38 z fun b4=>stB 5 aA' z<|nx<|aD' hr (fun (⟨C,c,e,D⟩:Zb×Option Addr×Nat×Mem)=>⟨[(2,pt0 b1),(3,pt0 b2),(4,pt0 b3),(5,pt0 b4)],ZdY T R C,Mem.le W D/\sl (Rp.int .u32) D c e C.mag,St w0 G0 D [(2,bk0 b1 (v38' T o l) 38),(3,bk0 b2 (v38' R p n) 38),(4,bk0 b3 ([.bool false,.slice none 0 0,.bool false,.slice none 0 0]) 40),(5,bk0 b4 (v38' C c e) 38)]⟩) ?_ ?_
 .refine sr<|yw0 (C' 3 W' z z z)<|oE hr fun ar Z hr=>T' z z (k' E51 z) (eR' Z) z ((m.mono x))<|ls0 z<|nx<|I' hr z (fun ak hr=>?_) (fun ak hr=>?_)
  .refine w'<|yw0 (C' 5 W' z z z)<|oE hr fun ag Y hr=>y' z z (k' E52 z) (fD' Y) z (t) (fun an aj V F=>?_)
   obtain⟨M,J,rfl,Q⟩:=F
   refine stB 5 aA' z<|p'<|ao' ⟨ag,M,J,aj⟩ ⟨hr,V,Q⟩ (fz0 z) (w4 z z z z)
  refine t'<|ao' ⟨af,H,I,W⟩ ⟨hr,mr,t⟩ (fz0 z) (w4 z z z z)
 rintro⟨C,c,e,D⟩ ⟨hr,B,q⟩
 refine c'<|aj' [ff,ff,ff,ff,ff] mix (by kernel_rfl) fun hb=>cn (fun _ k=>C' 2 W' z z z)<|cn (fun _ k=>C' 5 W' z z z)<|oE hr fun y X hr=>at' (post:=w38' y) (fun _=>z) (fun _ _=>k' E53 z) (eF' X) z (fun G' k=>⟨((A.mono (mx x B)).mono k),(q.mono k)⟩) (fun v G1 G2 k h=>?_) ?_
 .obtain⟨j,f,rfl,g⟩:=h
  exact⟨_,_,z,g.mono k⟩
 refine cu (fun _ _ k=>C' 3 W' z z z)<|cu (fun _ _ k=>C' 5 W' z z z)<|aF' (d:=16) (post:=w38' y) (fun aq au E P=>?_)
 obtain⟨j,f,rfl,g⟩:=P
 refine oE hr fun S aa hr=>y' z z (k' E53 z) (eF' aa) z (⟨(m.mono (mx (mx x B) E)),(q.mono E)⟩) (fun ap av U K=>?_)
 obtain⟨u,s,rfl,O⟩:=K
 refine yw0 (ax' (vs:=#[(0,.agg ((v38' y j f)).toArray),(1,.agg ((v38' S u s)).toArray)]) (v:=.agg ([.bool y.neg,sv0 j y.mag f,.bool S.neg,sv0 u S.mag s]).toArray) z z (fun _=>by kernel_rfl))<|stB 4 bk' z<|p'<|ar'<|b'<|q' ?_
 obtain rfl:_=r:=hr
 exact o' z (af' (i:=4) aN' z z z) ⟨_,_,_,_,z,(g.mono U),O⟩
theorem fE'{q p m g k j l e c f r}(hr:(Zjs q p).Ret r):Ctr prog 58 #[.agg ((v40' q m g k j)).toArray,.agg ((v40' p l e c f)).toArray] (fun G=>sl (Rp.int .u32) G m g q.num.mag/\sl (Rp.int .u32) G k j q.den.mag/\sl (Rp.int .u32) G l e p.num.mag/\sl (Rp.int .u32) G c f p.den.mag) (w40' r):=by
 refine B' (args:=[_,_]) (N:=16) func58 z z z (fun w0 G0 af S=>?_)
 obtain⟨A,u,x,y⟩:=S
 refine sr<|ah' 2 z z z fun b2=>ah' 3 z z z fun b3=>P' 4 z z40 z fun b4=>nx<|c'<|aj' [ff,ff,ff,ff,ff,ff,ff,ff,ff] mix (by kernel_rfl) fun hb=>cn (fun _ n=>aT' z)<|cn (fun _ n=>ag' ((v38' q.num m g)).toArray 2 W' z z z (aq' ([]) ((v38' q.num m g)) ((v38' q.den k j))))<|cn (fun _ n=>aT' z)<|cn (fun _ n=>ag' ((v38' p.num l e)).toArray 3 W' z z z (aq' ([]) ((v38' p.num l e)) ((v38' p.den c f))))<|oE hr fun P T hr=>at' (post:=w38' P) (fun _=>z) (fun _ _=>k' E21 z) (dt' T) z (fun G' n=>⟨(A.mono n),(x.mono n)⟩) (fun v G1 G2 n h=>?_) ?_
 .obtain⟨C,D,rfl,o⟩:=h
  exact⟨_,_,z,o.mono n⟩
 refine cu (fun _ _ n=>aM' z)<|cu (fun _ _ n=>ag' ((v38' q.den k j)).toArray 2 W' z z z (aq' ((v38' q.num m g)) ((v38' q.den k j)) ([])))<|cu (fun _ _ n=>aM' z)<|cu (fun _ _ n=>ag' ((v38' p.den c f)).toArray 3 W' z z z (aq' ((v38' p.num l e)) ((v38' p.den c f)) ([])))<|aF' (d:=9) (post:=w38' P) (fun X aa B F=>?_)
 obtain⟨C,D,rfl,o⟩:=F
 refine oE hr fun ab Q hr=>y' z z (k' E21 z) (dt' Q) z (⟨(u.mono B),(y.mono B)⟩) (fun Z ad L I=>?_)
 obtain⟨V,U,rfl,H⟩:=I
 refine oE hr fun ac R hr=>y' z z (k' E22 z) (dL' R) z (⟨(o.mono L),H⟩) (fun Y ae W E=>?_)
 obtain⟨O,K,M,J,rfl,t,s⟩:=E
 refine stB 4 bk' z<|p'<|ar'<|b'<|q' ?_
 obtain rfl:_=r:=hr
 exact o' z (af' (i:=4) aN' z z z) ⟨_,_,_,_,z,t,s⟩
theorem eG'{Z m1 p1 s t q A aa ac r}(hr:(ZgE Z m1 p1).Ret r):Ctr prog 27 #[.agg ((v40' Z s t q A)).toArray,.agg (vi8 m1).toArray,sv0 aa p1 ac] (fun G=>sl (Rp.int .u32) G s t Z.num.mag/\sl (Rp.int .u32) G q A Z.den.mag/\sl g' G aa ac p1) (wlt' g' r):=by
 refine B' (args:=[_,_,_]) (N:=47) func27 z z z (fun w0 G0 Y av=>?_)
 obtain⟨I,H,P⟩:=av
 refine sr<|ah' 3 z z z fun b1=>ah' 4 z z z fun b2=>sw0 z<|sw0 z<|nr<|aO' (e:=91) (r:=g') (vs:=#[]) (cs:=[]) ([]:List Za) z z z z z (by decide) (fun _=>by kernel_rfl) (z) (key:=999) z (by rw[Y]; rfl) fun p2 ab n aF=>sx1 z<|c'<|sr<|yw0 (C' 3 aN' z z z)<|oE hr fun aV ap hr=>T' z z (k' E24 z) (ei' ap) z (⟨(I.mono n),(H.mono n)⟩)<|yw0 (aK' z z)<|nx<|I' hr z (fun aM hr=>?_) (fun aM hr=>?_)
 .refine sr<|sw0 z<|sx1 z<|q'<|j' ?_
  obtain rfl:_=r:=hr
  exact aW' z z z ⟨_,_,z,(ay' g' _)⟩
 refine t'<|b'<|c'<|sr<|sx1 z<|aa' (X:=(List Za)×Option Addr×Nat×Option Ow×Int×Mem) hr (fun ⟨y,D,C,E,i1,M⟩=>⟨(y,i1),[(2,sv0 aa p1 ac),(3,pt0 b1),(4,pt0 b2),(8,sv0 D y C),(9,i' i1)],Mem.le ab M/\sl g' M D C y/\Tok 12 91 (sv0 D y C) y.length E,St w0 G0 M [(3,bk0 b1 (v40' Z s t q A) 40),(4,bk0 b2 (vi8 m1) 77),(1008,E)]⟩) (fun (⟨F,K,J,L,V⟩:(List Za)×Option Addr×Nat×Option Ow×Mem)=>⟨(.inr F),[(8,sv0 K F J)],Mem.le ab V/\sl g' V K J F/\Tok 12 91 (sv0 K F J) F.length L,St w0 G0 V [(1008,L)]⟩) ⟨[],p2,0,none,0,ab⟩ z (fz0 z) ⟨mr,aF,cD'⟩ (wk (lc z (lc z (lw ln)))) ?_ ?_
 .rintro _ ⟨y,D,C,E,i1,M⟩ ⟨m,S,O⟩ hr
  refine c'<|sr<|mw0 z<|mw0 z<|yw0 (D' N' (P.mono (mx n m)) z)<|ls0 z<|nx<|I' hr z (fun aC hr=>?_) (fun aC hr=>?_)
  .refine t'<|b'<|c'<|U'<|c'<|aj' [ff,ff,ff,ff,ff,ff,ff,ff,ff,tt,ff] mix (by kernel_rfl) fun hb=>cn (fun _ k=>C' 4 bt' z z (an' _ _ _))<|cm0 z<|cm0 z<|oE hr fun x1 am hr=>cn (fun _ k=>Q' N' by' ((P.mono (mx n m)).mono k) z z am)<|cn (fun _ k=>bb' z)<|cn (fun _ k=>aP' _ bt' z (an' _ _ _) (AtK.vec (M' (M' (cS' (bW' (ad' P am))) (mx n m)) k)))<|oE hr fun B aq hr=>bR' z (fun _=>k' E57 z) (fB' aq) z (fun G' k=>trivial)<|cm0 z<|cn (fun _ k=>Y' z z)<|cx' z (Y' z z)<|cc' (fun _=>z) z77<|Chain.tail1 hb fun b3=>x' 10 z sz77 z z z (an' _ _ _) (an' _ _ _) (fun u hu=>Rp.one (Rp.vec .i64 8) (G:=M) (x:=B.1) (cs:=vi8 B.1) z u (by first|simpa using hu|simpa [Value.cells] using hu))<|sw0 z<|p'<|ar'<|b'<|c'<|sr<|mw0 z<|yw0 (bU' z z)<|nx<|I' hr z (fun aG hr=>?_) (fun aG hr=>?_)
   .exact (show False from hr).elim
   refine t'<|b'<|aj' [tt,ff,ff,ff,ff,ff,ff,ff,ff] mix (by kernel_rfl) fun hb=>cx' z (n' z)<|cn (fun _ k=>C' 3 aN' z z z)<|cm0 z<|cm0 z<|oE hr fun x2 ah hr=>cn (fun _ k=>Q' N' by' ((P.mono (mx n m)).mono k) z z ah)<|cn (fun _ k=>bu' z) ?_
   obtain⟨aj,ak,al,ai,ay,R,Q⟩:=cW' (M' (AtK.fst (bW' (ad' P ah))) (mx n m))
   refine cn (fun _ k=>aP' _ aN' z z (fun j v hv=>k _ _ _ (ay j v hv)))<|oE hr fun l au hr=>at' (post:=w40' l) (fun _=>z) (fun _ _=>k' E58 z) (fE' au) z (fun G' k=>⟨((I.mono (mx n m)).mono k),((H.mono (mx n m)).mono k),(R.mono k),(Q.mono k)⟩) (fun v G1 G2 k h=>?_) ?_
   .obtain⟨i,c,f,g,rfl,o,p⟩:=h
    exact⟨_,_,_,_,z,o.mono k,p.mono k⟩
   refine cu (fun _ _ k=>C' 10 bt' z z (an' _ _ _))<|aF' (d:=41) (post:=w40' l) (fun aQ aU U W=>?_)
   obtain⟨i,c,f,g,rfl,o,p⟩:=W
   refine yw0 (ax' (vs:=#[(0,.agg ((v40' l i c f g)).toArray),(1,.agg (vi8 B.1).toArray)]) (v:=.agg (((v40' l i c f g):List Value)++(vi8 B.1)).toArray) z z (fun _=>by kernel_rfl))<|aO' (e:=91) (r:=g') (vs:=#[(0,.agg (((v40' l i c f g):List Value)++(vi8 B.1)).toArray)]) (cs:=(((v40' l i c f g):List Value)++(vi8 B.1))++([])) ([(Za.mk l B.1)]:List Za) z z z z z (by decide) (fun _=>by kernel_rfl) ⟨((v40' l i c f g):List Value)++(vi8 B.1),[],z,⟨(v40' l i c f g),vi8 B.1,z,⟨(v38' l.num i c),(v38' l.den f g),z,⟨[.bool l.num.neg],[sv0 i l.num.mag c],z,z,⟨_,z,o⟩⟩,⟨[.bool l.den.neg],[sv0 f l.den.mag g],z,z,⟨_,z,p⟩⟩⟩,z⟩,z⟩ (key:=999) z (by rw[Y]; rfl) (fun p3 aT T aE=>?_)
   refine oA hr fun ao hr=>bG' (r:=g') 1008 z z N' el91 z (by decide) z z (S.mono (mx U T)) z (by rw[Y]; rfl) O aE ao fun p4 aB aw aJ ad az an=>sw0 z<|p'<|ar'<|E'<|b'<|w'<|mw0 z<|ad0 z<|sw0 z<|p'<|O' ⟨(y++[(Za.mk l B.1)]),p4,aB,aw,i64.wrap (i1+1),aJ⟩ hr ⟨(mx (mx (mx m U) T) ad),az,an⟩ (fz0 z) (w3 z z z)
  refine Z'<|f'<|f'<|F'<|ab' ⟨y,D,C,E,M⟩ ⟨hr,m,S,O⟩ (f1 z) (w1 z)
 rintro⟨F,K,J,L,V⟩ ⟨hr,aN,ag,aD⟩
 refine b'<|sr<|mw0 z<|sw0 z<|sx1 z<|q' ?_
 obtain rfl:_=r:=hr
 exact aW' z z z ⟨_,_,z,ag⟩
theorem be'{I u n r}(hr:(ZI I u n).Ret r):Ctr prog 12 #[i' I,i' u,i' n] (fun G=>True) (wl' g' r):=by
 refine B' (args:=[_,_,_]) (N:=21) func12 z z z fun w0 G0 ac S=>sr<|sw0 z<|nr<|mw0 z<|oE hr fun X F hr=>y' z z (k' E6 z) (cM' F) z (trivial) (fun M U L j=>?_)
 obtain⟨t,y,p,x,rfl,c,e⟩:=j
 refine mw0 z<|mw0 z<|yw0 (ax' (vs:=#[(0,i' u),(1,i' n)]) (v:=.agg (vi8 (setF (setF (fun _=>0) 0 u) 1 n)).toArray) z z (fun _=>by kernel_rfl))<|oE hr fun V B hr=>y' z z (k' E6 z) (cM' B) z (trivial) (fun T aa h l=>?_)
 obtain⟨s,q,o,A,rfl,f,d⟩:=l
 refine oE hr fun Z E hr=>y' z z (k' E28 z) (fc' E) z (⟨f,d⟩) (fun R ab g i=>?_)
 obtain⟨O,Q,rfl,D⟩:=i
 refine oE hr fun W C hr=>y' z z (k' E27 z) (eG' C) z (⟨(c.mono (mx h g)),(e.mono (mx h g)),D⟩) (fun P Y K k=>?_)
 obtain⟨J,H,rfl,m⟩:=k
 refine mw0 z<|ex0 z<|ex0 z<|sw0 z<|sw0 z<|nr<|mw0 z<|sx1 z<|q' ?_
 obtain rfl:_=r:=hr
 exact o' z z ⟨_,_,z,m⟩
theorem eH'{k n f c d e m l r}(hr:(ZeQ k n).Ret r):Ctr prog 26 #[.agg ((v40' k f c d e)).toArray,sv0 m n l] (fun G=>sl (Rp.int .u32) G f c k.num.mag/\sl (Rp.int .u32) G d e k.den.mag/\sl g' G m l n) (wl' g' r):=by
 refine B' (args:=[_,_]) (N:=15) func26 z z z (fun E D B o=>?_)
 obtain⟨h,g,t⟩:=o
 refine sr<|ah' 2 z z z fun C=>sw0 z<|nr<|yw0 (C' 2 aN' z z z)<|yw0 (ax' (vs:=#[]) (v:=.agg (vi8 (fun _=>0)).toArray) z z (fun _=>by kernel_rfl))<|mw0 z<|oE hr fun A p hr=>y' z z (k' E27 z) (eG' p) z (⟨h,g,t⟩) (fun x y u i=>?_)
 obtain⟨s,q,rfl,j⟩:=i
 refine mw0 z<|ex0 z<|ex0 z<|sw0 z<|sw0 z<|nr<|mw0 z<|sx1 z<|q' ?_
 obtain rfl:_=r:=hr
 exact o' z z ⟨_,_,z,j⟩
theorem ff'{o m r}(hr:(Zht o m).Ret r):Ctr prog 39 #[.agg (vi8 o).toArray,.agg (vi8 m).toArray] (fun G=>True) (fun G v=>v=i' r):=by
 refine B' (args:=[_,_]) (N:=24) func39 z z z fun s f C A=>sr<|ah' 2 z z z fun t=>ah' 3 z z z fun p=>sx1 z<|c'<|sr<|sx1 z<|aa' (X:=Int×Mem) hr (fun ⟨h,d⟩=>⟨h,[(2,pt0 t),(3,pt0 p),(5,i' h)],Mem.le f d,St s f d [(2,bk0 t (vi8 o) 77),(3,bk0 p (vi8 m) 77)]⟩) (fun (B:Mem)=>match B with|g=>⟨(.inr ()),[],Mem.le f g,St s f g []⟩) ⟨0,f⟩ z (fz0 z) mr (w2 z z) ?_ ?_
 .rintro _ ⟨h,d⟩ e hr
  refine c'<|sr<|mw0 z<|ls0 z<|nx<|I' hr z (fun x hr=>?_) (fun x hr=>?_)
  .refine t'<|b'<|c'<|U'<|c'<|c'<|aj' [ff,ff,ff,ff,ff,ff] mix (by kernel_rfl) fun n=>cm0 z<|oA hr fun i hr=>cn (fun _ c=>bn' av' sz3 z z i)<|cn (fun _ c=>A' 2 sc3 z z (br' _ _ _ i))<|cm0 z<|oA hr fun j hr=>cn (fun _ c=>bn' av' sz3 z z j)<|cn (fun _ c=>A' 3 sc3 z z (br' _ _ _ j))<|am' n<|ls0 z<|p'<|ar'<|b'<|I' hr z (fun q hr=>?_) (fun q hr=>?_)
   .refine sr<|sx1 z<|q'<|j'<|H'<|j'<|j'<|H'<|az'<|j' (k0' hr z z)
   refine t'<|b'<|c'<|aj' [ff,ff,ff,ff,ff,ff] mix (by kernel_rfl) fun n=>cm0 z<|oA hr fun l hr=>cn (fun _ c=>bn' av' sz3 z z l)<|cn (fun _ c=>A' 2 sc3 z z (br' _ _ _ l))<|cm0 z<|oA hr fun k hr=>cn (fun _ c=>bn' av' sz3 z z k)<|cn (fun _ c=>A' 3 sc3 z z (br' _ _ _ k))<|am' n<|yw0 (aL' z z)<|p'<|ar'<|b'<|I' hr z (fun u hr=>?_) (fun u hr=>?_)
   .refine sr<|sx1 z<|q'<|H'<|j'<|j'<|H'<|az'<|j' (k0' hr z z)
   refine t'<|E'<|b'<|w'<|mw0 z<|ad0 z<|sw0 z<|p'<|O' ⟨i64.wrap (h+1),d⟩ hr e (fz0 z) (w2 z z)
  refine Z'<|f'<|f'<|F'<|ab' d ⟨hr,e⟩ fn (wk ln)
 rintro g ⟨hr,y⟩
 refine b'<|sr<|sx1 z<|q' (k0' hr z z)
theorem fF'{L K j g l k r}(hr:(Zl0 L K).Ret r):Ctr prog 20 #[.agg ((v38' L j g)).toArray,.agg ((v38' K l k)).toArray] (fun G=>sl (Rp.int .u32) G j g L.mag/\sl (Rp.int .u32) G l k K.mag) (w38' r):=by
 refine B' (args:=[_,_]) (N:=40) func20 z z z (fun w0 G0 aA W=>?_)
 obtain⟨f,e⟩:=W
 refine sr<|ah' 2 z z z fun b2=>ah' 3 z z z fun b3=>P' 4 z z38 z fun b4=>nx<|c'<|sr<|yw0 (aw' z)<|yw0 (A' 2 sc4 z z z)<|yw0 (aw' z)<|yw0 (A' 3 sc4 z z z)<|yw0 (Y0.eqlB ba' z z)<|nx<|I' hr z (fun ai hr=>?_) (fun ai hr=>?_)
 .refine c'<|aj' [ff,ff,ff,ff,ff,ff,ff] mix (by kernel_rfl) fun hb=>cn (fun _ c=>aw' z)<|cn (fun _ c=>A' 2 sc4 z z z)<|cn (fun _ c=>ai' z)<|cn (fun _ c=>A' 2 aE' z z z)<|cn (fun _ c=>ai' z)<|cn (fun _ c=>A' 3 aE' z z z)<|oE hr fun E M hr=>at' (post:=wl' (Rp.int .u32) E) (fun _=>z) (fun _ _=>k' E46 z) (fx' M) z (fun G' c=>⟨(f.mono c),(e.mono c)⟩) (fun v G1 G2 c h=>?_) ?_
  .obtain⟨U,I,rfl,m⟩:=h
   exact⟨_,_,z,m.mono c⟩
  refine aF' (d:=16) (post:=wl' (Rp.int .u32) E) (fun aw aD an s=>?_)
  obtain⟨U,I,rfl,m⟩:=s
  refine oE hr fun aB O hr=>y' z z (k' E44 z) (bS' O) z (m) (fun av az al B=>?_)
  obtain⟨Y,ac,rfl,x⟩:=B
  refine stB 4 aA' z<|p'<|ar'<|b'<|q'<|j' ?_
  obtain rfl:_=r:=hr
  exact o' z (af' (i:=4) W' z z z) ⟨_,_,z,x⟩
 refine t'<|b'<|c'<|sr<|yw0 (ai' z)<|yw0 (A' 2 aE' z z z)<|yw0 (ai' z)<|yw0 (A' 3 aE' z z z)<|oE hr fun aC T hr=>T' z z (k' E47 z) (eb' T) z (⟨f,e⟩)<|ls0 z<|nx<|I' hr z (fun ag hr=>?_) (fun ag hr=>?_)
 .refine c'<|aj' [ff,ff,ff,ff,ff,ff,ff] mix (by kernel_rfl) fun hb=>cn (fun _ c=>aw' z)<|cn (fun _ c=>A' 3 sc4 z z z)<|cn (fun _ c=>ai' z)<|cn (fun _ c=>A' 3 aE' z z z)<|cn (fun _ c=>ai' z)<|cn (fun _ c=>A' 2 aE' z z z)<|oE hr fun C F hr=>at' (post:=wl' (Rp.int .u32) C) (fun _=>z) (fun _ _=>k' E48 z) (eE' F) z (fun G' c=>⟨(e.mono c),(f.mono c)⟩) (fun v G1 G2 c h=>?_) ?_
  .obtain⟨R,P,rfl,n⟩:=h
   exact⟨_,_,z,n.mono c⟩
  refine aF' (d:=30) (post:=wl' (Rp.int .u32) C) (fun au ax am t=>?_)
  obtain⟨R,P,rfl,n⟩:=t
  refine oE hr fun aG S hr=>y' z z (k' E44 z) (bS' S) z (n) (fun aq aE ak u=>?_)
  obtain⟨ab,aa,rfl,y⟩:=u
  refine stB 4 aA' z<|p'<|ar'<|b'<|q'<|j' ?_
  obtain rfl:_=r:=hr
  exact o' z (af' (i:=4) W' z z z) ⟨_,_,z,y⟩
 refine t'<|b'<|c'<|aj' [ff,ff,ff,ff,ff,ff,ff] mix (by kernel_rfl) fun hb=>cn (fun _ c=>aw' z)<|cn (fun _ c=>A' 2 sc4 z z z)<|cn (fun _ c=>ai' z)<|cn (fun _ c=>A' 2 aE' z z z)<|cn (fun _ c=>ai' z)<|cn (fun _ c=>A' 3 aE' z z z)<|oE hr fun D H hr=>at' (post:=wl' (Rp.int .u32) D) (fun _=>z) (fun _ _=>k' E48 z) (eE' H) z (fun G' c=>⟨(f.mono c),(e.mono c)⟩) (fun v G1 G2 c h=>?_) ?_
 .obtain⟨Q,J,rfl,o⟩:=h
  exact⟨_,_,z,o.mono c⟩
 refine aF' (d:=38) (post:=wl' (Rp.int .u32) D) (fun ap aH aj p=>?_)
 obtain⟨Q,J,rfl,o⟩:=p
 refine oE hr fun aF V hr=>y' z z (k' E44 z) (bS' V) z (o) (fun ar ay ao A=>?_)
 obtain⟨Z,X,rfl,q⟩:=A
 refine stB 4 aA' z<|p'<|ar'<|b'<|q' ?_
 obtain rfl:_=r:=hr
 exact o' z (af' (i:=4) W' z z z) ⟨_,_,z,q⟩
theorem fG'{t s m o e k l n g j r}(hr:(Zhs t s).Ret r):Ctr prog 40 #[.agg ((v40' t m o e k)).toArray,.agg ((v40' s l n g j)).toArray] (fun G=>sl (Rp.int .u32) G m o t.num.mag/\sl (Rp.int .u32) G e k t.den.mag/\sl (Rp.int .u32) G l n s.num.mag/\sl (Rp.int .u32) G g j s.den.mag) (w40' r):=by
 refine B' (args:=[_,_]) (N:=22) func40 z z z (fun w0 G0 aA ak=>?_)
 obtain⟨I,A,J,y⟩:=ak
 refine sr<|ah' 2 z z z fun b2=>ah' 3 z z z fun b3=>P' 4 z z40 z fun b4=>nx<|c'<|aj' [ff,ff,ff,ff,ff,ff,ff,ff,ff,ff,ff,ff,ff,ff,ff] mix (by kernel_rfl) fun hb=>cn (fun _ c=>aT' z)<|cn (fun _ c=>ag' ((v38' t.num m o)).toArray 2 W' z z z (aq' ([]) ((v38' t.num m o)) ((v38' t.den e k))))<|cn (fun _ c=>aM' z)<|cn (fun _ c=>ag' ((v38' s.den g j)).toArray 3 W' z z z (aq' ((v38' s.num l n)) ((v38' s.den g j)) ([])))<|oE hr fun V ag hr=>at' (post:=w38' V) (fun _=>z) (fun _ _=>k' E21 z) (dt' ag) z (fun W c=>⟨(I.mono c),(y.mono c)⟩) (fun v G1 G2 c h=>?_) ?_
 .obtain⟨D,B,rfl,p⟩:=h
  exact⟨_,_,z,p.mono c⟩
 refine cu (fun _ _ c=>aT' z)<|cu (fun _ _ c=>ag' ((v38' s.num l n)).toArray 3 W' z z z (aq' ([]) ((v38' s.num l n)) ((v38' s.den g j))))<|cu (fun _ _ c=>aM' z)<|cu (fun _ _ c=>ag' ((v38' t.den e k)).toArray 2 W' z z z (aq' ((v38' t.num m o)) ((v38' t.den e k)) ([])))<|oE hr fun U ah hr=>at' (post:=w38' U) (fun _=>z) (fun _ _=>k' E21 z) (dt' ah) z (fun W c=>⟨(J.mono c),(A.mono c)⟩) (fun v G1 G2 c h=>?_) ?_
 .obtain⟨C,E,rfl,q⟩:=h
  exact⟨_,_,z,q.mono c⟩
 refine oE hr fun ae aj hr=>bd' (f:=20) (φ:=w38' ae) (fun _=>z) (fun v G1 G2 c h=>?_) (fun u W c hu=>?_) ?_
 .obtain⟨T,Q,rfl,x⟩:=h
  exact⟨_,_,z,x.mono c⟩
 .obtain⟨⟨C,E,Z,q⟩,⟨D,B,ac,p⟩,_⟩:=(show (w38' U) W.m (u 14)/\(w38' V) W.m (u 9)/\True from hu)
  exact⟨_,_,_,fun _=>k' E20 z,fF' aj,(by simp only[Z,ac] <;> rfl),⟨p,q⟩⟩
 refine cu (fun _ _ c=>aM' z)<|cu (fun _ _ c=>ag' ((v38' t.den e k)).toArray 2 W' z z z (aq' ((v38' t.num m o)) ((v38' t.den e k)) ([])))<|cu (fun _ _ c=>aM' z)<|cu (fun _ _ c=>ag' ((v38' s.den g j)).toArray 3 W' z z z (aq' ((v38' s.num l n)) ((v38' s.den g j)) ([])))<|Chain.tailU3 (d:=15) (post:=w38' ae) (d':=14) (post':=w38' U) (d'':=9) (post'':=w38' V) (fun ar av aw aC K R S M=>?_)
 obtain⟨T,Q,rfl,x⟩:=R
 obtain⟨C,E,rfl,q⟩:=S
 obtain⟨D,B,rfl,p⟩:=M
 refine oE hr fun ay af hr=>y' z z (k' E21 z) (dt' af) z (⟨(A.mono K),(y.mono K)⟩) (fun au az ab O=>?_)
 obtain⟨al,am,rfl,L⟩:=O
 refine oE hr fun aD ai hr=>y' z z (k' E22 z) (dL' ai) z (⟨(x.mono ab),L⟩) (fun aq aB ap P=>?_)
 obtain⟨ad,X,Y,aa,rfl,F,H⟩:=P
 refine stB 4 bk' z<|p'<|ar'<|b'<|q' ?_
 obtain rfl:_=r:=hr
 exact o' z (af' (i:=4) aN' z z z) ⟨_,_,_,_,z,F,H⟩
theorem dU'{D B M S P Q r}(hr:(Zdg D B).Ret r):Ctr prog 15 #[sv0 M D S,sv0 P B Q] (fun G=>sl g' G M S D/\sl g' G P Q B) (wl' g' r):=by
 refine B' (args:=[_,_]) (N:=109) func15 z z z (fun w0 G0 aq bx=>?_)
 obtain⟨y,F⟩:=bx
 refine sr<|sw0 z<|nr<|aO' (e:=91) (r:=g') (vs:=#[]) (cs:=[]) ([]:List Za) z z z z z (by decide) (fun _=>by kernel_rfl) (z) (key:=999) z (by rw[aq]; rfl) fun p1 aW g bQ=>sw0 z<|nr<|sw0 z<|sx1 z<|c'<|aa' (X:=(List Za)×Option Addr×Nat×Option Ow×Int×Int×Mem) hr (fun ⟨E,R,L,K,V,C,am⟩=>⟨(E,V,C),[(0,sv0 M D S),(1,sv0 P B Q),(5,sv0 R E L),(6,i' V),(7,i' C)],Mem.le aW am/\sl g' am R L E/\Tok 12 91 (sv0 R E L) E.length K,St w0 G0 am [(1005,K)]⟩) (fun (⟨ai,ao,an,ap,aT⟩:(List Za)×Option Addr×Nat×Option Ow×Mem)=>⟨ai,[(5,sv0 ao ai an)],Mem.le aW aT/\sl g' aT ao an ai/\Tok 12 91 (sv0 ao ai an) ai.length ap,St w0 G0 aT [(1005,ap)]⟩) ⟨[],p1,0,none,0,0,aW⟩ z (fz0 z) ⟨mr,bQ,cD'⟩ (wk (lw ln)) ?_ ?_
 .rintro _ ⟨E,R,L,K,V,C,am⟩ ⟨d,aA,ar⟩ hr
  refine aD' hr (fun (gx:Mem)=>match gx with|ak=>⟨[(0,sv0 M D S),(1,sv0 P B Q),(5,sv0 R E L),(6,i' V),(7,i' C)],Zbn D B E V C,Mem.le am ak,St w0 G0 ak [(1005,K)]⟩) ?_ ?_
  .refine sr<|mw0 z<|mw0 z<|yw0 (D' N' (y.mono (mx g d)) z)<|aQ' hr z (ae' z z) z (fun b0 hr=>?_) (fun b0 hr=>?_)
   .refine mw0 z<|sn4 z<|pt00 z<|nx<|aR' z<|t'<|ao' am ⟨hr,mr⟩ (fz0 z) (w1 z)
   refine mw0 z<|gm0 z<|gm0 z<|gy z z (D' N' (F.mono (mx g d)) z) z<|gy z z (ae' z z) z<|pf00 z<|nx<|I' hr z (fun bM hr=>?_) (fun bM hr=>?_)
   .refine t'<|ao' am ⟨hr,mr⟩ (fz0 z) (w1 z)
   refine Z'<|f'<|f'<|F'<|ab' ⟨E,R,L,K,am⟩ ⟨hr,d,aA,ar⟩ (f1 z) (w1 z)
  rintro ak ⟨hr,f⟩
  refine U'<|aD' hr (fun (⟨U,Z,aa,Y,T,al⟩:(List Za)×Option Addr×Nat×Option Ow×Int×Mem)=>⟨[(0,sv0 M D S),(1,sv0 P B Q),(5,sv0 Z U aa),(6,i' T),(7,i' C)],ZcU D B C U T,Mem.le ak al/\sl g' al Z aa U/\Tok 12 91 (sv0 Z U aa) U.length Y,St w0 G0 al [(1005,Y)]⟩) ?_ ?_
  .refine aD' hr (fun (⟨az,aR⟩:Bool×Mem)=>⟨[(0,sv0 M D S),(1,sv0 P B Q),(5,sv0 R E L),(6,i' V),(7,i' C),(43,.bool az)],ZaV D B E V C az,Mem.le ak aR,St w0 G0 aR [(1005,K)]⟩) ?_ ?_
   .refine aj' [ff,ff,ff,ff,ff,ff,ff,ff,ff,ff,ff,ff,ff,ff,ff,ff,ff,ff,ff,ff] mix (by kernel_rfl) fun hb=>cm0 z<|cm0 z<|cn (fun _ c=>D' N' ((F.mono (mx (mx g d) f)).mono c) z)<|bX' hr z (fun _ c=>aK' z z) (fun bP hr=>?_) (fun bP hr=>?_)
    .refine cm0 z<|cf z z<|cf z z<|cf z z<|cf z z<|cf z z<|cs z z<|cs z z<|cs z z<|cs z z<|cs z z<|cs z z<|cs z z<|cs z z<|cs z z<|cs z z<|am' hb<|cK' (bT' z z) z<|cK' (bT' z z) z<|sf z z z<|pt00 z<|p'<|ar'<|ao' ⟨true,ak⟩ ⟨hr,mr⟩ (fz0 z) (w1 z)
    refine cm0 z<|cy z z (fun _ c=>n' z)<|cy z z (fun _ c=>n' z)<|cy z z (fun _ c=>D' N' ((y.mono (mx (mx g d) f)).mono c) z)<|bX' hr (as' z z) (fun _ c=>ae' z z) (fun bT hr=>?_) (fun bT hr=>?_)
    .refine cy z z (fun _ c=>n' z)<|cy z z (fun _ c=>n' z)<|cy z z (fun _ c=>n' z)<|oE hr fun x8 bh hr=>cy z z (fun _ c=>Q' N' by' ((y.mono (mx (mx g d) f)).mono c) z z bh)<|cy z z (fun _ c=>bb' z)<|cy z z (fun _ c=>aP' _ bt' z (an' _ _ _) (AtK.vec (M' (M' (cS' (bW' (ad' y bh))) (mx (mx g d) f)) c)))<|cy z z (fun _ c=>n' z)<|cy z z (fun _ c=>n' z)<|oE hr fun x9 bg hr=>cy z z (fun _ c=>Q' N' by' ((F.mono (mx (mx g d) f)).mono c) z z bg)<|cy z z (fun _ c=>bb' z)<|cy z z (fun _ c=>aP' _ bt' z (an' _ _ _) (AtK.vec (M' (M' (cS' (bW' (ad' F bg))) (mx (mx g d) f)) c)))<|am' hb<|oE hr fun bD bj hr=>T' (as' z z) z (k' E39 z) (ff' bj) z (trivial)<|gy z z (aL' z z) z<|gy z z (V' z z) z<|pf00 z<|p'<|ar'<|ao' ⟨decide (0<bD),ak⟩ ⟨hr,mr⟩ (fz0 z) (w1 z)
    refine cy z z (fun _ c=>n' z)<|ct z z<|ct z z<|ct z z<|ct z z<|ct z z<|ct z z<|ct z z<|ct z z<|ct z z<|ct z z<|am' hb<|sn2 z<|gy z z (X' z z) z<|pf00 z<|p'<|ar'<|ao' ⟨false,ak⟩ ⟨hr,mr⟩ (fz0 z) (w1 z)
   rintro⟨az,aR⟩ ⟨hr,ac⟩
   refine aX' hr z (fun bU hr=>?_) (fun bU hr=>?_)
   .refine sr<|mw0 z<|mw0 z<|mw0 z<|oE hr fun x7 bf hr=>yw0 (Q' N' by' (y.mono (mx (mx (mx g d) f) ac)) z z bf) ?_
    obtain⟨o,p,q,t,bL,aB,aC⟩:=bB' (M' (ad' y bf) (mx (mx (mx g d) f) ac))
    refine yw0 (aP' _ ag91 z z bL)<|aO' (e:=91) (r:=g') (vs:=#[(0,.agg (((v40' x7.c o p q t):List Value)++(vi8 x7.m)).toArray)]) (cs:=(((v40' x7.c o p q t):List Value)++(vi8 x7.m))++([])) ([x7]:List Za) z z z z z (by decide) (fun _=>by kernel_rfl) ⟨((v40' x7.c o p q t):List Value)++(vi8 x7.m),[],z,⟨(v40' x7.c o p q t),vi8 x7.m,z,⟨(v38' x7.c.num o p),(v38' x7.c.den q t),z,⟨[.bool x7.c.num.neg],[sv0 o x7.c.num.mag p],z,z,⟨_,z,aB⟩⟩,⟨[.bool x7.c.den.neg],[sv0 q x7.c.den.mag t],z,z,⟨_,z,aC⟩⟩⟩,z⟩,z⟩ (key:=999) z (by rw[aq]; rfl) (fun p6 cc aM bC=>?_)
    refine oA hr fun bp hr=>bG' (r:=g') 1005 z z N' el91 z (by decide) z z (aA.mono (mx (mx f ac) aM)) z (by rw[aq]; rfl) ar bC bp fun p7 bZ bl bV a1 bI bs=>sw0 z<|nr<|mw0 z<|ad0 z<|sx1 z<|Z'<|f'<|F'<|O' ⟨(E++[x7]),p7,bZ,bl,i64.wrap (V+1),C,bV⟩ hr ⟨(mx (mx (mx (mx d f) ac) aM) a1),bI,bs⟩ (fz0 z) (w1 z)
   refine t'<|ao' ⟨E,R,L,K,V,aR⟩ ⟨hr,ac,(aA.mono (mx f ac)),ar⟩ (fz0 z) (w1 z)
  rintro⟨U,Z,aa,Y,T,al⟩ ⟨hr,n,aO,aD⟩
  refine aD' hr (fun (⟨W,ah,ag,af,au,aN⟩:(List Za)×Option Addr×Nat×Option Ow×Int×Mem)=>⟨[(0,sv0 M D S),(1,sv0 P B Q),(5,sv0 ah W ag),(6,i' T),(7,i' au)],ZfN D B T W au,Mem.le al aN/\sl g' aN ah ag W/\Tok 12 91 (sv0 ah W ag) W.length af,St w0 G0 aN [(1005,af)]⟩) ?_ ?_
  .refine aD' hr (fun (⟨ax,aU⟩:Bool×Mem)=>⟨[(0,sv0 M D S),(1,sv0 P B Q),(5,sv0 Z U aa),(6,i' T),(7,i' C),(70,.bool ax)],ZcT D B C U T ax,Mem.le al aU,St w0 G0 aU [(1005,Y)]⟩) ?_ ?_
   .refine aj' [ff,ff,ff,ff,ff,ff,ff,ff,ff,ff,ff,ff,ff,ff,ff] mix (by kernel_rfl) fun hb=>cm0 z<|cm0 z<|cn (fun _ c=>D' N' ((y.mono (mx (mx (mx g d) f) n)).mono c) z)<|bX' hr z (fun _ c=>aK' z z) (fun b2 hr=>?_) (fun b2 hr=>?_)
    .refine cm0 z<|cf z z<|cf z z<|cf z z<|cf z z<|cf z z<|cf z z<|cf z z<|cf z z<|cf z z<|cf z z<|am' hb<|sn2 z<|pt00 z<|p'<|ar'<|ao' ⟨true,al⟩ ⟨hr,mr⟩ (fz0 z) (w1 z)
    refine cm0 z<|cy z z (fun _ c=>n' z)<|cy z z (fun _ c=>n' z)<|oE hr fun x5 a4 hr=>cy z z (fun _ c=>Q' N' by' ((y.mono (mx (mx (mx g d) f) n)).mono c) z z a4)<|cy z z (fun _ c=>bb' z)<|cy z z (fun _ c=>aP' _ bt' z (an' _ _ _) (AtK.vec (M' (M' (cS' (bW' (ad' y a4))) (mx (mx (mx g d) f) n)) c)))<|cy z z (fun _ c=>n' z)<|cy z z (fun _ c=>n' z)<|oE hr fun x6 bc hr=>cy z z (fun _ c=>Q' N' by' ((F.mono (mx (mx (mx g d) f) n)).mono c) z z bc)<|cy z z (fun _ c=>bb' z)<|cy z z (fun _ c=>aP' _ bt' z (an' _ _ _) (AtK.vec (M' (M' (cS' (bW' (ad' F bc))) (mx (mx (mx g d) f) n)) c)))<|am' hb<|oE hr fun bO bw hr=>T' (as' z z) z (k' E39 z) (ff' bw) z (trivial)<|gy z z (ae' z z) z<|pf00 z<|p'<|ar'<|ao' ⟨decide (bO<0),al⟩ ⟨hr,mr⟩ (fz0 z) (w1 z)
   rintro⟨ax,aU⟩ ⟨hr,ab⟩
   refine aX' hr z (fun bN hr=>?_) (fun bN hr=>?_)
   .refine sr<|mw0 z<|mw0 z<|mw0 z<|oE hr fun x4 a3 hr=>yw0 (Q' N' by' (F.mono (mx (mx (mx (mx g d) f) n) ab)) z z a3) ?_
    obtain⟨u,s,x,A,bK,aw,ay⟩:=bB' (M' (ad' F a3) (mx (mx (mx (mx g d) f) n) ab))
    refine yw0 (aP' _ ag91 z z bK)<|aO' (e:=91) (r:=g') (vs:=#[(0,.agg (((v40' x4.c u s x A):List Value)++(vi8 x4.m)).toArray)]) (cs:=(((v40' x4.c u s x A):List Value)++(vi8 x4.m))++([])) ([x4]:List Za) z z z z z (by decide) (fun _=>by kernel_rfl) ⟨((v40' x4.c u s x A):List Value)++(vi8 x4.m),[],z,⟨(v40' x4.c u s x A),vi8 x4.m,z,⟨(v38' x4.c.num u s),(v38' x4.c.den x A),z,⟨[.bool x4.c.num.neg],[sv0 u x4.c.num.mag s],z,z,⟨_,z,aw⟩⟩,⟨[.bool x4.c.den.neg],[sv0 x x4.c.den.mag A],z,z,⟨_,z,ay⟩⟩⟩,z⟩,z⟩ (key:=999) z (by rw[aq]; rfl) (fun p4 ce aP bH=>?_)
    refine oA hr fun bt hr=>bG' (r:=g') 1005 z z N' el91 z (by decide) z z (aO.mono (mx ab aP)) z (by rw[aq]; rfl) aD bH bt fun p5 bB bz bY aY bX bu=>sw0 z<|nr<|mw0 z<|ad0 z<|sx1 z<|Z'<|f'<|F'<|O' ⟨(U++[x4]),p5,bB,bz,T,i64.wrap (C+1),bY⟩ hr ⟨(mx (mx (mx (mx (mx d f) n) ab) aP) aY),bX,bu⟩ (fz0 z) (w1 z)
   refine t'<|ao' ⟨U,Z,aa,Y,C,aU⟩ ⟨hr,ab,(aO.mono ab),aD⟩ (fz0 z) (w1 z)
  rintro⟨W,ah,ag,af,au,aN⟩ ⟨hr,O,aQ,aF⟩
  refine c'<|aj' [ff,ff,ff,ff,ff,ff,ff,ff,ff,ff,ff,ff] mix (by kernel_rfl) fun hb=>cm0 z<|cm0 z<|oE hr fun x1 bi hr=>cn (fun _ c=>Q' N' by' ((y.mono (mx (mx (mx (mx g d) f) n) O)).mono c) z z bi)<|cn (fun _ c=>bu' z) ?_
  obtain⟨a8,bd,be,a6,bF,aK,aH⟩:=cW' (M' (AtK.fst (bW' (ad' y bi))) (mx (mx (mx (mx g d) f) n) O))
  refine cn (fun _ c=>aP' _ aN' z z (fun j v hv=>c _ _ _ (bF j v hv)))<|cm0 z<|cm0 z<|oE hr fun x2 a2 hr=>cn (fun _ c=>Q' N' by' ((F.mono (mx (mx (mx (mx g d) f) n) O)).mono c) z z a2)<|cn (fun _ c=>bu' z) ?_
  obtain⟨a7,a9,ba,bb,bA,aE,aJ⟩:=cW' (M' (AtK.fst (bW' (ad' F a2))) (mx (mx (mx (mx g d) f) n) O))
  refine cn (fun _ c=>aP' _ aN' z z (fun j v hv=>c _ _ _ (bA j v hv)))<|oE hr fun J bq hr=>at' (post:=w40' J) (fun _=>z) (fun _ _=>k' E40 z) (fG' bq) z (fun G' c=>⟨(aK.mono c),(aH.mono c),(aE.mono c),(aJ.mono c)⟩) (fun v G1 G2 c h=>?_) ?_
  .obtain⟨m,l,i,k,rfl,I,H⟩:=h
   exact⟨_,_,_,_,z,I.mono c,H.mono c⟩
  refine cc' (fun _=>z) z40<|Chain.tailX2 (fun cg b9 X1 aj aX aV=>?_)
  obtain⟨b1,rfl,bn⟩:=aX
  obtain⟨m,l,i,k,rfl,I,H⟩:=aV
  refine WL.adopt bn (WL.unX (show WL _ _ _ _ _ _ (St w0 G0 X1.m _) from ?_))
  refine stB 8 bk' z<|p'<|ar'<|b'<|c'<|sr<|yw0 (C' 8 aN' z z z)<|oE hr fun cb br hr=>T' z z (k' E24 z) (ei' br) z (⟨I,H⟩)<|yw0 (bU' z z)<|nx<|I' hr z (fun b3 hr=>?_) (fun b3 hr=>?_)
  .refine aj' [tt,ff,ff,ff,ff,ff,ff] mix (by kernel_rfl) fun hb=>cx' z (n' z)<|cn (fun _ c=>C' 8 aN' z z z)<|cm0 z<|cm0 z ?_
   obtain⟨x3,a5,hr⟩:=hr
   have N1:=mx (mx (mx (mx (mx g d) f) n) O) aj
   refine cn (fun _ c=>Q' N' by' ((y.mono N1).mono c) z z a5)<|cn (fun _ c=>bb' z)<|cn (fun _ c=>aP' _ bt' z (an' _ _ _) (AtK.vec (M' (M' (cS' (bW' (ad' y a5))) N1) c)))<|am' hb<|yw0 (ax' (vs:=#[(0,.agg ((v40' J m l i k)).toArray),(1,.agg (vi8 x3.m).toArray)]) (v:=.agg (((v40' J m l i k):List Value)++(vi8 x3.m)).toArray) z z (fun _=>by kernel_rfl))<|aO' (e:=91) (r:=g') (vs:=#[(0,.agg (((v40' J m l i k):List Value)++(vi8 x3.m)).toArray)]) (cs:=(((v40' J m l i k):List Value)++(vi8 x3.m))++([])) ([(Za.mk J x3.m)]:List Za) z z z z z (by decide) (fun _=>by kernel_rfl) ⟨((v40' J m l i k):List Value)++(vi8 x3.m),[],z,⟨(v40' J m l i k),vi8 x3.m,z,⟨(v38' J.num m l),(v38' J.den i k),z,⟨[.bool J.num.neg],[sv0 m J.num.mag l],z,z,⟨_,z,I⟩⟩,⟨[.bool J.den.neg],[sv0 i J.den.mag k],z,z,⟨_,z,H⟩⟩⟩,z⟩,z⟩ (key:=999) z (by rw[aq]; rfl) (fun p2 cd aS bR=>?_)
   refine oA hr fun bm hr=>bG' (r:=g') 1005 z z N' el91 z (by decide) z z (aQ.mono (mx aj aS)) z (by rw[aq]; rfl) aF bR bm fun p3 bJ bk bE aZ bS bo=>sw0 z<|p'<|ar'<|b'<|sr<|mw0 z<|ad0 z<|sx1 z<|w'<|mw0 z<|ad0 z<|sw0 z<|p'<|E'<|O' ⟨(W++[(Za.mk J x3.m)]),p3,bJ,bk,i64.wrap (T+1),i64.wrap (au+1),bE⟩ hr ⟨(mx (mx (mx (mx (mx (mx d f) n) O) aj) aS) aZ),bS,bo⟩ (fz0 z) (w1 z)
  refine t'<|b'<|sr<|mw0 z<|ad0 z<|sx1 z<|w'<|mw0 z<|ad0 z<|sw0 z<|p'<|E'<|O' ⟨W,ah,ag,af,i64.wrap (T+1),i64.wrap (au+1),X1.m⟩ hr ⟨(mx (mx (mx (mx d f) n) O) aj),(aQ.mono aj),aF⟩ (fz0 z) (w1 z)
 rintro⟨ai,ao,an,ap,aT⟩ ⟨hr,b4,a0,bW⟩
 refine b'<|sr<|mw0 z<|sx1 z<|q' ?_
 obtain rfl:_=r:=hr
 exact o' z z ⟨_,_,z,a0⟩
theorem du'{x v p o q n r}(hr:(Zeh x v).Ret r):Ctr prog 11 #[sv0 p x o,sv0 q v n] (fun G=>sl g' G p o x/\sl g' G q n v) (wl' g' r):=by
 refine B' (args:=[_,_]) (N:=10) func11 z z z (fun W V U y=>?_)
 obtain⟨D,C⟩:=y
 refine sr<|sw0 z<|nr<|mw0 z<|oE hr fun Q B hr=>y' z z (k' E6 z) (cM' B) z (trivial) (fun F O e g=>?_)
 obtain⟨j,m,i,l,rfl,c,d⟩:=g
 refine mw0 z<|oE hr fun P s hr=>y' z z (k' E26 z) (eH' s) z (⟨c,d,(C.mono e)⟩) (fun M S k h=>?_)
 obtain⟨H,I,rfl,A⟩:=h
 refine oE hr fun R u hr=>y' z z (k' E15 z) (dU' u) z (⟨(D.mono (mx e k)),A⟩) (fun L T E f=>?_)
 obtain⟨J,K,rfl,t⟩:=f
 refine sx1 z<|q' ?_
 obtain rfl:_=r:=hr
 exact o' z z ⟨_,_,z,t⟩
theorem eS'{e r}(hr:(Zcv e).Ret r):Ctr prog 84 #[.int .i32 e] (fun G=>True) (fun G v=>v = .bool r):=by
 refine B' (args:=[_]) (N:=13) func84 z z z fun h i g f=>sr<|sw0 z<|nr<|mw0 z<|aQ' hr z (bF' z z) z (fun c hr=>?_) (fun c hr=>?_)
 .refine mw0 z<|gm0 z<|aQ' hr (as' z z) (bF' z z) z (fun d hr=>?_) (fun d hr=>?_)
  .refine pt00 z<|mw0 z<|sn2 z<|pt00 z<|sx1 z<|q' (k0' hr z z)
  refine pt00 z<|mw0 z<|gm0 z<|gy z z (aK' z z) z<|pf00 z<|sx1 z<|q' (k0' hr z z)
 refine mw0 z<|sn2 z<|pf00 z<|mw0 z<|gm0 z<|gy z z (aK' z z) z<|pf00 z<|sx1 z<|q' (k0' hr z z)
theorem eT'{f r}(hr:(Zcu f).Ret r):Ctr prog 42 #[.string f] (fun G=>True) (fun G v=>v = .bool r):=by
 refine B' (args:=[_]) (N:=45) func42 z z z fun o l J H=>sr<|sx1 z<|aD' hr (fun (p:Mem)=>match p with|g=>⟨[(0,.string f)],ZeJ f,Mem.le l g,St o l g []⟩) ?_ ?_
 .refine sr<|mw0 z<|yw0 (Y0.lenS cf' z)<|aQ' hr z (ae' z z) z (fun y hr=>?_) (fun y hr=>?_)
  .refine mw0 z<|sn3 z<|pt00 z<|nx<|aR' z<|sr<|sx1 z<|q'<|j' (k0' hr z z)
  refine mw0 z<|gm0 z<|gy z z (Y0.lenS cf' z) z<|gy z z (aL' z z) z<|pf00 z<|nx<|I' hr z (fun u hr=>?_) (fun u hr=>?_)
  .refine sr<|sx1 z<|q'<|j' (k0' hr z z)
  refine t'<|ao' l ⟨hr,mr⟩ (f1 z) (wk ln)
 rintro g ⟨hr,E⟩
 refine c'<|sr<|mw0 z<|WL.rangeS 4015 z z cf' z fun j=>nx<|aa' (X:=Nat×Mem) hr (fun ⟨c,d⟩=>⟨c,[(15,pt0 j)],Mem.le g d,St o l d [(4015,(some ⟨j,.stringIter f c,0⟩))]⟩) (fun (p:Mem)=>match p with|n=>⟨(.inr ()),[],Mem.le g n,St o l n []⟩) ⟨0,g⟩ z (f1 z) mr (w1 z) ?_ ?_
 .rintro _ ⟨c,d⟩ h hr
  refine sr<|WL.nextS 4015 z z z z (fun m=>?_) (fun m=>?_)
  .replace hr:=hr.pos m
   refine ex0 z<|nx<|c'<|aR' z<|t'<|b'<|U'<|sr<|ex0 z<|ex0 z<|sw0 z<|sx1 z<|aD' hr (fun (⟨e,i⟩:Bool×Mem)=>⟨[(3,i' (c:Int)),(4,.int .i32 ((Utf8.decode f c).1:Int)),(5,.bool e),(15,pt0 j)],ZR f c e,Mem.le d i,St o l i [(4015,(some ⟨j,.stringIter f (c+(Utf8.decode f c).2),0⟩))]⟩) ?_ ?_
   .refine w'<|mw0 z<|aQ' hr z (bF' z z) z (fun C hr=>?_) (fun C hr=>?_)
    .refine mw0 z<|gm0 z<|aQ' hr (as' z z) (bF' z z) z (fun A hr=>?_) (fun A hr=>?_)
     .refine pt00 z<|mw0 z<|sn3 z<|cK' (bT' z z) z<|cK' (bT' z z) z<|sf z z z<|pt00 z<|sw0 z<|p'<|ao' ⟨true,d⟩ ⟨hr,mr⟩ (fz0 z) (w1 z)
     refine pt00 z<|mw0 z<|gm0 z<|aQ' hr (as' z z) (bF' z z) z (fun t hr=>?_) (fun t hr=>?_)
     .refine gm0 z<|gm0 z<|gy z z (bF' z z) z<|gy z z (V' z z) z<|pf00 z<|sw0 z<|p'<|ao' ⟨decide (((Utf8.decode f c).1:Int)<=122),d⟩ ⟨hr,mr⟩ (fz0 z) (w1 z)
     refine gm0 z<|sn2 z<|gy z z (X' z z) z<|pf00 z<|sw0 z<|p'<|ao' ⟨false,d⟩ ⟨hr,mr⟩ (fz0 z) (w1 z)
    refine mw0 z<|sn2 z<|pf00 z<|mw0 z<|gm0 z<|aQ' hr (as' z z) (bF' z z) z (fun s hr=>?_) (fun s hr=>?_)
    .refine gm0 z<|gm0 z<|gy z z (bF' z z) z<|gy z z (V' z z) z<|pf00 z<|sw0 z<|p'<|ao' ⟨decide (((Utf8.decode f c).1:Int)<=122),d⟩ ⟨hr,mr⟩ (fz0 z) (w1 z)
    refine gm0 z<|sn2 z<|gy z z (X' z z) z<|pf00 z<|sw0 z<|p'<|ao' ⟨false,d⟩ ⟨hr,mr⟩ (fz0 z) (w1 z)
   rintro⟨e,i⟩ ⟨hr,k⟩
   refine sr<|aQ' hr z (Y0.eq (n' z) (congrArg Value.bool (bdec _))) z (fun B hr=>?_) (fun B hr=>?_)
   .refine yw0 (bf' z)<|mw0 z<|sn3 z<|cK' (bT' z z) z<|cK' (bT' z z) z<|cK' (bT' z z) z<|sk z z z<|pf00 z<|nx<|bJ' z<|t'<|E'<|O' ⟨(c+(Utf8.decode f c).2),i⟩ hr (mx h k) (f1 z) (w1 z)
   refine yw0 (bf' z)<|mw0 z<|gm0 z<|aQ' hr (as' z z) (aK' z z) z (fun x hr=>?_) (fun x hr=>?_)
   .refine gm0 z<|sn3 z<|gy z z (V' z z) z<|pt00 z<|nx<|aR' z<|sr<|sx1 z<|q'<|H'<|j'<|H'<|az'<|j' (k0' hr z z)
   refine gm0 z<|gm0 z<|oE hr fun I q hr=>T' (as' z z) z (k' E84 z) (eS' q) z (trivial)<|gy z z (bf' z) z<|gy z z (X' z z) z<|pt00 z<|nx<|aX' hr z (fun D hr=>?_) (fun D hr=>?_)
   .refine sr<|sx1 z<|q'<|H'<|j'<|H'<|az'<|j' (k0' hr z z)
   refine t'<|E'<|O' ⟨(c+(Utf8.decode f c).2),i⟩ hr (mx h k) (f1 z) (w1 z)
  replace hr:=hr.neg m
  refine ex0 z<|nx<|c'<|bJ' z<|Z'<|f'<|f'<|F'<|ab' d ⟨hr,h⟩ fn (wk ln)
 rintro n ⟨hr,F⟩
 refine b'<|sr<|sx1 z<|q' (k0' hr z z)
theorem dn'{c m l i j g f r}(hr:(Zbk c).Ret r):Ctr prog 17 #[.agg ((v34' c m l i j g f)).toArray] (fun G=>y31' G m l i j g f c) (fun G v=>v = .bool r):=by
 refine B' (args:=[_]) (N:=108) func17 z z z (fun T K aP aI=>?_)
 obtain⟨n,U,Q⟩:=aI
 refine sr<|ah' 1 z z z fun t=>sx1 z<|aD' hr (fun (V:Mem)=>match V with|J=>⟨[(1,pt0 t)],Ze6 c,Mem.le K J,St T K J [(1,bk0 t (v34' c m l i j g f) 34)]⟩) ?_ ?_
 .refine sr<|yw0 (Y0.ZiL z)<|yw0 (A' 1 sc31 z z z)<|yw0 (D' ca' n z)<|aQ' hr z (aL' z z) z (fun a5 hr=>?_) (fun a5 hr=>?_)
  .refine mw0 z<|sn3 z<|pt00 z<|mw0 z<|sn3 z<|pt00 z<|nx<|aR' z<|sr<|sx1 z<|q'<|j' (k0' hr z z)
  refine mw0 z<|gy z z (dv' z) z<|gy z z (A' 1 sc3 z z z) z<|aQ' hr (as' z z) (ae' z z) z (fun aZ hr=>?_) (fun aZ hr=>?_)
  .refine pf00 z<|mw0 z<|sn3 z<|pt00 z<|nx<|aR' z<|sr<|sx1 z<|q'<|j' (k0' hr z z)
  refine pf00 z<|mw0 z<|gy z z (dv' z) z<|gy z z (A' 1 sc3 z z z) z<|gy z z (aL' z z) z<|pf00 z<|nx<|I' hr z (fun aU hr=>?_) (fun aU hr=>?_)
  .refine sr<|sx1 z<|q'<|j' (k0' hr z z)
  refine t'<|ao' K ⟨hr,mr⟩ (f1 z) (w1 z)
 rintro J ⟨hr,s⟩
 refine sr<|WL.makeMap (ky:=ky9) (Rv:=RvS Rp.bool J) 4025 z z fun av ao ay=>sx1 z<|c'<|sr<|yw0 (Y0.ZiL z)<|yw0 (A' 1 sc31 z z z)<|yw0 (D' ca' (n.mono s) z)<|mw0 z<|nx<|aa' (X:=Int×(List (ByteArray×Bool))×Option Ow×Mem) hr (fun ⟨B,Y,O,I⟩=>⟨(B,Y),[(1,pt0 t),(27,sv0 m c.vars l),(28,i' (c.vars.length:Int)),(29,i' B),(3,.map (some av))],Mem.le J I/\MapR ky9 (RvS Rp.bool I) (.map (some av)) Y O,St T K I [(1,bk0 t (v34' c m l i j g f) 34),(4025,O)]⟩) (fun (V:Mem)=>match V with|ab=>⟨(.inr ()),[(1,pt0 t)],Mem.le J ab,St T K ab [(1,bk0 t (v34' c m l i j g f) 34)]⟩) ⟨0,[],ao,J⟩ z (fz0 z) ⟨mr,ay⟩ (w2 z z) ?_ ?_
 .rintro _ ⟨B,Y,O,I⟩ ⟨C,ak⟩ hr
  refine sr<|ls0 z<|nx<|c'<|I' hr z (fun aW hr=>?_) (fun aW hr=>?_)
  .refine t'<|b'<|c'<|U'<|sr<|oE hr fun x4 ar hr=>yw0 (Q' ca' sz9 (n.mono (mx s C)) z z ar)<|yw0 (ac' sc9 z (AtK.str (M' (ad' n ar) (mx s C))))<|sx1 z<|c'<|sr<|mw0 z<|oE hr fun aR aD hr=>T' z z (k' E42 z) (eT' aD) z (trivial) ?_
   cases aR
   .refine yw0 (bf' z)<|mw0 z<|sn3 z<|pt00 z<|nx<|aR' z<|sr<|sx1 z<|q'<|j'<|H'<|j'<|j'<|H'<|az'<|j' (k0' hr z z)
   refine yw0 (bf' z)<|mw0 z<|gm0 z<|gm0 z<|oA hr fun a1 hr=>gy z z (Y0.mapGet1 (mk:=Value.bool) (k:=x4) 4025 false (fun h=>Zlk h) underlying94 zv4 ak z z z a1) z<|pf00 z<|nx<|aX' hr z (fun aN hr=>?_) (fun aN hr=>?_)
   .refine sr<|sx1 z<|q'<|j'<|H'<|j'<|j'<|H'<|az'<|j' (k0' hr z z)
   refine t'<|b'<|w'<|mw0 z<|mw0 z ?_
   obtain⟨⟨a6,aA⟩,hr⟩:=hr
   refine WL.mapPut (Rv':=RvS Rp.bool I) (k:=x4) (z:=true) 4025 z underlying94 ak z z z z a6 z (fun _ _ _ _ h=>h) aA fun a4 aC=>p'<|E'<|b'<|w'<|ad0 z<|mw0 z<|p'<|O' ⟨i64.wrap (B+1),(mput Y x4 true),a4,I⟩ hr ⟨C,aC⟩ (fz0 z) (w2 z z)
  refine Z'<|f'<|f'<|F'<|ab' I ⟨hr,C⟩ (f1 z) (w1 z)
 rintro ab ⟨hr,P⟩
 refine b'<|sr<|WL.makeMap (ky:=ky3) (Rv:=RvS Rp.bool ab) 4044 z z fun H ap aK=>sx1 z<|c'<|sr<|yw0 (Y0.ZgT z)<|yw0 (A' 1 sc32 z z z)<|yw0 (Y0.ZgU z)<|yw0 (A' 1 sc32 z z z)<|aO' (e:=32) (r:=(Rp.sl aG')) (vs:=#[(0,sv0 i c.eqs j),(1,sv0 g c.neqs f)]) (cs:=[sv0 i c.eqs j]++([sv0 g c.neqs f]++([]))) ([c.eqs,c.neqs]:List (List Zf)) z z z z z (by decide) (fun _=>by kernel_rfl) ⟨[sv0 i c.eqs j],[sv0 g c.neqs f]++([]),z,⟨_,z,(U.mono (mx s P))⟩,⟨[sv0 g c.neqs f],[],z,⟨_,z,(Q.mono (mx s P))⟩,z⟩⟩ (key:=999) z (by rw[aP]; rfl) fun p1 aj ad ai=>yw0 (D' underlying97 ai z)<|mw0 z<|nx<|aa' (X:=Int×(List (Int×Bool))×Option Ow×Mem) hr (fun ⟨o,ac,D,y⟩=>⟨(o,ac),[(1,pt0 t),(49,.slice p1 2 2),(50,i' ([c.eqs,c.neqs].length:Int)),(51,i' o),(6,.map (some H))],Mem.le aj y/\MapR ky3 (RvS Rp.bool y) (.map (some H)) ac D,St T K y [(1,bk0 t (v34' c m l i j g f) 34),(4044,D)]⟩) (fun (V:Mem)=>match V with|ah=>⟨(.inr ()),[],Mem.le aj ah,St T K ah []⟩) ⟨0,[],ap,aj⟩ z (fz0 z) ⟨mr,(MapR.mono aK ad)⟩ (w2 z z) ?_ ?_
 .rintro _ ⟨o,ac,D,y⟩ ⟨u,aF⟩ hr
  refine sr<|ls0 z<|nx<|c'<|I' hr z (fun ba hr=>?_) (fun ba hr=>?_)
  .refine t'<|b'<|c'<|U'<|sr<|oE hr fun x1 aw hr=>yw0 (Q' underlying97 sz32 (ai.mono u) z z aw) ?_
   obtain⟨p2,aa,a0,M⟩:=cw' (M' (ad' ai aw) u)
   refine yw0 (ac' sc32 z (a0))<|sx1 z<|c'<|sr<|mw0 z<|yw0 (D' bi' M z)<|yw0 (aL' z z)<|nx<|I' hr z (fun aT hr=>?_) (fun aT hr=>?_)
   .refine sr<|sx1 z<|q'<|j'<|H'<|j'<|j'<|H'<|az'<|j' (k0' hr z z)
   refine t'<|b'<|sr<|mw0 z<|yw0 (D' bi' M z)<|mw0 z<|nx<|aa' (X:=Int×(List (Int×Bool))×Option Ow×Mem) hr (fun ⟨q,L,x,A⟩=>⟨(q,L),[(1,pt0 t),(8,sv0 p2 x1 aa),(49,.slice p1 2 2),(50,i' ([c.eqs,c.neqs].length:Int)),(51,i' o),(58,sv0 p2 x1 aa),(59,i' (x1.length:Int)),(60,i' q),(6,.map (some H))],Mem.le y A/\MapR ky3 (RvS Rp.bool A) (.map (some H)) L x,St T K A [(1,bk0 t (v34' c m l i j g f) 34),(4044,x)]⟩) (fun (⟨Z,F,R⟩:(List (Int×Bool))×Option Ow×Mem)=>⟨(.inr Z),[(1,pt0 t),(49,.slice p1 2 2),(50,i' ([c.eqs,c.neqs].length:Int)),(51,i' o),(6,.map (some H))],Mem.le y R/\MapR ky3 (RvS Rp.bool R) (.map (some H)) Z F,St T K R [(1,bk0 t (v34' c m l i j g f) 34),(4044,F)]⟩) ⟨0,ac,D,y⟩ z (fz0 z) ⟨mr,aF⟩ (w2 z z) ?_ ?_
   .rintro _ ⟨q,L,x,A⟩ ⟨p,W⟩ hr
    refine sr<|ls0 z<|nx<|c'<|I' hr z (fun aY hr=>?_) (fun aY hr=>?_)
    .refine t'<|b'<|c'<|U'<|sr<|mw0 z<|oE hr fun x2 aq hr=>yw0 (Q' bi' sz68 (M.mono p) z z aq) ?_
     obtain⟨aE,aG,aO,aJ⟩:=ZeT (M' (ad' M aq) p)
     refine yw0 (aP' _ ag68 z z aO)<|P' 10 z z68 z fun b2=>sw0 z<|stB 10 sz68 z<|nx<|aD' hr (fun (V:Mem)=>match V with|S=>⟨[(1,pt0 t),(8,sv0 p2 x1 aa),(10,pt0 b2),(49,.slice p1 2 2),(50,i' ([c.eqs,c.neqs].length:Int)),(51,i' o),(58,sv0 p2 x1 aa),(59,i' (x1.length:Int)),(60,i' q),(6,.map (some H))],ZbP c q L x2,Mem.le A S,St T K S [(1,bk0 t (v34' c m l i j g f) 34),(10,bk0 b2 (v68' x2 aE aG) 68),(4044,x)]⟩) ?_ ?_
     .refine c'<|aj' [ff,ff,ff,ff,ff,ff,ff,ff,ff,ff,ff,ff,ff,ff,ff,ff,ff,ff,ff,ff,ff,ff,ff,ff,ff,ff,ff,ff] mix (by kernel_rfl) fun hb=>cn (fun _ d=>cG' z)<|cn (fun _ d=>A' 10 sc3 z z z)<|bX' hr z (fun _ d=>ae' z z) (fun a9 hr=>?_) (fun a9 hr=>?_)
      .refine cm0 z<|cf z z<|cf z z<|cf z z<|cf z z<|cf z z<|cn (fun _ d=>V' z z)<|cm0 z<|cf z z<|cf z z<|cf z z<|cf z z<|cn (fun _ d=>V' z z)<|cm0 z<|cf z z<|cf z z<|cf z z<|cs z z<|cs z z<|cs z z<|cs z z<|cs z z<|cs z z<|cs z z<|cs z z<|am' hb<|cK' (bT' z z) z<|sf z z z<|pt00 z<|p'<|ar'<|b'<|aR' z<|sr<|sx1 z<|q'<|j'<|H'<|j'<|j'<|H'<|az'<|H'<|j'<|j'<|H'<|az'<|j' (k0' hr z z)
      refine cm0 z<|cy z z (fun _ d=>cG' z)<|cy z z (fun _ d=>A' 10 sc3 z z z)<|cy z z (fun _ d=>dv' z)<|cy z z (fun _ d=>A' 1 sc3 z z z)<|bX' hr (as' z z) (fun _ d=>bc' z z) (fun aV hr=>?_) (fun aV hr=>?_)
      .refine cn (fun _ d=>X' z z)<|cm0 z<|cf z z<|cf z z<|cf z z<|cf z z<|cn (fun _ d=>V' z z)<|cm0 z<|cf z z<|cf z z<|cf z z<|cs z z<|cs z z<|cs z z<|cs z z<|cs z z<|cs z z<|cs z z<|cs z z<|am' hb<|cK' (bT' z z) z<|sf z z z<|pt00 z<|p'<|ar'<|b'<|aR' z<|sr<|sx1 z<|q'<|j'<|H'<|j'<|j'<|H'<|az'<|H'<|j'<|j'<|H'<|az'<|j' (k0' hr z z)
      refine cn (fun _ d=>X' z z)<|cm0 z<|cy z z (fun _ d=>n' z)<|cy z z (fun _ d=>cG' z)<|cy z z (fun _ d=>A' 10 sc3 z z z)<|oA hr fun aQ hr=>bX' hr (as' z z) (fun _ d=>Y0.eq (Y0.mapGet1 (mk:=Value.bool) (k:=x2.id) 4044 false (fun h=>Zlk h) underlying96 zv4 (MapR.mono W d) z z z aQ) (congrArg Value.bool (bdec _))) (fun aX hr=>?_) (fun aX hr=>?_)
      .refine cn (fun _ d=>X' z z)<|cm0 z<|cf z z<|cf z z<|cf z z<|cs z z<|cs z z<|cs z z<|cs z z<|cs z z<|cs z z<|cs z z<|cs z z<|am' hb<|cK' (bT' z z) z<|sf z z z<|pt00 z<|p'<|ar'<|b'<|aR' z<|sr<|sx1 z<|q'<|j'<|H'<|j'<|j'<|H'<|az'<|H'<|j'<|j'<|H'<|az'<|j' (k0' hr z z)
      refine cn (fun _ d=>X' z z)<|cm0 z<|cy z z (fun _ d=>n' z)<|bX' hr (as' z z) (fun _ d=>aL' z z) (fun a8 hr=>?_) (fun a8 hr=>?_)
      .refine cy z z (fun _ d=>n' z)<|cy z z (fun _ d=>cG' z)<|cy z z (fun _ d=>A' 10 sc3 z z z)<|cy z z (fun _ d=>n' z)<|cy z z (fun _ d=>n' z)<|cy z z (fun _ d=>ap' z z)<|oE hr fun x3 au hr=>cy z z (fun _ d=>Q' bi' sz68 ((M.mono p).mono d) z z au)<|cy z z (fun _ d=>cG' z)<|cy z z (fun _ d=>ac' sc3 z (ak' (M' (M' (AtK.fst (bW' (ad' M au))) p) d)))<|am' hb<|gy z z (bF' z z) z<|gy z z (V' z z) z<|pf00 z<|p'<|ar'<|b'<|I' hr z (fun a3 hr=>?_) (fun a3 hr=>?_)
       .refine sr<|sx1 z<|q'<|j'<|H'<|j'<|j'<|H'<|az'<|H'<|j'<|j'<|H'<|az'<|j' (k0' hr z z)
       refine t'<|ao' A ⟨hr,mr⟩ (f10 z z z z z z z z z z) (w3 z z z)
      refine cy z z (fun _ d=>n' z)<|ct z z<|ct z z<|ct z z<|ct z z<|ct z z<|ct z z<|ct z z<|ct z z<|am' hb<|sk z z z<|gy z z (X' z z) z<|pf00 z<|p'<|ar'<|b'<|bJ' z<|t'<|ao' A ⟨hr,mr⟩ (f10 z z z z z z z z z z) (w3 z z z)
     rintro S ⟨hr,E⟩
     refine sr<|mw0 z<|yw0 (cG' z)<|yw0 (A' 10 sc3 z z z) ?_
     obtain⟨⟨a2,aL⟩,hr⟩:=hr
     refine WL.mapPut (Rv':=RvS Rp.bool S) (k:=x2.id) (z:=true) 4044 z underlying96 (MapR.mono W E) z z z z a2 z (fun _ _ _ _ h=>h) aL fun aM aH=>nr<|yw0 (Y0.ZkX z)<|yw0 (A' 10 sc54 z z z)<|yw0 (Y0.ZiL z)<|yw0 (A' 1 sc31 z z z)<|yw0 (D' ca' (n.mono (mx (mx (mx (mx (mx s P) ad) u) p) E)) z)<|oE hr fun bc aB hr=>T' z z (k' E30 z) (em' aB) z ((aJ.mono E))<|yw0 (bf' z)<|nx<|aX' hr z (fun aS hr=>?_) (fun aS hr=>?_)
     .refine sr<|sx1 z<|q'<|H'<|j'<|j'<|H'<|az'<|H'<|j'<|j'<|H'<|az'<|j' (k0' hr z z)
     refine t'<|E'<|b'<|w'<|ad0 z<|mw0 z<|p'<|O' ⟨i64.wrap (q+1),(mput L x2.id true),aM,S⟩ hr ⟨(mx p E),aH⟩ (fz0 z) (w2 z z)
    refine Z'<|f'<|f'<|F'<|ab' ⟨L,x,A⟩ ⟨hr,p,W⟩ (fz0 z) (w2 z z)
   rintro⟨Z,F,R⟩ ⟨hr,am,ax⟩
   refine E'<|b'<|w'<|ad0 z<|mw0 z<|p'<|O' ⟨i64.wrap (o+1),Z,F,R⟩ hr ⟨(mx u am),ax⟩ (fz0 z) (w2 z z)
  refine Z'<|f'<|f'<|F'<|ab' y ⟨hr,u⟩ fn (wk ln)
 rintro ah ⟨hr,bb⟩
 refine b'<|sr<|sx1 z<|q' (k0' hr z z)
theorem da'{d t p r}(hr:(ZaZ d).Ret r):Ctr prog 23 #[sv0 t d p] (fun G=>sl aG' G t p d) (wl' (Rp.sl g') r):=by
 refine B' (args:=[_]) (N:=23) func23 z z z (fun K o L D=>?_)
 have k:=D
 refine sr<|sw0 z<|nr<|mw0 z<|yw0 (D' bi' k z)<|oA hr fun I hr=>bj' (r:=(Rp.sl g')) (e:=54) (n:=(d.length:Int)) (zx:=[]) 4008 z z al' el54 z (by decide) (by decide) ⟨_,z,(ay' _ _)⟩ z z I fun u C O=>sx1 z<|c'<|sr<|mw0 z<|yw0 (D' bi' k z)<|mw0 z<|nx<|aa' (X:=(List (List Za))×Option Ow×Int×Mem) hr (fun ⟨m,h,c,g⟩=>⟨(m,c),[(3,.slice u (d.length:Int).toNat ((d.length:Int).toNat)),(9,sv0 t d p),(10,i' (d.length:Int)),(11,i' c)],Mem.le o g/\RowR (Rp.sl g') 54 g (.slice u (d.length:Int).toNat ((d.length:Int).toNat)) m h,St K o g [(4008,h)]⟩) (fun (⟨A,j,l⟩:(List (List Za))×Option Ow×Mem)=>⟨A,[(3,.slice u (d.length:Int).toNat ((d.length:Int).toNat))],Mem.le o l/\RowR (Rp.sl g') 54 l (.slice u (d.length:Int).toNat ((d.length:Int).toNat)) A j,St K o l [(4008,j)]⟩) ⟨(List.replicate (d.length:Int).toNat []),C,0,o⟩ z (fz0 z) ⟨mr,O⟩ (w1 z) ?_ ?_
 .rintro _ ⟨m,h,c,g⟩ ⟨f,q⟩ hr
  refine sr<|ls0 z<|nx<|c'<|I' hr z (fun Q hr=>?_) (fun Q hr=>?_)
  .refine t'<|b'<|c'<|U'<|sr<|mw0 z<|oE hr fun F x hr=>yw0 (Q' bi' sz68 (k.mono f) z z x) ?_
   obtain⟨y,B,M,E⟩:=ZeT (M' (ad' k x) f)
   refine yw0 (aP' _ ag68 z z M)<|P' 5 z z68 z fun W=>sw0 z<|stB 5 sz68 z<|nx<|w'<|mw0 z<|mw0 z<|yw0 (Y0.ZkX z)<|yw0 (A' 5 sc54 z z z)<|oE hr fun Y v hr=>yw0 (aB' al' sz54 q z z v)<|aI' (r:=(Rp.sl g')) (e:=54) (cs':=[sv0 y F.p B]) (i:=c) (z':=F.p) 4008 z sz54 z q z z z z ⟨_,z,E⟩ v fun J H=>p'<|E'<|b'<|w'<|ad0 z<|mw0 z<|p'<|O' ⟨(m.set c.toNat F.p),J,i64.wrap (c+1),g⟩ hr ⟨f,H⟩ (fz0 z) (w1 z)
  refine Z'<|f'<|f'<|F'<|ab' ⟨m,h,g⟩ ⟨hr,f,q⟩ (f1 z) (w1 z)
 rintro⟨A,j,l⟩ ⟨hr,R,P⟩
 refine b'<|sr<|mw0 z<|sx1 z<|q' ?_
 obtain rfl:_=r:=hr
 refine WE.freezeT (r:=(Rp.sl g')) (e:=54) 4008 P z (by rw[L]; rfl) fun V U T s S=>o' z z ⟨_,_,(bs' s),(bq' s)⟩
theorem eo'{Q m o C B p s r}(hr:(ZdI Q).Ret r):Ctr prog 8 #[.agg ((v34' Q m o C B p s)).toArray] (fun G=>y31' G m o C B p s Q) (w46t' r):=by
 refine B' (args:=[_]) (N:=21) func8 z z z (fun w0 G0 aq ab=>?_)
 obtain⟨q,y,n⟩:=ab
 refine sr<|ah' 1 z z z fun b1=>P' 2 z z46 z fun b2=>sx1 z<|c'<|sr<|yw0 (C' 1 ag34 z z z)<|oE hr fun ao ad hr=>T' z z (k' E17 z) (dn' ad) z (⟨q,y,n⟩)<|yw0 (bf' z)<|nx<|aX' hr z (fun ag hr=>?_) (fun ag hr=>?_)
 .refine sr<|yw0 (ax' (vs:=#[]) (v:=.agg ([i' 0,.slice none 0 0,.slice none 0 0]).toArray) z z (fun _=>by kernel_rfl))<|stB 2 sz46 z<|sx1 z<|q'<|j' ?_
  obtain rfl:_=r:=hr
  exact aW' z (af' (i:=2) ag46 z z z) z ⟨_,_,_,_,z,(ay' (Rp.sl g') _),(ay' (Rp.sl g') _)⟩
 refine t'<|b'<|c'<|aj' [ff,ff,ff,ff,ff,ff,ff,ff,ff,ff,ff,tt] mix (by kernel_rfl) fun hb=>cn (fun _ c=>Y0.ZiL z)<|cn (fun _ c=>A' 1 sc31 z z z)<|cn (fun _ c=>D' ca' (q.mono c) z)<|cn (fun _ c=>Y0.max2 z z)<|cn (fun _ c=>Y0.ZgT z)<|cn (fun _ c=>A' 1 sc32 z z z)<|oE hr fun K W hr=>at' (post:=wl' (Rp.sl g') K) (fun _=>z) (fun _ _=>k' E23 z) (da' W) z (fun E c=>(y.mono c)) (fun v G1 Z c h=>?_) ?_
 .obtain⟨L,M,rfl,x⟩:=h
  exact⟨_,_,z,x.mono c⟩
 refine cu (fun _ _ c=>Y0.ZgU z)<|cu (fun _ _ c=>A' 1 sc32 z z z)<|oE hr fun R Y hr=>at' (post:=wl' (Rp.sl g') R) (fun _=>z) (fun _ _=>k' E23 z) (da' Y) z (fun E c=>(n.mono c)) (fun v G1 Z c h=>?_) ?_
 .obtain⟨O,P,rfl,t⟩:=h
  exact⟨_,_,z,t.mono c⟩
 refine oE hr fun A X hr=>bd' (f:=13) (φ:=w46t' A) (fun _=>z) (fun v G1 Z c h=>?_) (fun u E c hu=>?_) ?_
 .obtain⟨l,k,j,g,rfl,e,d⟩:=h
  exact⟨_,_,_,_,z,e.mono c,d.mono c⟩
 .obtain⟨⟨O,P,V,t⟩,⟨L,M,U,x⟩,_⟩:=(show (wl' (Rp.sl g') R) E.m (u 17)/\(wl' (Rp.sl g') K) E.m (u 14)/\True from hu)
  exact⟨_,_,_,fun _=>k' E13 z,ZaU _ _ _ _ _ _ _ _ X,(by simp only[V,U] <;> rfl),⟨x,t⟩⟩
 refine Chain.floatEx (kk:=18) (φ:=w46' A.1) (by kernel_rfl) (fun _=>z) (fun v G1 Z c h=>?_) (fun u E c hu=>?_) ?_
 .obtain⟨p1,af,p2,ae,rfl,S,T⟩:=h
  exact⟨_,_,_,_,z,S.mono c,T.mono c⟩
 .obtain⟨⟨l,k,j,g,D,e,d⟩,_,_,_⟩:=(show (w46t' A) E.m (u 18)/\True/\True/\True from hu)
  exact⟨_,_,D,(by simp only[undFr,D] <;> rfl),z,l,k,j,g,z,e,d⟩
 refine Chain.tailU4 (d0:=19) (post0:=w46' A.1) (d1:=18) (post1:=w46t' A) (d2:=17) (post2:=wl' (Rp.sl g') R) (d3:=14) (post3:=wl' (Rp.sl g') K) (fun al aj am an ap ah F I H J=>?_)
 obtain⟨p1,af,p2,ae,rfl,S,T⟩:=F
 obtain⟨l,k,j,g,rfl,e,d⟩:=I
 obtain⟨O,P,rfl,t⟩:=H
 obtain⟨L,M,rfl,x⟩:=J
 refine ex0 z<|stB 2 sz46 z<|sw0 z<|p'<|ar'<|b'<|q' ?_
 obtain rfl:_=r:=hr
 exact aW' z (af' (i:=2) ag46 z z z) z ⟨_,_,_,_,z,S,T⟩
theorem eM'{r}(hr:(Zdn).Ret r):Ctr prog 4 #[] (fun G=>True) (fun G v=>v = .bool r):=by
 refine B' (args:=[]) (N:=115) func4 z z z fun w0 G0 aj fd=>sr<|sw0 z<|nr<|oE hr fun fq c8 hr=>y' z z (k' E12 z) (be' c8) z (trivial) (fun er fp d9 bx=>?_)
 obtain⟨e1,eQ,rfl,c9⟩:=bx
 refine oE hr fun fm dl hr=>y' z z (k' E12 z) (be' dl) z (trivial) (fun eE fw ci bG=>?_)
 obtain⟨es,eA,rfl,db⟩:=bG
 refine oE hr fun bv di hr=>y' z z (k' E11 z) (du' di) z (⟨(c9.mono ci),db⟩) (fun eR fx d7 bz=>?_)
 obtain⟨a8,bu,rfl,dd⟩:=bz
 refine oE hr fun O c5 hr=>y' z z (k' E12 z) (be' c5) z (trivial) (fun ep fl cl bD=>?_)
 obtain⟨a5,aL,rfl,bK⟩:=bD
 refine sw0 z<|sw0 z<|nr<|oE hr fun fk dh hr=>y' z z (k' E12 z) (be' dh) z (trivial) (fun el fr a1 bE=>?_)
 obtain⟨eV,ex,rfl,c7⟩:=bE
 refine oE hr fun fu dc hr=>y' z z (k' E12 z) (be' dc) z (trivial) (fun ez ft ao bB=>?_)
 obtain⟨eJ,eS,rfl,dr⟩:=bB
 refine oE hr fun bw dq hr=>y' z z (k' E11 z) (du' dq) z (⟨(c7.mono ao),dr⟩) (fun eU fv aQ bA=>?_)
 obtain⟨bk,be,rfl,dm⟩:=bA
 refine aO' (e:=91) (r:=g') (vs:=#[]) (cs:=[]) ([]:List Za) z z z z z (by decide) (fun _=>by kernel_rfl) (z) (key:=999) z (by rw[aj]; rfl) (fun p1 fo aq dy=>?_)
 refine oE hr fun fi dj hr=>y' z z (k' E12 z) (be' dj) z (trivial) (fun eP fj af bC=>?_)
 obtain⟨fg,e6,rfl,dp⟩:=bC
 refine oE hr fun fs de hr=>y' z z (k' E12 z) (be' de) z (trivial) (fun eF e3 F bF=>?_)
 obtain⟨fe,em,rfl,dg⟩:=bF
 refine oE hr fun ag cW hr=>y' z z (k' E11 z) (du' cW) z (⟨(dp.mono F),dg⟩) (fun eg e9 H bl=>?_)
 obtain⟨aa,ab,rfl,cK⟩:=bl
 refine aO' (e:=54) (r:=(Rp.sl g')) (vs:=#[(0,sv0 bk bw be),(1,.slice p1 0 0),(2,sv0 aa ag ab)]) (cs:=[sv0 bk bw be]++([.slice p1 0 0]++([sv0 aa ag ab]++([])))) ([bw,[],ag]:List (List Za)) z z z z z (by decide) (fun _=>by kernel_rfl) ⟨[sv0 bk bw be],[.slice p1 0 0]++([sv0 aa ag ab]++([])),z,⟨_,z,(dm.mono (mx (mx (mx aq af) F) H))⟩,⟨[.slice p1 0 0],[sv0 aa ag ab]++([]),z,⟨_,z,(dy.mono (mx (mx af F) H))⟩,⟨[sv0 aa ag ab],[],z,⟨_,z,cK⟩,z⟩⟩⟩ (key:=999) z (by rw[aj]; rfl) (fun p2 et au dG=>?_)
 refine oE hr fun a4 cV hr=>y' z z (k' E12 z) (be' cV) z (trivial) (fun dN e4 ad bh=>?_)
 obtain⟨aI,aX,rfl,cB⟩:=bh
 refine aO' (e:=54) (r:=(Rp.sl g')) (vs:=#[(0,sv0 aI a4 aX)]) (cs:=[sv0 aI a4 aX]++([])) ([a4]:List (List Za)) z z z z z (by decide) (fun _=>by kernel_rfl) ⟨[sv0 aI a4 aX],[],z,⟨_,z,cB⟩,z⟩ (key:=999) z (by rw[aj]; rfl) (fun p3 eB Y dF=>?_)
 refine oE hr fun bO cM hr=>y' z z (k' E13 z) (ZaU _ _ _ _ _ _ _ _ cM) z (⟨(dG.mono (mx ad Y)),dF⟩) (fun dK e5 ax bn=>?_)
 obtain⟨a2,a0,aF,aB,rfl,a3,aD⟩:=bn
 refine mw0 z<|ex0 z<|ex0 z<|P' 3 z z46 z fun b1=>stB 3 sz46 z<|sw0 z<|nr<|aO' (e:=91) (r:=g') (vs:=#[]) (cs:=[]) ([]:List Za) z z z z z (by decide) (fun _=>by kernel_rfl) (z) (key:=999) z (by rw[aj]; rfl) fun p4 fh K dE=>aO' (e:=54) (r:=(Rp.sl g')) (vs:=#[(0,.slice p4 0 0)]) (cs:=[.slice p4 0 0]++([])) ([[]]:List (List Za)) z z z z z (by decide) (fun _=>by kernel_rfl) ⟨[.slice p4 0 0],[],z,⟨_,z,dE⟩,z⟩ (key:=999) z (by rw[aj]; rfl) (fun p5 fb I dz=>?_)
 refine oE hr fun bP c3 hr=>y' z z (k' E13 z) (ZaU _ _ _ _ _ _ _ _ c3) z (⟨(ay' (Rp.sl g') _),dz⟩) (fun dQ eI J bj=>?_)
 obtain⟨aY,aJ,aE,aG,rfl,aN,aC⟩:=bj
 refine mw0 z<|ex0 z<|ex0 z<|P' 5 z z46 z fun b2=>stB 5 sz46 z<|sw0 z<|nr<|oE hr fun aT cG hr=>y' z z (k' E12 z) (be' cG) z (trivial) (fun ed eu t bt=>?_)
 obtain⟨a6,aM,rfl,cj⟩:=bt
 refine aO' (e:=54) (r:=(Rp.sl g')) (vs:=#[(0,sv0 a6 aT aM)]) (cs:=[sv0 a6 aT aM]++([])) ([aT]:List (List Za)) z z z z z (by decide) (fun _=>by kernel_rfl) ⟨[sv0 a6 aT aM],[],z,⟨_,z,cj⟩,z⟩ (key:=999) z (by rw[aj]; rfl) (fun p6 eq C dB=>?_)
 refine oE hr fun e7 cJ hr=>y' z z (k' E13 z) (ZaU _ _ _ _ _ _ _ _ cJ) z (⟨dB,(ay' (Rp.sl g') _)⟩) (fun dP en q bd=>?_)
 obtain⟨cU,cO,bW,bY,rfl,c0,b9⟩:=bd
 refine mw0 z<|ex0 z<|ex0 z<|P' 7 z z46 z fun b3=>stB 7 sz46 z<|sw0 z<|nr<|yw0 (ax' (vs:=#[]) (v:=.agg ([.slice none 0 0,.slice none 0 0,.slice none 0 0,i' 0]).toArray) z z (fun _=>by kernel_rfl))<|oE hr fun eN cH hr=>y' z z (k' E8 z) (eo' cH) z (⟨(ay' Rp.str _),(ay' aG' _),(ay' aG' _)⟩) (fun dL eX y bi=>?_)
 obtain⟨cC,c1,b0,ca,rfl,cr,bX⟩:=bi
 refine mw0 z<|ex0 z<|ex0 z<|P' 9 z z46 z fun b4=>stB 9 sz46 z<|sw0 z<|nr<|mw0 z<|oE hr fun e8 ch hr=>y' z z (k' E12 z) (be' ch) z (trivial) (fun dX eY o br=>?_)
 obtain⟨dT,dZ,rfl,cS⟩:=br
 refine oE hr fun ev c2 hr=>y' z z (k' E12 z) (be' c2) z (trivial) (fun ec eG m bm=>?_)
 obtain⟨dR,dO,rfl,cL⟩:=bm
 refine oE hr fun av cp hr=>y' z z (k' E15 z) (dU' cp) z (⟨(cS.mono m),cL⟩) (fun dV ew s bp=>?_)
 obtain⟨am,an,rfl,cI⟩:=bp
 have N1:=mx (mx (mx (mx (mx (mx (mx (mx (mx (mx (mx (mx (mx (mx (mx (mx (mx (mx (mx (mx (mx cl a1) ao) aQ) aq) af) F) H) au) ad) Y) ax) K) I) J) t) C) q) y) o) m) s
 refine aO' (e:=54) (r:=(Rp.sl g')) (vs:=#[(0,sv0 a8 bv bu),(1,sv0 am av an)]) (cs:=[sv0 a8 bv bu]++([sv0 am av an]++([]))) ([bv,av]:List (List Za)) z z z z z (by decide) (fun _=>by kernel_rfl) ⟨[sv0 a8 bv bu],[sv0 am av an]++([]),z,⟨_,z,(dd.mono N1)⟩,⟨[sv0 am av an],[],z,⟨_,z,cI⟩,z⟩⟩ (key:=999) z (by rw[aj]; rfl) fun p7 eL D dw=>yw0 (ax' (vs:=#[(0,i' 2),(1,.slice p7 2 2)]) (v:=.agg ([i' 2,.slice p7 2 2,.slice none 0 0]).toArray) z z (fun _=>by kernel_rfl))<|oE hr fun bL ct hr=>y' z z (k' E14 z) (Zjp _ _ _ _ _ _ ct) z (⟨dw,(ay' (Rp.sl g') _)⟩) (fun dM dn E bc=>?_)
 obtain⟨cQ,cA,bZ,b8,rfl,aH,aA⟩:=bc
 refine mw0 z<|ex0 z<|ex0 z<|P' 11 z z46 z fun b5=>P' 12 z z58 z fun b6=>stB 11 sz46 z<|x' 12 z sz58 z z z (an' _ _ _) (an' _ _ _) (fun u hu=>Rp.one (Rp.vec .i64 8) (G:=dn) (x:=bL.2) (cs:=vi8 bL.2) z u (by first|simpa using hu|simpa [Value.cells] using hu))<|nr<|oE hr fun eO co hr=>y' z z (k' E12 z) (be' co) z (trivial) (fun ek eo k bq=>?_)
 obtain⟨eb,ee,rfl,cx⟩:=bq
 refine mw0 z ?_
 obtain⟨aP,cR,hr⟩:=hr
 have N2:=mx (mx (mx (mx (mx (mx (mx (mx (mx (mx (mx (mx (mx (mx (mx (mx (mx (mx (mx (mx (mx (mx (mx a1 ao) aQ) aq) af) F) H) au) ad) Y) ax) K) I) J) t) C) q) y) o) m) s) D) E) k
 refine y' z z (k' E11 z) (du' cR) z (⟨cx,(bK.mono N2)⟩) (fun d8 fa B bo=>?_)
 obtain⟨aZ,aW,rfl,cY⟩:=bo
 refine oE hr fun e0 cX hr=>y' z z (k' E12 z) (be' cX) z (trivial) (fun ei eC n a9=>?_)
 obtain⟨dU,ef,rfl,cP⟩:=a9
 refine oE hr fun eK cE hr=>y' z z (k' E12 z) (be' cE) z (trivial) (fun ej eW j bg=>?_)
 obtain⟨ea,dW,rfl,ce⟩:=bg
 refine oE hr fun ay ck hr=>y' z z (k' E15 z) (dU' ck) z (⟨(cP.mono j),ce⟩) (fun dY eM l bf=>?_)
 obtain⟨ap,al,rfl,cz⟩:=bf
 refine aO' (e:=54) (r:=(Rp.sl g')) (vs:=#[(0,sv0 aZ aP aW),(1,sv0 ap ay al)]) (cs:=[sv0 aZ aP aW]++([sv0 ap ay al]++([]))) ([aP,ay]:List (List Za)) z z z z z (by decide) (fun _=>by kernel_rfl) ⟨[sv0 aZ aP aW],[sv0 ap ay al]++([]),z,⟨_,z,(cY.mono (mx (mx n j) l))⟩,⟨[sv0 ap ay al],[],z,⟨_,z,cz⟩,z⟩⟩ (key:=999) z (by rw[aj]; rfl) fun p8 bU A dA=>yw0 (ax' (vs:=#[(0,i' 2),(1,.slice p8 2 2)]) (v:=.agg ([i' 2,.slice p8 2 2,.slice none 0 0]).toArray) z z (fun _=>by kernel_rfl))<|P' 13 z z46 z fun b7=>stB 13 sz46 z<|nx<|aD' hr (fun (gx:Mem)=>match gx with|bV=>⟨[(2,sv0 a5 O aL),(3,pt0 b1),(5,pt0 b2)],Zd8 O bO bP,Mem.le bU bV,St w0 G0 bV [(3,bk0 b1 (v46' bO.1 a2 a0 aF aB) 46),(5,bk0 b2 (v46' bP.1 aY aJ aE aG) 46)]⟩) ?_ ?_
 .refine sr<|mw0 z<|aQ' hr z (bU' z z) z (fun dJ hr=>?_) (fun dJ hr=>?_)
  .refine mw0 z<|sn2 z<|pt00 z<|mw0 z<|sn2 z<|pt00 z<|mw0 z<|sn2 z<|pt00 z<|mw0 z<|sn4 z<|pt00 z<|mw0 z<|sn3 z<|pt00 z<|nx<|aR' z<|sr<|sx1 z<|q'<|j' (k0' hr z z)
  refine mw0 z<|gm0 z<|aQ' hr (as' z z) (bU' z z) z (fun dC hr=>?_) (fun dC hr=>?_)
  .refine pf00 z<|mw0 z<|sn2 z<|pt00 z<|mw0 z<|sn2 z<|pt00 z<|mw0 z<|sn4 z<|pt00 z<|mw0 z<|sn3 z<|pt00 z<|nx<|aR' z<|sr<|sx1 z<|q'<|j' (k0' hr z z)
  refine pf00 z<|mw0 z<|gm0 z<|aQ' hr (as' z z) (bU' z z) z (fun dt hr=>?_) (fun dt hr=>?_)
  .refine pf00 z<|mw0 z<|sn2 z<|pt00 z<|mw0 z<|sn4 z<|pt00 z<|mw0 z<|sn3 z<|pt00 z<|nx<|aR' z<|sr<|sx1 z<|q'<|j' (k0' hr z z)
  refine pf00 z<|mw0 z<|gm0 z<|aQ' hr (as' z z) (bU' z z) z (fun dD hr=>?_) (fun dD hr=>?_)
  .refine pf00 z<|mw0 z<|sn4 z<|pt00 z<|mw0 z<|sn3 z<|pt00 z<|nx<|aR' z<|sr<|sx1 z<|q'<|j' (k0' hr z z)
  refine pf00 z<|mw0 z<|gy z z (C' 11 ag46 z z z) z<|gy z z (C' 13 ag46 z z z) z ?_
  obtain⟨da,cD,hr⟩:=hr
  have N3:=mx (mx (mx (mx (mx k B) n) j) l) A
  refine T' (as' z z) z (k' E16 z) (Zdf _ _ _ _ _ _ _ _ _ _ _ cD) z (⟨(aH.mono N3),(aA.mono N3),dA,(ay' (Rp.sl g') _)⟩) ?_
  cases da
  .refine gy z z (bf' z) z<|pf00 z<|mw0 z<|sn3 z<|pt00 z<|nx<|aR' z<|sr<|sx1 z<|q'<|j' (k0' hr z z)
  refine gy z z (bf' z) z<|pf00 z<|mw0 z<|gy z z (C' 12 ag58 z z (an' _ _ _)) z<|gy z z (ax' (vs:=#[(0,i' 1),(1,i' 0),(2,i' 2),(3,i' 3),(4,i' 4),(5,i' 5),(6,i' 6),(7,i' 7)]) (v:=.agg (vi8 (setF (setF (setF (setF (setF (setF (setF (setF (fun _=>0) 0 1) 1 0) 2 2) 3 3) 4 4) 5 5) 6 6) 7 7)).toArray) z z (fun _=>by kernel_rfl)) z<|gy z z (Y0.neqV dA' aC' sc3 sz3 eg58 z z) z<|pf00 z<|nx<|I' hr z (fun dv hr=>?_) (fun dv hr=>?_)
  .refine sr<|sx1 z<|q'<|j' (k0' hr z z)
  refine t'<|ao' bU ⟨hr,mr⟩ (fz0 z) (w2 z z)
 rintro bV ⟨hr,ac⟩
 refine c'<|aj' [ff,ff,ff,ff,ff,ff,ff,ff,ff,ff,ff,ff] mix (by kernel_rfl) fun hb=>cn (fun _ d=>C' 3 ag46 z z z)<|oE hr fun aS cv hr=>at' (post:=wl' g' aS) (fun _=>z) (fun _ _=>k' E12 z) (be' cv) z (fun G' d=>trivial) (fun v G1 G2 d h=>?_) ?_
 .obtain⟨aV,aO,rfl,X⟩:=h
  exact⟨_,_,z,X.mono d⟩
 refine oE hr fun aR cm hr=>at' (post:=wl' g' aR) (fun _=>z) (fun _ _=>k' E12 z) (be' cm) z (fun G' d=>trivial) (fun v G1 G2 d h=>?_) ?_
 .obtain⟨aU,aK,rfl,Z⟩:=h
  exact⟨_,_,z,Z.mono d⟩
 refine oE hr fun i cw hr=>bd' (f:=11) (φ:=wl' g' i) (fun _=>z) (fun v G1 G2 d h=>?_) (fun u G' d hu=>?_) ?_
 .obtain⟨M,L,rfl,W⟩:=h
  exact⟨_,_,z,W.mono d⟩
 .obtain⟨⟨aU,aK,bS,Z⟩,⟨aV,aO,bJ,X⟩,_⟩:=(show (wl' g' aR) G'.m (u 94)/\(wl' g' aS) G'.m (u 93)/\True from hu)
  exact⟨_,_,_,fun _=>k' E11 z,du' cw,(by simp only[bS,bJ] <;> rfl),⟨X,Z⟩⟩
 refine bD' (r:=(Rp.sl g')) (e:=54) ([i]:List (List Za)) (fun _=>z) z (by decide) (fun u G' d hu=>?_) ?_
 .obtain⟨⟨M,L,bH,W⟩,_,_,_⟩:=(show (wl' g' i) G'.m (u 95)/\True/\True/\True from hu)
  simp only[undFr,bH]
  exact⟨#[(0,sv0 M i L)],[sv0 M i L]++([]),z,z,fun _=>by kernel_rfl,⟨[sv0 M i L],[],z,⟨_,z,W⟩,z⟩⟩
 refine Chain.y0UU (φ:=fun G v=>∃ p g,v = .agg ([i' 1,.slice p 1 g,.slice none 0 0]).toArray/\SlR (Rp.sl g') G (.slice p 1 g) [i]) (fun _=>z) (fun v G1 G2 d h=>?_) (fun u G' d hu=>?_) ?_
 .obtain⟨p,g,rfl,aw⟩:=h
  exact⟨_,_,z,aw.mono d⟩
 .obtain⟨⟨p9,ak,bN,bM⟩,_,_,_,_⟩:=(show (fun G v=>∃ p9 ak,v = .slice p9 1 1/\SlRd (Rp.sl g') G (.slice p9 1 1) ak [i]) G'.m (u 96)/\True/\True/\True/\True from hu)
  simp only[undFr,bN]
  exact⟨_,ax' (vs:=#[(0,i' 1),(1,.slice p9 1 1)]) (v:=.agg ([i' 1,.slice p9 1 1,.slice none 0 0]).toArray) z z (fun _=>by kernel_rfl),p9,1,z,bM⟩
 refine oE hr fun bI cb hr=>Chain.callD (f:=16) (c:=.bool bI) (fun _=>z) (fun u G' d hu=>?_) ?_
 .obtain⟨⟨p,g,bT,aw⟩,_,_,_,_,_⟩:=(show (fun G v=>∃ p g,v = .agg ([i' 1,.slice p 1 g,.slice none 0 0]).toArray/\SlR (Rp.sl g') G (.slice p 1 g) [i]) G'.m (u 97)/\True/\True/\True/\True/\True from hu)
  have N4:=mx (mx (mx (mx (mx (mx (mx (mx (mx (mx (mx (mx (mx (mx (mx (mx (mx (mx K I) J) t) C) q) y) o) m) s) D) E) k) B) n) j) l) A) ac
  exact⟨_,_,_,fun _=>k' E16 z,Zdf _ _ _ _ _ _ _ _ _ _ _ cb,(by simp only[bT] <;> rfl),⟨((a3.mono N4).mono d),((aD.mono N4).mono d),aw,(ay' (Rp.sl g') _)⟩⟩
 cases bI
 .refine cu (fun _ _ d=>n' z)<|Chain.skipU (fun _=>(ZcN z z))<|Chain.skipU (fun _=>(ZcN z z))<|Chain.skipU (fun _=>(ZcN z z))<|Chain.skipU (fun _=>(ZcN z z))<|Chain.tailU5 (d0:=97) (post0:=fun G v=>∃ p g,v = .agg ([i' 1,.slice p 1 g,.slice none 0 0]).toArray/\SlR (Rp.sl g') G (.slice p 1 g) [i]) (d1:=96) (post1:=fun G v=>∃ p9 ak,v = .slice p9 1 1/\SlRd (Rp.sl g') G (.slice p9 1 1) ak [i]) (d2:=95) (post2:=wl' g' i) (d3:=94) (post3:=wl' g' aR) (d4:=93) (post4:=wl' g' aS) (fun cT cd cy cf cF eH dH Q T S U R=>?_)
  obtain⟨p,g,rfl,aw⟩:=Q
  obtain⟨p9,ak,rfl,bM⟩:=T
  obtain⟨M,L,rfl,W⟩:=S
  obtain⟨aU,aK,rfl,Z⟩:=U
  obtain⟨aV,aO,rfl,X⟩:=R
  refine sk z z z<|pf00 z<|mw0 z<|sn2 z<|pf00 z<|mw0 z<|sn3 z<|pf00 z<|sw0 z<|p'<|ar'<|b'<|q' (k0' hr z z)
 refine cu (fun _ _ d=>n' z)<|cl' (fun _=>(as' z z)) (fun _ _ d=>C' 5 ag46 z z z)<|cl' (fun _=>(as' z z)) (fun _ _ d=>n' z)<|bD' (r:=(Rp.sl g')) (e:=54) ([O]:List (List Za)) (fun _=>(as' z z)) z (by decide) (fun u G' d hu=>?_) ?_
 .have N5:=mx (mx (mx (mx (mx (mx N2 B) n) j) l) A) ac
  exact⟨#[(0,sv0 a5 O aL)],[sv0 a5 O aL]++([]),z,z,fun _=>by kernel_rfl,⟨[sv0 a5 O aL],[],z,⟨_,z,((bK.mono N5).mono d)⟩,z⟩⟩
 refine Chain.y0UU (φ:=fun G v=>∃ az V,v = .agg ([i' 2,.slice az 1 V,.slice none 0 0]).toArray/\SlR (Rp.sl g') G (.slice az 1 V) [O]) (fun _=>(as' z z)) (fun v G1 G2 d h=>?_) (fun u G' d hu=>?_) ?_
 .obtain⟨az,V,rfl,bs⟩:=h
  exact⟨_,_,z,bs.mono d⟩
 .obtain⟨⟨P,ar,bR,bQ⟩,_,_,_,_,_,_⟩:=(show (fun G v=>∃ P ar,v = .slice P 1 1/\SlRd (Rp.sl g') G (.slice P 1 1) ar [O]) G'.m (u 102)/\True/\True/\True/\True/\True/\True from hu)
  simp only[undFr,bR]
  exact⟨_,ax' (vs:=#[(0,i' 2),(1,.slice P 1 1)]) (v:=.agg ([i' 2,.slice P 1 1,.slice none 0 0]).toArray) z z (fun _=>by kernel_rfl),P,1,z,bQ⟩
 refine Chain.tailU7 (d0:=103) (post0:=fun G v=>∃ az V,v = .agg ([i' 2,.slice az 1 V,.slice none 0 0]).toArray/\SlR (Rp.sl g') G (.slice az 1 V) [O]) (d1:=102) (post1:=fun G v=>∃ P ar,v = .slice P 1 1/\SlRd (Rp.sl g') G (.slice P 1 1) ar [O]) (d2:=97) (post2:=fun G v=>∃ p g,v = .agg ([i' 1,.slice p 1 g,.slice none 0 0]).toArray/\SlR (Rp.sl g') G (.slice p 1 g) [i]) (d3:=96) (post3:=fun G v=>∃ p9 ak,v = .slice p9 1 1/\SlRd (Rp.sl g') G (.slice p9 1 1) ak [i]) (d4:=95) (post4:=wl' g' i) (d5:=94) (post5:=wl' g' aR) (d6:=93) (post6:=wl' g' aS) (fun dS eh cT cd cy cf cF ey a7 bb ba Q T S U R=>?_)
 obtain⟨az,V,rfl,bs⟩:=bb
 obtain⟨P,ar,rfl,bQ⟩:=ba
 obtain⟨p,g,rfl,aw⟩:=Q
 obtain⟨p9,ak,rfl,bM⟩:=T
 obtain⟨M,L,rfl,W⟩:=S
 obtain⟨aU,aK,rfl,Z⟩:=U
 obtain⟨aV,aO,rfl,X⟩:=R
 obtain⟨dk,cN,hr⟩:=hr
 have N6:=mx (mx (mx (mx (mx (mx (mx (mx (mx (mx (mx (mx (mx (mx (mx (mx t C) q) y) o) m) s) D) E) k) B) n) j) l) A) ac) a7
 refine T' (as' z z) z (k' E16 z) (Zdf _ _ _ _ _ _ _ _ _ _ _ cN) z (⟨(aN.mono N6),(aC.mono N6),bs,(ay' (Rp.sl g') _)⟩) ?_
 cases dk
 .refine pt00 z<|mw0 z<|sn2 z<|pf00 z<|mw0 z<|sn3 z<|pf00 z<|sw0 z<|p'<|ar'<|b'<|q' (k0' hr z z)
 refine pt00 z<|mw0 z<|gy z z (ax' (vs:=#[(3,i' 1)]) (v:=.agg ([.slice none 0 0,.slice none 0 0,.slice none 0 0,i' 1]).toArray) z z (fun _=>by kernel_rfl)) z<|oE hr fun df cc hr=>T' (as' z z) z (k' E17 z) (dn' cc) z (⟨(ay' Rp.str _),(ay' aG' _),(ay' aG' _)⟩) ?_
 cases df
 .refine pt00 z<|mw0 z<|sn3 z<|pf00 z<|sw0 z<|p'<|ar'<|b'<|q' (k0' hr z z)
 refine pt00 z<|mw0 z<|gy z z (ax' (vs:=#[]) (v:=.agg ([.slice none 0 0,.slice none 0 0,.slice none 0 0,i' 0]).toArray) z z (fun _=>by kernel_rfl)) z<|oE hr fun eD cg hr=>T' (as' z z) z (k' E17 z) (dn' cg) z (⟨(ay' Rp.str _),(ay' aG' _),(ay' aG' _)⟩)<|gy z z (bf' z) z<|pt00 z<|sw0 z<|p'<|ar'<|b'<|q' (k0' hr z z)
theorem fH'{c r}(hr:(Zhu c).Ret r):Ctr prog 43 #[.int .i8 c] (fun G=>True) (fun G v=>v=i' r):=by
 refine B' (args:=[_]) (N:=10) func43 z z z fun g h f e=>sr<|sx1 z<|c'<|sr<|mw0 z<|ls0 z<|nx<|I' hr z (fun d hr=>?_) (fun d hr=>?_)
 .refine sr<|mw0 z<|yw0 (K' bL' aC' z)<|yw0 (Y0.neg z)<|sx1 z<|q'<|j' (k0' hr z z)
 refine t'<|b'<|sr<|mw0 z<|yw0 (K' bL' aC' z)<|sx1 z<|q' (k0' hr z z)
theorem fz'{H K F O s t r}(hr:(Zib H K F O).Ret r):Ctr prog 18 #[.agg ([sv0 s H.t t]).toArray,i' K,i' F,i' O] (fun G=>sl (Rp.vec .i8 5) G s t H.t) (wl' g' r):=by
 refine B' (args:=[_,_,_,_]) (N:=74) func18 z z z (fun w0 G0 ay aL=>?_)
 have E:=aL
 refine sr<|ah' 4 z z z fun b1=>sw0 z<|nr<|aO' (e:=91) (r:=g') (vs:=#[]) (cs:=[]) ([]:List Za) z z z z z (by decide) (fun _=>by kernel_rfl) (z) (key:=999) z (by rw[ay]; rfl) fun p1 an M aP=>sx1 z<|c'<|sr<|sx1 z<|aa' (X:=(List Za)×Option Addr×Nat×Int×Mem) hr (fun ⟨q,m,p,o,Q⟩=>⟨(q,o),[(1,i' K),(2,i' F),(3,i' O),(4,pt0 b1),(9,sv0 m q p),(10,i' o)],Mem.le an Q/\sl g' Q m p q,St w0 G0 Q [(4,bk0 b1 ([sv0 s H.t t]) 66)]⟩) (fun (⟨W,Y,ab,ah⟩:(List Za)×Option Addr×Nat×Mem)=>⟨W,[(9,sv0 Y W ab)],Mem.le an ah/\sl g' ah Y ab W,St w0 G0 ah []⟩) ⟨[],p1,0,0,an⟩ z (fz0 z) ⟨mr,aP⟩ (w1 z) ?_ ?_
 .rintro _ ⟨q,m,p,o,Q⟩ ⟨n,ad⟩ hr
  refine aD' hr (fun (gx:Mem)=>match gx with|T=>⟨[(1,i' K),(2,i' F),(3,i' O),(4,pt0 b1),(9,sv0 m q p),(10,i' o)],ZhR H K F q o,Mem.le Q T,St w0 G0 T [(4,bk0 b1 ([sv0 s H.t t]) 66)]⟩) ?_ ?_
  .refine sr<|mw0 z<|yw0 (Y0.ZkW z)<|yw0 (A' 4 sc64 z z z)<|yw0 (D' dB' (E.mono (mx M n)) z)<|aQ' hr z (ae' z z) z (fun aO hr=>?_) (fun aO hr=>?_)
   .refine mw0 z<|gm0 z<|gm0 z<|gy z z (ae' z z) z<|pt00 z<|nx<|I' hr z (fun aN hr=>?_) (fun aN hr=>?_)
    .refine t'<|ao' Q ⟨hr,mr⟩ (fz0 z) (w1 z)
    refine Z'<|f'<|f'<|F'<|ab' ⟨q,m,p,Q⟩ ⟨hr,n,ad⟩ (f1 z) (wk ln)
   refine mw0 z<|sn3 z<|pf00 z<|nx<|bJ' z<|Z'<|f'<|f'<|F'<|ab' ⟨q,m,p,Q⟩ ⟨hr,n,ad⟩ (f1 z) (wk ln)
  rintro T ⟨hr,I⟩
  refine c'<|U'<|sr<|yw0 (ax' (vs:=#[]) (v:=.agg (vi8 (fun _=>0)).toArray) z z (fun _=>by kernel_rfl))<|P' 11 z z77 z fun b2=>x' 11 z sz77 z z z (an' _ _ _) (an' _ _ _) (fun u hu=>Rp.one (Rp.vec .i64 8) (G:=T) (x:=(fun _=>0)) (cs:=vi8 (fun _=>0)) z u (by first|simpa using hu|simpa [Value.cells] using hu))<|nr<|mw0 z<|sx1 z<|c'<|sr<|sx1 z<|aa' (X:=Int×Int×(Fin 8->Int)×Mem) hr (fun ⟨y,l,P,U⟩=>⟨(y,l,P),[(1,i' K),(2,i' F),(3,i' O),(4,pt0 b1),(9,sv0 m q p),(10,i' o),(11,pt0 b2),(12,i' y),(13,i' l)],Mem.le T U,St w0 G0 U [(4,bk0 b1 ([sv0 s H.t t]) 66),(11,bk0 b2 (vi8 P) 77)]⟩) (fun (⟨J,am⟩:(Fin 8->Int)×Mem)=>⟨J,[(1,i' K),(2,i' F),(3,i' O),(4,pt0 b1),(9,sv0 m q p),(10,i' o),(11,pt0 b2)],Mem.le T am,St w0 G0 am [(4,bk0 b1 ([sv0 s H.t t]) 66),(11,bk0 b2 (vi8 J) 77)]⟩) ⟨F,0,(fun _=>0),T⟩ z (fz0 z) mr (w2 z z) ?_ ?_
  .rintro _ ⟨y,l,P,U⟩ L hr
   refine c'<|sr<|mw0 z<|mw0 z<|aQ' hr z (ae' z z) z (fun aV hr=>?_) (fun aV hr=>?_)
   .refine mw0 z<|gm0 z<|gy z z (ae' z z) z<|pt00 z<|nx<|I' hr z (fun aW hr=>?_) (fun aW hr=>?_)
    .refine t'<|b'<|c'<|U'<|sr<|mw0 z<|yw0 (Y0.ZkW z)<|yw0 (A' 4 sc64 z z z)<|mw0 z<|mw0 z<|ad0 z<|oE hr fun x2 aw hr=>yw0 (Q' dB' sz99 (E.mono (mx (mx (mx M n) I) L)) z z aw)<|oA hr fun ax hr=>yw0 (Y0.idxA underlying99 sz26 z z ax)<|yw0 (ac' sc26 z (AtK.vecAt (M' (ad' E aw) (mx (mx (mx M n) I) L)) ax))<|oE hr fun ap aJ hr=>T' z z (k' E43 z) (fH' aJ) z (trivial)<|mw0 z<|ad0 z<|oA hr fun aR hr=>yw0 (aV' z z aR)<|oA hr fun aU hr=>yw0 (bn' av' sz3 z z aU)<|cr' 11 (vi8 (setF P l.toNat (Int.tmod ap (i64.wrap (y+1))))).toArray z sz3 z z z (by first|(rw[an']; omega)|(show _<(vecG _ _ _).toArray.size; rw[an']; omega)) z (Za5 _ _ _ _ _)<|nx<|w'<|mw0 z<|mw0 z<|oA hr fun az hr=>yw0 (bn' av' sz3 z z az)<|yw0 (A' 11 sc3 z z (br' _ _ _ az))<|yw0 (ap' z z)<|sw0 z<|p'<|E'<|b'<|w'<|mw0 z<|ad0 z<|sw0 z<|p'<|O' ⟨i64.wrap (y-(getF (setF P l.toNat (Int.tmod ap (i64.wrap (y+1)))) l)),i64.wrap (l+1),setF P l.toNat (Int.tmod ap (i64.wrap (y+1))),U⟩ hr L (fz0 z) (w2 z z)
    refine Z'<|f'<|f'<|F'<|ab' ⟨P,U⟩ ⟨hr,L⟩ (fz0 z) (w2 z z)
   refine mw0 z<|sn2 z<|pf00 z<|nx<|bJ' z<|Z'<|f'<|f'<|F'<|ab' ⟨P,U⟩ ⟨hr,L⟩ (fz0 z) (w2 z z)
  rintro⟨J,am⟩ ⟨hr,S⟩
  refine b'<|aj' [tt,ff,ff,ff,ff,ff,ff,ff,ff,ff,ff,ff] mix (by kernel_rfl) fun hb=>cx' z (n' z)<|cn (fun _ j=>Y0.ZkW z)<|cn (fun _ j=>A' 4 sc64 z z z)<|cm0 z ?_
  obtain⟨x1,aB,hr⟩:=hr
  have N1:=mx (mx (mx M n) I) S
  refine cn (fun _ j=>Q' dB' sz99 ((E.mono N1).mono j) z z aB)<|cn (fun _ j=>Y0.idxA underlying99 sz26 z z (by decide))<|cn (fun _ j=>ac' sc26 z (AtK.vecAt (M' (M' (ad' E aB) N1) j) (by decide)))<|cn (fun _ j=>aV' z z (by decide))<|cn (fun _ j=>K' bL' aU' z)<|oE hr fun aA aE hr=>at' (post:=w40' aA) (fun _=>z) (fun _ _=>k' E6 z) (cM' aE) z (fun G' j=>trivial) (fun v G1 G2 j h=>?_) ?_
  .obtain⟨ac,aa,V,Z,rfl,B,A⟩:=h
   exact⟨_,_,_,_,z,B.mono j,A.mono j⟩
  refine oE hr fun k aF hr=>at' (post:=w40' k) (fun _=>z) (fun _ _=>k' E6 z) (cM' aF) z (fun G' j=>trivial) (fun v G1 G2 j h=>?_) ?_
  .obtain⟨c,g,f,i,rfl,D,C⟩:=h
   exact⟨_,_,_,_,z,D.mono j,C.mono j⟩
  refine cu (fun _ _ j=>C' 11 bt' z z (an' _ _ _))<|cq' (d:=67) (post:=w40' k) (d':=66) (post':=w40' aA) (fun a4 a5 ba af al ai=>?_)
  obtain⟨c,g,f,i,rfl,D,C⟩:=al
  obtain⟨ac,aa,V,Z,rfl,B,A⟩:=ai
  refine yw0 (ax' (vs:=#[(0,.agg ((v40' k c g f i)).toArray),(1,.agg (vi8 J).toArray)]) (v:=.agg (((v40' k c g f i):List Value)++(vi8 J)).toArray) z z (fun _=>by kernel_rfl))<|aO' (e:=91) (r:=g') (vs:=#[(0,.agg (((v40' k c g f i):List Value)++(vi8 J)).toArray)]) (cs:=(((v40' k c g f i):List Value)++(vi8 J))++([])) ([(Za.mk k J)]:List Za) z z z z z (by decide) (fun _=>by kernel_rfl) ⟨((v40' k c g f i):List Value)++(vi8 J),[],z,⟨(v40' k c g f i),vi8 J,z,⟨(v38' k.num c g),(v38' k.den f i),z,⟨[.bool k.num.neg],[sv0 c k.num.mag g],z,z,⟨_,z,D⟩⟩,⟨[.bool k.den.neg],[sv0 f k.den.mag i],z,z,⟨_,z,C⟩⟩⟩,z⟩,z⟩ (key:=999) z (by rw[ay]; rfl) (fun p2 bc R aQ=>?_)
  refine oE hr fun bb aK hr=>y' z z (k' E26 z) (eH' aK) z (⟨(B.mono R),(A.mono R),aQ⟩) (fun a0 a9 ag ak=>?_)
  obtain⟨aZ,a6,rfl,aD⟩:=ak
  refine oE hr fun aM aC hr=>y' z z (k' E15 z) (dU' aC) z (⟨(ad.mono (mx (mx (mx (mx I S) af) R) ag)),aD⟩) (fun a3 aT ar aj=>?_)
  obtain⟨aI,aH,rfl,aG⟩:=aj
  have N2:=mx (mx (mx (mx (mx (mx n I) S) af) R) ag) ar
  refine sw0 z<|p'<|ar'<|E'<|b'<|w'<|mw0 z<|ad0 z<|sw0 z<|p'<|O' ⟨aM,aI,aH,i64.wrap (o+1),aT⟩ hr ⟨N2,aG⟩ (fz0 z) (w1 z)
 rintro⟨W,Y,ab,ah⟩ ⟨hr,aX,au⟩
 refine b'<|sr<|mw0 z<|sx1 z<|q' ?_
 obtain rfl:_=r:=hr
 exact o' z z ⟨_,_,z,au⟩
theorem fA'{x Y V F H r}(hr:(ZfO x).Ret r):Ctr prog 5 #[.agg ((v25' x Y V F H)).toArray] (fun G=>sl ZaQ G Y V x.l/\sl (Rp.int .u8) G F H x.gap) (w34' r):=by
 refine B' (args:=[_]) (N:=77) func5 z z z (fun w0 G0 aw a2=>?_)
 obtain⟨al,O⟩:=a2
 refine sr<|ah' 1 z z z fun b1=>P' 2 z z34 z fun b2=>nr<|aO' (e:=9) (r:=Rp.str) (vs:=#[(0,.string ZO),(1,.string ZJ),(2,.string ZE)]) (cs:=[.string ZO]++([.string ZJ]++([.string ZE]++([])))) ([ZO,ZJ,ZE]:List ByteArray) z z z z z (by decide) (fun _=>by kernel_rfl) ⟨[.string ZO],[.string ZJ]++([.string ZE]++([])),z,z,⟨[.string ZJ],[.string ZE]++([]),z,z,⟨[.string ZE],[],z,z,z⟩⟩⟩ (key:=999) z (by rw[aw]; rfl) fun p1 aH S bb=>sw0 z<|nr<|yw0 (Y0.Zqe z)<|yw0 (A' 1 sc5 z z z)<|yw0 (aV' z z (by decide))<|yw0 (K' aJ' aC' z)<|sw0 z<|nr<|mw0 z<|mw0 z<|mw0 z ?_
 obtain⟨bg,hr⟩:=hr
 refine WL.slice3 (r:=Rp.str) z z ca' sz9 z bb z z z bg fun p2 bd=>yw0 (ax' (vs:=#[(0,.slice p2 (([ZO,ZJ,ZE].take (i64.wrap (Int.tmod x.n 4)).toNat).drop (0:Int).toNat).length ((([ZO,ZJ,ZE].take (i64.wrap (Int.tmod x.n 4)).toNat).drop (0:Int).toNat).length)),(3,i' 1)]) (v:=.agg ([.slice p2 (([ZO,ZJ,ZE].take (i64.wrap (Int.tmod x.n 4)).toNat).drop (0:Int).toNat).length ((([ZO,ZJ,ZE].take (i64.wrap (Int.tmod x.n 4)).toNat).drop (0:Int).toNat).length),.slice none 0 0,.slice none 0 0,i' 1]).toArray) z z (fun _=>by kernel_rfl))<|P' 5 z z34 z fun b3=>stB 5 sz34 z<|nx<|c'<|sr<|sx1 z<|aa' (X:=Int×(List ByteArray)×Option Addr×Nat×(List Zf)×Option Addr×Nat×Option Ow×(List Zf)×Option Addr×Nat×Option Ow×Int×Mem) hr (fun ⟨R,f,k,l,g,p,q,A,d,o,n,t,c,ad⟩=>⟨(R,f,g,d,c),[(1,pt0 b1),(2,pt0 b2),(4,i' (i64.wrap (Int.tmod x.n 4))),(5,pt0 b3),(6,i' R)],Mem.le aH ad/\sl Rp.str ad k l f/\sl aG' ad p q g/\Tok 2 68 (sv0 p g q) g.length A/\sl aG' ad o n d/\Tok 2 68 (sv0 o d n) d.length t,St w0 G0 ad [(1,bk0 b1 (v25' x Y V F H) 25),(2,bk0 b2 ([.slice none 0 0,.slice none 0 0,.slice none 0 0,i' 0]) 34),(5,bk0 b3 ([sv0 k f l,sv0 p g q,sv0 o d n,i' c]) 34),(310051,A),(310052,t)]⟩) (fun (⟨ac,ag,af,J,aa,Z,ae,E,K,Q,U,ah,ap⟩:(List ByteArray)×Option Addr×Nat×(List Zf)×Option Addr×Nat×Option Ow×(List Zf)×Option Addr×Nat×Option Ow×Int×Mem)=>⟨(ac,J,E,ah),[(2,pt0 b2),(5,pt0 b3)],Mem.le aH ap/\sl Rp.str ap ag af ac/\sl aG' ap aa Z J/\Tok 2 68 (sv0 aa J Z) J.length ae/\sl aG' ap K Q E/\Tok 2 68 (sv0 K E Q) E.length U,St w0 G0 ap [(2,bk0 b2 ([.slice none 0 0,.slice none 0 0,.slice none 0 0,i' 0]) 34),(5,bk0 b3 ([sv0 ag ac af,sv0 aa J Z,sv0 K E Q,i' ah]) 34),(310051,ae),(310052,U)]⟩) ⟨0,(([ZO,ZJ,ZE].take (i64.wrap (Int.tmod x.n 4)).toNat).drop (0:Int).toNat),p2,(([ZO,ZJ,ZE].take (i64.wrap (Int.tmod x.n 4)).toNat).drop (0:Int).toNat).length,[],none,0,none,[],none,0,none,1,aH⟩ z (fz0 z) ⟨mr,bd,(ay' _ _),cD',(ay' _ _),cD'⟩ (wk (lc z (lc z (lc z (lw (lw ln)))))) ?_ ?_
 .rintro _ ⟨R,f,k,l,g,p,q,A,d,o,n,t,c,ad⟩ ⟨C,L,ab,M,P,I⟩ hr
  refine aD' hr (fun (gx:Mem)=>match gx with|ao=>⟨[(1,pt0 b1),(2,pt0 b2),(4,i' (i64.wrap (Int.tmod x.n 4))),(5,pt0 b3),(6,i' R)],ZdD x R f g d c,Mem.le ad ao,St w0 G0 ao [(1,bk0 b1 (v25' x Y V F H) 25),(2,bk0 b2 ([.slice none 0 0,.slice none 0 0,.slice none 0 0,i' 0]) 34),(5,bk0 b3 ([sv0 k f l,sv0 p g q,sv0 o d n,i' c]) 34),(310051,A),(310052,t)]⟩) ?_ ?_
  .refine sr<|mw0 z<|yw0 (Y0.Znr z)<|yw0 (A' 1 sc22 z z z)<|yw0 (D' underlying22 (al.mono (mx S C)) z)<|aQ' hr z (ae' z z) z (fun bj hr=>?_) (fun bj hr=>?_)
   .refine mw0 z<|gm0 z<|gy z z (ae' z z) z<|pt00 z<|nx<|I' hr z (fun be hr=>?_) (fun be hr=>?_)
    .refine t'<|ao' ad ⟨hr,mr⟩ (fz0 z) (w5 z z z z z)
    refine Z'<|f'<|f'<|F'<|ab' ⟨f,k,l,g,p,q,A,d,o,n,t,c,ad⟩ ⟨hr,C,L,ab,M,P,I⟩ (fz0 z) (w4 z z z z)
   refine mw0 z<|sn2 z<|pf00 z<|nx<|bJ' z<|Z'<|f'<|f'<|F'<|ab' ⟨f,k,l,g,p,q,A,d,o,n,t,c,ad⟩ ⟨hr,C,L,ab,M,P,I⟩ (fz0 z) (w4 z z z z)
  rintro ao ⟨hr,y⟩
  refine c'<|U'<|sr<|sx1 z<|aD' hr (fun (⟨m,aG⟩:Int×Mem)=>⟨[(1,pt0 b1),(2,pt0 b2),(4,i' (i64.wrap (Int.tmod x.n 4))),(5,pt0 b3),(6,i' R),(7,i' m)],ZdC x R f g d c m,Mem.le ao aG,St w0 G0 aG [(1,bk0 b1 (v25' x Y V F H) 25),(2,bk0 b2 ([.slice none 0 0,.slice none 0 0,.slice none 0 0,i' 0]) 34),(5,bk0 b3 ([sv0 k f l,sv0 p g q,sv0 o d n,i' c]) 34),(310051,A),(310052,t)]⟩) ?_ ?_
  .refine sr<|yw0 (Y0.ZkU z)<|yw0 (A' 1 sc23 z z z)<|yw0 (D' bZ' (O.mono (mx (mx S C) y)) z)<|yw0 (aL' z z)<|nx<|I' hr z (fun ba hr=>?_) (fun ba hr=>?_)
   .refine aj' [ff,ff,ff,ff,ff,ff,ff] mix (by kernel_rfl) fun hb=>cn (fun _ s=>Y0.ZkU z)<|cn (fun _ s=>A' 1 sc23 z z z)<|cm0 z<|cn (fun _ s=>Y0.ZkU z)<|cn (fun _ s=>A' 1 sc23 z z z)<|cn (fun _ s=>D' bZ' ((O.mono (mx (mx S C) y)).mono s) z) ?_
    obtain⟨bf,hr⟩:=hr
    refine cn (fun _ s=>aV' z z bf)<|am' hb ?_
    obtain⟨x2,aN,hr⟩:=hr
    refine yw0 (Q' bZ' sz5 (O.mono (mx (mx S C) y)) z z aN)<|yw0 (ac' sc5 z (ak' (M' (ad' O aN) (mx (mx S C) y))))<|yw0 (aV' z z (by decide))<|yw0 (K' aJ' aC' z)<|sw0 z<|p'<|ar'<|ao' ⟨i64.wrap (Int.tmod x2 4),ao⟩ ⟨hr,mr⟩ (fz0 z) (w5 z z z z z)
   refine t'<|ao' ⟨0,ao⟩ ⟨hr,mr⟩ (fz0 z) (w5 z z z z z)
  rintro⟨m,aG⟩ ⟨hr,D⟩
  refine c'<|aj' [ff,ff,ff,ff,ff,ff,ff,ff,ff,ff,ff,ff,ff] mix (by kernel_rfl) fun hb=>cn (fun _ s=>dv' z)<|cn (fun _ s=>A' 5 sc3 z z z)<|cm0 z<|cn (fun _ s=>J' z z)<|cn (fun _ s=>Y0.Znr z)<|cn (fun _ s=>A' 1 sc22 z z z)<|cm0 z ?_
  obtain⟨x1,aP,hr⟩:=hr
  refine cn (fun _ s=>Q' underlying22 sz66 ((al.mono (mx (mx (mx S C) y) D)).mono s) z z aP) ?_
  obtain⟨br,bm,a7,aQ⟩:=ZkL (M' (ad' al aP) (mx (mx (mx S C) y) D))
  refine cn (fun _ s=>aP' _ ag66 z z (fun j v hv=>s _ _ _ (a7 j v hv)))<|cm0 z ?_
  obtain⟨B,aW,hr⟩:=hr
  refine at' (post:=wl' g' B) (fun _=>z) (fun _ _=>k' E18 z) (fz' aW) z (fun G' s=>(aQ.mono s)) (fun v G1 G2 s h=>?_) ?_
  .obtain⟨an,am,rfl,ar⟩:=h
   exact⟨_,_,z,ar.mono s⟩
  refine Chain.y0UU (φ:=fun G v=>∃ p3 T,v = .agg ([i' (i64.wrap (c+m)),sv0 p3 B T]).toArray/\sl g' G p3 T B) (fun _=>z) (fun v G1 G2 s h=>?_) (fun u G' s hu=>?_) ?_
  .obtain⟨p3,T,rfl,aA⟩:=h
   exact⟨_,_,z,aA.mono s⟩
  .obtain⟨⟨an,am,aM,ar⟩,_⟩:=(show (wl' g' B) G'.m (u 55)/\True from hu)
   simp only[undFr,aM]
   exact⟨_,ax' (vs:=#[(0,i' (i64.wrap (c+m))),(1,sv0 an B am)]) (v:=.agg ([i' (i64.wrap (c+m)),sv0 an B am]).toArray) z z (fun _=>by kernel_rfl),an,am,z,ar⟩
  refine cc' (fun _=>z) z68<|Chain.tailX3 (fun bA bs bt X1 W aJ aE aC=>?_)
  obtain⟨b4,rfl,aU⟩:=aJ
  obtain⟨p3,T,rfl,aA⟩:=aE
  obtain⟨an,am,rfl,ar⟩:=aC
  refine WL.adopt aU (WL.unX (show WL _ _ _ _ _ _ (St w0 G0 X1.m _) from ?_))
  refine stB 8 sz68 z<|p'<|ar'<|b'<|c'<|sr<|mw0 z<|yw0 (aV' z z (by decide))<|yw0 (aK' z z)<|nx<|I' hr z (fun bk hr=>?_) (fun bk hr=>?_)
  .refine w'<|yw0 (Y0.ZgU z)<|yw0 (A' 5 sc32 z z z)<|yw0 (C' 8 ag68 z z z)<|aO' (e:=68) (r:=aG') (vs:=#[(0,.agg ([i' (i64.wrap (c+m)),sv0 p3 B T]).toArray)]) (cs:=[i' (i64.wrap (c+m)),sv0 p3 B T]++([])) ([(Zf.mk (i64.wrap (c+m)) B)]:List Zf) z z z z z (by decide) (fun _=>by kernel_rfl) ⟨[i' (i64.wrap (c+m)),sv0 p3 B T],[],z,⟨[i' (i64.wrap (c+m))],[sv0 p3 B T],z,z,⟨_,z,aA⟩⟩,z⟩ (key:=999) z (by rw[aw]; rfl) (fun p4 bz aj a8=>?_)
   obtain⟨aT,hr⟩:=hr
   have N1:=mx (mx (mx y D) W) aj
   refine bG' (r:=aG') 310052 z z bi' el68 z (by decide) z z (P.mono N1) z (by rw[aw]; rfl) I a8 aT fun p5 aF a3 bc au bi a0=>yw0 (Y0.ZgU z)<|cr' 5 ([sv0 k f l,sv0 p g q,.slice p5 (d++[(Zf.mk (i64.wrap (c+m)) B)]).length aF,i' c]).toArray z sz32 z z z (show 2<4 by decide) z z<|nx<|w'<|yw0 (cG' z)<|yw0 (A' 8 sc3 z z z)<|ad0 z<|yw0 (dv' z)<|cr' 5 ([sv0 k f l,sv0 p g q,.slice p5 (d++[(Zf.mk (i64.wrap (c+m)) B)]).length aF,i' (i64.wrap ((i64.wrap (c+m))+1))]).toArray z sz3 z z z (show 3<4 by decide) z z<|p'<|E'<|b'<|w'<|mw0 z<|ad0 z<|sw0 z<|p'<|O' ⟨i64.wrap (R+1),f,k,l,g,p,q,A,(d++[(Zf.mk (i64.wrap (c+m)) B)]),p5,aF,a3,i64.wrap ((i64.wrap (c+m))+1),bc⟩ hr ⟨(mx (mx (mx (mx (mx C y) D) W) aj) au),(L.mono (mx N1 au)),(ab.mono (mx N1 au)),M,bi,a0⟩ (fz0 z) (w5 z z z z z)
  refine w'<|yw0 (Y0.ZgT z)<|yw0 (A' 5 sc32 z z z)<|yw0 (C' 8 ag68 z z z)<|aO' (e:=68) (r:=aG') (vs:=#[(0,.agg ([i' (i64.wrap (c+m)),sv0 p3 B T]).toArray)]) (cs:=[i' (i64.wrap (c+m)),sv0 p3 B T]++([])) ([(Zf.mk (i64.wrap (c+m)) B)]:List Zf) z z z z z (by decide) (fun _=>by kernel_rfl) ⟨[i' (i64.wrap (c+m)),sv0 p3 B T],[],z,⟨[i' (i64.wrap (c+m))],[sv0 p3 B T],z,z,⟨_,z,aA⟩⟩,z⟩ (key:=999) z (by rw[aw]; rfl) (fun p6 bx ak a6=>?_)
  obtain⟨aZ,hr⟩:=hr
  have N2:=mx (mx (mx y D) W) ak
  refine bG' (r:=aG') 310051 z z bi' el68 z (by decide) z z (ab.mono N2) z (by rw[aw]; rfl) M a6 aZ fun p7 aK aS bh aq a9 aX=>yw0 (Y0.ZgT z)<|cr' 5 ([sv0 k f l,.slice p7 (g++[(Zf.mk (i64.wrap (c+m)) B)]).length aK,sv0 o d n,i' c]).toArray z sz32 z z z (show 1<4 by decide) z z<|nx<|w'<|yw0 (cG' z)<|yw0 (A' 8 sc3 z z z)<|ad0 z<|yw0 (dv' z)<|cr' 5 ([sv0 k f l,.slice p7 (g++[(Zf.mk (i64.wrap (c+m)) B)]).length aK,sv0 o d n,i' (i64.wrap ((i64.wrap (c+m))+1))]).toArray z sz3 z z z (show 3<4 by decide) z z<|p'<|E'<|b'<|w'<|mw0 z<|ad0 z<|sw0 z<|p'<|O' ⟨i64.wrap (R+1),f,k,l,(g++[(Zf.mk (i64.wrap (c+m)) B)]),p7,aK,aS,d,o,n,t,i64.wrap ((i64.wrap (c+m))+1),bh⟩ hr ⟨(mx (mx (mx (mx (mx C y) D) W) ak) aq),(L.mono (mx N2 aq)),a9,aX,(P.mono (mx N2 aq)),I⟩ (fz0 z) (w5 z z z z z)
 rintro⟨ac,ag,af,J,aa,Z,ae,E,K,Q,U,ah,ap⟩ ⟨hr,bl,ay,aD,a1,az,aO⟩
 refine b'<|sr<|yw0 (C' 5 ag34 z z z)<|stB 2 sz34 z<|nx<|q' ?_
 obtain rfl:_=r:=hr
 exact o' z (af' (i:=2) ag34 z z z) ⟨_,_,_,_,_,_,z,ay,aD,az⟩
theorem eI'{E B y r}(hr:(ZeR E).Ret r):Ctr prog 10 #[sv0 B E y] (fun G=>sl aG' G B y E) (wl' (Rp.sl g') r):=by
 refine B' (args:=[_]) (N:=21) func10 z z z (fun Q P x K=>?_)
 have t:=K
 refine sr<|sw0 z<|nr<|aO' (e:=54) (r:=(Rp.sl g')) (vs:=#[]) (cs:=[]) ([]:List (List Za)) z z z z z (by decide) (fun _=>by kernel_rfl) (z) (key:=999) z (by rw[x]; rfl) fun p1 u m S=>sx1 z<|c'<|sr<|sx1 z<|aa' (X:=(List (List Za))×Option Addr×Nat×Option Ow×Int×Mem) hr (fun ⟨c,g,d,f,D,n⟩=>⟨(c,D),[(0,sv0 B E y),(3,sv0 g c d),(4,i' D)],Mem.le u n/\sl (Rp.sl g') n g d c/\Tok 1 54 (sv0 g c d) c.length f,St Q P n [(1003,f)]⟩) (fun (⟨i,k,j,l,p⟩:(List (List Za))×Option Addr×Nat×Option Ow×Mem)=>⟨i,[(3,sv0 k i j)],Mem.le u p/\sl (Rp.sl g') p k j i/\Tok 1 54 (sv0 k i j) i.length l,St Q P p [(1003,l)]⟩) ⟨[],p1,0,none,0,u⟩ z (fz0 z) ⟨mr,S,cD'⟩ (wk (lw ln)) ?_ ?_
 .rintro _ ⟨c,g,d,f,D,n⟩ ⟨h,s,o⟩ hr
  refine c'<|sr<|mw0 z<|mw0 z<|yw0 (D' bi' (t.mono (mx m h)) z)<|ls0 z<|nx<|I' hr z (fun Y hr=>?_) (fun Y hr=>?_)
  .refine t'<|b'<|c'<|U'<|w'<|mw0 z<|mw0 z<|mw0 z<|oE hr fun A H hr=>yw0 (Q' bi' sz68 (t.mono (mx m h)) z z H)<|yw0 (Y0.ZkX z) ?_
   obtain⟨I,v,R,W⟩:=cw' (M' (cS' (bW' (ad' t H))) (mx m h))
   refine yw0 (ac' sc54 z (R))<|aO' (e:=54) (r:=(Rp.sl g')) (vs:=#[(0,sv0 I A.p v)]) (cs:=[sv0 I A.p v]++([])) ([A.p]:List (List Za)) z z z z z (by decide) (fun _=>by kernel_rfl) ⟨[sv0 I A.p v],[],z,⟨_,z,W⟩,z⟩ (key:=999) z (by rw[x]; rfl) (fun p3 ad q V=>?_)
   refine oA hr fun L hr=>bG' (r:=(Rp.sl g')) 1003 z z al' el54 z (by decide) z z (s.mono q) z (by rw[x]; rfl) o V L fun p4 O M T C Z J=>sw0 z<|p'<|E'<|b'<|w'<|mw0 z<|ad0 z<|sw0 z<|p'<|O' ⟨(c++[A.p]),p4,O,M,i64.wrap (D+1),T⟩ hr ⟨(mx (mx h q) C),Z,J⟩ (fz0 z) (w1 z)
  refine Z'<|f'<|f'<|F'<|ab' ⟨c,g,d,f,n⟩ ⟨hr,h,s,o⟩ (f1 z) (w1 z)
 rintro⟨i,k,j,l,p⟩ ⟨hr,aa,F,U⟩
 refine b'<|sr<|mw0 z<|sx1 z<|q' ?_
 obtain rfl:_=r:=hr
 exact o' z z ⟨_,_,z,F⟩
theorem dH'{pr po:List Value}(ah:(List Int))(d:(List Int))(g:Option Addr)(k:Nat)(j:Nat)(t:Option Ow)(q:Option Addr)(s:Nat)(r:Int×(List Int))(hr:(Z4 ah d).Ret r):CtrL prog 131 #[.slice g j k,sv0 q d s] [(5000,t)] (fun G=>RowS pr po (Rp.int .u32) 139 G (.slice g j k) ah t/\sl (Rp.int .u32) G q s d) (fun G L v=>∃ aA,L=[(5000,aA)]/\v = .int .u32 r.1/\RowS pr po (Rp.int .u32) 139 G (.slice g j k) r.2 aA):=by
 refine bl' (args:=[_,_]) (N:=171) func131 z z z (fun w0 S a9 aM=>?_)
 obtain⟨l,f⟩:=aM
 refine sr<|sw0 z<|nr<|mw0 z<|yw0 (D' a' f z)<|sx1 z<|c'<|aj' [ff,ff,ff,ff,ff,ff,ff,ff,ff,ff,ff,ff] mix (by kernel_rfl) fun hb=>cm0 z<|cm0 z<|oE hr fun x1 aI hr=>cn (fun _ c=>bw' a' R' (l.mono c) z z aI)<|cn (fun _ c=>ct' au' (l.mono c) (key:=5000) z z (ak' (cV' l aI)))<|cn (fun _ c=>K' m' h' z)<|cn (fun _ c=>Y0.shl z z (by decide))<|cm0 z<|cm0 z<|cn (fun _ c=>ap' z z)<|oE hr fun x2 ay hr=>cn (fun _ c=>bw' a' R' (l.mono c) z z ay)<|cn (fun _ c=>ct' au' (l.mono c) (key:=5000) z z (ak' (cV' l ay)))<|cn (fun _ c=>K' m' h' z)<|am' hb<|yw0 (Y0.or z z)<|sw0 z<|p'<|ar'<|b'<|c'<|aj' [ff,ff,ff,ff,ff,ff,ff,ff,ff,ff,ff,ff,ff,ff,ff,ff,ff] mix (by kernel_rfl) fun hb=>cm0 z<|cm0 z<|cm0 z<|cn (fun _ c=>ap' z z)<|oE hr fun x3 aD hr=>cn (fun _ c=>Q' a' R' (f.mono c) z z aD)<|cn (fun _ c=>ac' au' z (ak' (M' (ad' f aD) c)))<|cn (fun _ c=>K' m' h' z)<|oA hr fun aY hr=>cn (fun _ c=>bv' z z aY)<|cm0 z<|cm0 z<|cm0 z<|cn (fun _ c=>ap' z z)<|oE hr fun x4 aB hr=>cn (fun _ c=>Q' a' R' (f.mono c) z z aB)<|cn (fun _ c=>ac' au' z (ak' (M' (ad' f aB) c)))<|cn (fun _ c=>K' m' h' z)<|oA hr fun aW hr=>cn (fun _ c=>aV' z z aW)<|cn (fun _ c=>Y0.assign z)<|am' hb<|sw0 z<|p'<|ar'<|b'<|c'<|aa' (X:=Int×Int×Mem) hr (fun ⟨u,W,M⟩=>⟨(u,W),[(0,.slice g j k),(1,sv0 q d s),(5,i' (d.length:Int)),(7,.int .u64 u),(8,.int .u64 W)],Mem.le S M,St w0 S M [(5000,t)]⟩) (fun (⟨m,aa⟩:Int×Mem)=>⟨m,[(0,.slice g j k),(1,sv0 q d s),(5,i' (d.length:Int)),(7,.int .u64 m)],Mem.le S aa,St w0 S aa [(5000,t)]⟩) ⟨u64.wrap (Int.tdiv (u64.wrap (BitVec.ofInt u64.bits (u64.wrap ((u64.wrap x1)*2 ^ (min (32:Int).toNat u64.bits))) ||| BitVec.ofInt u64.bits (u64.wrap x2)).toNat) (u64.wrap x3)),Int.tmod (u64.wrap (BitVec.ofInt u64.bits (u64.wrap ((u64.wrap x1)*2 ^ (min (32:Int).toNat u64.bits))) ||| BitVec.ofInt u64.bits (u64.wrap x2)).toNat) (u64.wrap x4),S⟩ z (fz0 z) mr (w1 z) ?_ ?_
 .rintro _ ⟨u,W,M⟩ h hr
  refine c'<|c'<|aj' [ff,ff,ff,ff,ff,ff,ff,ff,ff,ff,ff,ff,ff,ff,ff,ff,ff,ff,ff,ff] mix (by kernel_rfl) fun hb=>cm0 z<|bX' hr z (fun _ c=>bc' z z) (fun a3 hr=>?_) (fun a3 hr=>?_)
  .refine cm0 z<|cf z z<|cf z z<|cf z z<|cf z z<|cf z z<|cf z z<|cf z z<|cf z z<|cf z z<|cf z z<|cf z z<|cf z z<|cf z z<|cf z z<|cf z z<|cf z z<|cf z z<|am' hb<|sf z z z<|pt00 z<|p'<|ar'<|b'<|aR' z<|t'<|b'<|U'<|sr<|mw0 z<|yw0 (ap' z z)<|sw0 z<|nr<|mw0 z<|mw0 z<|mw0 z<|yw0 (ap' z z)<|oE hr fun aX ap hr=>yw0 (Q' a' R' (f.mono h) z z ap)<|yw0 (ac' au' z (ak' (M' (ad' f ap) h)))<|yw0 (K' m' h' z)<|ad0 z<|sw0 z<|nr<|mw0 z<|yw0 (bc' z z)<|nx<|I' hr z (fun aR hr=>?_) (fun aR hr=>?_)
   .refine Z'<|cY' z<|f'<|F'<|ab' ⟨u64.wrap (u-1),M⟩ ⟨hr,h⟩ (fz0 z) (w1 z)
   refine t'<|E'<|O' ⟨u64.wrap (u-1),u64.wrap (W+(u64.wrap aX)),M⟩ hr h (fz0 z) (w1 z)
  refine cm0 z<|cy z z (fun _ c=>n' z)<|cy z z (fun _ c=>n' z)<|cy z z (fun _ c=>n' z)<|cy z z (fun _ c=>ap' z z)<|oE hr fun ba am hr=>cy z z (fun _ c=>Q' a' R' ((f.mono h).mono c) z z am)<|cy z z (fun _ c=>ac' au' z (ak' (M' (M' (ad' f am) h) c)))<|cy z z (fun _ c=>K' m' h' z)<|cy z z (fun _ c=>bE' z z)<|cy z z (fun _ c=>n' z)<|cy z z (fun _ c=>Y0.shl z z (by decide))<|cy z z (fun _ c=>n' z)<|cy z z (fun _ c=>n' z)<|cy z z (fun _ c=>ap' z z)<|oE hr fun a8 al hr=>cy z z (fun _ c=>bw' a' R' ((l.mono h).mono c) z z al)<|cy z z (fun _ c=>ct' au' ((l.mono h).mono c) (key:=5000) z z (ak' (cV' l al)))<|cy z z (fun _ c=>K' m' h' z)<|cy z z (fun _ c=>Y0.or z z)<|am' hb<|gy z z (aL' z z) z<|pf00 z<|p'<|ar'<|b'<|I' hr z (fun a1 hr=>?_) (fun a1 hr=>?_)
  .refine t'<|b'<|U'<|sr<|mw0 z<|yw0 (ap' z z)<|sw0 z<|nr<|mw0 z<|mw0 z<|mw0 z<|yw0 (ap' z z)<|oE hr fun aS aw hr=>yw0 (Q' a' R' (f.mono h) z z aw)<|yw0 (ac' au' z (ak' (M' (ad' f aw) h)))<|yw0 (K' m' h' z)<|ad0 z<|sw0 z<|nr<|mw0 z<|yw0 (bc' z z)<|nx<|I' hr z (fun aU hr=>?_) (fun aU hr=>?_)
   .refine Z'<|cY' z<|f'<|F'<|ab' ⟨u64.wrap (u-1),M⟩ ⟨hr,h⟩ (fz0 z) (w1 z)
   refine t'<|E'<|O' ⟨u64.wrap (u-1),u64.wrap (W+(u64.wrap aS)),M⟩ hr h (fz0 z) (w1 z)
  refine Z'<|f'<|f'<|F'<|ab' ⟨u,M⟩ ⟨hr,h⟩ (fz0 z) (w1 z)
 rintro⟨m,aa⟩ ⟨hr,E⟩
 refine b'<|sr<|sw0 z<|sx1 z<|c'<|sr<|mw0 z<|mw0 z<|nx<|aa' (X:=(List Int)×Option Ow×Int×Int×Int×Mem) hr (fun ⟨R,F,p,n,C,Y⟩=>⟨(R,p,n,C),[(0,.slice g j k),(1,sv0 q d s),(5,i' (d.length:Int)),(7,.int .u64 m),(9,.int .u64 p),(10,.int .u64 n),(82,i' (d.length:Int)),(83,i' C)],Mem.le aa Y/\RowS pr po (Rp.int .u32) 139 Y (.slice g j k) R F,St w0 S Y [(5000,F)]⟩) (fun (⟨ab,V,J,B,K⟩:(List Int)×Option Ow×Int×Int×Mem)=>⟨(ab,J,B),[(0,.slice g j k),(1,sv0 q d s),(5,i' (d.length:Int)),(7,.int .u64 m),(9,.int .u64 J),(10,.int .u64 B)],Mem.le aa K/\RowS pr po (Rp.int .u32) 139 K (.slice g j k) ab V,St w0 S K [(5000,V)]⟩) ⟨ah,t,0,0,0,aa⟩ z (fz0 z) ⟨mr,(l.mono E)⟩ (w1 z) ?_ ?_
 .rintro _ ⟨R,F,p,n,C,Y⟩ ⟨O,y⟩ hr
  refine sr<|ls0 z<|nx<|c'<|I' hr z (fun aV hr=>?_) (fun aV hr=>?_)
  .refine t'<|b'<|c'<|U'<|sr<|mw0 z<|sw0 z<|nr<|mw0 z<|mw0 z<|mw0 z<|oE hr fun ae au hr=>yw0 (Q' a' R' (f.mono (mx E O)) z z au)<|yw0 (ac' au' z (ak' (M' (ad' f au) (mx E O))))<|yw0 (K' m' h' z)<|yw0 (bE' z z)<|mw0 z<|ad0 z<|sw0 z<|nr<|mw0 z<|yw0 (bH' z z (by decide))<|sw0 z<|nr<|mw0 z<|mw0 z<|oE hr fun ak ar hr=>yw0 (bw' a' R' y z z ar)<|yw0 (ct' au' y (key:=5000) z z (ak' (cV' y ar)))<|yw0 (K' m' h' z)<|mw0 z<|yw0 (K' h' m' z)<|yw0 (K' m' h' z)<|yw0 (ap' z z)<|mw0 z<|yw0 (ap' z z)<|sw0 z<|nr<|mw0 z<|mw0 z<|mw0 z<|yw0 (K' h' m' z)<|oE hr fun bc an hr=>yw0 (bw' a' R' y z z an)<|db' (r:=(Rp.int .u32)) (e:=139) (cs':=[.int .u32 (u32.wrap (u64.wrap ((u64.wrap ((u64.wrap ak)-(u64.wrap (u32.wrap (u64.wrap ((u64.wrap (m*(u64.wrap ae)))+p))))))-n)))]) (i:=C) (z':=u32.wrap (u64.wrap ((u64.wrap ((u64.wrap ak)-(u64.wrap (u32.wrap (u64.wrap ((u64.wrap (m*(u64.wrap ae)))+p))))))-n))) 5000 z R' z y z z z z z an fun aO aJ=>nx<|w'<|mw0 z<|yw0 (bH' z z (by decide))<|sw0 z<|p'<|E'<|b'<|w'<|ad0 z<|mw0 z<|p'<|O' ⟨(R.set C.toNat (u32.wrap (u64.wrap ((u64.wrap ((u64.wrap ak)-(u64.wrap (u32.wrap (u64.wrap ((u64.wrap (m*(u64.wrap ae)))+p))))))-n)))),aO,Int.fdiv (u64.wrap ((u64.wrap (m*(u64.wrap ae)))+p)) (2 ^ (min (32:Int).toNat u64.bits)),Int.fdiv (u64.wrap ((u64.wrap ((u64.wrap ak)-(u64.wrap (u32.wrap (u64.wrap ((u64.wrap (m*(u64.wrap ae)))+p))))))-n)) (2 ^ (min (63:Int).toNat u64.bits)),i64.wrap (C+1),Y⟩ hr ⟨O,aJ⟩ (fz0 z) (w1 z)
  refine Z'<|f'<|f'<|F'<|ab' ⟨R,F,p,n,Y⟩ ⟨hr,O,y⟩ (fz0 z) (w1 z)
 rintro⟨ab,V,J,B,K⟩ ⟨hr,ai,H⟩
 refine b'<|sr<|mw0 z<|mw0 z<|oE hr fun x5 aC hr=>yw0 (bw' a' R' H z z aC)<|yw0 (ct' au' H (key:=5000) z z (ak' (cV' H aC)))<|yw0 (K' m' h' z)<|mw0 z<|yw0 (ap' z z)<|mw0 z<|yw0 (ap' z z)<|sw0 z<|nr<|mw0 z<|mw0 z<|mw0 z<|yw0 (K' h' m' z)<|oE hr fun x6 aE hr=>yw0 (bw' a' R' H z z aE)<|db' (r:=(Rp.int .u32)) (e:=139) (cs':=[.int .u32 (u32.wrap (u64.wrap ((u64.wrap ((u64.wrap x5)-J))-B)))]) (i:=(d.length:Int)) (z':=u32.wrap (u64.wrap ((u64.wrap ((u64.wrap x5)-J))-B))) 5000 z R' z H z z z z z aE fun az aq=>nx<|c'<|sr<|mw0 z<|yw0 (bH' z z (by decide))<|yw0 (aK' z z)<|nx<|I' hr z (fun a4 hr=>?_) (fun a4 hr=>?_)
 .refine sr<|mw0 z<|yw0 (K' h' m' z)<|sx1 z<|q'<|j' ?_
  obtain rfl:_=r:=hr
  refine bh' (S':=St w0 S K [(5000,az)]) (w1 z)<|o' z z ⟨_,z,z,aq⟩
 refine t'<|b'<|sr<|sx1 z<|c'<|sr<|mw0 z<|mw0 z<|nx<|aa' (X:=(List Int)×Option Ow×Int×Int×Mem) hr (fun ⟨Q,I,x,o,Z⟩=>⟨(Q,x,o),[(0,.slice g j k),(1,sv0 q d s),(5,i' (d.length:Int)),(7,.int .u64 m),(9,.int .u64 x),(135,i' (d.length:Int)),(136,i' o)],Mem.le K Z/\RowS pr po (Rp.int .u32) 139 Z (.slice g j k) Q I,St w0 S Z [(5000,I)]⟩) (fun (⟨ag,U,T,ad⟩:(List Int)×Option Ow×Int×Mem)=>⟨(ag,T),[(0,.slice g j k),(5,i' (d.length:Int)),(7,.int .u64 m),(9,.int .u64 T)],Mem.le K ad/\RowS pr po (Rp.int .u32) 139 ad (.slice g j k) ag U,St w0 S ad [(5000,U)]⟩) ⟨(ab.set (d.length:Int).toNat (u32.wrap (u64.wrap ((u64.wrap ((u64.wrap x5)-J))-B)))),az,0,0,K⟩ z (fz0 z) ⟨mr,aq⟩ (w1 z) ?_ ?_
 .rintro _ ⟨Q,I,x,o,Z⟩ ⟨P,A⟩ hr
  refine sr<|ls0 z<|nx<|c'<|I' hr z (fun aT hr=>?_) (fun aT hr=>?_)
  .refine t'<|b'<|c'<|U'<|sr<|mw0 z<|sx1 z<|c'<|aj' [ff,ff,ff,ff,ff,ff,ff,ff,ff,ff,ff,ff] mix (by kernel_rfl) fun hb=>cm0 z<|cm0 z<|oE hr fun x9 aG hr=>cn (fun _ c=>bw' a' R' (A.mono c) z z aG)<|cn (fun _ c=>ct' au' (A.mono c) (key:=5000) z z (ak' (cV' A aG)))<|cn (fun _ c=>K' m' h' z)<|cm0 z<|cm0 z<|oE hr fun aj ao hr=>cn (fun _ c=>Q' a' R' ((f.mono (mx (mx E ai) P)).mono c) z z ao)<|cn (fun _ c=>ac' au' z (ak' (M' (M' (ad' f ao) (mx (mx E ai) P)) c)))<|cn (fun _ c=>K' m' h' z)<|cn (fun _ c=>J' z z)<|cm0 z<|am' hb<|ad0 z<|sw0 z<|p'<|ar'<|b'<|sr<|mw0 z<|mw0 z<|mw0 z<|yw0 (K' h' m' z)<|oE hr fun bb av hr=>yw0 (bw' a' R' A z z av)<|db' (r:=(Rp.int .u32)) (e:=139) (cs':=[.int .u32 (u32.wrap (u64.wrap ((u64.wrap ((u64.wrap x9)+(u64.wrap aj)))+x)))]) (i:=o) (z':=u32.wrap (u64.wrap ((u64.wrap ((u64.wrap x9)+(u64.wrap aj)))+x))) 5000 z R' z A z z z z z av fun aZ aN=>nx<|w'<|mw0 z<|yw0 (bH' z z (by decide))<|sw0 z<|p'<|E'<|b'<|w'<|ad0 z<|mw0 z<|p'<|O' ⟨(Q.set o.toNat (u32.wrap (u64.wrap ((u64.wrap ((u64.wrap x9)+(u64.wrap aj)))+x)))),aZ,Int.fdiv (u64.wrap ((u64.wrap ((u64.wrap x9)+(u64.wrap aj)))+x)) (2 ^ (min (32:Int).toNat u64.bits)),i64.wrap (o+1),Z⟩ hr ⟨P,aN⟩ (fz0 z) (w1 z)
  refine Z'<|f'<|f'<|F'<|ab' ⟨Q,I,x,Z⟩ ⟨hr,P,A⟩ (fz0 z) (w1 z)
 rintro⟨ag,U,T,ad⟩ ⟨hr,a5,D⟩
 refine b'<|sr<|mw0 z<|mw0 z<|oE hr fun x7 aF hr=>yw0 (bw' a' R' D z z aF)<|yw0 (ct' au' D (key:=5000) z z (ak' (cV' D aF)))<|mw0 z<|yw0 (K' h' m' z)<|ad0 z<|oE hr fun x8 aH hr=>yw0 (bw' a' R' D z z aH)<|db' (r:=(Rp.int .u32)) (e:=139) (cs':=[.int .u32 (u32.wrap (x7+(u32.wrap T)))]) (i:=(d.length:Int)) (z':=u32.wrap (x7+(u32.wrap T))) 5000 z R' z D z z z z z aH fun a2 aL=>nr<|mw0 z<|yw0 (ap' z z)<|yw0 (K' h' m' z)<|sx1 z<|q' ?_
 obtain rfl:_=r:=hr
 refine bh' (S':=St w0 S ad [(5000,a2)]) (w1 z)<|o' z z ⟨_,z,z,aL⟩
theorem bY'{g i e d r}(hr:(ZP g i).Ret r):Ctr prog 86 #[sv0 e g d,i' i] (fun G=>sl (Rp.int .u32) G e d g) (fun G v=>v = .int .u64 r):=by
 refine B' (args:=[_,_]) (N:=14) func86 z z z (fun l n k h=>?_)
 have c:=h
 refine sr<|sx1 z<|c'<|sr<|mw0 z<|mw0 z<|yw0 (D' a' c z)<|ls0 z<|nx<|I' hr z (fun j hr=>?_) (fun j hr=>?_)
 .refine sr<|mw0 z<|mw0 z<|oE hr fun m f hr=>yw0 (Q' a' R' c z z f)<|yw0 (ac' au' z (ak' (ad' c f)))<|yw0 (K' m' h' z)<|sx1 z<|q'<|j' (k0' hr z z)
 refine t'<|b'<|sr<|sx1 z<|q' (k0' hr z z)
theorem eU'{pr po:List Value}(K:(List Int))(C:(List Int))(p:Int)(k:Option Addr)(j:Nat)(h:Nat)(t:Option Ow)(A:Option Addr)(B:Nat)(r:Bool×(List Int))(hr:(Zbz K C p).Ret r):CtrL prog 146 #[.slice k h j,sv0 A C B,.int .u64 p] [(5000,t)] (fun G=>RowS pr po (Rp.int .u32) 139 G (.slice k h j) K t/\sl (Rp.int .u32) G A B C) (fun G L v=>∃ F,L=[(5000,F)]/\v = .bool r.1/\RowS pr po (Rp.int .u32) 139 G (.slice k h j) r.2 F):=by
 refine bl' (args:=[_,_,_]) (N:=49) func146 z z z (fun M u W O=>?_)
 obtain⟨S,T⟩:=O
 refine sr<|sw0 z<|nr<|sw0 z<|nr<|sx1 z<|c'<|sr<|sx1 z<|aa' (X:=(List Int)×Option Ow×Int×Int×Int×Mem) hr (fun ⟨y,n,d,c,x,l⟩=>⟨(y,d,c,x),[(0,.slice k h j),(1,sv0 A C B),(2,.int .u64 p),(7,.int .u64 d),(8,.int .u64 c),(9,i' x)],Mem.le u l/\RowS pr po (Rp.int .u32) 139 l (.slice k h j) y n,St M u l [(5000,n)]⟩) (fun (⟨J,m,f,s⟩:(List Int)×Option Ow×Int×Mem)=>⟨(J,f),[(0,.slice k h j),(8,.int .u64 f)],Mem.le u s/\RowS pr po (Rp.int .u32) 139 s (.slice k h j) J m,St M u s [(5000,m)]⟩) ⟨K,t,0,0,0,u⟩ z (fz0 z) ⟨mr,S⟩ (w1 z) ?_ ?_
 .rintro _ ⟨y,n,d,c,x,l⟩ ⟨o,g⟩ hr
  refine c'<|sr<|mw0 z<|mw0 z<|yw0 (Y0.lenRowS a' g z)<|ls0 z<|nx<|I' hr z (fun U hr=>?_) (fun U hr=>?_)
  .refine t'<|b'<|c'<|U'<|sr<|mw0 z<|mw0 z<|mw0 z<|oE hr fun q P hr=>T' z z (k' E86 z) (bY' P) z ((T.mono o))<|yw0 (bE' z z)<|mw0 z<|ad0 z<|sw0 z<|nr<|mw0 z<|yw0 (bv' z z (by decide))<|sw0 z<|nr<|mw0 z<|mw0 z<|oE hr fun D H hr=>yw0 (bw' a' R' g z z H)<|yw0 (ct' au' g (key:=5000) z z (ak' (cV' g H)))<|yw0 (K' m' h' z)<|ad0 z<|mw0 z<|yw0 (aV' z z (by decide))<|yw0 (ap' z z)<|mw0 z<|yw0 (ap' z z)<|sw0 z<|nr<|mw0 z<|mw0 z<|mw0 z<|yw0 (aV' z z (by decide))<|yw0 (K' h' m' z)<|oE hr fun Y E hr=>yw0 (bw' a' R' g z z E)<|db' (r:=(Rp.int .u32)) (e:=139) (cs':=[.int .u32 (u32.wrap (Int.tmod (u64.wrap ((u64.wrap ((u64.wrap (4294967296+(u64.wrap D)))-(Int.tmod (u64.wrap ((u64.wrap (p*q))+d)) 4294967296)))-c)) 4294967296))]) (i:=x) (z':=u32.wrap (Int.tmod (u64.wrap ((u64.wrap ((u64.wrap (4294967296+(u64.wrap D)))-(Int.tmod (u64.wrap ((u64.wrap (p*q))+d)) 4294967296)))-c)) 4294967296)) 5000 z R' z g z z z z z E fun Q I=>nx<|w'<|mw0 z<|yw0 (bv' z z (by decide))<|yw0 (ap' z z)<|sw0 z<|p'<|E'<|b'<|w'<|mw0 z<|ad0 z<|sw0 z<|p'<|O' ⟨(y.set x.toNat (u32.wrap (Int.tmod (u64.wrap ((u64.wrap ((u64.wrap (4294967296+(u64.wrap D)))-(Int.tmod (u64.wrap ((u64.wrap (p*q))+d)) 4294967296)))-c)) 4294967296))),Q,u64.wrap (Int.tdiv (u64.wrap ((u64.wrap (p*q))+d)) 4294967296),u64.wrap (1-(u64.wrap (Int.tdiv (u64.wrap ((u64.wrap ((u64.wrap (4294967296+(u64.wrap D)))-(Int.tmod (u64.wrap ((u64.wrap (p*q))+d)) 4294967296)))-c)) 4294967296))),i64.wrap (x+1),l⟩ hr ⟨o,I⟩ (fz0 z) (w1 z)
  refine Z'<|f'<|f'<|F'<|ab' ⟨y,n,c,l⟩ ⟨hr,o,g⟩ (fz0 z) (w1 z)
 rintro⟨J,m,f,s⟩ ⟨hr,V,R⟩
 refine b'<|sr<|mw0 z<|yw0 (aK' z z)<|sx1 z<|q' ?_
 obtain rfl:_=r:=hr
 refine bh' (S':=St M u s [(5000,m)]) (w1 z)<|o' z z ⟨_,z,z,R⟩
theorem eN'{pr po:List Value}(I:(List Int))(A:(List Int))(j:Option Addr)(h:Nat)(g:Nat)(p:Option Ow)(x:Option Addr)(y:Nat)(r:(List Int))(hr:(Zbf I A).Ret r):CtrL prog 147 #[.slice j g h,sv0 x A y] [(5000,p)] (fun G=>RowS pr po (Rp.int .u32) 139 G (.slice j g h) I p/\sl (Rp.int .u32) G x y A) (fun G L v=>∃ D,L=[(5000,D)]/\v = .tuple #[]/\RowS pr po (Rp.int .u32) 139 G (.slice j g h) r D):=by
 refine bl' (args:=[_,_]) (N:=32) func147 z z z (fun J s V K=>?_)
 obtain⟨Q,R⟩:=K
 refine sr<|sw0 z<|nr<|sx1 z<|aa' (X:=(List Int)×Option Ow×Int×Int×Mem) hr (fun ⟨u,m,c,t,k⟩=>⟨(u,c,t),[(0,.slice j g h),(1,sv0 x A y),(4,.int .u64 c),(5,i' t)],Mem.le s k/\RowS pr po (Rp.int .u32) 139 k (.slice j g h) u m,St J s k [(5000,m)]⟩) (fun (⟨H,l,o⟩:(List Int)×Option Ow×Mem)=>⟨H,[(0,.slice j g h)],Mem.le s o/\RowS pr po (Rp.int .u32) 139 o (.slice j g h) H l,St J s o [(5000,l)]⟩) ⟨I,p,0,0,s⟩ z (fz0 z) ⟨mr,Q⟩ (w1 z) ?_ ?_
 .rintro _ ⟨u,m,c,t,k⟩ ⟨n,f⟩ hr
  refine c'<|sr<|mw0 z<|mw0 z<|yw0 (Y0.lenRowS a' f z)<|ls0 z<|nx<|I' hr z (fun S hr=>?_) (fun S hr=>?_)
  .refine t'<|b'<|c'<|U'<|c'<|aj' [ff,ff,ff,ff,ff,ff,ff,ff,ff,ff] mix (by kernel_rfl) fun U=>cm0 z<|cm0 z<|oE hr fun B E hr=>cn (fun _ d=>bw' a' R' (f.mono d) z z E)<|cn (fun _ d=>ct' au' (f.mono d) (key:=5000) z z (ak' (cV' f E)))<|cn (fun _ d=>K' m' h' z)<|cm0 z<|cm0 z<|oE hr fun q M hr=>bR' z (fun _=>k' E86 z) (bY' M) z (fun W d=>((R.mono n).mono d))<|cn (fun _ d=>J' z z)<|cm0 z<|am' U<|ad0 z<|sw0 z<|p'<|ar'<|b'<|sr<|mw0 z<|mw0 z<|mw0 z<|yw0 (aV' z z (by decide))<|yw0 (K' h' m' z)<|oE hr fun Y C hr=>yw0 (bw' a' R' f z z C)<|db' (r:=(Rp.int .u32)) (e:=139) (cs':=[.int .u32 (u32.wrap (Int.tmod (u64.wrap ((u64.wrap ((u64.wrap B)+q))+c)) 4294967296))]) (i:=t) (z':=u32.wrap (Int.tmod (u64.wrap ((u64.wrap ((u64.wrap B)+q))+c)) 4294967296)) 5000 z R' z f z z z z z C fun O F=>nx<|w'<|mw0 z<|yw0 (bv' z z (by decide))<|sw0 z<|p'<|E'<|b'<|w'<|mw0 z<|ad0 z<|sw0 z<|p'<|O' ⟨(u.set t.toNat (u32.wrap (Int.tmod (u64.wrap ((u64.wrap ((u64.wrap B)+q))+c)) 4294967296))),O,u64.wrap (Int.tdiv (u64.wrap ((u64.wrap ((u64.wrap B)+q))+c)) 4294967296),i64.wrap (t+1),k⟩ hr ⟨n,F⟩ (fz0 z) (w1 z)
  refine Z'<|f'<|f'<|F'<|ab' ⟨u,m,k⟩ ⟨hr,n,f⟩ (f1 z) (w1 z)
 rintro⟨H,l,o⟩ ⟨hr,T,P⟩
 refine WE.retN ?_
 obtain rfl:_=r:=hr
 refine bh' (S':=St J s o [(5000,l)]) (w1 z)<|WE.ret0 z  ⟨_,z,z,P⟩
theorem aS'{h f g r}(hr:(Zu h).Ret r):Ctr prog 100 #[sv0 f h g] (fun G=>sl (Rp.int .u32) G f g h) (wl' (Rp.int .u32) r):=by
 refine B' (args:=[_]) (N:=21) func100 z z z (fun q j x n=>?_)
 have e:=n
 refine sr<|sw0 z<|nr<|mw0 z<|yw0 (D' a' e z)<|sx1 z<|c'<|aa' (X:=Int×Mem) hr (fun ⟨i,d⟩=>⟨i,[(0,sv0 f h g),(3,i' i)],Mem.le j d,St q j d []⟩) (fun (⟨o,k⟩:Int×Mem)=>⟨o,[(0,sv0 f h g),(3,i' o)],Mem.le j k,St q j k []⟩) ⟨(h.length:Int),j⟩ z (fz0 z) mr (wk ln) ?_ ?_
 .rintro _ ⟨i,d⟩ c hr
  refine c'<|sr<|mw0 z<|aQ' hr z (aL' z z) z (fun t hr=>?_) (fun t hr=>?_)
  .refine mw0 z<|gm0 z<|gm0 z<|gy z z (ap' z z) z<|oE hr fun A m hr=>gy z z (Q' a' R' (e.mono c) z z m) z<|gy z z (ac' au' z (ak' (M' (ad' e m) c))) z<|gy z z (aK' z z) z<|pt00 z<|nx<|I' hr z (fun u hr=>?_) (fun u hr=>?_)
   .refine t'<|b'<|U'<|w'<|mw0 z<|yw0 (ap' z z)<|sw0 z<|p'<|E'<|O' ⟨i64.wrap (i-1),d⟩ hr c (fz0 z) (wk ln)
   refine Z'<|f'<|f'<|F'<|ab' ⟨i,d⟩ ⟨hr,c⟩ (fz0 z) (wk ln)
  refine mw0 z<|sn6 z<|pf00 z<|nx<|bJ' z<|Z'<|f'<|f'<|F'<|ab' ⟨i,d⟩ ⟨hr,c⟩ (fz0 z) (wk ln)
 rintro⟨o,k⟩ ⟨hr,l⟩
 refine b'<|sr<|mw0 z<|mw0 z<|oA hr fun p hr=>dE' (r:=(Rp.int .u32)) z z a' R' z (e.mono l) z z p fun y v s=>sx1 z<|q' ?_
 obtain rfl:_=r:=hr
 exact o' z z ⟨_,_,z,s⟩
theorem cm'{c r}(hr:(Zam c).Ret r):Ctr prog 98 #[.int .u64 c] (fun G=>True) (wl' (Rp.int .u32) r):=by
 refine B' (args:=[_]) (N:=10) func98 z z z fun v t i o=>sr<|sw0 z<|nr<|mw0 z<|yw0 (K' h' m' z)<|mw0 z<|yw0 (bH' z z (by decide))<|yw0 (K' h' m' z)<|aO' (e:=139) (r:=(Rp.int .u32)) (vs:=#[(0,.int .u32 (u32.wrap c)),(1,.int .u32 (u32.wrap (Int.fdiv c (2 ^ (min (32:Int).toNat u64.bits)))))]) (cs:=[.int .u32 (u32.wrap c)]++([.int .u32 (u32.wrap (Int.fdiv c (2 ^ (min (32:Int).toNat u64.bits))))]++([]))) ([u32.wrap c,u32.wrap (Int.fdiv c (2 ^ (min (32:Int).toNat u64.bits)))]:List Int) z z z z z (by decide) (fun _=>by kernel_rfl) ⟨[.int .u32 (u32.wrap c)],[.int .u32 (u32.wrap (Int.fdiv c (2 ^ (min (32:Int).toNat u64.bits))))]++([]),z,z,⟨[.int .u32 (u32.wrap (Int.fdiv c (2 ^ (min (32:Int).toNat u64.bits))))],[],z,z,z⟩⟩ (key:=999) z (by rw[i]; rfl) (fun u p k h=>?_)
 refine oE hr fun q g hr=>y' z z (k' E100 z) (aS' g) z (h) (fun l s j d=>?_)
 obtain⟨n,m,rfl,f⟩:=d
 refine sx1 z<|q' ?_
 obtain rfl:_=r:=hr
 exact o' z z ⟨_,_,z,f⟩
theorem aZ'{c d f e r}(hr:(Zw c d).Ret r):Ctr prog 97 #[.bool c,sv0 f d e] (fun G=>sl (Rp.int .u32) G f e d) (w38' r):=by
 refine B' (args:=[_,_]) (N:=14) func97 z z z (fun A y u n=>?_)
 have l:=n
 refine sr<|P' 4 z z38 z fun x=>nr<|mw0 z<|oE hr fun m o hr=>y' z z (k' E100 z) (aS' o) z (l) (fun s t q g=>?_)
 obtain⟨k,j,rfl,h⟩:=g
 refine sx1 z<|c'<|sr<|mw0 z<|yw0 (D' a' h z)<|yw0 (aK' z z)<|nx<|I' hr z (fun p hr=>?_) (fun p hr=>?_)
 .refine sr<|yw0 (ax' (vs:=#[]) (v:=.agg ([.bool false,.slice none 0 0]).toArray) z z (fun _=>by kernel_rfl))<|stB 4 aA' z<|nx<|q'<|j' ?_
  obtain rfl:_=r:=hr
  exact o' z (af' (i:=4) W' z z z) ⟨_,_,z,(ay' (Rp.int .u32) _)⟩
 refine t'<|b'<|sr<|mw0 z<|mw0 z<|yw0 (ax' (vs:=#[(0,.bool c),(1,sv0 k m j)]) (v:=.agg ([.bool c,sv0 k m j]).toArray) z z (fun _=>by kernel_rfl))<|stB 4 aA' z<|nx<|q' ?_
 obtain rfl:_=r:=hr
 exact o' z (af' (i:=4) W' z z z) ⟨_,_,z,h⟩
theorem dc'{u r}(hr:(ZbA u).Ret r):Ctr prog 62 #[i' u] (fun G=>True) (w38' r):=by
 refine B' (args:=[_]) (N:=15) func62 z z z fun Y X V K=>sr<|P' 2 z z38 z fun W=>nr<|mw0 z<|yw0 (K' aU' h' z)<|sx1 z<|c'<|sr<|mw0 z<|ls0 z<|nx<|I' hr z (fun v hr=>?_) (fun v hr=>?_)
 .refine w'<|mw0 z<|yw0 (Y0.neg z)<|sw0 z<|nr<|mw0 z<|ls0 z<|mw0 z<|oE hr fun Q o hr=>y' z z (k' E98 z) (cm' o) z (trivial) (fun C M B d=>?_)
  obtain⟨I,F,rfl,n⟩:=d
  refine oE hr fun O j hr=>y' z z (k' E97 z) (aZ' j) z (n) (fun L T A g=>?_)
  obtain⟨s,q,rfl,e⟩:=g
  refine stB 2 aA' z<|nx<|q' ?_
  obtain rfl:_=r:=hr
  exact o' z (af' (i:=2) W' z z z) ⟨_,_,z,e⟩
 refine t'<|b'<|sr<|mw0 z<|ls0 z<|mw0 z<|oE hr fun S m hr=>y' z z (k' E98 z) (cm' m) z (trivial) (fun J U y c=>?_)
 obtain⟨D,H,rfl,l⟩:=c
 refine oE hr fun P k hr=>y' z z (k' E97 z) (aZ' k) z (l) (fun E R x f=>?_)
 obtain⟨p,t,rfl,h⟩:=f
 refine stB 2 aA' z<|nx<|q' ?_
 obtain rfl:_=r:=hr
 exact o' z (af' (i:=2) W' z z z) ⟨_,_,z,h⟩
theorem et'{m e c r}(hr:(Zea m).Ret r):Ctr prog 70 #[.agg ((v38' m e c)).toArray] (fun G=>sl (Rp.int .u32) G e c m.mag) (w40' r):=by
 refine B' (args:=[_]) (N:=6) func70 z z z (fun E C x q=>?_)
 have n:=q
 refine sr<|ah' 1 z z z fun y=>P' 2 z z40 z fun F=>nx<|c'<|aj' [ff,ff] mix (by kernel_rfl) fun B=>cn (fun _ o=>C' 1 W' z z z)<|oE hr fun k s hr=>at' (post:=w38' k) (fun _=>z) (fun _ _=>k' E62 z) (dc' s) z (fun A o=>trivial) (fun v H D o h=>?_) ?_
 .obtain⟨f,g,rfl,j⟩:=h
  exact⟨_,_,z,j.mono o⟩
 refine aF' (d:=4) (post:=w38' k) (fun t u p l=>?_)
 obtain⟨f,g,rfl,j⟩:=l
 refine yw0 (ax' (vs:=#[(0,.agg ((v38' m e c)).toArray),(1,.agg ((v38' k f g)).toArray)]) (v:=.agg ([.bool m.neg,sv0 e m.mag c,.bool k.neg,sv0 f k.mag g]).toArray) z z (fun _=>by kernel_rfl))<|stB 2 bk' z<|p'<|ar'<|b'<|q' ?_
 obtain rfl:_=r:=hr
 exact o' z (af' (i:=2) aN' z z z) ⟨_,_,_,_,z,(n.mono p),j⟩
theorem dh'{q r}(hr:(Za9 q).Ret r):Ctr prog 33 #[i' q] (fun G=>True) (w40' r):=by
 refine B' (args:=[_]) (N:=6) func33 z z z fun H F D v=>sr<|P' 2 z z40 z fun E=>nr<|mw0 z<|oE hr fun B n hr=>y' z z (k' E62 z) (dc' n) z (trivial) (fun u y t e=>?_)
 obtain⟨o,p,rfl,f⟩:=e
 refine oE hr fun A m hr=>y' z z (k' E70 z) (et' m) z (f) (fun x C s g=>?_)
 obtain⟨k,j,h,l,rfl,d,c⟩:=g
 refine stB 2 bk' z<|nx<|q' ?_
 obtain rfl:_=r:=hr
 exact o' z (af' (i:=2) aN' z z z) ⟨_,_,_,_,z,d,c⟩
theorem ch'{g e d r}(hr:(Zah g).Ret r):Ctr prog 125 #[.agg ((v38' g e d)).toArray] (fun G=>sl (Rp.int .u32) G e d g.mag) (fun G v=>v = .bool r):=by
 refine B' (args:=[_]) (N:=19) func125 z z z (fun m o k h=>?_)
 have c:=h
 refine sr<|ah' 1 z z z fun l=>sw0 z<|nr<|yw0 (aw' z)<|aQ' hr z (Y0.eq (A' 1 sc4 z z z) (congrArg Value.bool (bdec _))) z (fun i hr=>?_) (fun i hr=>?_)
 .refine yw0 (bf' z)<|mw0 z<|sn4 z<|pf00 z<|mw0 z<|sn5 z<|pf00 z<|sx1 z<|q' (k0' hr z z)
 refine yw0 (bf' z)<|mw0 z<|gy z z (ai' z) z<|gy z z (A' 1 aE' z z z) z<|gy z z (D' a' c z) z<|aQ' hr (as' z z) (aK' z z) z (fun j hr=>?_) (fun j hr=>?_)
 .refine pt00 z<|mw0 z<|gy z z (ai' z) z<|gy z z (A' 1 aE' z z z) z<|oE hr fun n f hr=>gy z z (Q' a' R' c z z f) z<|gy z z (ac' au' z (ak' (ad' c f))) z<|gy z z (aK' z z) z<|pt00 z<|sx1 z<|q' (k0' hr z z)
 refine pt00 z<|mw0 z<|sn5 z<|pf00 z<|sx1 z<|q' (k0' hr z z)
theorem cH'{e c d r}(hr:(ZaN e).Ret r):Ctr prog 99 #[sv0 c e d] (fun G=>sl (Rp.int .u32) G c d e) (wl' (Rp.int .u32) r):=by
 refine B' (args:=[_]) (N:=5) func99 z z z (fun q s i g=>?_)
 have h:=g
 refine sr<|sw0 z<|nr<|mw0 z<|oA hr fun f hr=>bG' (r:=(Rp.int .u32)) 2004 z z a' bO' z (by decide) z z (ay' (Rp.int .u32) _) z (by rw[i]; rfl) cD' h f fun p n l o k j m=>sx1 z<|q' ?_
 obtain rfl:_=r:=hr
 exact o' z z ⟨_,_,z,j⟩
theorem dw'{k i l r}(hr:(Zbr k).Ret r):Ctr prog 101 #[sv0 i k l] (fun G=>sl (Rp.int .u32) G i l k) (fun G v=>v = .int .u64 r):=by
 refine B' (args:=[_]) (N:=22) func101 z z z (fun q h x o=>?_)
 have f:=o
 refine sr<|sw0 z<|nr<|sx1 z<|c'<|sr<|mw0 z<|yw0 (D' a' f z)<|mw0 z<|nx<|aa' (X:=Int×Int×Mem) hr (fun ⟨g,d,e⟩=>⟨(g,d),[(0,sv0 i k l),(3,.int .u64 g),(6,i' (k.length:Int)),(7,i' d)],Mem.le h e,St q h e []⟩) (fun (⟨n,j⟩:Int×Mem)=>⟨n,[(3,.int .u64 n)],Mem.le h j,St q h j []⟩) ⟨0,0,h⟩ z (fz0 z) mr (wk ln) ?_ ?_
 .rintro _ ⟨g,d,e⟩ c hr
  refine sr<|ls0 z<|nx<|c'<|I' hr z (fun s hr=>?_) (fun s hr=>?_)
  .refine t'<|b'<|c'<|U'<|sr<|mw0 z<|sx1 z<|w'<|mw0 z<|mw0 z<|mw0 z<|oE hr fun u m hr=>yw0 (Q' a' R' (f.mono c) z z m)<|yw0 (ac' au' z (ak' (M' (ad' f m) c)))<|yw0 (K' m' h' z)<|mw0 z<|yw0 (bE' z z)<|oA hr fun p hr=>yw0 (Y0.shl z z p)<|yw0 (Y0.or z z)<|sw0 z<|p'<|E'<|b'<|w'<|ad0 z<|mw0 z<|p'<|O' ⟨u64.wrap (BitVec.ofInt u64.bits g ||| BitVec.ofInt u64.bits (u64.wrap ((u64.wrap u)*2 ^ (min (i64.wrap (32*d)).toNat u64.bits)))).toNat,i64.wrap (d+1),e⟩ hr c (fz0 z) (wk ln)
  refine Z'<|f'<|f'<|F'<|ab' ⟨g,e⟩ ⟨hr,c⟩ (f1 z) (wk ln)
 rintro⟨n,j⟩ ⟨hr,t⟩
 refine b'<|sr<|mw0 z<|sx1 z<|q' (k0' hr z z)
theorem dd'{m o j n h l r}(hr:(ZaX m o).Ret r):Ctr prog 126 #[sv0 j m n,sv0 h o l] (fun G=>sl (Rp.int .u32) G j n m/\sl (Rp.int .u32) G h l o) (fun G v=>v=i' r):=by
 refine B' (args:=[_,_]) (N:=41) func126 z z z (fun D i J y=>?_)
 obtain⟨e,f⟩:=y
 refine sr<|sx1 z<|c'<|sr<|mw0 z<|yw0 (D' a' e z)<|mw0 z<|yw0 (D' a' f z)<|yw0 (bU' z z)<|nx<|I' hr z (fun F hr=>?_) (fun F hr=>?_)
 .refine c'<|sr<|mw0 z<|yw0 (D' a' e z)<|mw0 z<|yw0 (D' a' f z)<|ls0 z<|nx<|I' hr z (fun C hr=>?_) (fun C hr=>?_)
  .refine sr<|sx1 z<|q'<|j'<|j' (k0' hr z z)
  refine t'<|b'<|sr<|sx1 z<|q'<|j' (k0' hr z z)
 refine t'<|b'<|c'<|sr<|mw0 z<|yw0 (D' a' e z)<|yw0 (ap' z z)<|sx1 z<|aa' (X:=Int×Mem) hr (fun ⟨p,g⟩=>⟨p,[(0,sv0 j m n),(1,sv0 h o l),(5,i' p)],Mem.le i g,St D i g []⟩) (fun (I:Mem)=>match I with|k=>⟨(.inr ()),[],Mem.le i k,St D i k []⟩) ⟨i64.wrap ((m.length:Int)-1),i⟩ z (fz0 z) mr (wk ln) ?_ ?_
 .rintro _ ⟨p,g⟩ d hr
  refine c'<|sr<|mw0 z<|yw0 (bc' z z)<|nx<|I' hr z (fun E hr=>?_) (fun E hr=>?_)
  .refine t'<|b'<|c'<|U'<|c'<|aj' [ff,ff,ff,ff,ff,ff,ff,ff] mix (by kernel_rfl) fun x=>cm0 z<|cm0 z<|oE hr fun O u hr=>cn (fun _ c=>Q' a' R' ((e.mono d).mono c) z z u)<|cn (fun _ c=>ac' au' z (ak' (M' (M' (ad' e u) d) c)))<|cm0 z<|cm0 z<|oE hr fun M s hr=>cn (fun _ c=>Q' a' R' ((f.mono d).mono c) z z s)<|cn (fun _ c=>ac' au' z (ak' (M' (M' (ad' f s) d) c)))<|am' x<|yw0 (bU' z z)<|p'<|ar'<|b'<|I' hr z (fun B hr=>?_) (fun B hr=>?_)
   .refine c'<|c'<|aj' [ff,ff,ff,ff,ff,ff,ff,ff] mix (by kernel_rfl) fun x=>cm0 z<|cm0 z<|oE hr fun L q hr=>cn (fun _ c=>Q' a' R' ((e.mono d).mono c) z z q)<|cn (fun _ c=>ac' au' z (ak' (M' (M' (ad' e q) d) c)))<|cm0 z<|cm0 z<|oE hr fun K t hr=>cn (fun _ c=>Q' a' R' ((f.mono d).mono c) z z t)<|cn (fun _ c=>ac' au' z (ak' (M' (M' (ad' f t) d) c)))<|am' x<|ls0 z<|p'<|ar'<|b'<|I' hr z (fun A hr=>?_) (fun A hr=>?_)
    .refine sr<|sx1 z<|q'<|j'<|H'<|j'<|j'<|H'<|az'<|j' (k0' hr z z)
    refine t'<|b'<|sr<|sx1 z<|q'<|H'<|j'<|j'<|H'<|az'<|j' (k0' hr z z)
   refine t'<|E'<|b'<|w'<|mw0 z<|yw0 (ap' z z)<|sw0 z<|p'<|O' ⟨i64.wrap (p-1),g⟩ hr d (fz0 z) (wk ln)
  refine Z'<|f'<|f'<|F'<|ab' g ⟨hr,d⟩ fn (wk ln)
 rintro k ⟨hr,H⟩
 refine b'<|sr<|sx1 z<|q' (k0' hr z z)
theorem dM'{c k x A r}(hr:(Zao c k).Ret r):Ctr prog 128 #[sv0 x c A,.int .u64 k] (fun G=>sl (Rp.int .u32) G x A c) (fun G v=>∃ u s,v = .tuple #[sv0 u r.1 s,.int .u64 r.2]/\sl (Rp.int .u32) G u s r.1):=by
 refine B' (args:=[_,_]) (N:=41) func128 z z z (fun U q V L=>?_)
 have l:=L
 refine sr<|sw0 z<|sw0 z<|nr<|mw0 z<|yw0 (D' a' l z)<|oA hr fun Q hr=>bj' (r:=(Rp.int .u32)) (e:=139) (n:=(c.length:Int)) (zx:=0) 4012 z z a' bO' z (by decide) (by decide) z z z Q fun D K W=>sw0 z<|nr<|sx1 z<|c'<|sr<|mw0 z<|yw0 (D' a' l z)<|yw0 (ap' z z)<|sx1 z<|aa' (X:=(List Int)×Option Ow×Int×Int×Mem) hr (fun ⟨C,h,d,p,g⟩=>⟨(C,d,p),[(0,sv0 x c A),(1,.int .u64 k),(6,.slice D (c.length:Int).toNat ((c.length:Int).toNat)),(7,.int .u64 d),(8,i' p)],Mem.le q g/\RowR (Rp.int .u32) 139 g (.slice D (c.length:Int).toNat ((c.length:Int).toNat)) C h,St U q g [(4012,h)]⟩) (fun (⟨I,j,t,m⟩:(List Int)×Option Ow×Int×Mem)=>⟨(I,t),[(6,.slice D (c.length:Int).toNat ((c.length:Int).toNat)),(7,.int .u64 t)],Mem.le q m/\RowR (Rp.int .u32) 139 m (.slice D (c.length:Int).toNat ((c.length:Int).toNat)) I j,St U q m [(4012,j)]⟩) ⟨(List.replicate (c.length:Int).toNat 0),K,0,i64.wrap ((c.length:Int)-1),q⟩ z (fz0 z) ⟨mr,W⟩ (w1 z) ?_ ?_
 .rintro _ ⟨C,h,d,p,g⟩ ⟨f,y⟩ hr
  refine c'<|sr<|mw0 z<|yw0 (bc' z z)<|nx<|I' hr z (fun Y hr=>?_) (fun Y hr=>?_)
  .refine t'<|b'<|c'<|U'<|sr<|mw0 z<|yw0 (Y0.shl z z (by decide))<|mw0 z<|mw0 z<|oE hr fun E H hr=>yw0 (Q' a' R' (l.mono f) z z H)<|yw0 (ac' au' z (ak' (M' (ad' l H) f)))<|yw0 (K' m' h' z)<|yw0 (Y0.or z z)<|sw0 z<|nr<|mw0 z<|mw0 z<|mw0 z<|mw0 z<|oA hr fun S hr=>yw0 (bv' z z S)<|yw0 (K' h' m' z)<|oE hr fun x2 F hr=>yw0 (aB' a' R' y z z F)<|aI' (r:=(Rp.int .u32)) (e:=139) (cs':=[.int .u32 (u32.wrap (u64.wrap (Int.tdiv (u64.wrap (BitVec.ofInt u64.bits (u64.wrap (d*2 ^ (min (32:Int).toNat u64.bits))) ||| BitVec.ofInt u64.bits (u64.wrap E)).toNat) k)))]) (i:=p) (z':=u32.wrap (u64.wrap (Int.tdiv (u64.wrap (BitVec.ofInt u64.bits (u64.wrap (d*2 ^ (min (32:Int).toNat u64.bits))) ||| BitVec.ofInt u64.bits (u64.wrap E)).toNat) k))) 4012 z R' z y z z z z z F fun R O=>nx<|w'<|mw0 z<|mw0 z<|oA hr fun P hr=>yw0 (aV' z z P)<|sw0 z<|p'<|E'<|b'<|w'<|mw0 z<|yw0 (ap' z z)<|sw0 z<|p'<|O' ⟨(C.set p.toNat (u32.wrap (u64.wrap (Int.tdiv (u64.wrap (BitVec.ofInt u64.bits (u64.wrap (d*2 ^ (min (32:Int).toNat u64.bits))) ||| BitVec.ofInt u64.bits (u64.wrap E)).toNat) k)))),R,Int.tmod (u64.wrap (BitVec.ofInt u64.bits (u64.wrap (d*2 ^ (min (32:Int).toNat u64.bits))) ||| BitVec.ofInt u64.bits (u64.wrap E)).toNat) k,i64.wrap (p-1),g⟩ hr ⟨f,O⟩ (fz0 z) (w1 z)
  refine Z'<|f'<|f'<|F'<|ab' ⟨C,h,d,g⟩ ⟨hr,f,y⟩ (fz0 z) (w1 z)
 rintro⟨I,j,t,m⟩ ⟨hr,Z,T⟩
 refine b'<|sr<|mw0 z<|aY' (r:=(Rp.int .u32)) (e:=139) 4012 T z (by rw[V]; rfl) (fun ah ag ac B aa=>?_)
 refine oE hr fun ai M hr=>y' z z (k' E100 z) (aS' M) (by rw[bs' B]) ((bq' B)) (fun ad aj ab o=>?_)
 obtain⟨af,ae,rfl,J⟩:=o
 refine mw0 z<|sw0 z<|sx1 z<|q' ?_
 obtain rfl:_=r:=hr
 exact aW' z z z ⟨_,_,z,J⟩
theorem ej'{h r}(hr:(Zb0 h).Ret r):Ctr prog 148 #[.int .u32 h] (fun G=>True) (fun G v=>v=i' r):=by
 refine B' (args:=[_]) (N:=19) func148 z z z fun m f t q=>sr<|sx1 z<|aD' hr (fun (⟨g,e,c⟩:Int×Int×Mem)=>⟨[(0,.int .u32 g),(2,i' e)],Zax g e,Mem.le f c,St m f c []⟩) ?_ ?_
 .refine sr<|mw0 z<|yw0 (bc' z z)<|nx<|I' hr z (fun l hr=>?_) (fun l hr=>?_)
  .refine sr<|mw0 z<|yw0 (bH' z z (by decide))<|sx1 z<|w'<|sw0 z<|p'<|ao' ⟨Int.fdiv h (2 ^ (min (16:Int).toNat u32.bits)),16,f⟩ ⟨hr,mr⟩ (fz0 z) (wk ln)
  refine t'<|ao' ⟨h,0,f⟩ ⟨hr,mr⟩ (fz0 z) (wk ln)
 rintro⟨g,e,c⟩ ⟨hr,p⟩
 refine aD' hr (fun (⟨j,i,d⟩:Int×Int×Mem)=>⟨[(0,.int .u32 j),(2,i' i)],Zad j i,Mem.le c d,St m f d []⟩) ?_ ?_
 .refine sr<|mw0 z<|yw0 (bc' z z)<|nx<|I' hr z (fun n hr=>?_) (fun n hr=>?_)
  .refine sr<|mw0 z<|yw0 (bH' z z (by decide))<|sx1 z<|w'<|mw0 z<|ad0 z<|sw0 z<|p'<|ao' ⟨Int.fdiv g (2 ^ (min (8:Int).toNat u32.bits)),i64.wrap (e+8),c⟩ ⟨hr,mr⟩ (fz0 z) (wk ln)
  refine t'<|ao' ⟨g,e,c⟩ ⟨hr,mr⟩ (fz0 z) (wk ln)
 rintro⟨j,i,d⟩ ⟨hr,o⟩
 refine sr<|mw0 z<|mw0 z<|yw0 (K' m' aJ' z) ?_
 obtain⟨k,hr⟩:=hr
 refine yw0 (Y0.indexS (s:=ZF) cf' z z k)<|yw0 (K' aJ' aC' z)<|ad0 z<|sx1 z<|q' (k0' hr z z)
theorem dg'{d r}(hr:(Zar d).Ret r):Ctr prog 129 #[.int .u32 d] (fun G=>True) (fun G v=>v=i' r):=by
 refine B' (args:=[_]) (N:=6) func129 z z z fun h i g e=>sr<|sw0 z<|nr<|mw0 z<|oE hr fun f c hr=>T' z z (k' E148 z) (ej' c) z (trivial)<|yw0 (ap' z z)<|sx1 z<|q' (k0' hr z z)
theorem cN'{f t u x r}(hr:(ZaG f t).Ret r):CtrL prog 130 #[sv0 u f x,i' t] [] (fun G=>sl (Rp.int .u32) G u x f) (fun G L v=>∃ Z zc J,L=[(7000,J)]/\v=sv0 Z r zc/\RowR (Rp.int .u32) 139 G (sv0 Z r zc) r J):=by
 refine bl' (args:=[_,_]) (N:=42) func130 z z z (fun O y W P=>?_)
 have o:=P
 refine sr<|sw0 z<|nr<|mw0 z<|yw0 (D' a' o z)<|ad0 z<|oA hr fun T hr=>bj' (r:=(Rp.int .u32)) (e:=139) (n:=i64.wrap ((f.length:Int)+1)) (zx:=0) 4012 z z a' bO' z (by decide) (by decide) z z z T fun E M Y=>sw0 z<|nr<|sx1 z<|c'<|sr<|mw0 z<|yw0 (D' a' o z)<|mw0 z<|nx<|aa' (X:=(List Int)×Option Ow×Int×Int×Mem) hr (fun ⟨p,h,c,g,l⟩=>⟨(p,c,g),[(0,sv0 u f x),(1,i' t),(5,.slice E (i64.wrap ((f.length:Int)+1)).toNat ((i64.wrap ((f.length:Int)+1)).toNat)),(6,.int .u64 c),(14,i' (f.length:Int)),(15,i' g)],Mem.le y l/\RowR (Rp.int .u32) 139 l (.slice E (i64.wrap ((f.length:Int)+1)).toNat ((i64.wrap ((f.length:Int)+1)).toNat)) p h,St O y l [(4012,h)]⟩) (fun (⟨B,m,d,q⟩:(List Int)×Option Ow×Int×Mem)=>⟨(B,d),[(0,sv0 u f x),(5,.slice E (i64.wrap ((f.length:Int)+1)).toNat ((i64.wrap ((f.length:Int)+1)).toNat)),(6,.int .u64 d)],Mem.le y q/\RowR (Rp.int .u32) 139 q (.slice E (i64.wrap ((f.length:Int)+1)).toNat ((i64.wrap ((f.length:Int)+1)).toNat)) B m,St O y q [(4012,m)]⟩) ⟨(List.replicate (i64.wrap ((f.length:Int)+1)).toNat 0),M,0,0,y⟩ z (fz0 z) ⟨mr,Y⟩ (w1 z) ?_ ?_
 .rintro _ ⟨p,h,c,g,l⟩ ⟨k,s⟩ hr
  refine sr<|ls0 z<|nx<|c'<|I' hr z (fun ab hr=>?_) (fun ab hr=>?_)
  .refine t'<|b'<|c'<|U'<|sr<|mw0 z<|sw0 z<|nr<|mw0 z<|mw0 z<|oE hr fun F I hr=>yw0 (Q' a' R' (o.mono k) z z I)<|yw0 (ac' au' z (ak' (M' (ad' o I) k)))<|yw0 (K' m' h' z)<|mw0 z<|oA hr fun V hr=>yw0 (Y0.shl z z V)<|mw0 z<|yw0 (Y0.or z z)<|sw0 z<|nr<|mw0 z<|mw0 z<|mw0 z<|yw0 (K' h' m' z)<|oE hr fun x3 H hr=>yw0 (aB' a' R' s z z H)<|aI' (r:=(Rp.int .u32)) (e:=139) (cs':=[.int .u32 (u32.wrap (u64.wrap (BitVec.ofInt u64.bits (u64.wrap ((u64.wrap F)*2 ^ (min (t).toNat u64.bits))) ||| BitVec.ofInt u64.bits c).toNat))]) (i:=g) (z':=u32.wrap (u64.wrap (BitVec.ofInt u64.bits (u64.wrap ((u64.wrap F)*2 ^ (min (t).toNat u64.bits))) ||| BitVec.ofInt u64.bits c).toNat)) 4012 z R' z s z z z z z H fun U R=>nx<|w'<|mw0 z<|yw0 (bH' z z (by decide))<|sw0 z<|p'<|E'<|b'<|w'<|ad0 z<|mw0 z<|p'<|O' ⟨(p.set g.toNat (u32.wrap (u64.wrap (BitVec.ofInt u64.bits (u64.wrap ((u64.wrap F)*2 ^ (min (t).toNat u64.bits))) ||| BitVec.ofInt u64.bits c).toNat))),U,Int.fdiv (u64.wrap (BitVec.ofInt u64.bits (u64.wrap ((u64.wrap F)*2 ^ (min (t).toNat u64.bits))) ||| BitVec.ofInt u64.bits c).toNat) (2 ^ (min (32:Int).toNat u64.bits)),i64.wrap (g+1),l⟩ hr ⟨k,R⟩ (fz0 z) (w1 z)
  refine Z'<|f'<|f'<|F'<|ab' ⟨p,h,c,l⟩ ⟨hr,k,s⟩ (fz0 z) (w1 z)
 rintro⟨B,m,d,q⟩ ⟨hr,D,A⟩
 refine b'<|sr<|mw0 z<|mw0 z<|yw0 (D' a' (o.mono D) z)<|mw0 z<|yw0 (K' h' m' z)<|oE hr fun x1 K hr=>yw0 (aB' a' R' A z z K)<|aI' (r:=(Rp.int .u32)) (e:=139) (cs':=[.int .u32 (u32.wrap d)]) (i:=(f.length:Int)) (z':=u32.wrap d) 4012 z R' z A z z z z z K fun S C=>nr<|mw0 z<|sx1 z<|q' ?_
 obtain rfl:_=r:=hr
 refine bh' (S':=St O y q [(7000,S)]) ?_ ?_
 .intro w Q
  have Q:=Q.rekey (i:=4012) (j:=7000) z (by rw[W]; rfl)
  exact Q.weaken (lc z ln)
 exact o' z z ⟨_,_,_,z,(RowR.eqv C),(RowR.std C)⟩
theorem dQ'{d m v x r}(hr:(Zbj d m).Ret r):Ctr prog 132 #[sv0 v d x,i' m] (fun G=>sl (Rp.int .u32) G v x d) (wl' (Rp.int .u32) r):=by
 refine B' (args:=[_,_]) (N:=41) func132 z z z (fun Q t R I=>?_)
 have o:=I
 refine sr<|sw0 z<|nr<|mw0 z<|yw0 (D' a' o z)<|oA hr fun M hr=>bj' (r:=(Rp.int .u32)) (e:=139) (n:=(d.length:Int)) (zx:=0) 4011 z z a' bO' z (by decide) (by decide) z z z M fun A H S=>sw0 z<|nr<|sx1 z<|c'<|sr<|mw0 z<|yw0 (D' a' o z)<|yw0 (ap' z z)<|sx1 z<|aa' (X:=(List Int)×Option Ow×Int×Int×Mem) hr (fun ⟨k,f,c,s,h⟩=>⟨(k,c,s),[(0,sv0 v d x),(1,i' m),(5,.slice A (d.length:Int).toNat ((d.length:Int).toNat)),(6,.int .u64 c),(7,i' s)],Mem.le t h/\RowR (Rp.int .u32) 139 h (.slice A (d.length:Int).toNat ((d.length:Int).toNat)) k f,St Q t h [(4011,f)]⟩) (fun (⟨u,j,p⟩:(List Int)×Option Ow×Mem)=>⟨u,[(5,.slice A (d.length:Int).toNat ((d.length:Int).toNat))],Mem.le t p/\RowR (Rp.int .u32) 139 p (.slice A (d.length:Int).toNat ((d.length:Int).toNat)) u j,St Q t p [(4011,j)]⟩) ⟨(List.replicate (d.length:Int).toNat 0),H,0,i64.wrap ((d.length:Int)-1),t⟩ z (fz0 z) ⟨mr,S⟩ (w1 z) ?_ ?_
 .rintro _ ⟨k,f,c,s,h⟩ ⟨g,l⟩ hr
  refine c'<|sr<|mw0 z<|yw0 (bc' z z)<|nx<|I' hr z (fun T hr=>?_) (fun T hr=>?_)
  .refine t'<|b'<|c'<|U'<|sr<|mw0 z<|yw0 (Y0.shl z z (by decide))<|mw0 z<|mw0 z<|oE hr fun B D hr=>yw0 (Q' a' R' (o.mono g) z z D)<|yw0 (ac' au' z (ak' (M' (ad' o D) g)))<|yw0 (K' m' h' z)<|yw0 (Y0.or z z)<|sw0 z<|nr<|mw0 z<|mw0 z<|mw0 z<|mw0 z<|oA hr fun P hr=>yw0 (bH' z z P)<|yw0 (K' h' m' z)<|oE hr fun x2 C hr=>yw0 (aB' a' R' l z z C)<|aI' (r:=(Rp.int .u32)) (e:=139) (cs':=[.int .u32 (u32.wrap (Int.fdiv (u64.wrap (BitVec.ofInt u64.bits (u64.wrap (c*2 ^ (min (32:Int).toNat u64.bits))) ||| BitVec.ofInt u64.bits (u64.wrap B)).toNat) (2 ^ (min (m).toNat u64.bits))))]) (i:=s) (z':=u32.wrap (Int.fdiv (u64.wrap (BitVec.ofInt u64.bits (u64.wrap (c*2 ^ (min (32:Int).toNat u64.bits))) ||| BitVec.ofInt u64.bits (u64.wrap B)).toNat) (2 ^ (min (m).toNat u64.bits)))) 4011 z R' z l z z z z z C fun O K=>nx<|w'<|mw0 z<|mw0 z<|oA hr fun L hr=>yw0 (Y0.shl z z L)<|yw0 (ap' z z)<|yw0 (Y0.and z z)<|sw0 z<|p'<|E'<|b'<|w'<|mw0 z<|yw0 (ap' z z)<|sw0 z<|p'<|O' ⟨(k.set s.toNat (u32.wrap (Int.fdiv (u64.wrap (BitVec.ofInt u64.bits (u64.wrap (c*2 ^ (min (32:Int).toNat u64.bits))) ||| BitVec.ofInt u64.bits (u64.wrap B)).toNat) (2 ^ (min (m).toNat u64.bits))))),O,u64.wrap (BitVec.ofInt u64.bits (u64.wrap (BitVec.ofInt u64.bits (u64.wrap (c*2 ^ (min (32:Int).toNat u64.bits))) ||| BitVec.ofInt u64.bits (u64.wrap B)).toNat) &&& BitVec.ofInt u64.bits (u64.wrap ((u64.wrap (1*2 ^ (min (m).toNat u64.bits)))-1))).toNat,i64.wrap (s-1),h⟩ hr ⟨g,K⟩ (fz0 z) (w1 z)
  refine Z'<|f'<|f'<|F'<|ab' ⟨k,f,h⟩ ⟨hr,g,l⟩ (f1 z) (w1 z)
 rintro⟨u,j,p⟩ ⟨hr,U,F⟩
 refine b'<|sr<|mw0 z<|aY' (r:=(Rp.int .u32)) (e:=139) 4011 F z (by rw[R]; rfl) (fun ad ac Y y V=>?_)
 refine oE hr fun ae J hr=>y' z z (k' E100 z) (aS' J) (by rw[bs' y]) ((bq' y)) (fun Z af W q=>?_)
 obtain⟨ab,aa,rfl,E⟩:=q
 refine sx1 z<|q' ?_
 obtain rfl:_=r:=hr
 exact o' z z ⟨_,_,z,E⟩
theorem di'{ab W ac af ad ae r}(hr:(ZaD ab W).Ret r):Ctr prog 102 #[sv0 ac ab af,sv0 ad W ae] (fun G=>sl (Rp.int .u32) G ac af ab/\sl (Rp.int .u32) G ad ae W) (fun G v=>∃ ax ap aq aA,v = .tuple #[sv0 ax r.1 ap,sv0 aq r.2 aA]/\sl (Rp.int .u32) G ax ap r.1/\sl (Rp.int .u32) G aq aA r.2):=by
 refine B' (args:=[_,_]) (N:=88) func102 z z z (fun w0 G0 A bb=>?_)
 obtain⟨aN,aG⟩:=bb
 have hz:w0.L.zero:=by rw[A]; intro p hp; simp at hp
 refine sr<|sw0 z<|sw0 z<|nr<|mw0 z<|oE hr fun g a0 hr=>y' z z (k' E100 z) (aS' a0) z (aN) (fun bY ck aP ah=>?_)
 obtain⟨b7,bO,rfl,x⟩:=ah
 refine mw0 z<|oE hr fun c a1 hr=>y' z z (k' E100 z) (aS' a1) z ((aG.mono aP)) (fun bW cg o am=>?_)
 obtain⟨bZ,bN,rfl,k⟩:=am
 refine sw0 z<|sx1 z<|c'<|sr<|mw0 z<|mw0 z<|oE hr fun cj a6 hr=>T' z z (k' E126 z) (dd' a6) z (⟨(x.mono o),k⟩)<|ls0 z<|nx<|I' hr z (fun bw hr=>?_) (fun bw hr=>?_)
 .refine sr<|mw0 z<|oE hr fun cc aV hr=>y' z z (k' E99 z) (cH' aV) z ((x.mono o)) (fun bU ce bG ai=>?_)
  obtain⟨b4,b0,rfl,a2⟩:=ai
  refine sw0 z<|sx1 z<|q'<|j' ?_
  obtain rfl:_=r:=hr
  exact aW' z z z ⟨_,_,_,_,z,(ay' (Rp.int .u32) _),a2⟩
 refine t'<|b'<|c'<|sr<|mw0 z<|yw0 (D' a' k z)<|yw0 (aK' z z)<|nx<|I' hr z (fun bi hr=>?_) (fun bi hr=>?_)
 .refine sr<|mw0 z<|mw0 z<|oE hr fun x1 aU hr=>yw0 (Q' a' R' k z z aU)<|yw0 (ac' au' z (ak' (ad' k aU)))<|yw0 (K' m' h' z)<|oE hr fun cq a5 hr=>y' z z (k' E128 z) (dM' a5) z ((x.mono o)) (fun bP cm bC ak=>?_)
  obtain⟨bn,br,rfl,an⟩:=ak
  refine mw0 z<|ex0 z<|ex0 z<|sw0 z<|sw0 z<|nr<|mw0 z<|mw0 z<|oE hr fun cf aW hr=>y' z z (k' E98 z) (cm' aW) z (trivial) (fun bL cs aI ag=>?_)
  obtain⟨b3,bQ,rfl,ba⟩:=ag
  refine sw0 z<|sx1 z<|q'<|j' ?_
  obtain rfl:_=r:=hr
  exact aW' z z z ⟨_,_,_,_,z,(an.mono aI),ba⟩
 refine t'<|b'<|sr<|mw0 z<|yw0 (D' a' k z)<|sw0 z<|nr<|mw0 z<|mw0 z<|yw0 (ap' z z)<|oE hr fun x2 aQ hr=>yw0 (Q' a' R' k z z aQ)<|yw0 (ac' au' z (ak' (ad' k aQ)))<|oE hr fun aT a7 hr=>T' z z (k' E129 z) (dg' a7) z (trivial)<|sw0 z<|nr<|mw0 z<|mw0 z<|oE hr fun R be hr=>bo' z z (k' E130 z) (cN' be) z ((x.mono o)) ln hz (fun bM ci b6 I aj=>?_)
 obtain⟨Q,O,aH,rfl,rfl,bd⟩:=aj
 refine bM' (fun w hs=>hs.rekey (i:=7000) (j:=4049) z (by rw[A]; rfl))<|sw0 z<|nr<|mw0 z<|mw0 z<|oE hr fun bs aY hr=>bo' z z (k' E130 z) (cN' aY) z ((k.mono I)) ln hz (fun bX cl bV P al=>?_)
 obtain⟨ca,bR,bE,rfl,rfl,aZ⟩:=al
 refine bM' (fun w hs=>hs.rekey (i:=7000) (j:=4052) z (by rw[A]; rfl))<|aY' (r:=(Rp.int .u32)) (e:=139) 4052 aZ z (by rw[A]; rfl) fun cb V C a4 bH=>mw0 z<|oA hr fun bq hr=>dE' (r:=(Rp.int .u32)) z z a' R' z a4 z z bq fun p1 bv bj=>sw0 z<|nr<|mw0 z<|yw0 (D' a' (x.mono (mx (mx (mx o I) P) C)) z)<|mw0 z<|yw0 (ap' z z)<|ad0 z<|oA hr fun bf hr=>bj' (r:=(Rp.int .u32)) (e:=139) (n:=i64.wrap ((i64.wrap ((g.length:Int)-(c.length:Int)))+1)) (zx:=0) 4060 z z a' bO' z (by decide) (by decide) z z z bf fun p2 a8 bl=>sx1 z<|c'<|sr<|mw0 z<|yw0 (D' a' (x.mono (mx (mx (mx o I) P) C)) z)<|mw0 z<|yw0 (ap' z z)<|sx1 z<|aa' (X:=(List Int)×Option Ow×(List Int)×Option Ow×Int×Mem) hr (fun ⟨m,l,s,q,f,F⟩=>⟨(m,s,f),[(8,i' (c.length:Int)),(9,i' aT),(10,sv0 Q R O),(11,.slice p1 ((bs.take (c.length:Int).toNat).drop (0:Int).toNat).length bv),(12,.slice p2 (i64.wrap ((i64.wrap ((g.length:Int)-(c.length:Int)))+1)).toNat ((i64.wrap ((i64.wrap ((g.length:Int)-(c.length:Int)))+1)).toNat)),(13,i' f)],Mem.le V F/\RowR (Rp.int .u32) 139 F (sv0 Q R O) m l/\RowR (Rp.int .u32) 139 F (.slice p2 (i64.wrap ((i64.wrap ((g.length:Int)-(c.length:Int)))+1)).toNat ((i64.wrap ((i64.wrap ((g.length:Int)-(c.length:Int)))+1)).toNat)) s q,St w0 G0 F [(4049,l),(4060,q)]⟩) (fun (⟨M,y,J,u,T⟩:(List Int)×Option Ow×(List Int)×Option Ow×Mem)=>⟨(M,J),[(8,i' (c.length:Int)),(9,i' aT),(10,sv0 Q R O),(12,.slice p2 (i64.wrap ((i64.wrap ((g.length:Int)-(c.length:Int)))+1)).toNat ((i64.wrap ((i64.wrap ((g.length:Int)-(c.length:Int)))+1)).toNat))],Mem.le V T/\RowR (Rp.int .u32) 139 T (sv0 Q R O) M y/\RowR (Rp.int .u32) 139 T (.slice p2 (i64.wrap ((i64.wrap ((g.length:Int)-(c.length:Int)))+1)).toNat ((i64.wrap ((i64.wrap ((g.length:Int)-(c.length:Int)))+1)).toNat)) J u,St w0 G0 T [(4049,y),(4060,u)]⟩) ⟨R,aH,(List.replicate (i64.wrap ((i64.wrap ((g.length:Int)-(c.length:Int)))+1)).toNat 0),a8,i64.wrap ((g.length:Int)-(c.length:Int)),V⟩ z (fz0 z) ⟨mr,(bd.mono (mx P C)),bl⟩ (w2 z z) ?_ ?_
 .rintro _ ⟨m,l,s,q,f,F⟩ ⟨K,D,E⟩ hr
  refine c'<|sr<|mw0 z<|yw0 (bc' z z)<|nx<|I' hr z (fun bm hr=>?_) (fun bm hr=>?_)
  .refine t'<|b'<|c'<|U'<|w'<|mw0 z<|mw0 z<|mw0 z<|mw0 z<|mw0 z<|mw0 z<|ad0 z<|ad0 z ?_
   obtain⟨aR,hr⟩:=hr
   obtain⟨cd,cr,bu,bo⟩:=RowR.partI (r:=(Rp.int .u32)) (e:=139) (sz:=1) z D aR
   refine yw0 (Y0.partR a' R' D z z z aR)<|mw0 z<|oE hr fun L aF hr=>bM' (fun w hs=>hs.rekey (i:=4049) (j:=5000) z (by rw[A]; rfl))<|bo' z z (k' E131 z) (dH' _ _ _ _ _ _ _ _ _ aF) z ⟨bu,(bj.mono K)⟩ (lc z ln) hz (fun bz a3 bx t Y=>?_)
   obtain⟨az,rfl,rfl,ao⟩:=Y
   refine bM' (fun w hs=>hs.rekey (i:=5000) (j:=4049) z (by rw[A]; rfl)) ?_
   have aE:=bo _ _ _ t ao
   refine oE hr fun x3 aS hr=>yw0 (aB' a' R' (E.mono t) z z aS)<|aI' (r:=(Rp.int .u32)) (e:=139) (cs':=[.int .u32 L.1]) (i:=f) (z':=L.1) 4060 z R' z (E.mono t) z z z z z aS fun bh aX=>p'<|E'<|b'<|w'<|mw0 z<|yw0 (ap' z z)<|sw0 z<|p'<|O' ⟨(m.take f.toNat++L.2++m.drop (i64.wrap ((i64.wrap (f+(c.length:Int)))+1)).toNat),az,(s.set f.toNat L.1),bh,i64.wrap (f-1),a3⟩ hr ⟨(mx K t),aE,aX⟩ (fz0 z) (w2 z z)
  refine Z'<|f'<|f'<|F'<|ab' ⟨m,l,s,q,F⟩ ⟨hr,K,D,E⟩ (fz0 z) (w2 z z)
 rintro⟨M,y,J,u,T⟩ ⟨hr,bD,aw,av⟩
 refine b'<|c'<|WC.freezeT (r:=(Rp.int .u32)) (e:=139) 4060 av z (by rw[A]; rfl) fun cp b5 aB au bJ=>WC.freezeT (r:=(Rp.int .u32)) (e:=139) 4049 (aw.mono aB) z (by rw[A]; rfl) fun co b2 S bc bK=>aj' [ff,ff,ff,ff,ff,ff] mix (by kernel_rfl) fun hb=>cm0 z<|oE hr fun ar aO hr=>at' (post:=wl' (Rp.int .u32) ar) (fun _=>z) (fun _ _=>k' E100 z) (aS' aO) (by rw[bs' (au.mono S)]) (fun G' B=>(bq' ((au.mono S).mono B))) (fun v G1 G2 B h=>?_) ?_
 .obtain⟨aL,aJ,rfl,H⟩:=h
  exact⟨_,_,z,H.mono B⟩
 refine cu (fun _ _ B=>n' z)<|cu (fun _ _ B=>n' z) ?_
 obtain⟨bg,hr⟩:=hr
 obtain⟨p3,ch,bk,bt⟩:=SlR.cut (r:=(Rp.int .u32)) none (some (i' (c.length:Int))) R' z a' bc (.inl ⟨z,z⟩) (.inr ⟨_,z⟩) bg
 refine cu (fun _ _ B=>Y0.cutH a' bt z z)<|cu (fun _ _ B=>n' z)<|aF' (d:=82) (post:=wl' (Rp.int .u32) ar) (fun bB bS ay U=>?_)
 obtain⟨aL,aJ,rfl,H⟩:=U
 refine oE hr fun b1 aM hr=>y' z z (k' E132 z) (dQ' aM) z ((bk.mono ay)) (fun bF bT aC Z=>?_)
 obtain⟨bA,bI,rfl,aK⟩:=Z
 refine sw0 z<|sw0 z<|p'<|ar'<|b'<|q' ?_
 obtain rfl:_=r:=hr
 exact aW' z z z ⟨_,_,_,_,z,(H.mono aC),aK⟩
theorem eO'{a1 b1 H D K I r}(hr:(Zds a1 b1).Ret r):Ctr prog 63 #[.agg ((v38' a1 H D)).toArray,.agg ((v38' b1 K I)).toArray] (fun G=>sl (Rp.int .u32) G H D a1.mag/\sl (Rp.int .u32) G K I b1.mag) (w38' r):=by
 refine B' (args:=[_,_]) (N:=53) func63 z z z (fun w0 G0 bI aY=>?_)
 obtain⟨au,ar⟩:=aY
 refine sr<|ah' 2 z z z fun b2=>ah' 3 z z z fun b3=>P' 4 z z38 z fun t=>nx<|c'<|aj' [ff,ff,ff,ff,ff,ff] mix (by kernel_rfl) fun hb=>cn (fun _ g=>ai' z)<|cn (fun _ g=>A' 2 aE' z z z)<|oE hr fun ap aM hr=>at' (post:=wl' (Rp.int .u32) ap) (fun _=>z) (fun _ _=>k' E100 z) (aS' aM) z (fun G' g=>(au.mono g)) (fun v G1 G2 g h=>?_) ?_
 .obtain⟨ax,ai,rfl,B⟩:=h
  exact⟨_,_,z,B.mono g⟩
 refine oE hr fun aj aN hr=>bd' (f:=99) (φ:=wl' (Rp.int .u32) aj) (fun _=>z) (fun v G1 G2 g h=>?_) (fun u G' g hu=>?_) ?_
 .obtain⟨ao,ah,rfl,R⟩:=h
  exact⟨_,_,z,R.mono g⟩
 .obtain⟨⟨ax,ai,aA,B⟩,_⟩:=(show (wl' (Rp.int .u32) ap) G'.m (u 13)/\True from hu)
  exact⟨_,_,_,fun _=>k' E99 z,cH' aN,(by simp only[aA] <;> rfl),B⟩
 refine cu (fun _ _ g=>ai' z)<|cu (fun _ _ g=>A' 3 aE' z z z)<|cq' (d:=14) (post:=wl' (Rp.int .u32) aj) (d':=13) (post':=wl' (Rp.int .u32) ap) (fun bx bA bL aF ag Y=>?_)
 obtain⟨ao,ah,rfl,R⟩:=ag
 obtain⟨ax,ai,rfl,B⟩:=Y
 refine oE hr fun bK aV hr=>y' z z (k' E100 z) (aS' aV) z ((ar.mono aF)) (fun bs bH az af=>?_)
 obtain⟨bq,bC,rfl,aI⟩:=af
 refine oE hr fun ba aG hr=>y' z z (k' E99 z) (cH' aG) z (aI) (fun bv al aD Z=>?_)
 obtain⟨aT,aR,rfl,aP⟩:=Z
 refine sw0 z<|sw0 z<|p'<|ar'<|b'<|c'<|aa' (X:=(List Int)×Option Addr×Nat×(List Int)×Option Addr×Nat×Zb×Option Addr×Nat×Mem) hr (fun ⟨P,J,E,o,q,p,k,e,c,l⟩=>⟨(P,o,k),[(4,pt0 t),(5,sv0 J P E),(6,sv0 q o p)],Mem.le al l/\sl (Rp.int .u32) l J E P/\sl (Rp.int .u32) l q p o/\sl (Rp.int .u32) l e c k.mag,St w0 G0 l [(4,bk0 t (v38' k e c) 38)]⟩) (fun (⟨x1,an,aw,V,m,n,L⟩:(List Int)×Option Addr×Nat×Zb×Option Addr×Nat×Mem)=>⟨(.inr (x1,V)),[(4,pt0 t),(5,sv0 an x1 aw)],Mem.le al L/\sl (Rp.int .u32) L an aw x1/\sl (Rp.int .u32) L m n V.mag,St w0 G0 L [(4,bk0 t (v38' V m n) 38)]⟩) ⟨aj,ao,ah,ba,aT,aR,(Zb.mk false []),none,0,al⟩ z (fz0 z) ⟨mr,(R.mono (mx az aD)),aP,(ay' _ _)⟩ (w1 z) ?_ ?_
 .rintro _ ⟨P,J,E,o,q,p,k,e,c,l⟩ ⟨T,S,s,y⟩ hr
  refine c'<|sr<|mw0 z<|yw0 (D' a' s z)<|yw0 (aL' z z)<|nx<|I' hr z (fun bi hr=>?_) (fun bi hr=>?_)
  .refine t'<|b'<|U'<|c'<|aD' hr (fun (⟨A,x⟩:Bool×Mem)=>⟨[(4,pt0 t),(5,sv0 J P E),(6,sv0 q o p),(29,.bool A)],ZaC P o k A,Mem.le l x,St w0 G0 x [(4,bk0 t (v38' k e c) 38)]⟩) ?_ ?_
   .refine w'<|mw0 z<|yw0 (D' a' S z)<|aQ' hr z (bF' z z) z (fun bh hr=>?_) (fun bh hr=>?_)
    .refine mw0 z<|gm0 z<|gy z z (D' a' s z) z<|gy z z (bF' z z) z<|pt00 z<|p'<|ao' ⟨decide ((o.length:Int)<=2),l⟩ ⟨hr,mr⟩ (fz0 z) (w1 z)
    refine mw0 z<|sn3 z<|pf00 z<|p'<|ao' ⟨false,l⟩ ⟨hr,mr⟩ (fz0 z) (w1 z)
   rintro⟨A,x⟩ ⟨hr,j⟩
   refine aX' hr z (fun bb hr=>?_) (fun bb hr=>?_)
   .refine sr<|mw0 z<|oE hr fun bf aX hr=>T' z z (k' E101 z) (dw' aX) z ((S.mono j))<|mw0 z<|oE hr fun a9 aZ hr=>T' z z (k' E101 z) (dw' aZ) z ((s.mono j))<|sw0 z<|sx1 z<|c'<|aa' (X:=Int×Int×Mem) hr (fun ⟨m2,n1,F⟩=>⟨(m2,n1),[(4,pt0 t),(7,.int .u64 m2),(8,.int .u64 n1)],Mem.le x F,St w0 G0 F [(4,bk0 t (v38' k e c) 38)]⟩) (fun (⟨m1,ak⟩:Int×Mem)=>⟨m1,[(4,pt0 t),(7,.int .u64 m1)],Mem.le x ak,St w0 G0 ak [(4,bk0 t (v38' k e c) 38)]⟩) ⟨bf,a9,x⟩ z (fz0 z) mr (w1 z) ?_ ?_
    .rintro _ ⟨m2,n1,F⟩ U hr
     refine c'<|sr<|mw0 z<|yw0 (aL' z z)<|nx<|I' hr z (fun bc hr=>?_) (fun bc hr=>?_)
     .refine t'<|b'<|U'<|aj' [ff,ff,ff,ff,ff] mix (by kernel_rfl) fun hb=>cm0 z<|cm0 z<|cm0 z<|oA hr fun be hr=>cn (fun _ g=>aV' z z be)<|cn (fun _ g=>Y0.assign z)<|am' hb<|sw0 z<|p'<|ar'<|E'<|O' ⟨n1,Int.tmod m2 n1,F⟩ hr U (fz0 z) (w1 z)
     refine Z'<|f'<|f'<|F'<|ab' ⟨m2,F⟩ ⟨hr,U⟩ (fz0 z) (w1 z)
    rintro⟨m1,ak⟩ ⟨hr,bo⟩
    refine b'<|sr<|mw0 z<|oE hr fun bM aK hr=>y' z z (k' E98 z) (cm' aK) z (trivial) (fun bz bG bp ab=>?_)
    obtain⟨bE,bt,rfl,aL⟩:=ab
    refine oE hr fun bw aE hr=>y' z z (k' E97 z) (aZ' aE) z (aL) (fun bk bJ bj M=>?_)
    obtain⟨aO,aW,rfl,O⟩:=M
    refine stB 4 aA' z<|nx<|q'<|j'<|H'<|j'<|H'<|az'<|j' ?_
    obtain rfl:_=r:=hr
    exact o' z (af' (i:=4) W' z z z) ⟨_,_,z,O⟩
   refine t'<|b'<|sr<|mw0 z<|mw0 z<|oE hr fun aS aB hr=>y' z z (k' E102 z) (di' aB) z (⟨(S.mono j),(s.mono j)⟩) (fun bm bd C Q=>?_)
   obtain⟨a0,a4,ae,ad,rfl,a2,W⟩:=Q
   refine mw0 z<|ex0 z<|ex0 z<|sw0 z<|sx1 z<|w'<|mw0 z<|mw0 z<|sw0 z<|sw0 z<|p'<|E'<|O' ⟨o,q,p,aS.2,ae,ad,k,e,c,bd⟩ hr ⟨(mx (mx T j) C),(s.mono (mx j C)),W,(y.mono (mx j C))⟩ (fz0 z) (w1 z)
  refine Z'<|f'<|f'<|F'<|ab' ⟨P,J,E,k,e,c,l⟩ ⟨hr,T,S,y⟩ (fz0 z) (w1 z)
 rintro⟨x1,an,aw,V,m,n,L⟩ ⟨hr,bl,bg,a3⟩
 refine b'<|sr<|mw0 z<|oE hr fun bN aU hr=>y' z z (k' E97 z) (aZ' aU) z (bg) (fun br bF bn aa=>?_)
 obtain⟨a6,a5,rfl,ac⟩:=aa
 refine stB 4 aA' z<|nx<|q' ?_
 obtain rfl:_=r:=hr
 exact o' z (af' (i:=4) W' z z z) ⟨_,_,z,ac⟩
theorem dN'{R L E H B F r}(hr:(Zcc R L).Ret r):Ctr prog 103 #[sv0 E R H,sv0 B L F] (fun G=>sl (Rp.int .u32) G E H R/\sl (Rp.int .u32) G B F L) (wl' (Rp.int .u32) r):=by
 refine B' (args:=[_,_]) (N:=59) func103 z z z (fun U x am ae=>?_)
 obtain⟨K,S⟩:=ae
 refine sr<|sx1 z<|aD' hr (fun (⟨d,o,m,J,v,t,l⟩:(List Int)×Option Addr×Nat×(List Int)×Option Addr×Nat×Mem)=>⟨[(0,sv0 o d m),(1,sv0 v J t)],Za8 d J,Mem.le x l/\sl (Rp.int .u32) l o m d/\sl (Rp.int .u32) l v t J,St U x l []⟩) ?_ ?_
 .refine sr<|mw0 z<|yw0 (D' a' K z)<|mw0 z<|yw0 (D' a' S z)<|ls0 z<|nx<|I' hr z (fun an hr=>?_) (fun an hr=>?_)
  .refine w'<|mw0 z<|mw0 z<|sw0 z<|sw0 z<|p'<|ao' ⟨L,B,F,R,E,H,x⟩ ⟨hr,mr,S,K⟩ (fz0 z) (wk ln)
  refine t'<|ao' ⟨R,E,H,L,B,F,x⟩ ⟨hr,mr,K,S⟩ (fz0 z) (wk ln)
 rintro⟨d,o,m,J,v,t,l⟩ ⟨hr,ap,u,M⟩
 refine sr<|mw0 z<|yw0 (D' a' u z)<|ad0 z<|oA hr fun ah hr=>bj' (r:=(Rp.int .u32)) (e:=139) (n:=i64.wrap ((d.length:Int)+1)) (zx:=0) 4019 z z a' bO' z (by decide) (by decide) z z z ah fun Q ad ak=>sw0 z<|nr<|sx1 z<|c'<|sr<|mw0 z<|yw0 (D' a' u z)<|mw0 z<|nx<|aa' (X:=(List Int)×Option Ow×Int×Int×Mem) hr (fun ⟨p,j,f,c,k⟩=>⟨(p,f,c),[(0,sv0 o d m),(1,sv0 v J t),(5,.slice Q (i64.wrap ((d.length:Int)+1)).toNat ((i64.wrap ((d.length:Int)+1)).toNat)),(6,.int .u64 f),(21,i' (d.length:Int)),(22,i' c)],Mem.le l k/\RowR (Rp.int .u32) 139 k (.slice Q (i64.wrap ((d.length:Int)+1)).toNat ((i64.wrap ((d.length:Int)+1)).toNat)) p j,St U x k [(4019,j)]⟩) (fun (⟨P,q,h,D⟩:(List Int)×Option Ow×Int×Mem)=>⟨(P,h),[(0,sv0 o d m),(5,.slice Q (i64.wrap ((d.length:Int)+1)).toNat ((i64.wrap ((d.length:Int)+1)).toNat)),(6,.int .u64 h)],Mem.le l D/\RowR (Rp.int .u32) 139 D (.slice Q (i64.wrap ((d.length:Int)+1)).toNat ((i64.wrap ((d.length:Int)+1)).toNat)) P q,St U x D [(4019,q)]⟩) ⟨(List.replicate (i64.wrap ((d.length:Int)+1)).toNat 0),ad,0,0,l⟩ z (fz0 z) ⟨mr,ak⟩ (w1 z) ?_ ?_
 .rintro _ ⟨p,j,f,c,k⟩ ⟨g,y⟩ hr
  refine sr<|ls0 z<|nx<|c'<|I' hr z (fun ao hr=>?_) (fun ao hr=>?_)
  .refine t'<|b'<|c'<|U'<|sr<|mw0 z<|sw0 z<|nr<|mw0 z<|mw0 z<|oE hr fun x2 Y hr=>yw0 (Q' a' R' (u.mono g) z z Y)<|yw0 (ac' au' z (ak' (M' (ad' u Y) g)))<|yw0 (K' m' h' z)<|mw0 z<|ad0 z<|sx1 z<|aD' hr (fun (⟨A,C⟩:Int×Mem)=>⟨[(0,sv0 o d m),(1,sv0 v J t),(5,.slice Q (i64.wrap ((d.length:Int)+1)).toNat ((i64.wrap ((d.length:Int)+1)).toNat)),(7,i' c),(8,.int .u64 A),(21,i' (d.length:Int)),(22,i' c)],ZU p c A,Mem.le k C,St U x C [(4019,j)]⟩) ?_ ?_
   .refine sr<|mw0 z<|mw0 z<|yw0 (D' a' (M.mono g) z)<|ls0 z<|nx<|I' hr z (fun ai hr=>?_) (fun ai hr=>?_)
    .refine w'<|mw0 z<|mw0 z<|mw0 z<|oE hr fun x4 Z hr=>yw0 (Q' a' R' (M.mono g) z z Z)<|yw0 (ac' au' z (ak' (M' (ad' M Z) g)))<|yw0 (K' m' h' z)<|ad0 z<|sw0 z<|p'<|ao' ⟨u64.wrap ((u64.wrap ((u64.wrap x2)+f))+(u64.wrap x4)),k⟩ ⟨hr,mr⟩ (fz0 z) (w1 z)
    refine t'<|ao' ⟨u64.wrap ((u64.wrap x2)+f),k⟩ ⟨hr,mr⟩ (fz0 z) (w1 z)
   rintro⟨A,C⟩ ⟨hr,s⟩
   refine sr<|mw0 z<|mw0 z<|mw0 z<|yw0 (K' h' m' z)<|oE hr fun x3 W hr=>yw0 (aB' a' R' (y.mono s) z z W)<|aI' (r:=(Rp.int .u32)) (e:=139) (cs':=[.int .u32 (u32.wrap A)]) (i:=c) (z':=u32.wrap A) 4019 z R' z (y.mono s) z z z z z W fun al af=>nx<|w'<|mw0 z<|yw0 (bH' z z (by decide))<|sw0 z<|p'<|E'<|b'<|w'<|ad0 z<|mw0 z<|p'<|O' ⟨(p.set c.toNat (u32.wrap A)),al,Int.fdiv A (2 ^ (min (32:Int).toNat u64.bits)),i64.wrap (c+1),C⟩ hr ⟨(mx g s),af⟩ (fz0 z) (w1 z)
  refine Z'<|f'<|f'<|F'<|ab' ⟨p,j,f,k⟩ ⟨hr,g,y⟩ (fz0 z) (w1 z)
 rintro⟨P,q,h,D⟩ ⟨hr,V,O⟩
 refine b'<|sr<|mw0 z<|mw0 z<|yw0 (D' a' (u.mono V) z)<|mw0 z<|yw0 (K' h' m' z)<|oE hr fun x1 aa hr=>yw0 (aB' a' R' O z z aa)<|aI' (r:=(Rp.int .u32)) (e:=139) (cs':=[.int .u32 (u32.wrap h)]) (i:=(d.length:Int)) (z':=u32.wrap h) 4019 z R' z O z z z z z aa fun aA ab=>nr<|mw0 z<|aY' (r:=(Rp.int .u32)) (e:=139) 4019 ab z (by rw[am]; rfl) (fun aB az au T ar=>?_)
 refine oE hr fun aC ag hr=>y' z z (k' E100 z) (aS' ag) (by rw[bs' T]) ((bq' T)) (fun aw aD aq I=>?_)
 obtain⟨ay,ax,rfl,ac⟩:=I
 refine sx1 z<|q' ?_
 obtain rfl:_=r:=hr
 exact o' z z ⟨_,_,z,ac⟩
theorem cj'{g C u y t x r}(hr:(Zac g C).Ret r):Ctr prog 104 #[sv0 u g y,sv0 t C x] (fun G=>sl (Rp.int .u32) G u y g/\sl (Rp.int .u32) G t x C) (wl' (Rp.int .u32) r):=by
 refine B' (args:=[_,_]) (N:=45) func104 z z z (fun P B W Q=>?_)
 obtain⟨q,F⟩:=Q
 refine sr<|sw0 z<|nr<|mw0 z<|yw0 (D' a' q z)<|oA hr fun T hr=>bj' (r:=(Rp.int .u32)) (e:=139) (n:=(g.length:Int)) (zx:=0) 4011 z z a' bO' z (by decide) (by decide) z z z T fun E O Y=>sw0 z<|nr<|sx1 z<|c'<|sr<|mw0 z<|yw0 (D' a' q z)<|mw0 z<|nx<|aa' (X:=(List Int)×Option Ow×Int×Int×Mem) hr (fun ⟨k,h,d,c,j⟩=>⟨(k,d,c),[(0,sv0 u g y),(1,sv0 t C x),(5,.slice E (g.length:Int).toNat ((g.length:Int).toNat)),(6,.int .u64 d),(13,i' (g.length:Int)),(14,i' c)],Mem.le B j/\RowR (Rp.int .u32) 139 j (.slice E (g.length:Int).toNat ((g.length:Int).toNat)) k h,St P B j [(4011,h)]⟩) (fun (⟨D,l,v⟩:(List Int)×Option Ow×Mem)=>⟨D,[(5,.slice E (g.length:Int).toNat ((g.length:Int).toNat))],Mem.le B v/\RowR (Rp.int .u32) 139 v (.slice E (g.length:Int).toNat ((g.length:Int).toNat)) D l,St P B v [(4011,l)]⟩) ⟨(List.replicate (g.length:Int).toNat 0),O,0,0,B⟩ z (fz0 z) ⟨mr,Y⟩ (w1 z) ?_ ?_
 .rintro _ ⟨k,h,d,c,j⟩ ⟨f,p⟩ hr
  refine sr<|ls0 z<|nx<|c'<|I' hr z (fun aa hr=>?_) (fun aa hr=>?_)
  .refine t'<|b'<|c'<|U'<|sr<|mw0 z<|sw0 z<|nr<|mw0 z<|mw0 z<|oE hr fun Z K hr=>yw0 (Q' a' R' (q.mono f) z z K)<|yw0 (ac' au' z (ak' (M' (ad' q K) f)))<|yw0 (K' m' h' z)<|mw0 z<|yw0 (ap' z z)<|sx1 z<|aD' hr (fun (⟨o,s⟩:Int×Mem)=>⟨[(0,sv0 u g y),(1,sv0 t C x),(5,.slice E (g.length:Int).toNat ((g.length:Int).toNat)),(7,i' c),(8,.int .u64 o),(13,i' (g.length:Int)),(14,i' c)],ZM k c o,Mem.le j s,St P B s [(4011,h)]⟩) ?_ ?_
   .refine sr<|mw0 z<|mw0 z<|yw0 (D' a' (F.mono f) z)<|ls0 z<|nx<|I' hr z (fun V hr=>?_) (fun V hr=>?_)
    .refine w'<|mw0 z<|mw0 z<|mw0 z<|oE hr fun x3 I hr=>yw0 (Q' a' R' (F.mono f) z z I)<|yw0 (ac' au' z (ak' (M' (ad' F I) f)))<|yw0 (K' m' h' z)<|yw0 (ap' z z)<|sw0 z<|p'<|ao' ⟨u64.wrap ((u64.wrap ((u64.wrap Z)-d))-(u64.wrap x3)),j⟩ ⟨hr,mr⟩ (fz0 z) (w1 z)
    refine t'<|ao' ⟨u64.wrap ((u64.wrap Z)-d),j⟩ ⟨hr,mr⟩ (fz0 z) (w1 z)
   rintro⟨o,s⟩ ⟨hr,m⟩
   refine sr<|mw0 z<|mw0 z<|mw0 z<|yw0 (K' h' m' z)<|oE hr fun x2 J hr=>yw0 (aB' a' R' (p.mono m) z z J)<|aI' (r:=(Rp.int .u32)) (e:=139) (cs':=[.int .u32 (u32.wrap o)]) (i:=c) (z':=u32.wrap o) 4011 z R' z (p.mono m) z z z z z J fun U S=>nx<|w'<|mw0 z<|yw0 (bH' z z (by decide))<|sw0 z<|p'<|E'<|b'<|w'<|ad0 z<|mw0 z<|p'<|O' ⟨(k.set c.toNat (u32.wrap o)),U,Int.fdiv o (2 ^ (min (63:Int).toNat u64.bits)),i64.wrap (c+1),s⟩ hr ⟨(mx f m),S⟩ (fz0 z) (w1 z)
  refine Z'<|f'<|f'<|F'<|ab' ⟨k,h,j⟩ ⟨hr,f,p⟩ (f1 z) (w1 z)
 rintro⟨D,l,v⟩ ⟨hr,ab,M⟩
 refine b'<|sr<|mw0 z<|aY' (r:=(Rp.int .u32)) (e:=139) 4011 M z (by rw[W]; rfl) (fun ak aj ae H ac=>?_)
 refine oE hr fun al R hr=>y' z z (k' E100 z) (aS' R) (by rw[bs' H]) ((bq' H)) (fun ag am ad A=>?_)
 obtain⟨ai,ah,rfl,L⟩:=A
 refine sx1 z<|q' ?_
 obtain rfl:_=r:=hr
 exact o' z z ⟨_,_,z,L⟩
theorem dj'{I H f d h g r}(hr:(Za6 I H).Ret r):Ctr prog 64 #[.agg ((v38' I f d)).toArray,.agg ((v38' H h g)).toArray] (fun G=>sl (Rp.int .u32) G f d I.mag/\sl (Rp.int .u32) G h g H.mag) (fun G v=>∃ p q o n,v = .tuple #[.agg ((v38' r.1 p q)).toArray,.agg ((v38' r.2.1 o n)).toArray,i' r.2.2]/\sl (Rp.int .u32) G p q r.1.mag/\sl (Rp.int .u32) G o n r.2.1.mag):=by
 refine B' (args:=[_,_]) (N:=47) func64 z z z (fun w0 G0 aE aw=>?_)
 obtain⟨Y,l⟩:=aw
 refine sr<|ah' 2 z z z fun b2=>ah' 3 z z z fun Z=>P' 4 z z38 z fun b4=>P' 5 z z38 z fun b5=>sx1 z<|c'<|sr<|yw0 (ai' z)<|yw0 (A' 3 aE' z z z)<|oE hr fun a2 am hr=>y' z z (k' E100 z) (aS' am) z (l) (fun aU a0 u Q=>?_)
 obtain⟨aV,aP,rfl,ao⟩:=Q
 refine yw0 (D' a' ao z)<|yw0 (aK' z z)<|nx<|I' hr z (fun aM hr=>?_) (fun aM hr=>?_)
 .refine sr<|yw0 (ax' (vs:=#[]) (v:=.agg ([.bool false,.slice none 0 0]).toArray) z z (fun _=>by kernel_rfl))<|yw0 (ax' (vs:=#[]) (v:=.agg ([.bool false,.slice none 0 0]).toArray) z z (fun _=>by kernel_rfl))<|stB 4 aA' z<|stB 5 aA' z<|sx1 z<|q'<|j' ?_
  obtain rfl:_=r:=hr
  exact WE.ret3 z (af' (i:=4) W' z z z) (af' (i:=5) W' z z z) z ⟨_,_,_,_,z,(ay' (Rp.int .u32) _),(ay' (Rp.int .u32) _)⟩
 refine t'<|b'<|sr<|yw0 (ai' z)<|yw0 (A' 2 aE' z z z)<|yw0 (ai' z)<|yw0 (A' 3 aE' z z z)<|oE hr fun m an hr=>y' z z (k' E102 z) (di' an) z (⟨(Y.mono u),(l.mono u)⟩) (fun aT J ab V=>?_)
 obtain⟨C,x,A,B,rfl,y,k⟩:=V
 refine mw0 z<|ex0 z<|ex0 z<|sw0 z<|sx1 z<|aD' hr (fun (⟨q1,W,X,K,F,E,D⟩:(List Int)×Option Addr×Nat×(List Int)×Option Addr×Nat×Mem)=>⟨[(2,pt0 b2),(3,pt0 Z),(4,pt0 b4),(5,pt0 b5),(7,sv0 W q1 X),(8,sv0 F K E)],Zbq I H q1 K,Mem.le J D/\sl (Rp.int .u32) D W X q1/\sl (Rp.int .u32) D F E K,St w0 G0 D [(2,bk0 b2 (v38' I f d) 38),(3,bk0 Z (v38' H h g) 38),(4,bk0 b4 ([.bool false,.slice none 0 0]) 38),(5,bk0 b5 ([.bool false,.slice none 0 0]) 38)]⟩) ?_ ?_
 .refine aD' hr (fun (⟨s,L⟩:Bool×Mem)=>⟨[(2,pt0 b2),(3,pt0 Z),(4,pt0 b4),(5,pt0 b5),(7,sv0 C m.1 x),(8,sv0 A m.2 B),(30,.bool s)],ZaF I H m s,Mem.le J L,St w0 G0 L [(2,bk0 b2 (v38' I f d) 38),(3,bk0 Z (v38' H h g) 38),(4,bk0 b4 ([.bool false,.slice none 0 0]) 38),(5,bk0 b5 ([.bool false,.slice none 0 0]) 38)]⟩) ?_ ?_
  .refine w'<|yw0 (aw' z)<|aQ' hr z (Y0.eq (A' 2 sc4 z z z) (congrArg Value.bool (bdec _))) z (fun aL hr=>?_) (fun aL hr=>?_)
   .refine mw0 z<|gm0 z<|gy z z (D' a' k z) z<|gy z z (aL' z z) z<|pt00 z<|p'<|ao' ⟨decide (0<(m.2.length:Int)),J⟩ ⟨hr,mr⟩ (fz0 z) (w4 z z z z)
   refine mw0 z<|sn3 z<|pf00 z<|p'<|ao' ⟨false,J⟩ ⟨hr,mr⟩ (fz0 z) (w4 z z z z)
  rintro⟨s,L⟩ ⟨hr,c⟩
  refine aX' hr z (fun aF hr=>?_) (fun aF hr=>?_)
  .refine sr<|mw0 z<|aO' (e:=139) (r:=(Rp.int .u32)) (vs:=#[(0,.int .u32 1)]) (cs:=[.int .u32 1]++([])) ([1]:List Int) z z z z z (by decide) (fun _=>by kernel_rfl) ⟨[.int .u32 1],[],z,z,z⟩ (key:=999) z (by rw[aE]; rfl) (fun p1 a3 j aG=>?_)
   refine oE hr fun aI aq hr=>y' z z (k' E103 z) (dN' aq) z (⟨(y.mono (mx c j)),aG⟩) (fun aQ a4 t S=>?_)
   obtain⟨al,ax,rfl,ak⟩:=S
   refine sx1 z<|w'<|yw0 (ai' z)<|yw0 (A' 3 aE' z z z)<|mw0 z<|oE hr fun aC ai hr=>y' z z (k' E104 z) (cj' ai) z (⟨(l.mono (mx (mx (mx (mx u ab) c) j) t)),(k.mono (mx (mx c j) t))⟩) (fun aO aD M O=>?_)
   obtain⟨ap,aj,rfl,av⟩:=O
   refine sw0 z<|p'<|ao' ⟨aI,al,ax,aC,ap,aj,aD⟩ ⟨hr,(mx (mx (mx c j) t) M),(ak.mono M),av⟩ (fz0 z) (w4 z z z z)
  refine t'<|ao' ⟨m.1,C,x,m.2,A,B,L⟩ ⟨hr,c,(y.mono c),(k.mono c)⟩ (fz0 z) (w4 z z z z)
 rintro⟨q1,W,X,K,F,E,D⟩ ⟨hr,aN,aJ,au⟩
 refine sr<|yw0 (aw' z)<|yw0 (A' 2 sc4 z z z)<|yw0 (aw' z)<|yw0 (A' 3 sc4 z z z)<|yw0 (dm' ba' z z)<|mw0 z<|oE hr fun aY ar hr=>y' z z (k' E97 z) (aZ' ar) z (aJ) (fun aR aZ ae T=>?_)
 obtain⟨aA,ay,rfl,U⟩:=T
 refine mw0 z<|oE hr fun aW ah hr=>y' z z (k' E97 z) (aZ' ah) z ((au.mono ae)) (fun aS aX ac R=>?_)
 obtain⟨az,aB,rfl,P⟩:=R
 refine stB 4 aA' z<|stB 5 aA' z<|sx1 z<|q' ?_
 obtain rfl:_=r:=hr
 exact WE.ret3 z (af' (i:=4) W' z z z) (af' (i:=5) W' z z z) z ⟨_,_,_,_,z,(U.mono ac),P⟩
theorem cv'{q p e c f d r}(hr:(Zas q p).Ret r):Ctr prog 89 #[.agg ((v38' q e c)).toArray,.agg ((v38' p f d)).toArray] (fun G=>sl (Rp.int .u32) G e c q.mag/\sl (Rp.int .u32) G f d p.mag) (w40' r):=by
 refine B' (args:=[_,_]) (N:=36) func89 z z z (fun w0 G0 af Q=>?_)
 obtain⟨h,g⟩:=Q
 refine sr<|ah' 2 z z z fun b1=>ah' 3 z z z fun b2=>P' 4 z z40 z fun b3=>nx<|c'<|sr<|yw0 (C' 3 W' z z z)<|oE hr fun aa R hr=>T' z z (k' E125 z) (ch' R) z (g)<|nx<|aX' hr z (fun V hr=>?_) (fun V hr=>?_)
 .refine sr<|yw0 (C' 2 W' z z z)<|yw0 (C' 3 W' z z z)<|yw0 (ax' (vs:=#[(0,.agg ((v38' q e c)).toArray),(1,.agg ((v38' p f d)).toArray)]) (v:=.agg ([.bool q.neg,sv0 e q.mag c,.bool p.neg,sv0 f p.mag d]).toArray) z z (fun _=>by kernel_rfl))<|stB 4 bk' z<|nx<|q'<|j' ?_
  obtain rfl:_=r:=hr
  exact o' z (af' (i:=4) aN' z z z) ⟨_,_,_,_,z,h,g⟩
 refine t'<|b'<|sr<|yw0 (C' 2 W' z z z)<|yw0 (C' 3 W' z z z)<|oE hr fun Z L hr=>y' z z (k' E63 z) (eO' L) z (⟨h,g⟩) (fun Y ad o A=>?_)
 obtain⟨T,S,rfl,j⟩:=A
 refine P' 5 z z38 z fun b4=>stB 5 aA' z<|nx<|c'<|sr<|yw0 (C' 5 W' z z z)<|oE hr fun ac P hr=>T' z z (k' E125 z) (ch' P) z (j)<|nx<|aX' hr z (fun U hr=>?_) (fun U hr=>?_)
 .refine sr<|yw0 (C' 2 W' z z z)<|yw0 (C' 3 W' z z z)<|yw0 (ax' (vs:=#[(0,.agg ((v38' q e c)).toArray),(1,.agg ((v38' p f d)).toArray)]) (v:=.agg ([.bool q.neg,sv0 e q.mag c,.bool p.neg,sv0 f p.mag d]).toArray) z z (fun _=>by kernel_rfl))<|stB 4 bk' z<|nx<|q'<|j' ?_
  obtain rfl:_=r:=hr
  exact o' z (af' (i:=4) aN' z z z) ⟨_,_,_,_,z,(h.mono o),(g.mono o)⟩
 refine t'<|b'<|sr<|yw0 (C' 2 W' z z z)<|yw0 (C' 5 W' z z z)<|oE hr fun B O hr=>y' z z (k' E64 z) (dj' O) z (⟨(h.mono o),j⟩) (fun W ab u y=>?_)
 obtain⟨n,m,I,J,rfl,s,K⟩:=y
 refine mw0 z<|ex0 z<|ex0 z<|ex0 z<|stB 2 aA' z<|nr<|yw0 (C' 3 W' z z z)<|yw0 (C' 5 W' z z z)<|oE hr fun C M hr=>y' z z (k' E64 z) (dj' M) z (⟨(g.mono (mx o u)),(j.mono u)⟩) (fun X ae D x=>?_)
 obtain⟨l,k,E,H,rfl,t,F⟩:=x
 refine mw0 z<|ex0 z<|ex0 z<|ex0 z<|stB 3 aA' z<|nr<|yw0 (C' 2 W' z z z)<|yw0 (C' 3 W' z z z)<|yw0 (ax' (vs:=#[(0,.agg ((v38' B.1 n m)).toArray),(1,.agg ((v38' C.1 l k)).toArray)]) (v:=.agg ([.bool B.1.neg,sv0 n B.1.mag m,.bool C.1.neg,sv0 l C.1.mag k]).toArray) z z (fun _=>by kernel_rfl))<|stB 4 bk' z<|nx<|q' ?_
 obtain rfl:_=r:=hr
 exact o' z (af' (i:=4) aN' z z z) ⟨_,_,_,_,z,(s.mono D),t⟩
theorem ek'{c d t o s u r}(hr:(ZbZ c d).Ret r):Ctr prog 105 #[sv0 t c o,sv0 s d u] (fun G=>sl (Rp.int .u32) G t o c/\sl (Rp.int .u32) G s u d) (wl' (Rp.int .u32) r):=by
 refine B' (args:=[_,_]) (N:=70) func105 z z z (fun Y L ap ag=>?_)
 obtain⟨A,p⟩:=ag
 refine sr<|sw0 z<|nr<|mw0 z<|yw0 (D' a' A z)<|mw0 z<|yw0 (D' a' p z)<|ad0 z<|oA hr fun ak hr=>bj' (r:=(Rp.int .u32)) (e:=139) (n:=i64.wrap ((c.length:Int)+(d.length:Int))) (zx:=0) 4016 z z a' bO' z (by decide) (by decide) z z z ak fun J af an=>sx1 z<|c'<|sr<|mw0 z<|yw0 (D' a' A z)<|mw0 z<|nx<|aa' (X:=(List Int)×Option Ow×Int×Mem) hr (fun ⟨E,j,f,x⟩=>⟨(E,f),[(0,sv0 t c o),(1,sv0 s d u),(5,.slice J (i64.wrap ((c.length:Int)+(d.length:Int))).toNat ((i64.wrap ((c.length:Int)+(d.length:Int))).toNat)),(18,i' (c.length:Int)),(19,i' f)],Mem.le L x/\RowR (Rp.int .u32) 139 x (.slice J (i64.wrap ((c.length:Int)+(d.length:Int))).toNat ((i64.wrap ((c.length:Int)+(d.length:Int))).toNat)) E j,St Y L x [(4016,j)]⟩) (fun (⟨K,D,Q⟩:(List Int)×Option Ow×Mem)=>⟨K,[(5,.slice J (i64.wrap ((c.length:Int)+(d.length:Int))).toNat ((i64.wrap ((c.length:Int)+(d.length:Int))).toNat))],Mem.le L Q/\RowR (Rp.int .u32) 139 Q (.slice J (i64.wrap ((c.length:Int)+(d.length:Int))).toNat ((i64.wrap ((c.length:Int)+(d.length:Int))).toNat)) K D,St Y L Q [(4016,D)]⟩) ⟨(List.replicate (i64.wrap ((c.length:Int)+(d.length:Int))).toNat 0),af,0,L⟩ z (fz0 z) ⟨mr,an⟩ (w1 z) ?_ ?_
 .rintro _ ⟨E,j,f,x⟩ ⟨h,O⟩ hr
  refine sr<|ls0 z<|nx<|c'<|I' hr z (fun aq hr=>?_) (fun aq hr=>?_)
  .refine t'<|b'<|c'<|U'<|sr<|mw0 z<|sw0 z<|nr<|sw0 z<|nr<|mw0 z<|mw0 z<|oE hr fun T ac hr=>yw0 (Q' a' R' (A.mono h) z z ac)<|yw0 (ac' au' z (ak' (M' (ad' A ac) h)))<|yw0 (K' m' h' z)<|sx1 z<|c'<|sr<|mw0 z<|yw0 (D' a' (p.mono h) z)<|mw0 z<|nx<|aa' (X:=(List Int)×Option Ow×Int×Int×Mem) hr (fun ⟨B,q,k,l,F⟩=>⟨(B,k,l),[(0,sv0 t c o),(1,sv0 s d u),(5,.slice J (i64.wrap ((c.length:Int)+(d.length:Int))).toNat ((i64.wrap ((c.length:Int)+(d.length:Int))).toNat)),(6,i' f),(7,.int .u64 k),(8,.int .u64 (u64.wrap T)),(18,i' (c.length:Int)),(19,i' f),(28,i' (d.length:Int)),(29,i' l)],Mem.le x F/\RowR (Rp.int .u32) 139 F (.slice J (i64.wrap ((c.length:Int)+(d.length:Int))).toNat ((i64.wrap ((c.length:Int)+(d.length:Int))).toNat)) B q,St Y L F [(4016,q)]⟩) (fun (⟨H,C,v,I⟩:(List Int)×Option Ow×Int×Mem)=>⟨(H,v),[(0,sv0 t c o),(1,sv0 s d u),(5,.slice J (i64.wrap ((c.length:Int)+(d.length:Int))).toNat ((i64.wrap ((c.length:Int)+(d.length:Int))).toNat)),(6,i' f),(7,.int .u64 v),(18,i' (c.length:Int)),(19,i' f)],Mem.le x I/\RowR (Rp.int .u32) 139 I (.slice J (i64.wrap ((c.length:Int)+(d.length:Int))).toNat ((i64.wrap ((c.length:Int)+(d.length:Int))).toNat)) H C,St Y L I [(4016,C)]⟩) ⟨E,j,0,0,x⟩ z (f10 z z z z z z z z z z) ⟨mr,O⟩ (w1 z) ?_ ?_
   .rintro _ ⟨B,q,k,l,F⟩ ⟨y,m⟩ hr
    refine sr<|ls0 z<|nx<|c'<|I' hr z (fun am hr=>?_) (fun am hr=>?_)
    .refine t'<|b'<|c'<|U'<|sr<|mw0 z<|sx1 z<|c'<|aj' [ff,ff,ff,ff,ff,ff,ff,ff,ff,ff,ff,ff,ff,ff,ff,ff] mix (by kernel_rfl) fun hb=>cm0 z<|cm0 z<|cm0 z<|oE hr fun V Z hr=>cn (fun _ g=>Q' a' R' ((p.mono (mx h y)).mono g) z z Z)<|cn (fun _ g=>ac' au' z (ak' (M' (M' (ad' p Z) (mx h y)) g)))<|cn (fun _ g=>K' m' h' z)<|cn (fun _ g=>bE' z z)<|cm0 z<|cm0 z<|cm0 z<|cn (fun _ g=>J' z z)<|oE hr fun U ab hr=>cn (fun _ g=>aB' a' R' (m.mono g) z z ab)<|cn (fun _ g=>cP' au' (m.mono g) (key:=4016) z z (ak' (dl' m ab)))<|cn (fun _ g=>K' m' h' z)<|cn (fun _ g=>J' z z)<|cm0 z<|am' hb<|ad0 z<|sw0 z<|p'<|ar'<|b'<|sr<|mw0 z<|mw0 z<|mw0 z<|ad0 z<|mw0 z<|yw0 (K' h' m' z)<|oE hr fun x5 ad hr=>yw0 (aB' a' R' m z z ad)<|aI' (r:=(Rp.int .u32)) (e:=139) (cs':=[.int .u32 (u32.wrap (u64.wrap ((u64.wrap ((u64.wrap ((u64.wrap T)*(u64.wrap V)))+(u64.wrap U)))+k)))]) (i:=i64.wrap (f+l)) (z':=u32.wrap (u64.wrap ((u64.wrap ((u64.wrap ((u64.wrap T)*(u64.wrap V)))+(u64.wrap U)))+k))) 4016 z R' z m z z z z z ad fun ao ah=>nx<|w'<|mw0 z<|yw0 (bH' z z (by decide))<|sw0 z<|p'<|E'<|b'<|w'<|ad0 z<|mw0 z<|p'<|O' ⟨(B.set (i64.wrap (f+l)).toNat (u32.wrap (u64.wrap ((u64.wrap ((u64.wrap ((u64.wrap T)*(u64.wrap V)))+(u64.wrap U)))+k)))),ao,Int.fdiv (u64.wrap ((u64.wrap ((u64.wrap ((u64.wrap T)*(u64.wrap V)))+(u64.wrap U)))+k)) (2 ^ (min (32:Int).toNat u64.bits)),i64.wrap (l+1),F⟩ hr ⟨y,ah⟩ (f10 z z z z z z z z z z) (w1 z)
    refine Z'<|f'<|f'<|F'<|ab' ⟨B,q,k,F⟩ ⟨hr,y,m⟩ (fz0 z) (w1 z)
   rintro⟨H,C,v,I⟩ ⟨hr,P,M⟩
   refine b'<|w'<|mw0 z<|mw0 z<|mw0 z<|yw0 (D' a' (p.mono (mx h P)) z)<|ad0 z<|mw0 z<|yw0 (K' h' m' z)<|oE hr fun x2 aa hr=>yw0 (aB' a' R' M z z aa)<|aI' (r:=(Rp.int .u32)) (e:=139) (cs':=[.int .u32 (u32.wrap v)]) (i:=i64.wrap (f+(d.length:Int))) (z':=u32.wrap v) 4016 z R' z M z z z z z aa fun al aj=>p'<|E'<|b'<|w'<|ad0 z<|mw0 z<|p'<|O' ⟨(H.set (i64.wrap (f+(d.length:Int))).toNat (u32.wrap v)),al,i64.wrap (f+1),I⟩ hr ⟨(mx h P),aj⟩ (fz0 z) (w1 z)
  refine Z'<|f'<|f'<|F'<|ab' ⟨E,j,x⟩ ⟨hr,h,O⟩ (f1 z) (w1 z)
 rintro⟨K,D,Q⟩ ⟨hr,ar,W⟩
 refine b'<|sr<|mw0 z<|aY' (r:=(Rp.int .u32)) (e:=139) 4016 W z (by rw[ap]; rfl) (fun aC aB aw S au=>?_)
 refine oE hr fun aD ai hr=>y' z z (k' E100 z) (aS' ai) (by rw[bs' S]) ((bq' S)) (fun ay aE av R=>?_)
 obtain⟨aA,az,rfl,ae⟩:=R
 refine sx1 z<|q' ?_
 obtain rfl:_=r:=hr
 exact o' z z ⟨_,_,z,ae⟩
theorem eP'{A t j f g e r}(hr:(Zdt A t).Ret r):Ctr prog 65 #[.agg ((v38' A j f)).toArray,.agg ((v38' t g e)).toArray] (fun G=>sl (Rp.int .u32) G j f A.mag/\sl (Rp.int .u32) G g e t.mag) (w38' r):=by
 refine B' (args:=[_,_]) (N:=16) func65 z z z (fun T R M y=>?_)
 obtain⟨o,p⟩:=y
 refine sr<|ah' 2 z z z fun U=>ah' 3 z z z fun Q=>P' 4 z z38 z fun V=>nx<|c'<|aj' [ff,ff,ff,ff,ff,ff,ff,ff,ff,ff] mix (by kernel_rfl) fun P=>cn (fun _ c=>aw' z)<|cn (fun _ c=>A' 2 sc4 z z z)<|cn (fun _ c=>aw' z)<|cn (fun _ c=>A' 3 sc4 z z z)<|cn (fun _ c=>dm' ba' z z)<|cn (fun _ c=>ai' z)<|cn (fun _ c=>A' 2 aE' z z z)<|cn (fun _ c=>ai' z)<|cn (fun _ c=>A' 3 aE' z z z)<|oE hr fun q B hr=>at' (post:=wl' (Rp.int .u32) q) (fun _=>z) (fun _ _=>k' E105 z) (ek' B) z (fun O c=>⟨(o.mono c),(p.mono c)⟩) (fun v W S c h=>?_) ?_
 .obtain⟨x,u,rfl,k⟩:=h
  exact⟨_,_,z,k.mono c⟩
 refine aF' (d:=14) (post:=wl' (Rp.int .u32) q) (fun H J F l=>?_)
 obtain⟨x,u,rfl,k⟩:=l
 refine oE hr fun K s hr=>y' z z (k' E97 z) (aZ' s) z (k) (fun I L E n=>?_)
 obtain⟨D,C,rfl,m⟩:=n
 refine stB 4 aA' z<|p'<|ar'<|b'<|q' ?_
 obtain rfl:_=r:=hr
 exact o' z (af' (i:=4) W' z z z) ⟨_,_,z,m⟩
theorem bI'{H F E r}(hr:(ZW H).Ret r):Ctr prog 90 #[sv0 F H E] (fun G=>sl aH' G F E H) (w38' r):=by
 refine B' (args:=[_]) (N:=25) func90 z z z (fun w0 W ak S=>?_)
 have C:=S
 refine sr<|P' 2 z z38 z fun K=>nr<|oE hr fun V T hr=>y' z z (k' E62 z) (dc' T) z (trivial) (fun af D n u=>?_)
 obtain⟨s,t,rfl,y⟩:=u
 refine P' 3 z z38 z fun M=>stB 3 aA' z<|nx<|c'<|sr<|mw0 z<|yw0 (D' cB' (C.mono n) z)<|mw0 z<|nx<|aa' (X:=Int×Zb×Option Addr×Nat×Mem) hr (fun ⟨j,m,d,c,k⟩=>⟨(j,m),[(2,pt0 K),(3,pt0 M),(7,sv0 F H E),(8,i' (H.length:Int)),(9,i' j)],Mem.le D k/\sl (Rp.int .u32) k d c m.mag,St w0 W k [(2,bk0 K ([.bool false,.slice none 0 0]) 38),(3,bk0 M (v38' m d c) 38)]⟩) (fun (⟨o,g,h,p⟩:Zb×Option Addr×Nat×Mem)=>⟨o,[(2,pt0 K),(3,pt0 M)],Mem.le D p/\sl (Rp.int .u32) p g h o.mag,St w0 W p [(2,bk0 K ([.bool false,.slice none 0 0]) 38),(3,bk0 M (v38' o g h) 38)]⟩) ⟨0,V,s,t,D⟩ z (fz0 z) ⟨mr,y⟩ (w2 z z) ?_ ?_
 .rintro _ ⟨j,m,d,c,k⟩ ⟨f,e⟩ hr
  refine sr<|ls0 z<|nx<|c'<|I' hr z (fun ad hr=>?_) (fun ad hr=>?_)
  .refine t'<|b'<|c'<|U'<|sr<|oE hr fun x1 O hr=>yw0 (Q' cB' aA' (C.mono (mx n f)) z z O) ?_
   obtain⟨I,J,ab,l⟩:=ZfR (M' (ad' C O) (mx n f))
   refine yw0 (aP' _ W' z z ab)<|P' 5 z z38 z fun b3=>stB 5 aA' z<|nx<|U'<|sr<|yw0 (C' 5 W' z z z)<|oE hr fun ai P hr=>T' z z (k' E125 z) (ch' P) z (l)<|sx1 z<|aX' hr z (fun Z hr=>?_) (fun Z hr=>?_)
   .refine t'<|E'<|E'<|b'<|w'<|ad0 z<|mw0 z<|p'<|O' ⟨i64.wrap (j+1),m,d,c,k⟩ hr ⟨f,e⟩ (fz0 z) (w2 z z)
   refine sr<|yw0 (C' 3 W' z z z)<|oE hr fun aj R hr=>T' z z (k' E125 z) (ch' R) z (e)<|sx1 z<|aX' hr z (fun ac hr=>?_) (fun ac hr=>?_)
   .refine w'<|yw0 (C' 5 W' z z z)<|stB 3 aA' z<|p'<|E'<|E'<|b'<|w'<|ad0 z<|mw0 z<|p'<|O' ⟨i64.wrap (j+1),x1,I,J,k⟩ hr ⟨f,l⟩ (fz0 z) (w2 z z)
   refine w'<|yw0 (C' 3 W' z z z)<|yw0 (C' 5 W' z z z)<|oE hr fun U Q hr=>y' z z (k' E65 z) (eP' Q) z (⟨e,l⟩) (fun ag Y L x=>?_)
   obtain⟨q,A,rfl,B⟩:=x
   refine stB 3 aA' z<|p'<|E'<|E'<|b'<|w'<|ad0 z<|mw0 z<|p'<|O' ⟨i64.wrap (j+1),U,q,A,Y⟩ hr ⟨(mx f L),B⟩ (fz0 z) (w2 z z)
  refine Z'<|f'<|f'<|F'<|ab' ⟨m,d,c,k⟩ ⟨hr,f,e⟩ (fz0 z) (w2 z z)
 rintro⟨o,g,h,p⟩ ⟨hr,ae,v⟩
 refine b'<|sr<|yw0 (C' 3 W' z z z)<|stB 2 aA' z<|nx<|q' ?_
 obtain rfl:_=r:=hr
 exact o' z (af' (i:=2) W' z z z) ⟨_,_,z,v⟩
theorem cb'{K J t C x D s A y B r}(hr:(Zag K J).Ret r):Ctr prog 54 #[.agg ((v40' K t C x D)).toArray,.agg ((v40' J s A y B)).toArray] (fun G=>sl (Rp.int .u32) G t C K.num.mag/\sl (Rp.int .u32) G x D K.den.mag/\sl (Rp.int .u32) G s A J.num.mag/\sl (Rp.int .u32) G y B J.den.mag) (w40' r):=by
 refine B' (args:=[_,_]) (N:=30) func54 z z z (fun w0 G0 aH aw=>?_)
 obtain⟨T,W,U,V⟩:=aw
 refine sr<|ah' 2 z z z fun b2=>ah' 3 z z z fun b3=>P' 4 z z40 z fun b4=>nr<|yw0 (aT' z)<|yw0 (ag' ((v38' K.num t C)).toArray 2 W' z z z (aq' ([]) ((v38' K.num t C)) ((v38' K.den x D))))<|yw0 (aM' z)<|yw0 (ag' ((v38' J.den y B)).toArray 3 W' z z z (aq' ((v38' J.num s A)) ((v38' J.den y B)) ([])))<|oE hr fun q ar hr=>y' z z (k' E89 z) (cv' ar) z (⟨T,V⟩) (fun aE aJ aa ac=>?_)
 obtain⟨o,n,l,m,rfl,P,O⟩:=ac
 refine P' 5 z z40 z fun b5=>stB 5 bk' z<|nr<|yw0 (aT' z)<|yw0 (ag' ((v38' J.num s A)).toArray 3 W' z z z (aq' ([]) ((v38' J.num s A)) ((v38' J.den y B))))<|yw0 (aM' z)<|yw0 (ag' ((v38' K.den x D)).toArray 2 W' z z z (aq' ((v38' K.num t C)) ((v38' K.den x D)) ([])))<|oE hr fun p au hr=>y' z z (k' E89 z) (cv' au) z (⟨(U.mono aa),(W.mono aa)⟩) (fun aD aG Z ah=>?_)
 obtain⟨c,j,g,k,rfl,R,Q⟩:=ah
 refine P' 6 z z40 z fun b6=>stB 6 bk' z<|nx<|c'<|aj' [ff,ff,ff,ff,ff,ff,ff,ff,ff,ff,ff] mix (by kernel_rfl) fun hb=>cn (fun _ E=>aT' z)<|cn (fun _ E=>ag' ((v38' q.num o n)).toArray 5 W' z z z (aq' ([]) ((v38' q.num o n)) ((v38' q.den l m))))<|cn (fun _ E=>aT' z)<|cn (fun _ E=>ag' ((v38' p.num c j)).toArray 6 W' z z z (aq' ([]) ((v38' p.num c j)) ((v38' p.den g k))))<|bD' (r:=aH') (e:=38) ([q.num,p.num]:List Zb) (fun _=>z) z (by decide) (fun u G' E hu=>?_) ?_
 .exact⟨#[(0,.agg ((v38' q.num o n)).toArray),(1,.agg ((v38' p.num c j)).toArray)],(v38' q.num o n)++((v38' p.num c j)++([])),z,z,fun _=>by kernel_rfl,⟨(v38' q.num o n),(v38' p.num c j)++([]),z,⟨[.bool q.num.neg],[sv0 o q.num.mag n],z,z,⟨_,z,((P.mono Z).mono E)⟩⟩,⟨(v38' p.num c j),[],z,⟨[.bool p.num.neg],[sv0 c p.num.mag j],z,z,⟨_,z,(R.mono E)⟩⟩,z⟩⟩⟩
 refine oE hr fun S ap hr=>bd' (f:=90) (φ:=w38' S) (fun _=>z) (fun v G1 G2 E h=>?_) (fun u G' E hu=>?_) ?_
 .obtain⟨H,I,rfl,F⟩:=h
  exact⟨_,_,z,F.mono E⟩
 .obtain⟨⟨Y,X,aj,al⟩,_⟩:=(show (fun G v=>∃ Y X,v = .slice Y 2 2/\SlRd aH' G (.slice Y 2 2) X [q.num,p.num]) G'.m (u 21)/\True from hu)
  exact⟨_,_,_,fun _=>k' E90 z,bI' ap,(by simp only[aj] <;> rfl),al⟩
 refine cu (fun _ _ E=>aM' z)<|cu (fun _ _ E=>ag' ((v38' q.den l m)).toArray 5 W' z z z (aq' ((v38' q.num o n)) ((v38' q.den l m)) ([])))<|cu (fun _ _ E=>aM' z)<|cu (fun _ _ E=>ag' ((v38' p.den g k)).toArray 6 W' z z z (aq' ((v38' p.num c j)) ((v38' p.den g k)) ([])))<|bD' (r:=aH') (e:=38) ([q.den,p.den]:List Zb) (fun _=>z) z (by decide) (fun u G' E hu=>?_) ?_
 .exact⟨#[(0,.agg ((v38' q.den l m)).toArray),(1,.agg ((v38' p.den g k)).toArray)],(v38' q.den l m)++((v38' p.den g k)++([])),z,z,fun _=>by kernel_rfl,⟨(v38' q.den l m),(v38' p.den g k)++([]),z,⟨[.bool q.den.neg],[sv0 l q.den.mag m],z,z,⟨_,z,((O.mono Z).mono E)⟩⟩,⟨(v38' p.den g k),[],z,⟨[.bool p.den.neg],[sv0 g p.den.mag k],z,z,⟨_,z,(Q.mono E)⟩⟩,z⟩⟩⟩
 refine Chain.tailU3 (d:=27) (post:=fun G v=>∃ p2 am,v = .slice p2 2 2/\SlRd aH' G (.slice p2 2 2) am [q.den,p.den]) (d':=22) (post':=w38' S) (d'':=21) (post'':=fun G v=>∃ Y X,v = .slice Y 2 2/\SlRd aH' G (.slice Y 2 2) X [q.num,p.num]) (fun aA aC aB aI ay ae ad ag=>?_)
 obtain⟨p2,am,rfl,ax⟩:=ae
 obtain⟨H,I,rfl,F⟩:=ad
 obtain⟨Y,X,rfl,al⟩:=ag
 refine oE hr fun ai aq hr=>y' z z (k' E90 z) (bI' aq) z (ax) (fun az aF ak ab=>?_)
 obtain⟨L,M,rfl,af⟩:=ab
 refine yw0 (ax' (vs:=#[(0,.agg ((v38' S H I)).toArray),(1,.agg ((v38' ai L M)).toArray)]) (v:=.agg ([.bool S.neg,sv0 H S.mag I,.bool ai.neg,sv0 L ai.mag M]).toArray) z z (fun _=>by kernel_rfl))<|stB 4 bk' z<|p'<|ar'<|b'<|q' ?_
 obtain rfl:_=r:=hr
 exact o' z (af' (i:=4) aN' z z z) ⟨_,_,_,_,z,(F.mono ak),af⟩
theorem ec'{x1 n1 B D C A r}(hr:(ZbH x1 n1).Ret r):Ctr prog 55 #[.agg ((v40' x1 B D C A)).toArray,i' n1] (fun G=>sl (Rp.int .u32) G B D x1.num.mag/\sl (Rp.int .u32) G C A x1.den.mag) (w40' r):=by
 refine B' (args:=[_,_]) (N:=23) func55 z z z (fun w0 G0 be aV=>?_)
 obtain⟨av,ay⟩:=aV
 refine sr<|ah' 2 z z z fun b1=>P' 4 z z40 z fun b2=>nr<|oE hr fun a1 aR hr=>y' z z (k' E33 z) (dh' aR) z (trivial) (fun bc aG az aA=>?_)
 obtain⟨ah,T,M,S,rfl,ae,Y⟩:=aA
 refine P' 5 z z40 z fun b3=>stB 5 bk' z<|nx<|c'<|aa' (X:=Int×Zc×Option Addr×Nat×Option Addr×Nat×Zc×Option Addr×Nat×Option Addr×Nat×Mem) hr (fun ⟨n2,J,m,j,k,l,H,f,g,h,e,F⟩=>⟨(n2,J,H),[(1,i' n2),(2,pt0 b1),(4,pt0 b2),(5,pt0 b3)],Mem.le aG F/\sl (Rp.int .u32) F m j J.num.mag/\sl (Rp.int .u32) F k l J.den.mag/\sl (Rp.int .u32) F f g H.num.mag/\sl (Rp.int .u32) F h e H.den.mag,St w0 G0 F [(2,bk0 b1 (v40' J m j k l) 40),(4,bk0 b2 ([.bool false,.slice none 0 0,.bool false,.slice none 0 0]) 40),(5,bk0 b3 (v40' H f g h e) 40)]⟩) (fun (⟨aw,y,v,q,o,ax,t,n,u,p,I⟩:Zc×Option Addr×Nat×Option Addr×Nat×Zc×Option Addr×Nat×Option Addr×Nat×Mem)=>⟨(aw,ax),[(2,pt0 b1),(4,pt0 b2),(5,pt0 b3)],Mem.le aG I/\sl (Rp.int .u32) I y v aw.num.mag/\sl (Rp.int .u32) I q o aw.den.mag/\sl (Rp.int .u32) I t n ax.num.mag/\sl (Rp.int .u32) I u p ax.den.mag,St w0 G0 I [(2,bk0 b1 (v40' aw y v q o) 40),(4,bk0 b2 ([.bool false,.slice none 0 0,.bool false,.slice none 0 0]) 40),(5,bk0 b3 (v40' ax t n u p) 40)]⟩) ⟨n1,x1,B,D,C,A,a1,ah,T,M,S,aG⟩ z (fz0 z) ⟨mr,(av.mono az),(ay.mono az),ae,Y⟩ (w3 z z z) ?_ ?_
 .rintro _ ⟨n2,J,m,j,k,l,H,f,g,h,e,F⟩ ⟨R,c,d,s,x⟩ hr
  refine c'<|sr<|mw0 z<|yw0 (aL' z z)<|nx<|I' hr z (fun aY hr=>?_) (fun aY hr=>?_)
  .refine t'<|b'<|c'<|U'<|c'<|sr<|mw0 z<|yw0 (aV' z z (by decide))<|yw0 (aK' z z)<|nx<|I' hr z (fun aZ hr=>?_) (fun aZ hr=>?_)
   .refine w'<|yw0 (C' 5 aN' z z z)<|yw0 (C' 2 aN' z z z)<|oE hr fun a0 aU hr=>y' z z (k' E54 z) (cb' aU) z (⟨s,x,c,d⟩) (fun a9 bg E aD=>?_)
    obtain⟨ar,O,ab,ak,rfl,ai,aq⟩:=aD
    refine stB 5 bk' z<|nx<|w'<|yw0 (C' 2 aN' z z z)<|yw0 (C' 2 aN' z z z)<|oE hr fun aW aP hr=>y' z z (k' E54 z) (cb' aP) z (⟨(c.mono E),(d.mono E),(c.mono E),(d.mono E)⟩) (fun ba aX al aB=>?_)
    obtain⟨ao,an,aj,W,rfl,U,ag⟩:=aB
    refine stB 2 bk' z<|p'<|E'<|b'<|w'<|mw0 z<|yw0 (bv' z z (by decide))<|sw0 z<|p'<|O' ⟨i64.wrap (Int.tdiv n2 2),aW,ao,an,aj,W,a0,ar,O,ab,ak,aX⟩ hr ⟨(mx (mx R E) al),U,ag,(ai.mono al),(aq.mono al)⟩ (fz0 z) (w3 z z z)
   refine t'<|b'<|w'<|yw0 (C' 2 aN' z z z)<|yw0 (C' 2 aN' z z z)<|oE hr fun a4 aT hr=>y' z z (k' E54 z) (cb' aT) z (⟨c,d,c,d⟩) (fun a8 a3 aa aC=>?_)
   obtain⟨au,L,Q,Z,rfl,K,ac⟩:=aC
   refine stB 2 bk' z<|p'<|E'<|b'<|w'<|mw0 z<|yw0 (bv' z z (by decide))<|sw0 z<|p'<|O' ⟨i64.wrap (Int.tdiv n2 2),a4,au,L,Q,Z,H,f,g,h,e,a3⟩ hr ⟨(mx R aa),K,ac,(s.mono aa),(x.mono aa)⟩ (fz0 z) (w3 z z z)
  refine Z'<|f'<|f'<|F'<|ab' ⟨J,m,j,k,l,H,f,g,h,e,F⟩ ⟨hr,R,c,d,s,x⟩ (fz0 z) (w3 z z z)
 rintro⟨aw,y,v,q,o,ax,t,n,u,p,I⟩ ⟨hr,a7,P,ad,V,af⟩
 refine b'<|sr<|yw0 (C' 5 aN' z z z)<|yw0 (C' 2 aN' z z z)<|oE hr fun bf aS hr=>y' z z (k' E54 z) (cb' aS) z (⟨V,af,P,ad⟩) (fun bb bd a6 aE=>?_)
 obtain⟨aJ,aM,aL,aN,rfl,ap,am⟩:=aE
 refine stB 4 bk' z<|nx<|q' ?_
 obtain rfl:_=r:=hr
 exact o' z (af' (i:=4) aN' z z z) ⟨_,_,_,_,z,ap,am⟩
end Go.Proofs.YtgllmhmhldlemaaGreat

